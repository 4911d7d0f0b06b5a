/- The document's Do; the two are the same. -/
import Derived.Test.YthphdaeaicjgmaaE19
namespace Go.Proofs.Ythphdaeaicjgmaa
open Go Go.VC Go.RowKit
set_option linter.unusedVariables false
set_option linter.unusedSimpArgs false
set_option maxRecDepth 100000

def doR (s : St) (kind rune : Int) : St :=
  if kind = 1 then (s.put rune).1
  else if kind = 2 then ctrlS s rune
  else if kind = 3 then
    if rune = 98 then { s with at_ := refBack s.line s.at_ } else if rune = 102 then { s with at_ := refOn s.line s.at_ }
    else if rune = 100 then s.killed s.at_ (refOn s.line s.at_) else if rune = 127 then s.killed (refBack s.line s.at_) s.at_ else s
  else if kind = 6 then ctrlS s 102 else if kind = 7 then ctrlS s 98 else if kind = 8 then ctrlS s 97 else if kind = 9 then ctrlS s 101 else if kind = 10 then ctrlS s 100 else s

theorem wayOf_none {a b : Int} (h : ∀ x ∈ ins, x.2.1 ≠ (a, b)) : wayOf a b = none := by
  unfold wayOf
  rw [List.find?_eq_none.2 (fun x hx => by simpa using h x hx)]
  rfl
theorem doR_eq {s : St} {kind rune : Int} (hw : wfL s.line) (hle : s.at_ ≤ s.line.length) : doR s kind rune = doS s kind rune := by
  have hb := wordBack_ref hw hle
  have ho := wordOn_ref hw hle
  unfold doR doS
  by_cases h1 : kind = 1
  · rw [if_pos h1, if_pos h1]
  rw [if_neg h1, if_neg h1]
  by_cases h2 : kind = 2
  · subst h2
    rw [if_pos rfl]
    have hr : runeIn 2 rune = rune := by unfold runeIn; rw [if_pos (by omega)]
    rw [hr]
    unfold ctrlS
    by_cases c1 : rune = 97
    · subst c1; rfl
    by_cases c2 : rune = 101
    · subst c2; rfl
    by_cases c3 : rune = 98
    · subst c3; rfl
    by_cases c4 : rune = 102
    · subst c4; rfl
    by_cases c5 : rune = 104
    · subst c5; rfl
    by_cases c6 : rune = 100
    · subst c6; rfl
    by_cases c7 : rune = 107
    · subst c7; rfl
    by_cases c8 : rune = 117
    · subst c8; rfl
    by_cases c9 : rune = 119
    · subst c9; rw [← hb]; rfl
    by_cases c10 : rune = 121
    · subst c10; rfl
    by_cases c11 : rune = 116
    · subst c11; rfl
    have hn : wayOf 2 rune = none := wayOf_none (by
      intro x hx e
      simp only [ins, List.mem_cons, List.not_mem_nil, or_false] at hx
      rcases hx with rfl | rfl | rfl | rfl | rfl | rfl | rfl | rfl | rfl | rfl | rfl | rfl | rfl | rfl | rfl | rfl | rfl | rfl | rfl | rfl <;> (simp only [Prod.mk.injEq] at e; omega))
    rw [hn, if_neg c1, if_neg c2, if_neg c3, if_neg c4, if_neg c5, if_neg c6, if_neg c7, if_neg c8, if_neg c9, if_neg c10, if_neg c11]
  rw [if_neg h2]
  by_cases h3 : kind = 3
  · subst h3
    rw [if_pos rfl]
    have hr : runeIn 3 rune = rune := by unfold runeIn; rw [if_pos (by omega)]
    rw [hr, ← hb, ← ho]
    by_cases c1 : rune = 98
    · subst c1; rfl
    by_cases c2 : rune = 102
    · subst c2; rfl
    by_cases c3 : rune = 100
    · subst c3; rfl
    by_cases c4 : rune = 127
    · subst c4; rfl
    have hn : wayOf 3 rune = none := wayOf_none (by
      intro x hx e
      simp only [ins, List.mem_cons, List.not_mem_nil, or_false] at hx
      rcases hx with rfl | rfl | rfl | rfl | rfl | rfl | rfl | rfl | rfl | rfl | rfl | rfl | rfl | rfl | rfl | rfl | rfl | rfl | rfl | rfl <;> (simp only [Prod.mk.injEq] at e; omega))
    rw [hn, if_neg c1, if_neg c2, if_neg c3, if_neg c4]
  rw [if_neg h3]
  have hr : runeIn kind rune = 0 := by unfold runeIn; rw [if_neg (by omega)]
  rw [hr]
  by_cases h6 : kind = 6
  · subst h6; rfl
  by_cases h7 : kind = 7
  · subst h7; rfl
  by_cases h8 : kind = 8
  · subst h8; rfl
  by_cases h9 : kind = 9
  · subst h9; rfl
  by_cases h10 : kind = 10
  · subst h10; rfl
  have hn : wayOf kind 0 = none := wayOf_none (by
    intro x hx e
    simp only [ins, List.mem_cons, List.not_mem_nil, or_false] at hx
    rcases hx with rfl | rfl | rfl | rfl | rfl | rfl | rfl | rfl | rfl | rfl | rfl | rfl | rfl | rfl | rfl | rfl | rfl | rfl | rfl | rfl <;> (simp only [Prod.mk.injEq] at e; omega))
  rw [hn, if_neg h6, if_neg h7, if_neg h8, if_neg h9, if_neg h10]

theorem build24 (a : Int) (w : World) : (Instr.build 24 #[(1, .int .i64 a)]).run Try.prog w = .ok (.agg #[.slice none 0 0, .int .i64 a, .slice none 0 0]) w := by kernel_rfl
theorem build68 (A B : Option Addr) (n c m d : Nat) (a : Int) (w : World) : (Instr.build 68 #[(0, .agg #[.slice A n c, .int .i64 a, .slice B m d])]).run Try.prog w = .ok (.agg #[.slice A n c, .int .i64 a, .slice B m d, .slice none 0 0]) w := by kernel_rfl

/-- What the document's Do hands back. -/
structure DoneR (w : World) (base : Nat) (s : St) (L K T : Value) : Prop where
  line : w.ownsRow base 3 1 L s.line.length (ints s.line)
  kill : w.ownsRow base 3 1 K s.kill.length (ints s.kill)
  acts : w.ownsRow base 72 3 T s.acts.length (acells s.acts)

set_option maxHeartbeats 8000000
theorem fn14 (w : World) (A KA : Option Addr) (n c kn kc : Nat) (xs ks : List Int) (at_ kind rune : Int) (h : Ints w A n xs) (hk : Ints w KA kn ks) (hnc : n ≤ c) (hc : c ≤ 9223372036854775807) (hknc : kn ≤ kc) (hkc : kc ≤ 9223372036854775807) (hn : n ≤ 3000) (hkn : kn ≤ 3000) :
    Ret Try.prog 14 #[.agg #[.slice A n c, .int .i64 at_, .slice KA kn kc], .agg #[.int .i64 kind, .int .i64 rune]] w fun v W => Ext w W ∧ ∃ L K T, v = .tuple #[.agg #[L, .int .i64 (doR (st0 xs at_ ks) kind rune).at_, K], T] ∧ DoneR W w.heap.size (doR (st0 xs at_ ks) kind rune) L K T := by
  have hl := h.len
  have hkl := hk.len
  refine Ret.of_vc tab_ok Try.func14 rfl Try.ntmps14 rfl (Nat.le_of_ble_eq_true rfl) Try.call14 ?_
  conv => whnf
  intro W1 hW1
  conv => whnf
  intro W2 hW2
  conv => whnf
  intro W3 hW3
  have e1 := hW1.e
  have e2 := hW2.e
  have e3 := hW3.e
  have h2 := (e2.tr e3).at_ hW1.at_
  have h3 := e3.at_ hW2.at_
  have h4 := hW3.at_
  have z1 := hW1.size
  have z2 := hW2.size
  have z3 := hW3.size
  have hE3 : Ext w W3 := (e1.tr e2).tr e3
  clear hW1 hW2 hW3 e1 e2 e3
  have hro := RO.of_ints h hnc hc
  have hrk := RO.of_ints hk hknc hkc
  generalize hb2 : w.heap.size = b2 at h2 z1 hro hrk ⊢
  generalize hb3 : W1.heap.size = b3 at h3 z1 z2 ⊢
  generalize hb4 : W2.heap.size = b4 at h4 z2 z3 ⊢
  generalize hbase : W3.heap.size = base at z3
  conv => whnf
  refine ⟨[.slice A n c, .int .i64 at_, .slice KA kn kc], rfl, lds h2 rfl rfl, ?_⟩
  conv => whnf
  refine Run.mk' _ _ (build68 _ _ _ _ _ _ _ _) ?_
  conv => whnf
  intro W4 hW4
  have e4 := hW4.e
  have hcell4 := hW4.at_
  rw [hbase] at hcell4 ⊢
  have hz4 := hW4.size
  rw [hbase] at hz4
  replace h2 := e4.at_ h2
  replace h3 := e4.at_ h3
  replace h4 := e4.at_ h4
  have hE4 := hE3.tr e4
  clear hW4
  conv => whnf
  refine ⟨_, ld h2 rfl rfl, ?_⟩
  conv => whnf
  refine ⟨_, ld h2 rfl rfl, ?_⟩
  conv => whnf
  refine (fn29 _ _ _ _ _).mono ?_
  rintro _ _ ⟨rfl, rfl⟩
  have e0 : (heldV n at_ : Nat) = (st0 xs at_ ks).at_ := by simp only [st0, hl]
  rw [e0]
  conv => whnf
  refine ⟨base, 1, _, _, rfl, hcell4, Nat.le_of_ble_eq_true rfl, rfl, rfl, fun W5 hW5 => ?_⟩
  have hcell5 : W5.heap[base]? = some (.cells #[.slice A n c, .int .i64 (st0 xs at_ ks).at_, .slice KA kn kc, .slice none 0 0] 68 (0, 0)) := hW5.at_
  have hlt : ∀ (X : Option Addr) (p q : Nat) (ys : List Int), RO w (.slice X p q) p ys → rb (.slice X p q) ≠ some base := fun X p q ys hx e => by have := hx.lt _ e; omega
  have hnL := hlt _ _ _ _ hro
  have hnK := hlt _ _ _ _ hrk
  have hr5 := (hro.ext hE4).put hW5 hnL
  have hk5 := (hrk.ext hE4).put hW5 hnK
  replace h2 := hW5.keep h2 (by omega)
  replace h3 := hW5.keep h3 (by omega)
  replace h4 := hW5.keep h4 (by omega)
  have hE5 := hW5.e hE4 (by omega)
  have hs5 : W5.heap.size = base + 1 := by rw [hW5.size, hz4]
  have hle : (st0 xs at_ ks).at_ ≤ (st0 xs at_ ks).line.length := by simp only [st0, heldV]; omega
  have hs0 : (st0 xs at_ ks).line.length ≤ 3000 ∧ (st0 xs at_ ks).kill.length ≤ 3000 ∧ (st0 xs at_ ks).acts.length = 0 := by
    exact ⟨by simp only [st0]; omega, by simp only [st0]; omega, rfl⟩
  have hwk : RefAt W5 base base (st0 xs at_ ks) (.slice A n c) (.slice KA kn kc) (.slice none 0 0) :=
    ⟨hcell5, by rw [← hl] at hr5 ⊢; exact hr5, by rw [← hkl] at hk5 ⊢; exact hk5, own_nil_ _ _ _ _, off_nil _, off_nil _, hnL, hnK, by omega, by omega, by omega⟩
  clear hW5 hr5 hk5 hcell5 hE4 hcell4 hE3 e4 hlt e0
  have hxl : (st0 xs at_ ks).line = xs := rfl
  have hin5 : Ints W5 A n xs := by
    obtain ⟨A2, c2, e, hi, _⟩ := hwk.line.form
    cases e
    exact hi
  generalize hs : st0 xs at_ ks = s at hwk hle hs0 hxl ⊢
  conv => whnf
  refine ⟨_, ld hwk.cell rfl rfl, ?_⟩
  conv => whnf
  refine ⟨_, ld h3 rfl rfl, ?_⟩
  have hcut : Ext w (trunc W5 base) := trunc_of hE5 (by omega) hwk.old
  have htx := trunc_ext hwk.old
  have hts : (trunc W5 base).heap.size ≤ base := by rw [trunc_size hwk.old]; exact Nat.le_refl _
  have hlen : s.line.length = n := by rw [hxl]; exact hl
  unfold doR
  conv => whnf
  -- BEGIN PRINTED
  intro t k1
  cases t <;> simp only [VB] at k1 <;> (conv => whnf)
  case true =>
    rw [if_pos k1]
    refine ⟨_, ld h3 rfl rfl, ?_⟩
    conv => whnf
    refine (fn30 rune hwk htx hts (Nat.le_refl _) (by omega) hle).mono ?_
    rintro v W8 ⟨rfl, hE8, L', T', h8⟩
    generalize hK' : Value.slice KA kn kc = K' at h8
    conv => whnf
    have hrbK : ∀ k, rb K' = some k → k < W8.heap.size := h8.kill.lt
    generalize (s.put rune).1 = s' at h8 ⊢
    have h4e : W8.heap[b4]? = _ := hE8.at_ (by rw [trunc_at (by omega)]; exact h4)
    obtain ⟨LA, lc, rfl, hli8, _⟩ := h8.line.form
    obtain ⟨KA', kc', rfl, hki8, _⟩ := h8.kill.form
    have hf8 := h8.few
    have hkf8 := h8.kfew
    refine ⟨_, ld h8.cell rfl rfl, ?_⟩
    conv => whnf
    refine Run.mk' _ _ (build24 _ _) ?_
    conv => whnf
    intro Wa hWa
    have hE8' := hcut.tr hE8
    have hba := h8.old
    conv => whnf
    refine ⟨W8.heap.size, 0, _, _, rfl, hWa.at_, Nat.le_of_ble_eq_true rfl, rfl, rfl, fun Wb hWb => ?_⟩
    have eb := hWb.e hWa.e (Nat.le_refl _)
    have hb8 : Wb.heap[W8.heap.size]? = some (.cells #[.slice none 0 0, .int .i64 s'.at_, .slice none 0 0] 24 (0, 0)) := hWb.at_
    have hszb : Wb.heap.size = W8.heap.size + 1 := by rw [hWb.size, hWa.size]
    generalize W8.heap.size = b8 at hb8 hszb hba hrbK ⊢
    replace h8 := h8.ext eb
    replace h4e := eb.at_ h4e
    replace hli8 := hli8.ext eb
    replace hki8 := hki8.ext eb
    replace hE8' := hE8'.tr eb
    have hne8 : base ≠ b8 := fun e => by
      have i1 := h8.cell
      rw [e, hb8] at i1
      injection i1 with i1
      injection i1 with _ i1
      exact absurd i1 (by decide)
    clear hWa hWb eb
    conv => whnf
    refine VDraw.mk' tab_ok (fun V => V.heap[base]? = Wb.heap[base]? ∧ V.heap[b8]? = Wb.heap[b8]?) [7, 9] (.take 0 <| .take 1 <| .take 2 <| .take 3 <| .take 4 <| .take 5 <| .take 6 <| .one 7 <| .take 8 <| .one 9 <| .done) mixed (by kernel_rfl) (by kernel_rfl) ⟨rfl, rfl⟩ ?_
    have hd := Ext.drew Wb
    conv => whnf
    refine ⟨_, fun w' hs => ld (hs.2.trans hb8) rfl rfl, ?_⟩
    conv => whnf
    refine ⟨_, fun w' hs => ld (hs.1.trans h8.cell) rfl rfl, ?_⟩
    conv => whnf
    refine run_append inf3 Try.underlying22 rfl (by decide) (own_nil_ _ base 3 1) (hli8.ext hd).rd (one_ints _) (by simp only [maxLen]; omega) (by omega) (Nat.le_trans h8.old hd.le) ?_
    intro v1 Wc hown1 hg1 hat1
    have ec : Ext Wb Wc := hd.tr (ext_row (Ext.refl _) hg1 (own_nil_ _ (Wb.drew).heap.size 3 1) (Nat.le_refl _))
    simp only [Nat.zero_add, List.nil_append] at hown1
    obtain ⟨R1, r1, rfl⟩ := own_form hown1
    replace h8 := h8.ext ec
    replace h4e := ec.at_ h4e
    replace hb8 := ec.at_ hb8
    replace hki8 := hki8.ext ec
    replace hE8' := hE8'.tr ec
    replace hszb : b8 < Wc.heap.size := at_lt hb8
    clear ec hd hg1 hat1
    conv => whnf
    refine ⟨b8, 0, _, _, rfl, hb8, Nat.le_of_ble_eq_true rfl, rfl, rfl, fun Wd hWd => ?_⟩
    have hb8d : Wd.heap[b8]? = some (.cells #[.slice R1 s'.line.length r1, .int .i64 s'.at_, .slice none 0 0] 24 (0, 0)) := hWd.at_
    have hcd := hWd.keep h8.cell hne8
    have h4d := hWd.keep h4e (by omega)
    have hown1d := own_put hown1 hWd hb8 (by decide)
    have hactd := own_put h8.acts hWd hb8 (by decide)
    have hneK : rb (.slice KA' s'.kill.length kc') ≠ some b8 := fun e => by have i1 := hrbK _ e; omega
    have hkd := (h8.kill.put hWd hneK).form
    have hEd := hWd.e hE8' (by omega)
    have hsd : base ≤ Wd.heap.size := by rw [hWd.size]; exact h8.old
    clear hWd hown1 hb8 h8 hE8' h4e hli8 hki8
    obtain ⟨_, _, e, hkid, _⟩ := hkd
    cases e
    conv => whnf
    refine VDraw.mk' tab_ok (fun V => V.heap[base]? = Wd.heap[base]? ∧ V.heap[b8]? = Wd.heap[b8]?) [7, 9] (.take 0 <| .take 1 <| .take 2 <| .take 3 <| .take 4 <| .take 5 <| .take 6 <| .one 7 <| .take 8 <| .one 9 <| .done) mixed (by kernel_rfl) (by kernel_rfl) ⟨rfl, rfl⟩ ?_
    have hd := Ext.drew Wd
    conv => whnf
    refine ⟨_, fun w' hs => ld (hs.2.trans hb8d) rfl rfl, ?_⟩
    conv => whnf
    refine ⟨_, fun w' hs => ld (hs.1.trans hcd) rfl rfl, ?_⟩
    conv => whnf
    refine run_append inf3 Try.underlying22 rfl (by decide) (own_nil_ _ base 3 1) (hkid.ext hd).rd (one_ints _) (by simp only [maxLen]; omega) (by omega) (Nat.le_trans hsd hd.le) ?_
    intro v2 We hown2 hg2 hat2
    have ee : Ext Wd We := hd.tr (ext_row (Ext.refl _) hg2 (own_nil_ _ (Wd.drew).heap.size 3 1) (Nat.le_refl _))
    simp only [Nat.zero_add, List.nil_append] at hown2
    obtain ⟨R2, r2, rfl⟩ := own_form hown2
    have hb8e := ee.at_ hb8d
    have hce := ee.at_ hcd
    have h4f := ee.at_ h4d
    have hown1e := own_ext hown1d ee
    have hacte := own_ext hactd ee
    have hEe := hEd.tr ee
    clear ee hd hg2 hat2 hown1d hactd hcd h4d hb8d hEd
    conv => whnf
    refine ⟨b8, 2, _, _, rfl, hb8e, Nat.le_of_ble_eq_true rfl, rfl, rfl, fun Wf hWf => ?_⟩
    have hb8f : Wf.heap[b8]? = some (.cells #[.slice R1 s'.line.length r1, .int .i64 s'.at_, .slice R2 s'.kill.length r2] 24 (0, 0)) := hWf.at_
    have hcf := hWf.keep hce hne8
    have h4g := hWf.keep h4f (by omega)
    have hownf := own_put hown1e hWf hb8e (by decide)
    have hownk := own_put hown2 hWf hb8e (by decide)
    have hactf := own_put hacte hWf hb8e (by decide)
    have hEf := hWf.e hEe (by omega)
    clear hWf hown1e hown2 hacte hce h4f hb8e hEe
    conv => whnf
    refine VDraw.mk' tab_ok (fun V => V.heap[base]? = Wf.heap[base]? ∧ V.heap[b8]? = Wf.heap[b8]?) [] (.take 0 <| .take 1 <| .take 2 <| .take 3 <| .take 4 <| .one 5 <| .take 6 <| .done) mixed (by kernel_rfl) (by kernel_rfl) ⟨rfl, rfl⟩ ?_
    have hd := Ext.drew Wf
    conv => whnf
    refine ⟨[.slice R1 s'.line.length r1, .int .i64 s'.at_, .slice R2 s'.kill.length r2], rfl, fun w' hs => lds (hs.2.trans hb8f) rfl rfl, ?_⟩
    conv => whnf
    refine ⟨_, fun w' hs => ld (hs.1.trans hcf) rfl rfl, ?_⟩
    conv => whnf
    refine ⟨b4, 0, _, _, rfl, hd.at_ h4g, Nat.le_of_ble_eq_true rfl, rfl, rfl, fun Wg hWg => ?_⟩
    conv => whnf
    refine ⟨⟨hWg.ne base (by omega), hWg.ne b8 (by omega)⟩, ?_⟩
    conv => whnf
    refine ⟨[.slice R1 s'.line.length r1, .int .i64 s'.at_, .slice R2 s'.kill.length r2], rfl, lds hWg.at_ rfl rfl, ?_⟩
    have h4h := hd.at_ h4g
    refine ⟨hWg.e (hEf.tr hd) (by omega), _, _, _, rfl, ?_⟩
    exact ⟨own_weak (own_put (own_ext hownf hd) hWg h4h (by decide)) (by omega), own_weak (own_put (own_ext hownk hd) hWg h4h (by decide)) (by omega), own_weak (own_put (own_ext hactf hd) hWg h4h (by decide)) (by omega)⟩
  rw [if_neg k1]
  intro t k2
  cases t <;> simp only [VB] at k2 <;> (conv => whnf)
  case true =>
    rw [if_pos k2]
    refine ⟨_, ld h3 rfl rfl, ?_⟩
    conv => whnf
    refine (fn31 rune hwk htx hts (Nat.le_refl _) hle hs0.1 hs0.2.1 (by omega)).mono ?_
    rintro v W8 ⟨hE8, L', K', T', h8⟩
    conv => whnf
    have hrbK : ∀ k, rb K' = some k → k < W8.heap.size := h8.kill.lt
    generalize ctrlS s rune = s' at h8 ⊢
    have h4e : W8.heap[b4]? = _ := hE8.at_ (by rw [trunc_at (by omega)]; exact h4)
    obtain ⟨LA, lc, rfl, hli8, _⟩ := h8.line.form
    obtain ⟨KA', kc', rfl, hki8, _⟩ := h8.kill.form
    have hf8 := h8.few
    have hkf8 := h8.kfew
    refine ⟨_, ld h8.cell rfl rfl, ?_⟩
    conv => whnf
    refine Run.mk' _ _ (build24 _ _) ?_
    conv => whnf
    intro Wa hWa
    have hE8' := hcut.tr hE8
    have hba := h8.old
    conv => whnf
    refine ⟨W8.heap.size, 0, _, _, rfl, hWa.at_, Nat.le_of_ble_eq_true rfl, rfl, rfl, fun Wb hWb => ?_⟩
    have eb := hWb.e hWa.e (Nat.le_refl _)
    have hb8 : Wb.heap[W8.heap.size]? = some (.cells #[.slice none 0 0, .int .i64 s'.at_, .slice none 0 0] 24 (0, 0)) := hWb.at_
    have hszb : Wb.heap.size = W8.heap.size + 1 := by rw [hWb.size, hWa.size]
    generalize W8.heap.size = b8 at hb8 hszb hba hrbK ⊢
    replace h8 := h8.ext eb
    replace h4e := eb.at_ h4e
    replace hli8 := hli8.ext eb
    replace hki8 := hki8.ext eb
    replace hE8' := hE8'.tr eb
    have hne8 : base ≠ b8 := fun e => by
      have i1 := h8.cell
      rw [e, hb8] at i1
      injection i1 with i1
      injection i1 with _ i1
      exact absurd i1 (by decide)
    clear hWa hWb eb
    conv => whnf
    refine VDraw.mk' tab_ok (fun V => V.heap[base]? = Wb.heap[base]? ∧ V.heap[b8]? = Wb.heap[b8]?) [7, 9] (.take 0 <| .take 1 <| .take 2 <| .take 3 <| .take 4 <| .take 5 <| .take 6 <| .one 7 <| .take 8 <| .one 9 <| .done) mixed (by kernel_rfl) (by kernel_rfl) ⟨rfl, rfl⟩ ?_
    have hd := Ext.drew Wb
    conv => whnf
    refine ⟨_, fun w' hs => ld (hs.2.trans hb8) rfl rfl, ?_⟩
    conv => whnf
    refine ⟨_, fun w' hs => ld (hs.1.trans h8.cell) rfl rfl, ?_⟩
    conv => whnf
    refine run_append inf3 Try.underlying22 rfl (by decide) (own_nil_ _ base 3 1) (hli8.ext hd).rd (one_ints _) (by simp only [maxLen]; omega) (by omega) (Nat.le_trans h8.old hd.le) ?_
    intro v1 Wc hown1 hg1 hat1
    have ec : Ext Wb Wc := hd.tr (ext_row (Ext.refl _) hg1 (own_nil_ _ (Wb.drew).heap.size 3 1) (Nat.le_refl _))
    simp only [Nat.zero_add, List.nil_append] at hown1
    obtain ⟨R1, r1, rfl⟩ := own_form hown1
    replace h8 := h8.ext ec
    replace h4e := ec.at_ h4e
    replace hb8 := ec.at_ hb8
    replace hki8 := hki8.ext ec
    replace hE8' := hE8'.tr ec
    replace hszb : b8 < Wc.heap.size := at_lt hb8
    clear ec hd hg1 hat1
    conv => whnf
    refine ⟨b8, 0, _, _, rfl, hb8, Nat.le_of_ble_eq_true rfl, rfl, rfl, fun Wd hWd => ?_⟩
    have hb8d : Wd.heap[b8]? = some (.cells #[.slice R1 s'.line.length r1, .int .i64 s'.at_, .slice none 0 0] 24 (0, 0)) := hWd.at_
    have hcd := hWd.keep h8.cell hne8
    have h4d := hWd.keep h4e (by omega)
    have hown1d := own_put hown1 hWd hb8 (by decide)
    have hactd := own_put h8.acts hWd hb8 (by decide)
    have hneK : rb (.slice KA' s'.kill.length kc') ≠ some b8 := fun e => by have i1 := hrbK _ e; omega
    have hkd := (h8.kill.put hWd hneK).form
    have hEd := hWd.e hE8' (by omega)
    have hsd : base ≤ Wd.heap.size := by rw [hWd.size]; exact h8.old
    clear hWd hown1 hb8 h8 hE8' h4e hli8 hki8
    obtain ⟨_, _, e, hkid, _⟩ := hkd
    cases e
    conv => whnf
    refine VDraw.mk' tab_ok (fun V => V.heap[base]? = Wd.heap[base]? ∧ V.heap[b8]? = Wd.heap[b8]?) [7, 9] (.take 0 <| .take 1 <| .take 2 <| .take 3 <| .take 4 <| .take 5 <| .take 6 <| .one 7 <| .take 8 <| .one 9 <| .done) mixed (by kernel_rfl) (by kernel_rfl) ⟨rfl, rfl⟩ ?_
    have hd := Ext.drew Wd
    conv => whnf
    refine ⟨_, fun w' hs => ld (hs.2.trans hb8d) rfl rfl, ?_⟩
    conv => whnf
    refine ⟨_, fun w' hs => ld (hs.1.trans hcd) rfl rfl, ?_⟩
    conv => whnf
    refine run_append inf3 Try.underlying22 rfl (by decide) (own_nil_ _ base 3 1) (hkid.ext hd).rd (one_ints _) (by simp only [maxLen]; omega) (by omega) (Nat.le_trans hsd hd.le) ?_
    intro v2 We hown2 hg2 hat2
    have ee : Ext Wd We := hd.tr (ext_row (Ext.refl _) hg2 (own_nil_ _ (Wd.drew).heap.size 3 1) (Nat.le_refl _))
    simp only [Nat.zero_add, List.nil_append] at hown2
    obtain ⟨R2, r2, rfl⟩ := own_form hown2
    have hb8e := ee.at_ hb8d
    have hce := ee.at_ hcd
    have h4f := ee.at_ h4d
    have hown1e := own_ext hown1d ee
    have hacte := own_ext hactd ee
    have hEe := hEd.tr ee
    clear ee hd hg2 hat2 hown1d hactd hcd h4d hb8d hEd
    conv => whnf
    refine ⟨b8, 2, _, _, rfl, hb8e, Nat.le_of_ble_eq_true rfl, rfl, rfl, fun Wf hWf => ?_⟩
    have hb8f : Wf.heap[b8]? = some (.cells #[.slice R1 s'.line.length r1, .int .i64 s'.at_, .slice R2 s'.kill.length r2] 24 (0, 0)) := hWf.at_
    have hcf := hWf.keep hce hne8
    have h4g := hWf.keep h4f (by omega)
    have hownf := own_put hown1e hWf hb8e (by decide)
    have hownk := own_put hown2 hWf hb8e (by decide)
    have hactf := own_put hacte hWf hb8e (by decide)
    have hEf := hWf.e hEe (by omega)
    clear hWf hown1e hown2 hacte hce h4f hb8e hEe
    conv => whnf
    refine VDraw.mk' tab_ok (fun V => V.heap[base]? = Wf.heap[base]? ∧ V.heap[b8]? = Wf.heap[b8]?) [] (.take 0 <| .take 1 <| .take 2 <| .take 3 <| .take 4 <| .one 5 <| .take 6 <| .done) mixed (by kernel_rfl) (by kernel_rfl) ⟨rfl, rfl⟩ ?_
    have hd := Ext.drew Wf
    conv => whnf
    refine ⟨[.slice R1 s'.line.length r1, .int .i64 s'.at_, .slice R2 s'.kill.length r2], rfl, fun w' hs => lds (hs.2.trans hb8f) rfl rfl, ?_⟩
    conv => whnf
    refine ⟨_, fun w' hs => ld (hs.1.trans hcf) rfl rfl, ?_⟩
    conv => whnf
    refine ⟨b4, 0, _, _, rfl, hd.at_ h4g, Nat.le_of_ble_eq_true rfl, rfl, rfl, fun Wg hWg => ?_⟩
    conv => whnf
    refine ⟨⟨hWg.ne base (by omega), hWg.ne b8 (by omega)⟩, ?_⟩
    conv => whnf
    refine ⟨[.slice R1 s'.line.length r1, .int .i64 s'.at_, .slice R2 s'.kill.length r2], rfl, lds hWg.at_ rfl rfl, ?_⟩
    have h4h := hd.at_ h4g
    refine ⟨hWg.e (hEf.tr hd) (by omega), _, _, _, rfl, ?_⟩
    exact ⟨own_weak (own_put (own_ext hownf hd) hWg h4h (by decide)) (by omega), own_weak (own_put (own_ext hownk hd) hWg h4h (by decide)) (by omega), own_weak (own_put (own_ext hactf hd) hWg h4h (by decide)) (by omega)⟩
  rw [if_neg k2]
  intro t k3
  cases t <;> simp only [VB] at k3 <;> (conv => whnf)
  case true =>
    rw [if_pos k3]
    refine ⟨_, ld h3 rfl rfl, ?_⟩
    conv => whnf
    intro t c1
    cases t <;> simp only [VB] at c1 <;> (conv => whnf)
    case true =>
      rw [if_pos c1]
      refine ⟨_, ld h2 rfl rfl, ?_⟩
      conv => whnf
      refine (fn23back W5 A n c xs _ hin5).mono ?_
      rintro _ _ ⟨rfl, rfl⟩
      rw [heldV_id (by omega), ← hxl]
      conv => whnf
      refine ⟨base, 1, _, _, rfl, hwk.cell, Nat.le_of_ble_eq_true rfl, rfl, rfl, fun W8 hW8 => ?_⟩
      have hE8 : Ext (trunc W5 base) W8 := hW8.e htx hts
      have h8 := hwk.atv (a := refBack s.line s.at_) hW8
      generalize Value.slice A n c = L' at h8
      generalize Value.slice KA kn kc = K' at h8
      generalize Value.slice none 0 0 = T' at h8
      conv => whnf
      have hrbK : ∀ k, rb K' = some k → k < W8.heap.size := h8.kill.lt
      generalize ({ s with at_ := refBack s.line s.at_ } : St) = s' at h8 ⊢
      have h4e : W8.heap[b4]? = _ := hE8.at_ (by rw [trunc_at (by omega)]; exact h4)
      obtain ⟨LA, lc, rfl, hli8, _⟩ := h8.line.form
      obtain ⟨KA', kc', rfl, hki8, _⟩ := h8.kill.form
      have hf8 := h8.few
      have hkf8 := h8.kfew
      refine ⟨_, ld h8.cell rfl rfl, ?_⟩
      conv => whnf
      refine Run.mk' _ _ (build24 _ _) ?_
      conv => whnf
      intro Wa hWa
      have hE8' := hcut.tr hE8
      have hba := h8.old
      conv => whnf
      refine ⟨W8.heap.size, 0, _, _, rfl, hWa.at_, Nat.le_of_ble_eq_true rfl, rfl, rfl, fun Wb hWb => ?_⟩
      have eb := hWb.e hWa.e (Nat.le_refl _)
      have hb8 : Wb.heap[W8.heap.size]? = some (.cells #[.slice none 0 0, .int .i64 s'.at_, .slice none 0 0] 24 (0, 0)) := hWb.at_
      have hszb : Wb.heap.size = W8.heap.size + 1 := by rw [hWb.size, hWa.size]
      generalize W8.heap.size = b8 at hb8 hszb hba hrbK ⊢
      replace h8 := h8.ext eb
      replace h4e := eb.at_ h4e
      replace hli8 := hli8.ext eb
      replace hki8 := hki8.ext eb
      replace hE8' := hE8'.tr eb
      have hne8 : base ≠ b8 := fun e => by
        have i1 := h8.cell
        rw [e, hb8] at i1
        injection i1 with i1
        injection i1 with _ i1
        exact absurd i1 (by decide)
      clear hWa hWb eb
      conv => whnf
      refine VDraw.mk' tab_ok (fun V => V.heap[base]? = Wb.heap[base]? ∧ V.heap[b8]? = Wb.heap[b8]?) [7, 9] (.take 0 <| .take 1 <| .take 2 <| .take 3 <| .take 4 <| .take 5 <| .take 6 <| .one 7 <| .take 8 <| .one 9 <| .done) mixed (by kernel_rfl) (by kernel_rfl) ⟨rfl, rfl⟩ ?_
      have hd := Ext.drew Wb
      conv => whnf
      refine ⟨_, fun w' hs => ld (hs.2.trans hb8) rfl rfl, ?_⟩
      conv => whnf
      refine ⟨_, fun w' hs => ld (hs.1.trans h8.cell) rfl rfl, ?_⟩
      conv => whnf
      refine run_append inf3 Try.underlying22 rfl (by decide) (own_nil_ _ base 3 1) (hli8.ext hd).rd (one_ints _) (by simp only [maxLen]; omega) (by omega) (Nat.le_trans h8.old hd.le) ?_
      intro v1 Wc hown1 hg1 hat1
      have ec : Ext Wb Wc := hd.tr (ext_row (Ext.refl _) hg1 (own_nil_ _ (Wb.drew).heap.size 3 1) (Nat.le_refl _))
      simp only [Nat.zero_add, List.nil_append] at hown1
      obtain ⟨R1, r1, rfl⟩ := own_form hown1
      replace h8 := h8.ext ec
      replace h4e := ec.at_ h4e
      replace hb8 := ec.at_ hb8
      replace hki8 := hki8.ext ec
      replace hE8' := hE8'.tr ec
      replace hszb : b8 < Wc.heap.size := at_lt hb8
      clear ec hd hg1 hat1
      conv => whnf
      refine ⟨b8, 0, _, _, rfl, hb8, Nat.le_of_ble_eq_true rfl, rfl, rfl, fun Wd hWd => ?_⟩
      have hb8d : Wd.heap[b8]? = some (.cells #[.slice R1 s'.line.length r1, .int .i64 s'.at_, .slice none 0 0] 24 (0, 0)) := hWd.at_
      have hcd := hWd.keep h8.cell hne8
      have h4d := hWd.keep h4e (by omega)
      have hown1d := own_put hown1 hWd hb8 (by decide)
      have hactd := own_put h8.acts hWd hb8 (by decide)
      have hneK : rb (.slice KA' s'.kill.length kc') ≠ some b8 := fun e => by have i1 := hrbK _ e; omega
      have hkd := (h8.kill.put hWd hneK).form
      have hEd := hWd.e hE8' (by omega)
      have hsd : base ≤ Wd.heap.size := by rw [hWd.size]; exact h8.old
      clear hWd hown1 hb8 h8 hE8' h4e hli8 hki8
      obtain ⟨_, _, e, hkid, _⟩ := hkd
      cases e
      conv => whnf
      refine VDraw.mk' tab_ok (fun V => V.heap[base]? = Wd.heap[base]? ∧ V.heap[b8]? = Wd.heap[b8]?) [7, 9] (.take 0 <| .take 1 <| .take 2 <| .take 3 <| .take 4 <| .take 5 <| .take 6 <| .one 7 <| .take 8 <| .one 9 <| .done) mixed (by kernel_rfl) (by kernel_rfl) ⟨rfl, rfl⟩ ?_
      have hd := Ext.drew Wd
      conv => whnf
      refine ⟨_, fun w' hs => ld (hs.2.trans hb8d) rfl rfl, ?_⟩
      conv => whnf
      refine ⟨_, fun w' hs => ld (hs.1.trans hcd) rfl rfl, ?_⟩
      conv => whnf
      refine run_append inf3 Try.underlying22 rfl (by decide) (own_nil_ _ base 3 1) (hkid.ext hd).rd (one_ints _) (by simp only [maxLen]; omega) (by omega) (Nat.le_trans hsd hd.le) ?_
      intro v2 We hown2 hg2 hat2
      have ee : Ext Wd We := hd.tr (ext_row (Ext.refl _) hg2 (own_nil_ _ (Wd.drew).heap.size 3 1) (Nat.le_refl _))
      simp only [Nat.zero_add, List.nil_append] at hown2
      obtain ⟨R2, r2, rfl⟩ := own_form hown2
      have hb8e := ee.at_ hb8d
      have hce := ee.at_ hcd
      have h4f := ee.at_ h4d
      have hown1e := own_ext hown1d ee
      have hacte := own_ext hactd ee
      have hEe := hEd.tr ee
      clear ee hd hg2 hat2 hown1d hactd hcd h4d hb8d hEd
      conv => whnf
      refine ⟨b8, 2, _, _, rfl, hb8e, Nat.le_of_ble_eq_true rfl, rfl, rfl, fun Wf hWf => ?_⟩
      have hb8f : Wf.heap[b8]? = some (.cells #[.slice R1 s'.line.length r1, .int .i64 s'.at_, .slice R2 s'.kill.length r2] 24 (0, 0)) := hWf.at_
      have hcf := hWf.keep hce hne8
      have h4g := hWf.keep h4f (by omega)
      have hownf := own_put hown1e hWf hb8e (by decide)
      have hownk := own_put hown2 hWf hb8e (by decide)
      have hactf := own_put hacte hWf hb8e (by decide)
      have hEf := hWf.e hEe (by omega)
      clear hWf hown1e hown2 hacte hce h4f hb8e hEe
      conv => whnf
      refine VDraw.mk' tab_ok (fun V => V.heap[base]? = Wf.heap[base]? ∧ V.heap[b8]? = Wf.heap[b8]?) [] (.take 0 <| .take 1 <| .take 2 <| .take 3 <| .take 4 <| .one 5 <| .take 6 <| .done) mixed (by kernel_rfl) (by kernel_rfl) ⟨rfl, rfl⟩ ?_
      have hd := Ext.drew Wf
      conv => whnf
      refine ⟨[.slice R1 s'.line.length r1, .int .i64 s'.at_, .slice R2 s'.kill.length r2], rfl, fun w' hs => lds (hs.2.trans hb8f) rfl rfl, ?_⟩
      conv => whnf
      refine ⟨_, fun w' hs => ld (hs.1.trans hcf) rfl rfl, ?_⟩
      conv => whnf
      refine ⟨b4, 0, _, _, rfl, hd.at_ h4g, Nat.le_of_ble_eq_true rfl, rfl, rfl, fun Wg hWg => ?_⟩
      conv => whnf
      refine ⟨⟨hWg.ne base (by omega), hWg.ne b8 (by omega)⟩, ?_⟩
      conv => whnf
      refine ⟨[.slice R1 s'.line.length r1, .int .i64 s'.at_, .slice R2 s'.kill.length r2], rfl, lds hWg.at_ rfl rfl, ?_⟩
      have h4h := hd.at_ h4g
      refine ⟨hWg.e (hEf.tr hd) (by omega), _, _, _, rfl, ?_⟩
      exact ⟨own_weak (own_put (own_ext hownf hd) hWg h4h (by decide)) (by omega), own_weak (own_put (own_ext hownk hd) hWg h4h (by decide)) (by omega), own_weak (own_put (own_ext hactf hd) hWg h4h (by decide)) (by omega)⟩
    rw [if_neg c1]
    intro t c2
    cases t <;> simp only [VB] at c2 <;> (conv => whnf)
    case true =>
      rw [if_pos c2]
      refine ⟨_, ld h2 rfl rfl, ?_⟩
      conv => whnf
      refine (fn23on W5 A n c xs _ hin5).mono ?_
      rintro _ _ ⟨rfl, rfl⟩
      rw [heldV_id (by omega), ← hxl]
      conv => whnf
      refine ⟨base, 1, _, _, rfl, hwk.cell, Nat.le_of_ble_eq_true rfl, rfl, rfl, fun W8 hW8 => ?_⟩
      have hE8 : Ext (trunc W5 base) W8 := hW8.e htx hts
      have h8 := hwk.atv (a := refOn s.line s.at_) hW8
      generalize Value.slice A n c = L' at h8
      generalize Value.slice KA kn kc = K' at h8
      generalize Value.slice none 0 0 = T' at h8
      conv => whnf
      have hrbK : ∀ k, rb K' = some k → k < W8.heap.size := h8.kill.lt
      generalize ({ s with at_ := refOn s.line s.at_ } : St) = s' at h8 ⊢
      have h4e : W8.heap[b4]? = _ := hE8.at_ (by rw [trunc_at (by omega)]; exact h4)
      obtain ⟨LA, lc, rfl, hli8, _⟩ := h8.line.form
      obtain ⟨KA', kc', rfl, hki8, _⟩ := h8.kill.form
      have hf8 := h8.few
      have hkf8 := h8.kfew
      refine ⟨_, ld h8.cell rfl rfl, ?_⟩
      conv => whnf
      refine Run.mk' _ _ (build24 _ _) ?_
      conv => whnf
      intro Wa hWa
      have hE8' := hcut.tr hE8
      have hba := h8.old
      conv => whnf
      refine ⟨W8.heap.size, 0, _, _, rfl, hWa.at_, Nat.le_of_ble_eq_true rfl, rfl, rfl, fun Wb hWb => ?_⟩
      have eb := hWb.e hWa.e (Nat.le_refl _)
      have hb8 : Wb.heap[W8.heap.size]? = some (.cells #[.slice none 0 0, .int .i64 s'.at_, .slice none 0 0] 24 (0, 0)) := hWb.at_
      have hszb : Wb.heap.size = W8.heap.size + 1 := by rw [hWb.size, hWa.size]
      generalize W8.heap.size = b8 at hb8 hszb hba hrbK ⊢
      replace h8 := h8.ext eb
      replace h4e := eb.at_ h4e
      replace hli8 := hli8.ext eb
      replace hki8 := hki8.ext eb
      replace hE8' := hE8'.tr eb
      have hne8 : base ≠ b8 := fun e => by
        have i1 := h8.cell
        rw [e, hb8] at i1
        injection i1 with i1
        injection i1 with _ i1
        exact absurd i1 (by decide)
      clear hWa hWb eb
      conv => whnf
      refine VDraw.mk' tab_ok (fun V => V.heap[base]? = Wb.heap[base]? ∧ V.heap[b8]? = Wb.heap[b8]?) [7, 9] (.take 0 <| .take 1 <| .take 2 <| .take 3 <| .take 4 <| .take 5 <| .take 6 <| .one 7 <| .take 8 <| .one 9 <| .done) mixed (by kernel_rfl) (by kernel_rfl) ⟨rfl, rfl⟩ ?_
      have hd := Ext.drew Wb
      conv => whnf
      refine ⟨_, fun w' hs => ld (hs.2.trans hb8) rfl rfl, ?_⟩
      conv => whnf
      refine ⟨_, fun w' hs => ld (hs.1.trans h8.cell) rfl rfl, ?_⟩
      conv => whnf
      refine run_append inf3 Try.underlying22 rfl (by decide) (own_nil_ _ base 3 1) (hli8.ext hd).rd (one_ints _) (by simp only [maxLen]; omega) (by omega) (Nat.le_trans h8.old hd.le) ?_
      intro v1 Wc hown1 hg1 hat1
      have ec : Ext Wb Wc := hd.tr (ext_row (Ext.refl _) hg1 (own_nil_ _ (Wb.drew).heap.size 3 1) (Nat.le_refl _))
      simp only [Nat.zero_add, List.nil_append] at hown1
      obtain ⟨R1, r1, rfl⟩ := own_form hown1
      replace h8 := h8.ext ec
      replace h4e := ec.at_ h4e
      replace hb8 := ec.at_ hb8
      replace hki8 := hki8.ext ec
      replace hE8' := hE8'.tr ec
      replace hszb : b8 < Wc.heap.size := at_lt hb8
      clear ec hd hg1 hat1
      conv => whnf
      refine ⟨b8, 0, _, _, rfl, hb8, Nat.le_of_ble_eq_true rfl, rfl, rfl, fun Wd hWd => ?_⟩
      have hb8d : Wd.heap[b8]? = some (.cells #[.slice R1 s'.line.length r1, .int .i64 s'.at_, .slice none 0 0] 24 (0, 0)) := hWd.at_
      have hcd := hWd.keep h8.cell hne8
      have h4d := hWd.keep h4e (by omega)
      have hown1d := own_put hown1 hWd hb8 (by decide)
      have hactd := own_put h8.acts hWd hb8 (by decide)
      have hneK : rb (.slice KA' s'.kill.length kc') ≠ some b8 := fun e => by have i1 := hrbK _ e; omega
      have hkd := (h8.kill.put hWd hneK).form
      have hEd := hWd.e hE8' (by omega)
      have hsd : base ≤ Wd.heap.size := by rw [hWd.size]; exact h8.old
      clear hWd hown1 hb8 h8 hE8' h4e hli8 hki8
      obtain ⟨_, _, e, hkid, _⟩ := hkd
      cases e
      conv => whnf
      refine VDraw.mk' tab_ok (fun V => V.heap[base]? = Wd.heap[base]? ∧ V.heap[b8]? = Wd.heap[b8]?) [7, 9] (.take 0 <| .take 1 <| .take 2 <| .take 3 <| .take 4 <| .take 5 <| .take 6 <| .one 7 <| .take 8 <| .one 9 <| .done) mixed (by kernel_rfl) (by kernel_rfl) ⟨rfl, rfl⟩ ?_
      have hd := Ext.drew Wd
      conv => whnf
      refine ⟨_, fun w' hs => ld (hs.2.trans hb8d) rfl rfl, ?_⟩
      conv => whnf
      refine ⟨_, fun w' hs => ld (hs.1.trans hcd) rfl rfl, ?_⟩
      conv => whnf
      refine run_append inf3 Try.underlying22 rfl (by decide) (own_nil_ _ base 3 1) (hkid.ext hd).rd (one_ints _) (by simp only [maxLen]; omega) (by omega) (Nat.le_trans hsd hd.le) ?_
      intro v2 We hown2 hg2 hat2
      have ee : Ext Wd We := hd.tr (ext_row (Ext.refl _) hg2 (own_nil_ _ (Wd.drew).heap.size 3 1) (Nat.le_refl _))
      simp only [Nat.zero_add, List.nil_append] at hown2
      obtain ⟨R2, r2, rfl⟩ := own_form hown2
      have hb8e := ee.at_ hb8d
      have hce := ee.at_ hcd
      have h4f := ee.at_ h4d
      have hown1e := own_ext hown1d ee
      have hacte := own_ext hactd ee
      have hEe := hEd.tr ee
      clear ee hd hg2 hat2 hown1d hactd hcd h4d hb8d hEd
      conv => whnf
      refine ⟨b8, 2, _, _, rfl, hb8e, Nat.le_of_ble_eq_true rfl, rfl, rfl, fun Wf hWf => ?_⟩
      have hb8f : Wf.heap[b8]? = some (.cells #[.slice R1 s'.line.length r1, .int .i64 s'.at_, .slice R2 s'.kill.length r2] 24 (0, 0)) := hWf.at_
      have hcf := hWf.keep hce hne8
      have h4g := hWf.keep h4f (by omega)
      have hownf := own_put hown1e hWf hb8e (by decide)
      have hownk := own_put hown2 hWf hb8e (by decide)
      have hactf := own_put hacte hWf hb8e (by decide)
      have hEf := hWf.e hEe (by omega)
      clear hWf hown1e hown2 hacte hce h4f hb8e hEe
      conv => whnf
      refine VDraw.mk' tab_ok (fun V => V.heap[base]? = Wf.heap[base]? ∧ V.heap[b8]? = Wf.heap[b8]?) [] (.take 0 <| .take 1 <| .take 2 <| .take 3 <| .take 4 <| .one 5 <| .take 6 <| .done) mixed (by kernel_rfl) (by kernel_rfl) ⟨rfl, rfl⟩ ?_
      have hd := Ext.drew Wf
      conv => whnf
      refine ⟨[.slice R1 s'.line.length r1, .int .i64 s'.at_, .slice R2 s'.kill.length r2], rfl, fun w' hs => lds (hs.2.trans hb8f) rfl rfl, ?_⟩
      conv => whnf
      refine ⟨_, fun w' hs => ld (hs.1.trans hcf) rfl rfl, ?_⟩
      conv => whnf
      refine ⟨b4, 0, _, _, rfl, hd.at_ h4g, Nat.le_of_ble_eq_true rfl, rfl, rfl, fun Wg hWg => ?_⟩
      conv => whnf
      refine ⟨⟨hWg.ne base (by omega), hWg.ne b8 (by omega)⟩, ?_⟩
      conv => whnf
      refine ⟨[.slice R1 s'.line.length r1, .int .i64 s'.at_, .slice R2 s'.kill.length r2], rfl, lds hWg.at_ rfl rfl, ?_⟩
      have h4h := hd.at_ h4g
      refine ⟨hWg.e (hEf.tr hd) (by omega), _, _, _, rfl, ?_⟩
      exact ⟨own_weak (own_put (own_ext hownf hd) hWg h4h (by decide)) (by omega), own_weak (own_put (own_ext hownk hd) hWg h4h (by decide)) (by omega), own_weak (own_put (own_ext hactf hd) hWg h4h (by decide)) (by omega)⟩
    rw [if_neg c2]
    intro t c3
    cases t <;> simp only [VB] at c3 <;> (conv => whnf)
    case true =>
      rw [if_pos c3]
      refine ⟨_, ld h2 rfl rfl, ?_⟩
      conv => whnf
      refine (fn23on W5 A n c xs _ hin5).mono ?_
      rintro _ _ ⟨rfl, rfl⟩
      rw [heldV_id (by omega), ← hxl]
      conv => whnf
      refine (fn32 hwk htx hts (Nat.le_refl _) (f := s.at_) (t := refOn s.line s.at_) (refOn_le s.line hle).1 (refOn_le s.line hle).2 (by have := refOn_le s.line hle; omega)).mono ?_
      rintro v W8 ⟨hE8, L', K', T', h8⟩
      conv => whnf
      have hrbK : ∀ k, rb K' = some k → k < W8.heap.size := h8.kill.lt
      generalize s.killed s.at_ (refOn s.line s.at_) = s' at h8 ⊢
      have h4e : W8.heap[b4]? = _ := hE8.at_ (by rw [trunc_at (by omega)]; exact h4)
      obtain ⟨LA, lc, rfl, hli8, _⟩ := h8.line.form
      obtain ⟨KA', kc', rfl, hki8, _⟩ := h8.kill.form
      have hf8 := h8.few
      have hkf8 := h8.kfew
      refine ⟨_, ld h8.cell rfl rfl, ?_⟩
      conv => whnf
      refine Run.mk' _ _ (build24 _ _) ?_
      conv => whnf
      intro Wa hWa
      have hE8' := hcut.tr hE8
      have hba := h8.old
      conv => whnf
      refine ⟨W8.heap.size, 0, _, _, rfl, hWa.at_, Nat.le_of_ble_eq_true rfl, rfl, rfl, fun Wb hWb => ?_⟩
      have eb := hWb.e hWa.e (Nat.le_refl _)
      have hb8 : Wb.heap[W8.heap.size]? = some (.cells #[.slice none 0 0, .int .i64 s'.at_, .slice none 0 0] 24 (0, 0)) := hWb.at_
      have hszb : Wb.heap.size = W8.heap.size + 1 := by rw [hWb.size, hWa.size]
      generalize W8.heap.size = b8 at hb8 hszb hba hrbK ⊢
      replace h8 := h8.ext eb
      replace h4e := eb.at_ h4e
      replace hli8 := hli8.ext eb
      replace hki8 := hki8.ext eb
      replace hE8' := hE8'.tr eb
      have hne8 : base ≠ b8 := fun e => by
        have i1 := h8.cell
        rw [e, hb8] at i1
        injection i1 with i1
        injection i1 with _ i1
        exact absurd i1 (by decide)
      clear hWa hWb eb
      conv => whnf
      refine VDraw.mk' tab_ok (fun V => V.heap[base]? = Wb.heap[base]? ∧ V.heap[b8]? = Wb.heap[b8]?) [7, 9] (.take 0 <| .take 1 <| .take 2 <| .take 3 <| .take 4 <| .take 5 <| .take 6 <| .one 7 <| .take 8 <| .one 9 <| .done) mixed (by kernel_rfl) (by kernel_rfl) ⟨rfl, rfl⟩ ?_
      have hd := Ext.drew Wb
      conv => whnf
      refine ⟨_, fun w' hs => ld (hs.2.trans hb8) rfl rfl, ?_⟩
      conv => whnf
      refine ⟨_, fun w' hs => ld (hs.1.trans h8.cell) rfl rfl, ?_⟩
      conv => whnf
      refine run_append inf3 Try.underlying22 rfl (by decide) (own_nil_ _ base 3 1) (hli8.ext hd).rd (one_ints _) (by simp only [maxLen]; omega) (by omega) (Nat.le_trans h8.old hd.le) ?_
      intro v1 Wc hown1 hg1 hat1
      have ec : Ext Wb Wc := hd.tr (ext_row (Ext.refl _) hg1 (own_nil_ _ (Wb.drew).heap.size 3 1) (Nat.le_refl _))
      simp only [Nat.zero_add, List.nil_append] at hown1
      obtain ⟨R1, r1, rfl⟩ := own_form hown1
      replace h8 := h8.ext ec
      replace h4e := ec.at_ h4e
      replace hb8 := ec.at_ hb8
      replace hki8 := hki8.ext ec
      replace hE8' := hE8'.tr ec
      replace hszb : b8 < Wc.heap.size := at_lt hb8
      clear ec hd hg1 hat1
      conv => whnf
      refine ⟨b8, 0, _, _, rfl, hb8, Nat.le_of_ble_eq_true rfl, rfl, rfl, fun Wd hWd => ?_⟩
      have hb8d : Wd.heap[b8]? = some (.cells #[.slice R1 s'.line.length r1, .int .i64 s'.at_, .slice none 0 0] 24 (0, 0)) := hWd.at_
      have hcd := hWd.keep h8.cell hne8
      have h4d := hWd.keep h4e (by omega)
      have hown1d := own_put hown1 hWd hb8 (by decide)
      have hactd := own_put h8.acts hWd hb8 (by decide)
      have hneK : rb (.slice KA' s'.kill.length kc') ≠ some b8 := fun e => by have i1 := hrbK _ e; omega
      have hkd := (h8.kill.put hWd hneK).form
      have hEd := hWd.e hE8' (by omega)
      have hsd : base ≤ Wd.heap.size := by rw [hWd.size]; exact h8.old
      clear hWd hown1 hb8 h8 hE8' h4e hli8 hki8
      obtain ⟨_, _, e, hkid, _⟩ := hkd
      cases e
      conv => whnf
      refine VDraw.mk' tab_ok (fun V => V.heap[base]? = Wd.heap[base]? ∧ V.heap[b8]? = Wd.heap[b8]?) [7, 9] (.take 0 <| .take 1 <| .take 2 <| .take 3 <| .take 4 <| .take 5 <| .take 6 <| .one 7 <| .take 8 <| .one 9 <| .done) mixed (by kernel_rfl) (by kernel_rfl) ⟨rfl, rfl⟩ ?_
      have hd := Ext.drew Wd
      conv => whnf
      refine ⟨_, fun w' hs => ld (hs.2.trans hb8d) rfl rfl, ?_⟩
      conv => whnf
      refine ⟨_, fun w' hs => ld (hs.1.trans hcd) rfl rfl, ?_⟩
      conv => whnf
      refine run_append inf3 Try.underlying22 rfl (by decide) (own_nil_ _ base 3 1) (hkid.ext hd).rd (one_ints _) (by simp only [maxLen]; omega) (by omega) (Nat.le_trans hsd hd.le) ?_
      intro v2 We hown2 hg2 hat2
      have ee : Ext Wd We := hd.tr (ext_row (Ext.refl _) hg2 (own_nil_ _ (Wd.drew).heap.size 3 1) (Nat.le_refl _))
      simp only [Nat.zero_add, List.nil_append] at hown2
      obtain ⟨R2, r2, rfl⟩ := own_form hown2
      have hb8e := ee.at_ hb8d
      have hce := ee.at_ hcd
      have h4f := ee.at_ h4d
      have hown1e := own_ext hown1d ee
      have hacte := own_ext hactd ee
      have hEe := hEd.tr ee
      clear ee hd hg2 hat2 hown1d hactd hcd h4d hb8d hEd
      conv => whnf
      refine ⟨b8, 2, _, _, rfl, hb8e, Nat.le_of_ble_eq_true rfl, rfl, rfl, fun Wf hWf => ?_⟩
      have hb8f : Wf.heap[b8]? = some (.cells #[.slice R1 s'.line.length r1, .int .i64 s'.at_, .slice R2 s'.kill.length r2] 24 (0, 0)) := hWf.at_
      have hcf := hWf.keep hce hne8
      have h4g := hWf.keep h4f (by omega)
      have hownf := own_put hown1e hWf hb8e (by decide)
      have hownk := own_put hown2 hWf hb8e (by decide)
      have hactf := own_put hacte hWf hb8e (by decide)
      have hEf := hWf.e hEe (by omega)
      clear hWf hown1e hown2 hacte hce h4f hb8e hEe
      conv => whnf
      refine VDraw.mk' tab_ok (fun V => V.heap[base]? = Wf.heap[base]? ∧ V.heap[b8]? = Wf.heap[b8]?) [] (.take 0 <| .take 1 <| .take 2 <| .take 3 <| .take 4 <| .one 5 <| .take 6 <| .done) mixed (by kernel_rfl) (by kernel_rfl) ⟨rfl, rfl⟩ ?_
      have hd := Ext.drew Wf
      conv => whnf
      refine ⟨[.slice R1 s'.line.length r1, .int .i64 s'.at_, .slice R2 s'.kill.length r2], rfl, fun w' hs => lds (hs.2.trans hb8f) rfl rfl, ?_⟩
      conv => whnf
      refine ⟨_, fun w' hs => ld (hs.1.trans hcf) rfl rfl, ?_⟩
      conv => whnf
      refine ⟨b4, 0, _, _, rfl, hd.at_ h4g, Nat.le_of_ble_eq_true rfl, rfl, rfl, fun Wg hWg => ?_⟩
      conv => whnf
      refine ⟨⟨hWg.ne base (by omega), hWg.ne b8 (by omega)⟩, ?_⟩
      conv => whnf
      refine ⟨[.slice R1 s'.line.length r1, .int .i64 s'.at_, .slice R2 s'.kill.length r2], rfl, lds hWg.at_ rfl rfl, ?_⟩
      have h4h := hd.at_ h4g
      refine ⟨hWg.e (hEf.tr hd) (by omega), _, _, _, rfl, ?_⟩
      exact ⟨own_weak (own_put (own_ext hownf hd) hWg h4h (by decide)) (by omega), own_weak (own_put (own_ext hownk hd) hWg h4h (by decide)) (by omega), own_weak (own_put (own_ext hactf hd) hWg h4h (by decide)) (by omega)⟩
    rw [if_neg c3]
    intro t c4
    cases t <;> simp only [VB] at c4 <;> (conv => whnf)
    case true =>
      rw [if_pos c4]
      refine ⟨_, ld h2 rfl rfl, ?_⟩
      conv => whnf
      refine (fn23back W5 A n c xs _ hin5).mono ?_
      rintro _ _ ⟨rfl, rfl⟩
      rw [heldV_id (by omega), ← hxl]
      conv => whnf
      refine (fn32 hwk htx hts (Nat.le_refl _) (f := refBack s.line s.at_) (t := s.at_) (refBack_le _ _) hle (by have := refOn_le s.line hle; omega)).mono ?_
      rintro v W8 ⟨hE8, L', K', T', h8⟩
      conv => whnf
      have hrbK : ∀ k, rb K' = some k → k < W8.heap.size := h8.kill.lt
      generalize s.killed (refBack s.line s.at_) s.at_ = s' at h8 ⊢
      have h4e : W8.heap[b4]? = _ := hE8.at_ (by rw [trunc_at (by omega)]; exact h4)
      obtain ⟨LA, lc, rfl, hli8, _⟩ := h8.line.form
      obtain ⟨KA', kc', rfl, hki8, _⟩ := h8.kill.form
      have hf8 := h8.few
      have hkf8 := h8.kfew
      refine ⟨_, ld h8.cell rfl rfl, ?_⟩
      conv => whnf
      refine Run.mk' _ _ (build24 _ _) ?_
      conv => whnf
      intro Wa hWa
      have hE8' := hcut.tr hE8
      have hba := h8.old
      conv => whnf
      refine ⟨W8.heap.size, 0, _, _, rfl, hWa.at_, Nat.le_of_ble_eq_true rfl, rfl, rfl, fun Wb hWb => ?_⟩
      have eb := hWb.e hWa.e (Nat.le_refl _)
      have hb8 : Wb.heap[W8.heap.size]? = some (.cells #[.slice none 0 0, .int .i64 s'.at_, .slice none 0 0] 24 (0, 0)) := hWb.at_
      have hszb : Wb.heap.size = W8.heap.size + 1 := by rw [hWb.size, hWa.size]
      generalize W8.heap.size = b8 at hb8 hszb hba hrbK ⊢
      replace h8 := h8.ext eb
      replace h4e := eb.at_ h4e
      replace hli8 := hli8.ext eb
      replace hki8 := hki8.ext eb
      replace hE8' := hE8'.tr eb
      have hne8 : base ≠ b8 := fun e => by
        have i1 := h8.cell
        rw [e, hb8] at i1
        injection i1 with i1
        injection i1 with _ i1
        exact absurd i1 (by decide)
      clear hWa hWb eb
      conv => whnf
      refine VDraw.mk' tab_ok (fun V => V.heap[base]? = Wb.heap[base]? ∧ V.heap[b8]? = Wb.heap[b8]?) [7, 9] (.take 0 <| .take 1 <| .take 2 <| .take 3 <| .take 4 <| .take 5 <| .take 6 <| .one 7 <| .take 8 <| .one 9 <| .done) mixed (by kernel_rfl) (by kernel_rfl) ⟨rfl, rfl⟩ ?_
      have hd := Ext.drew Wb
      conv => whnf
      refine ⟨_, fun w' hs => ld (hs.2.trans hb8) rfl rfl, ?_⟩
      conv => whnf
      refine ⟨_, fun w' hs => ld (hs.1.trans h8.cell) rfl rfl, ?_⟩
      conv => whnf
      refine run_append inf3 Try.underlying22 rfl (by decide) (own_nil_ _ base 3 1) (hli8.ext hd).rd (one_ints _) (by simp only [maxLen]; omega) (by omega) (Nat.le_trans h8.old hd.le) ?_
      intro v1 Wc hown1 hg1 hat1
      have ec : Ext Wb Wc := hd.tr (ext_row (Ext.refl _) hg1 (own_nil_ _ (Wb.drew).heap.size 3 1) (Nat.le_refl _))
      simp only [Nat.zero_add, List.nil_append] at hown1
      obtain ⟨R1, r1, rfl⟩ := own_form hown1
      replace h8 := h8.ext ec
      replace h4e := ec.at_ h4e
      replace hb8 := ec.at_ hb8
      replace hki8 := hki8.ext ec
      replace hE8' := hE8'.tr ec
      replace hszb : b8 < Wc.heap.size := at_lt hb8
      clear ec hd hg1 hat1
      conv => whnf
      refine ⟨b8, 0, _, _, rfl, hb8, Nat.le_of_ble_eq_true rfl, rfl, rfl, fun Wd hWd => ?_⟩
      have hb8d : Wd.heap[b8]? = some (.cells #[.slice R1 s'.line.length r1, .int .i64 s'.at_, .slice none 0 0] 24 (0, 0)) := hWd.at_
      have hcd := hWd.keep h8.cell hne8
      have h4d := hWd.keep h4e (by omega)
      have hown1d := own_put hown1 hWd hb8 (by decide)
      have hactd := own_put h8.acts hWd hb8 (by decide)
      have hneK : rb (.slice KA' s'.kill.length kc') ≠ some b8 := fun e => by have i1 := hrbK _ e; omega
      have hkd := (h8.kill.put hWd hneK).form
      have hEd := hWd.e hE8' (by omega)
      have hsd : base ≤ Wd.heap.size := by rw [hWd.size]; exact h8.old
      clear hWd hown1 hb8 h8 hE8' h4e hli8 hki8
      obtain ⟨_, _, e, hkid, _⟩ := hkd
      cases e
      conv => whnf
      refine VDraw.mk' tab_ok (fun V => V.heap[base]? = Wd.heap[base]? ∧ V.heap[b8]? = Wd.heap[b8]?) [7, 9] (.take 0 <| .take 1 <| .take 2 <| .take 3 <| .take 4 <| .take 5 <| .take 6 <| .one 7 <| .take 8 <| .one 9 <| .done) mixed (by kernel_rfl) (by kernel_rfl) ⟨rfl, rfl⟩ ?_
      have hd := Ext.drew Wd
      conv => whnf
      refine ⟨_, fun w' hs => ld (hs.2.trans hb8d) rfl rfl, ?_⟩
      conv => whnf
      refine ⟨_, fun w' hs => ld (hs.1.trans hcd) rfl rfl, ?_⟩
      conv => whnf
      refine run_append inf3 Try.underlying22 rfl (by decide) (own_nil_ _ base 3 1) (hkid.ext hd).rd (one_ints _) (by simp only [maxLen]; omega) (by omega) (Nat.le_trans hsd hd.le) ?_
      intro v2 We hown2 hg2 hat2
      have ee : Ext Wd We := hd.tr (ext_row (Ext.refl _) hg2 (own_nil_ _ (Wd.drew).heap.size 3 1) (Nat.le_refl _))
      simp only [Nat.zero_add, List.nil_append] at hown2
      obtain ⟨R2, r2, rfl⟩ := own_form hown2
      have hb8e := ee.at_ hb8d
      have hce := ee.at_ hcd
      have h4f := ee.at_ h4d
      have hown1e := own_ext hown1d ee
      have hacte := own_ext hactd ee
      have hEe := hEd.tr ee
      clear ee hd hg2 hat2 hown1d hactd hcd h4d hb8d hEd
      conv => whnf
      refine ⟨b8, 2, _, _, rfl, hb8e, Nat.le_of_ble_eq_true rfl, rfl, rfl, fun Wf hWf => ?_⟩
      have hb8f : Wf.heap[b8]? = some (.cells #[.slice R1 s'.line.length r1, .int .i64 s'.at_, .slice R2 s'.kill.length r2] 24 (0, 0)) := hWf.at_
      have hcf := hWf.keep hce hne8
      have h4g := hWf.keep h4f (by omega)
      have hownf := own_put hown1e hWf hb8e (by decide)
      have hownk := own_put hown2 hWf hb8e (by decide)
      have hactf := own_put hacte hWf hb8e (by decide)
      have hEf := hWf.e hEe (by omega)
      clear hWf hown1e hown2 hacte hce h4f hb8e hEe
      conv => whnf
      refine VDraw.mk' tab_ok (fun V => V.heap[base]? = Wf.heap[base]? ∧ V.heap[b8]? = Wf.heap[b8]?) [] (.take 0 <| .take 1 <| .take 2 <| .take 3 <| .take 4 <| .one 5 <| .take 6 <| .done) mixed (by kernel_rfl) (by kernel_rfl) ⟨rfl, rfl⟩ ?_
      have hd := Ext.drew Wf
      conv => whnf
      refine ⟨[.slice R1 s'.line.length r1, .int .i64 s'.at_, .slice R2 s'.kill.length r2], rfl, fun w' hs => lds (hs.2.trans hb8f) rfl rfl, ?_⟩
      conv => whnf
      refine ⟨_, fun w' hs => ld (hs.1.trans hcf) rfl rfl, ?_⟩
      conv => whnf
      refine ⟨b4, 0, _, _, rfl, hd.at_ h4g, Nat.le_of_ble_eq_true rfl, rfl, rfl, fun Wg hWg => ?_⟩
      conv => whnf
      refine ⟨⟨hWg.ne base (by omega), hWg.ne b8 (by omega)⟩, ?_⟩
      conv => whnf
      refine ⟨[.slice R1 s'.line.length r1, .int .i64 s'.at_, .slice R2 s'.kill.length r2], rfl, lds hWg.at_ rfl rfl, ?_⟩
      have h4h := hd.at_ h4g
      refine ⟨hWg.e (hEf.tr hd) (by omega), _, _, _, rfl, ?_⟩
      exact ⟨own_weak (own_put (own_ext hownf hd) hWg h4h (by decide)) (by omega), own_weak (own_put (own_ext hownk hd) hWg h4h (by decide)) (by omega), own_weak (own_put (own_ext hactf hd) hWg h4h (by decide)) (by omega)⟩
    rw [if_neg c4]
    have h8 := hwk
    have hE8 := htx
    have hW8 : W5 = W5 := rfl
    generalize Value.slice A n c = L' at h8
    generalize Value.slice KA kn kc = K' at h8
    generalize Value.slice none 0 0 = T' at h8
    have hrbK : ∀ k, rb K' = some k → k < W5.heap.size := h8.kill.lt
    generalize s = s' at h8 ⊢
    have h4e : W5.heap[b4]? = _ := hE8.at_ (by rw [trunc_at (by omega)]; exact h4)
    obtain ⟨LA, lc, rfl, hli8, _⟩ := h8.line.form
    obtain ⟨KA', kc', rfl, hki8, _⟩ := h8.kill.form
    have hf8 := h8.few
    have hkf8 := h8.kfew
    refine ⟨_, ld h8.cell rfl rfl, ?_⟩
    conv => whnf
    refine Run.mk' _ _ (build24 _ _) ?_
    conv => whnf
    intro Wa hWa
    have hE8' := hcut.tr hE8
    have hba := h8.old
    conv => whnf
    refine ⟨W5.heap.size, 0, _, _, rfl, hWa.at_, Nat.le_of_ble_eq_true rfl, rfl, rfl, fun Wb hWb => ?_⟩
    have eb := hWb.e hWa.e (Nat.le_refl _)
    have hb8 : Wb.heap[W5.heap.size]? = some (.cells #[.slice none 0 0, .int .i64 s'.at_, .slice none 0 0] 24 (0, 0)) := hWb.at_
    have hszb : Wb.heap.size = W5.heap.size + 1 := by rw [hWb.size, hWa.size]
    generalize W5.heap.size = b8 at hb8 hszb hba hrbK ⊢
    replace h8 := h8.ext eb
    replace h4e := eb.at_ h4e
    replace hli8 := hli8.ext eb
    replace hki8 := hki8.ext eb
    replace hE8' := hE8'.tr eb
    have hne8 : base ≠ b8 := fun e => by
      have i1 := h8.cell
      rw [e, hb8] at i1
      injection i1 with i1
      injection i1 with _ i1
      exact absurd i1 (by decide)
    clear hWa hWb eb
    conv => whnf
    refine VDraw.mk' tab_ok (fun V => V.heap[base]? = Wb.heap[base]? ∧ V.heap[b8]? = Wb.heap[b8]?) [7, 9] (.take 0 <| .take 1 <| .take 2 <| .take 3 <| .take 4 <| .take 5 <| .take 6 <| .one 7 <| .take 8 <| .one 9 <| .done) mixed (by kernel_rfl) (by kernel_rfl) ⟨rfl, rfl⟩ ?_
    have hd := Ext.drew Wb
    conv => whnf
    refine ⟨_, fun w' hs => ld (hs.2.trans hb8) rfl rfl, ?_⟩
    conv => whnf
    refine ⟨_, fun w' hs => ld (hs.1.trans h8.cell) rfl rfl, ?_⟩
    conv => whnf
    refine run_append inf3 Try.underlying22 rfl (by decide) (own_nil_ _ base 3 1) (hli8.ext hd).rd (one_ints _) (by simp only [maxLen]; omega) (by omega) (Nat.le_trans h8.old hd.le) ?_
    intro v1 Wc hown1 hg1 hat1
    have ec : Ext Wb Wc := hd.tr (ext_row (Ext.refl _) hg1 (own_nil_ _ (Wb.drew).heap.size 3 1) (Nat.le_refl _))
    simp only [Nat.zero_add, List.nil_append] at hown1
    obtain ⟨R1, r1, rfl⟩ := own_form hown1
    replace h8 := h8.ext ec
    replace h4e := ec.at_ h4e
    replace hb8 := ec.at_ hb8
    replace hki8 := hki8.ext ec
    replace hE8' := hE8'.tr ec
    replace hszb : b8 < Wc.heap.size := at_lt hb8
    clear ec hd hg1 hat1
    conv => whnf
    refine ⟨b8, 0, _, _, rfl, hb8, Nat.le_of_ble_eq_true rfl, rfl, rfl, fun Wd hWd => ?_⟩
    have hb8d : Wd.heap[b8]? = some (.cells #[.slice R1 s'.line.length r1, .int .i64 s'.at_, .slice none 0 0] 24 (0, 0)) := hWd.at_
    have hcd := hWd.keep h8.cell hne8
    have h4d := hWd.keep h4e (by omega)
    have hown1d := own_put hown1 hWd hb8 (by decide)
    have hactd := own_put h8.acts hWd hb8 (by decide)
    have hneK : rb (.slice KA' s'.kill.length kc') ≠ some b8 := fun e => by have i1 := hrbK _ e; omega
    have hkd := (h8.kill.put hWd hneK).form
    have hEd := hWd.e hE8' (by omega)
    have hsd : base ≤ Wd.heap.size := by rw [hWd.size]; exact h8.old
    clear hWd hown1 hb8 h8 hE8' h4e hli8 hki8
    obtain ⟨_, _, e, hkid, _⟩ := hkd
    cases e
    conv => whnf
    refine VDraw.mk' tab_ok (fun V => V.heap[base]? = Wd.heap[base]? ∧ V.heap[b8]? = Wd.heap[b8]?) [7, 9] (.take 0 <| .take 1 <| .take 2 <| .take 3 <| .take 4 <| .take 5 <| .take 6 <| .one 7 <| .take 8 <| .one 9 <| .done) mixed (by kernel_rfl) (by kernel_rfl) ⟨rfl, rfl⟩ ?_
    have hd := Ext.drew Wd
    conv => whnf
    refine ⟨_, fun w' hs => ld (hs.2.trans hb8d) rfl rfl, ?_⟩
    conv => whnf
    refine ⟨_, fun w' hs => ld (hs.1.trans hcd) rfl rfl, ?_⟩
    conv => whnf
    refine run_append inf3 Try.underlying22 rfl (by decide) (own_nil_ _ base 3 1) (hkid.ext hd).rd (one_ints _) (by simp only [maxLen]; omega) (by omega) (Nat.le_trans hsd hd.le) ?_
    intro v2 We hown2 hg2 hat2
    have ee : Ext Wd We := hd.tr (ext_row (Ext.refl _) hg2 (own_nil_ _ (Wd.drew).heap.size 3 1) (Nat.le_refl _))
    simp only [Nat.zero_add, List.nil_append] at hown2
    obtain ⟨R2, r2, rfl⟩ := own_form hown2
    have hb8e := ee.at_ hb8d
    have hce := ee.at_ hcd
    have h4f := ee.at_ h4d
    have hown1e := own_ext hown1d ee
    have hacte := own_ext hactd ee
    have hEe := hEd.tr ee
    clear ee hd hg2 hat2 hown1d hactd hcd h4d hb8d hEd
    conv => whnf
    refine ⟨b8, 2, _, _, rfl, hb8e, Nat.le_of_ble_eq_true rfl, rfl, rfl, fun Wf hWf => ?_⟩
    have hb8f : Wf.heap[b8]? = some (.cells #[.slice R1 s'.line.length r1, .int .i64 s'.at_, .slice R2 s'.kill.length r2] 24 (0, 0)) := hWf.at_
    have hcf := hWf.keep hce hne8
    have h4g := hWf.keep h4f (by omega)
    have hownf := own_put hown1e hWf hb8e (by decide)
    have hownk := own_put hown2 hWf hb8e (by decide)
    have hactf := own_put hacte hWf hb8e (by decide)
    have hEf := hWf.e hEe (by omega)
    clear hWf hown1e hown2 hacte hce h4f hb8e hEe
    conv => whnf
    refine VDraw.mk' tab_ok (fun V => V.heap[base]? = Wf.heap[base]? ∧ V.heap[b8]? = Wf.heap[b8]?) [] (.take 0 <| .take 1 <| .take 2 <| .take 3 <| .take 4 <| .one 5 <| .take 6 <| .done) mixed (by kernel_rfl) (by kernel_rfl) ⟨rfl, rfl⟩ ?_
    have hd := Ext.drew Wf
    conv => whnf
    refine ⟨[.slice R1 s'.line.length r1, .int .i64 s'.at_, .slice R2 s'.kill.length r2], rfl, fun w' hs => lds (hs.2.trans hb8f) rfl rfl, ?_⟩
    conv => whnf
    refine ⟨_, fun w' hs => ld (hs.1.trans hcf) rfl rfl, ?_⟩
    conv => whnf
    refine ⟨b4, 0, _, _, rfl, hd.at_ h4g, Nat.le_of_ble_eq_true rfl, rfl, rfl, fun Wg hWg => ?_⟩
    conv => whnf
    refine ⟨⟨hWg.ne base (by omega), hWg.ne b8 (by omega)⟩, ?_⟩
    conv => whnf
    refine ⟨[.slice R1 s'.line.length r1, .int .i64 s'.at_, .slice R2 s'.kill.length r2], rfl, lds hWg.at_ rfl rfl, ?_⟩
    have h4h := hd.at_ h4g
    refine ⟨hWg.e (hEf.tr hd) (by omega), _, _, _, rfl, ?_⟩
    exact ⟨own_weak (own_put (own_ext hownf hd) hWg h4h (by decide)) (by omega), own_weak (own_put (own_ext hownk hd) hWg h4h (by decide)) (by omega), own_weak (own_put (own_ext hactf hd) hWg h4h (by decide)) (by omega)⟩
  rw [if_neg k3]
  intro t k6
  cases t <;> simp only [VB] at k6 <;> (conv => whnf)
  case true =>
    rw [if_pos k6]
    refine (fn31 102 hwk htx hts (Nat.le_refl _) hle hs0.1 hs0.2.1 (by omega)).mono ?_
    rintro v W8 ⟨hE8, L', K', T', h8⟩
    conv => whnf
    have hrbK : ∀ k, rb K' = some k → k < W8.heap.size := h8.kill.lt
    generalize ctrlS s 102 = s' at h8 ⊢
    have h4e : W8.heap[b4]? = _ := hE8.at_ (by rw [trunc_at (by omega)]; exact h4)
    obtain ⟨LA, lc, rfl, hli8, _⟩ := h8.line.form
    obtain ⟨KA', kc', rfl, hki8, _⟩ := h8.kill.form
    have hf8 := h8.few
    have hkf8 := h8.kfew
    refine ⟨_, ld h8.cell rfl rfl, ?_⟩
    conv => whnf
    refine Run.mk' _ _ (build24 _ _) ?_
    conv => whnf
    intro Wa hWa
    have hE8' := hcut.tr hE8
    have hba := h8.old
    conv => whnf
    refine ⟨W8.heap.size, 0, _, _, rfl, hWa.at_, Nat.le_of_ble_eq_true rfl, rfl, rfl, fun Wb hWb => ?_⟩
    have eb := hWb.e hWa.e (Nat.le_refl _)
    have hb8 : Wb.heap[W8.heap.size]? = some (.cells #[.slice none 0 0, .int .i64 s'.at_, .slice none 0 0] 24 (0, 0)) := hWb.at_
    have hszb : Wb.heap.size = W8.heap.size + 1 := by rw [hWb.size, hWa.size]
    generalize W8.heap.size = b8 at hb8 hszb hba hrbK ⊢
    replace h8 := h8.ext eb
    replace h4e := eb.at_ h4e
    replace hli8 := hli8.ext eb
    replace hki8 := hki8.ext eb
    replace hE8' := hE8'.tr eb
    have hne8 : base ≠ b8 := fun e => by
      have i1 := h8.cell
      rw [e, hb8] at i1
      injection i1 with i1
      injection i1 with _ i1
      exact absurd i1 (by decide)
    clear hWa hWb eb
    conv => whnf
    refine VDraw.mk' tab_ok (fun V => V.heap[base]? = Wb.heap[base]? ∧ V.heap[b8]? = Wb.heap[b8]?) [7, 9] (.take 0 <| .take 1 <| .take 2 <| .take 3 <| .take 4 <| .take 5 <| .take 6 <| .one 7 <| .take 8 <| .one 9 <| .done) mixed (by kernel_rfl) (by kernel_rfl) ⟨rfl, rfl⟩ ?_
    have hd := Ext.drew Wb
    conv => whnf
    refine ⟨_, fun w' hs => ld (hs.2.trans hb8) rfl rfl, ?_⟩
    conv => whnf
    refine ⟨_, fun w' hs => ld (hs.1.trans h8.cell) rfl rfl, ?_⟩
    conv => whnf
    refine run_append inf3 Try.underlying22 rfl (by decide) (own_nil_ _ base 3 1) (hli8.ext hd).rd (one_ints _) (by simp only [maxLen]; omega) (by omega) (Nat.le_trans h8.old hd.le) ?_
    intro v1 Wc hown1 hg1 hat1
    have ec : Ext Wb Wc := hd.tr (ext_row (Ext.refl _) hg1 (own_nil_ _ (Wb.drew).heap.size 3 1) (Nat.le_refl _))
    simp only [Nat.zero_add, List.nil_append] at hown1
    obtain ⟨R1, r1, rfl⟩ := own_form hown1
    replace h8 := h8.ext ec
    replace h4e := ec.at_ h4e
    replace hb8 := ec.at_ hb8
    replace hki8 := hki8.ext ec
    replace hE8' := hE8'.tr ec
    replace hszb : b8 < Wc.heap.size := at_lt hb8
    clear ec hd hg1 hat1
    conv => whnf
    refine ⟨b8, 0, _, _, rfl, hb8, Nat.le_of_ble_eq_true rfl, rfl, rfl, fun Wd hWd => ?_⟩
    have hb8d : Wd.heap[b8]? = some (.cells #[.slice R1 s'.line.length r1, .int .i64 s'.at_, .slice none 0 0] 24 (0, 0)) := hWd.at_
    have hcd := hWd.keep h8.cell hne8
    have h4d := hWd.keep h4e (by omega)
    have hown1d := own_put hown1 hWd hb8 (by decide)
    have hactd := own_put h8.acts hWd hb8 (by decide)
    have hneK : rb (.slice KA' s'.kill.length kc') ≠ some b8 := fun e => by have i1 := hrbK _ e; omega
    have hkd := (h8.kill.put hWd hneK).form
    have hEd := hWd.e hE8' (by omega)
    have hsd : base ≤ Wd.heap.size := by rw [hWd.size]; exact h8.old
    clear hWd hown1 hb8 h8 hE8' h4e hli8 hki8
    obtain ⟨_, _, e, hkid, _⟩ := hkd
    cases e
    conv => whnf
    refine VDraw.mk' tab_ok (fun V => V.heap[base]? = Wd.heap[base]? ∧ V.heap[b8]? = Wd.heap[b8]?) [7, 9] (.take 0 <| .take 1 <| .take 2 <| .take 3 <| .take 4 <| .take 5 <| .take 6 <| .one 7 <| .take 8 <| .one 9 <| .done) mixed (by kernel_rfl) (by kernel_rfl) ⟨rfl, rfl⟩ ?_
    have hd := Ext.drew Wd
    conv => whnf
    refine ⟨_, fun w' hs => ld (hs.2.trans hb8d) rfl rfl, ?_⟩
    conv => whnf
    refine ⟨_, fun w' hs => ld (hs.1.trans hcd) rfl rfl, ?_⟩
    conv => whnf
    refine run_append inf3 Try.underlying22 rfl (by decide) (own_nil_ _ base 3 1) (hkid.ext hd).rd (one_ints _) (by simp only [maxLen]; omega) (by omega) (Nat.le_trans hsd hd.le) ?_
    intro v2 We hown2 hg2 hat2
    have ee : Ext Wd We := hd.tr (ext_row (Ext.refl _) hg2 (own_nil_ _ (Wd.drew).heap.size 3 1) (Nat.le_refl _))
    simp only [Nat.zero_add, List.nil_append] at hown2
    obtain ⟨R2, r2, rfl⟩ := own_form hown2
    have hb8e := ee.at_ hb8d
    have hce := ee.at_ hcd
    have h4f := ee.at_ h4d
    have hown1e := own_ext hown1d ee
    have hacte := own_ext hactd ee
    have hEe := hEd.tr ee
    clear ee hd hg2 hat2 hown1d hactd hcd h4d hb8d hEd
    conv => whnf
    refine ⟨b8, 2, _, _, rfl, hb8e, Nat.le_of_ble_eq_true rfl, rfl, rfl, fun Wf hWf => ?_⟩
    have hb8f : Wf.heap[b8]? = some (.cells #[.slice R1 s'.line.length r1, .int .i64 s'.at_, .slice R2 s'.kill.length r2] 24 (0, 0)) := hWf.at_
    have hcf := hWf.keep hce hne8
    have h4g := hWf.keep h4f (by omega)
    have hownf := own_put hown1e hWf hb8e (by decide)
    have hownk := own_put hown2 hWf hb8e (by decide)
    have hactf := own_put hacte hWf hb8e (by decide)
    have hEf := hWf.e hEe (by omega)
    clear hWf hown1e hown2 hacte hce h4f hb8e hEe
    conv => whnf
    refine VDraw.mk' tab_ok (fun V => V.heap[base]? = Wf.heap[base]? ∧ V.heap[b8]? = Wf.heap[b8]?) [] (.take 0 <| .take 1 <| .take 2 <| .take 3 <| .take 4 <| .one 5 <| .take 6 <| .done) mixed (by kernel_rfl) (by kernel_rfl) ⟨rfl, rfl⟩ ?_
    have hd := Ext.drew Wf
    conv => whnf
    refine ⟨[.slice R1 s'.line.length r1, .int .i64 s'.at_, .slice R2 s'.kill.length r2], rfl, fun w' hs => lds (hs.2.trans hb8f) rfl rfl, ?_⟩
    conv => whnf
    refine ⟨_, fun w' hs => ld (hs.1.trans hcf) rfl rfl, ?_⟩
    conv => whnf
    refine ⟨b4, 0, _, _, rfl, hd.at_ h4g, Nat.le_of_ble_eq_true rfl, rfl, rfl, fun Wg hWg => ?_⟩
    conv => whnf
    refine ⟨⟨hWg.ne base (by omega), hWg.ne b8 (by omega)⟩, ?_⟩
    conv => whnf
    refine ⟨[.slice R1 s'.line.length r1, .int .i64 s'.at_, .slice R2 s'.kill.length r2], rfl, lds hWg.at_ rfl rfl, ?_⟩
    have h4h := hd.at_ h4g
    refine ⟨hWg.e (hEf.tr hd) (by omega), _, _, _, rfl, ?_⟩
    exact ⟨own_weak (own_put (own_ext hownf hd) hWg h4h (by decide)) (by omega), own_weak (own_put (own_ext hownk hd) hWg h4h (by decide)) (by omega), own_weak (own_put (own_ext hactf hd) hWg h4h (by decide)) (by omega)⟩
  rw [if_neg k6]
  intro t k7
  cases t <;> simp only [VB] at k7 <;> (conv => whnf)
  case true =>
    rw [if_pos k7]
    refine (fn31 98 hwk htx hts (Nat.le_refl _) hle hs0.1 hs0.2.1 (by omega)).mono ?_
    rintro v W8 ⟨hE8, L', K', T', h8⟩
    conv => whnf
    have hrbK : ∀ k, rb K' = some k → k < W8.heap.size := h8.kill.lt
    generalize ctrlS s 98 = s' at h8 ⊢
    have h4e : W8.heap[b4]? = _ := hE8.at_ (by rw [trunc_at (by omega)]; exact h4)
    obtain ⟨LA, lc, rfl, hli8, _⟩ := h8.line.form
    obtain ⟨KA', kc', rfl, hki8, _⟩ := h8.kill.form
    have hf8 := h8.few
    have hkf8 := h8.kfew
    refine ⟨_, ld h8.cell rfl rfl, ?_⟩
    conv => whnf
    refine Run.mk' _ _ (build24 _ _) ?_
    conv => whnf
    intro Wa hWa
    have hE8' := hcut.tr hE8
    have hba := h8.old
    conv => whnf
    refine ⟨W8.heap.size, 0, _, _, rfl, hWa.at_, Nat.le_of_ble_eq_true rfl, rfl, rfl, fun Wb hWb => ?_⟩
    have eb := hWb.e hWa.e (Nat.le_refl _)
    have hb8 : Wb.heap[W8.heap.size]? = some (.cells #[.slice none 0 0, .int .i64 s'.at_, .slice none 0 0] 24 (0, 0)) := hWb.at_
    have hszb : Wb.heap.size = W8.heap.size + 1 := by rw [hWb.size, hWa.size]
    generalize W8.heap.size = b8 at hb8 hszb hba hrbK ⊢
    replace h8 := h8.ext eb
    replace h4e := eb.at_ h4e
    replace hli8 := hli8.ext eb
    replace hki8 := hki8.ext eb
    replace hE8' := hE8'.tr eb
    have hne8 : base ≠ b8 := fun e => by
      have i1 := h8.cell
      rw [e, hb8] at i1
      injection i1 with i1
      injection i1 with _ i1
      exact absurd i1 (by decide)
    clear hWa hWb eb
    conv => whnf
    refine VDraw.mk' tab_ok (fun V => V.heap[base]? = Wb.heap[base]? ∧ V.heap[b8]? = Wb.heap[b8]?) [7, 9] (.take 0 <| .take 1 <| .take 2 <| .take 3 <| .take 4 <| .take 5 <| .take 6 <| .one 7 <| .take 8 <| .one 9 <| .done) mixed (by kernel_rfl) (by kernel_rfl) ⟨rfl, rfl⟩ ?_
    have hd := Ext.drew Wb
    conv => whnf
    refine ⟨_, fun w' hs => ld (hs.2.trans hb8) rfl rfl, ?_⟩
    conv => whnf
    refine ⟨_, fun w' hs => ld (hs.1.trans h8.cell) rfl rfl, ?_⟩
    conv => whnf
    refine run_append inf3 Try.underlying22 rfl (by decide) (own_nil_ _ base 3 1) (hli8.ext hd).rd (one_ints _) (by simp only [maxLen]; omega) (by omega) (Nat.le_trans h8.old hd.le) ?_
    intro v1 Wc hown1 hg1 hat1
    have ec : Ext Wb Wc := hd.tr (ext_row (Ext.refl _) hg1 (own_nil_ _ (Wb.drew).heap.size 3 1) (Nat.le_refl _))
    simp only [Nat.zero_add, List.nil_append] at hown1
    obtain ⟨R1, r1, rfl⟩ := own_form hown1
    replace h8 := h8.ext ec
    replace h4e := ec.at_ h4e
    replace hb8 := ec.at_ hb8
    replace hki8 := hki8.ext ec
    replace hE8' := hE8'.tr ec
    replace hszb : b8 < Wc.heap.size := at_lt hb8
    clear ec hd hg1 hat1
    conv => whnf
    refine ⟨b8, 0, _, _, rfl, hb8, Nat.le_of_ble_eq_true rfl, rfl, rfl, fun Wd hWd => ?_⟩
    have hb8d : Wd.heap[b8]? = some (.cells #[.slice R1 s'.line.length r1, .int .i64 s'.at_, .slice none 0 0] 24 (0, 0)) := hWd.at_
    have hcd := hWd.keep h8.cell hne8
    have h4d := hWd.keep h4e (by omega)
    have hown1d := own_put hown1 hWd hb8 (by decide)
    have hactd := own_put h8.acts hWd hb8 (by decide)
    have hneK : rb (.slice KA' s'.kill.length kc') ≠ some b8 := fun e => by have i1 := hrbK _ e; omega
    have hkd := (h8.kill.put hWd hneK).form
    have hEd := hWd.e hE8' (by omega)
    have hsd : base ≤ Wd.heap.size := by rw [hWd.size]; exact h8.old
    clear hWd hown1 hb8 h8 hE8' h4e hli8 hki8
    obtain ⟨_, _, e, hkid, _⟩ := hkd
    cases e
    conv => whnf
    refine VDraw.mk' tab_ok (fun V => V.heap[base]? = Wd.heap[base]? ∧ V.heap[b8]? = Wd.heap[b8]?) [7, 9] (.take 0 <| .take 1 <| .take 2 <| .take 3 <| .take 4 <| .take 5 <| .take 6 <| .one 7 <| .take 8 <| .one 9 <| .done) mixed (by kernel_rfl) (by kernel_rfl) ⟨rfl, rfl⟩ ?_
    have hd := Ext.drew Wd
    conv => whnf
    refine ⟨_, fun w' hs => ld (hs.2.trans hb8d) rfl rfl, ?_⟩
    conv => whnf
    refine ⟨_, fun w' hs => ld (hs.1.trans hcd) rfl rfl, ?_⟩
    conv => whnf
    refine run_append inf3 Try.underlying22 rfl (by decide) (own_nil_ _ base 3 1) (hkid.ext hd).rd (one_ints _) (by simp only [maxLen]; omega) (by omega) (Nat.le_trans hsd hd.le) ?_
    intro v2 We hown2 hg2 hat2
    have ee : Ext Wd We := hd.tr (ext_row (Ext.refl _) hg2 (own_nil_ _ (Wd.drew).heap.size 3 1) (Nat.le_refl _))
    simp only [Nat.zero_add, List.nil_append] at hown2
    obtain ⟨R2, r2, rfl⟩ := own_form hown2
    have hb8e := ee.at_ hb8d
    have hce := ee.at_ hcd
    have h4f := ee.at_ h4d
    have hown1e := own_ext hown1d ee
    have hacte := own_ext hactd ee
    have hEe := hEd.tr ee
    clear ee hd hg2 hat2 hown1d hactd hcd h4d hb8d hEd
    conv => whnf
    refine ⟨b8, 2, _, _, rfl, hb8e, Nat.le_of_ble_eq_true rfl, rfl, rfl, fun Wf hWf => ?_⟩
    have hb8f : Wf.heap[b8]? = some (.cells #[.slice R1 s'.line.length r1, .int .i64 s'.at_, .slice R2 s'.kill.length r2] 24 (0, 0)) := hWf.at_
    have hcf := hWf.keep hce hne8
    have h4g := hWf.keep h4f (by omega)
    have hownf := own_put hown1e hWf hb8e (by decide)
    have hownk := own_put hown2 hWf hb8e (by decide)
    have hactf := own_put hacte hWf hb8e (by decide)
    have hEf := hWf.e hEe (by omega)
    clear hWf hown1e hown2 hacte hce h4f hb8e hEe
    conv => whnf
    refine VDraw.mk' tab_ok (fun V => V.heap[base]? = Wf.heap[base]? ∧ V.heap[b8]? = Wf.heap[b8]?) [] (.take 0 <| .take 1 <| .take 2 <| .take 3 <| .take 4 <| .one 5 <| .take 6 <| .done) mixed (by kernel_rfl) (by kernel_rfl) ⟨rfl, rfl⟩ ?_
    have hd := Ext.drew Wf
    conv => whnf
    refine ⟨[.slice R1 s'.line.length r1, .int .i64 s'.at_, .slice R2 s'.kill.length r2], rfl, fun w' hs => lds (hs.2.trans hb8f) rfl rfl, ?_⟩
    conv => whnf
    refine ⟨_, fun w' hs => ld (hs.1.trans hcf) rfl rfl, ?_⟩
    conv => whnf
    refine ⟨b4, 0, _, _, rfl, hd.at_ h4g, Nat.le_of_ble_eq_true rfl, rfl, rfl, fun Wg hWg => ?_⟩
    conv => whnf
    refine ⟨⟨hWg.ne base (by omega), hWg.ne b8 (by omega)⟩, ?_⟩
    conv => whnf
    refine ⟨[.slice R1 s'.line.length r1, .int .i64 s'.at_, .slice R2 s'.kill.length r2], rfl, lds hWg.at_ rfl rfl, ?_⟩
    have h4h := hd.at_ h4g
    refine ⟨hWg.e (hEf.tr hd) (by omega), _, _, _, rfl, ?_⟩
    exact ⟨own_weak (own_put (own_ext hownf hd) hWg h4h (by decide)) (by omega), own_weak (own_put (own_ext hownk hd) hWg h4h (by decide)) (by omega), own_weak (own_put (own_ext hactf hd) hWg h4h (by decide)) (by omega)⟩
  rw [if_neg k7]
  intro t k8
  cases t <;> simp only [VB] at k8 <;> (conv => whnf)
  case true =>
    rw [if_pos k8]
    refine (fn31 97 hwk htx hts (Nat.le_refl _) hle hs0.1 hs0.2.1 (by omega)).mono ?_
    rintro v W8 ⟨hE8, L', K', T', h8⟩
    conv => whnf
    have hrbK : ∀ k, rb K' = some k → k < W8.heap.size := h8.kill.lt
    generalize ctrlS s 97 = s' at h8 ⊢
    have h4e : W8.heap[b4]? = _ := hE8.at_ (by rw [trunc_at (by omega)]; exact h4)
    obtain ⟨LA, lc, rfl, hli8, _⟩ := h8.line.form
    obtain ⟨KA', kc', rfl, hki8, _⟩ := h8.kill.form
    have hf8 := h8.few
    have hkf8 := h8.kfew
    refine ⟨_, ld h8.cell rfl rfl, ?_⟩
    conv => whnf
    refine Run.mk' _ _ (build24 _ _) ?_
    conv => whnf
    intro Wa hWa
    have hE8' := hcut.tr hE8
    have hba := h8.old
    conv => whnf
    refine ⟨W8.heap.size, 0, _, _, rfl, hWa.at_, Nat.le_of_ble_eq_true rfl, rfl, rfl, fun Wb hWb => ?_⟩
    have eb := hWb.e hWa.e (Nat.le_refl _)
    have hb8 : Wb.heap[W8.heap.size]? = some (.cells #[.slice none 0 0, .int .i64 s'.at_, .slice none 0 0] 24 (0, 0)) := hWb.at_
    have hszb : Wb.heap.size = W8.heap.size + 1 := by rw [hWb.size, hWa.size]
    generalize W8.heap.size = b8 at hb8 hszb hba hrbK ⊢
    replace h8 := h8.ext eb
    replace h4e := eb.at_ h4e
    replace hli8 := hli8.ext eb
    replace hki8 := hki8.ext eb
    replace hE8' := hE8'.tr eb
    have hne8 : base ≠ b8 := fun e => by
      have i1 := h8.cell
      rw [e, hb8] at i1
      injection i1 with i1
      injection i1 with _ i1
      exact absurd i1 (by decide)
    clear hWa hWb eb
    conv => whnf
    refine VDraw.mk' tab_ok (fun V => V.heap[base]? = Wb.heap[base]? ∧ V.heap[b8]? = Wb.heap[b8]?) [7, 9] (.take 0 <| .take 1 <| .take 2 <| .take 3 <| .take 4 <| .take 5 <| .take 6 <| .one 7 <| .take 8 <| .one 9 <| .done) mixed (by kernel_rfl) (by kernel_rfl) ⟨rfl, rfl⟩ ?_
    have hd := Ext.drew Wb
    conv => whnf
    refine ⟨_, fun w' hs => ld (hs.2.trans hb8) rfl rfl, ?_⟩
    conv => whnf
    refine ⟨_, fun w' hs => ld (hs.1.trans h8.cell) rfl rfl, ?_⟩
    conv => whnf
    refine run_append inf3 Try.underlying22 rfl (by decide) (own_nil_ _ base 3 1) (hli8.ext hd).rd (one_ints _) (by simp only [maxLen]; omega) (by omega) (Nat.le_trans h8.old hd.le) ?_
    intro v1 Wc hown1 hg1 hat1
    have ec : Ext Wb Wc := hd.tr (ext_row (Ext.refl _) hg1 (own_nil_ _ (Wb.drew).heap.size 3 1) (Nat.le_refl _))
    simp only [Nat.zero_add, List.nil_append] at hown1
    obtain ⟨R1, r1, rfl⟩ := own_form hown1
    replace h8 := h8.ext ec
    replace h4e := ec.at_ h4e
    replace hb8 := ec.at_ hb8
    replace hki8 := hki8.ext ec
    replace hE8' := hE8'.tr ec
    replace hszb : b8 < Wc.heap.size := at_lt hb8
    clear ec hd hg1 hat1
    conv => whnf
    refine ⟨b8, 0, _, _, rfl, hb8, Nat.le_of_ble_eq_true rfl, rfl, rfl, fun Wd hWd => ?_⟩
    have hb8d : Wd.heap[b8]? = some (.cells #[.slice R1 s'.line.length r1, .int .i64 s'.at_, .slice none 0 0] 24 (0, 0)) := hWd.at_
    have hcd := hWd.keep h8.cell hne8
    have h4d := hWd.keep h4e (by omega)
    have hown1d := own_put hown1 hWd hb8 (by decide)
    have hactd := own_put h8.acts hWd hb8 (by decide)
    have hneK : rb (.slice KA' s'.kill.length kc') ≠ some b8 := fun e => by have i1 := hrbK _ e; omega
    have hkd := (h8.kill.put hWd hneK).form
    have hEd := hWd.e hE8' (by omega)
    have hsd : base ≤ Wd.heap.size := by rw [hWd.size]; exact h8.old
    clear hWd hown1 hb8 h8 hE8' h4e hli8 hki8
    obtain ⟨_, _, e, hkid, _⟩ := hkd
    cases e
    conv => whnf
    refine VDraw.mk' tab_ok (fun V => V.heap[base]? = Wd.heap[base]? ∧ V.heap[b8]? = Wd.heap[b8]?) [7, 9] (.take 0 <| .take 1 <| .take 2 <| .take 3 <| .take 4 <| .take 5 <| .take 6 <| .one 7 <| .take 8 <| .one 9 <| .done) mixed (by kernel_rfl) (by kernel_rfl) ⟨rfl, rfl⟩ ?_
    have hd := Ext.drew Wd
    conv => whnf
    refine ⟨_, fun w' hs => ld (hs.2.trans hb8d) rfl rfl, ?_⟩
    conv => whnf
    refine ⟨_, fun w' hs => ld (hs.1.trans hcd) rfl rfl, ?_⟩
    conv => whnf
    refine run_append inf3 Try.underlying22 rfl (by decide) (own_nil_ _ base 3 1) (hkid.ext hd).rd (one_ints _) (by simp only [maxLen]; omega) (by omega) (Nat.le_trans hsd hd.le) ?_
    intro v2 We hown2 hg2 hat2
    have ee : Ext Wd We := hd.tr (ext_row (Ext.refl _) hg2 (own_nil_ _ (Wd.drew).heap.size 3 1) (Nat.le_refl _))
    simp only [Nat.zero_add, List.nil_append] at hown2
    obtain ⟨R2, r2, rfl⟩ := own_form hown2
    have hb8e := ee.at_ hb8d
    have hce := ee.at_ hcd
    have h4f := ee.at_ h4d
    have hown1e := own_ext hown1d ee
    have hacte := own_ext hactd ee
    have hEe := hEd.tr ee
    clear ee hd hg2 hat2 hown1d hactd hcd h4d hb8d hEd
    conv => whnf
    refine ⟨b8, 2, _, _, rfl, hb8e, Nat.le_of_ble_eq_true rfl, rfl, rfl, fun Wf hWf => ?_⟩
    have hb8f : Wf.heap[b8]? = some (.cells #[.slice R1 s'.line.length r1, .int .i64 s'.at_, .slice R2 s'.kill.length r2] 24 (0, 0)) := hWf.at_
    have hcf := hWf.keep hce hne8
    have h4g := hWf.keep h4f (by omega)
    have hownf := own_put hown1e hWf hb8e (by decide)
    have hownk := own_put hown2 hWf hb8e (by decide)
    have hactf := own_put hacte hWf hb8e (by decide)
    have hEf := hWf.e hEe (by omega)
    clear hWf hown1e hown2 hacte hce h4f hb8e hEe
    conv => whnf
    refine VDraw.mk' tab_ok (fun V => V.heap[base]? = Wf.heap[base]? ∧ V.heap[b8]? = Wf.heap[b8]?) [] (.take 0 <| .take 1 <| .take 2 <| .take 3 <| .take 4 <| .one 5 <| .take 6 <| .done) mixed (by kernel_rfl) (by kernel_rfl) ⟨rfl, rfl⟩ ?_
    have hd := Ext.drew Wf
    conv => whnf
    refine ⟨[.slice R1 s'.line.length r1, .int .i64 s'.at_, .slice R2 s'.kill.length r2], rfl, fun w' hs => lds (hs.2.trans hb8f) rfl rfl, ?_⟩
    conv => whnf
    refine ⟨_, fun w' hs => ld (hs.1.trans hcf) rfl rfl, ?_⟩
    conv => whnf
    refine ⟨b4, 0, _, _, rfl, hd.at_ h4g, Nat.le_of_ble_eq_true rfl, rfl, rfl, fun Wg hWg => ?_⟩
    conv => whnf
    refine ⟨⟨hWg.ne base (by omega), hWg.ne b8 (by omega)⟩, ?_⟩
    conv => whnf
    refine ⟨[.slice R1 s'.line.length r1, .int .i64 s'.at_, .slice R2 s'.kill.length r2], rfl, lds hWg.at_ rfl rfl, ?_⟩
    have h4h := hd.at_ h4g
    refine ⟨hWg.e (hEf.tr hd) (by omega), _, _, _, rfl, ?_⟩
    exact ⟨own_weak (own_put (own_ext hownf hd) hWg h4h (by decide)) (by omega), own_weak (own_put (own_ext hownk hd) hWg h4h (by decide)) (by omega), own_weak (own_put (own_ext hactf hd) hWg h4h (by decide)) (by omega)⟩
  rw [if_neg k8]
  intro t k9
  cases t <;> simp only [VB] at k9 <;> (conv => whnf)
  case true =>
    rw [if_pos k9]
    refine (fn31 101 hwk htx hts (Nat.le_refl _) hle hs0.1 hs0.2.1 (by omega)).mono ?_
    rintro v W8 ⟨hE8, L', K', T', h8⟩
    conv => whnf
    have hrbK : ∀ k, rb K' = some k → k < W8.heap.size := h8.kill.lt
    generalize ctrlS s 101 = s' at h8 ⊢
    have h4e : W8.heap[b4]? = _ := hE8.at_ (by rw [trunc_at (by omega)]; exact h4)
    obtain ⟨LA, lc, rfl, hli8, _⟩ := h8.line.form
    obtain ⟨KA', kc', rfl, hki8, _⟩ := h8.kill.form
    have hf8 := h8.few
    have hkf8 := h8.kfew
    refine ⟨_, ld h8.cell rfl rfl, ?_⟩
    conv => whnf
    refine Run.mk' _ _ (build24 _ _) ?_
    conv => whnf
    intro Wa hWa
    have hE8' := hcut.tr hE8
    have hba := h8.old
    conv => whnf
    refine ⟨W8.heap.size, 0, _, _, rfl, hWa.at_, Nat.le_of_ble_eq_true rfl, rfl, rfl, fun Wb hWb => ?_⟩
    have eb := hWb.e hWa.e (Nat.le_refl _)
    have hb8 : Wb.heap[W8.heap.size]? = some (.cells #[.slice none 0 0, .int .i64 s'.at_, .slice none 0 0] 24 (0, 0)) := hWb.at_
    have hszb : Wb.heap.size = W8.heap.size + 1 := by rw [hWb.size, hWa.size]
    generalize W8.heap.size = b8 at hb8 hszb hba hrbK ⊢
    replace h8 := h8.ext eb
    replace h4e := eb.at_ h4e
    replace hli8 := hli8.ext eb
    replace hki8 := hki8.ext eb
    replace hE8' := hE8'.tr eb
    have hne8 : base ≠ b8 := fun e => by
      have i1 := h8.cell
      rw [e, hb8] at i1
      injection i1 with i1
      injection i1 with _ i1
      exact absurd i1 (by decide)
    clear hWa hWb eb
    conv => whnf
    refine VDraw.mk' tab_ok (fun V => V.heap[base]? = Wb.heap[base]? ∧ V.heap[b8]? = Wb.heap[b8]?) [7, 9] (.take 0 <| .take 1 <| .take 2 <| .take 3 <| .take 4 <| .take 5 <| .take 6 <| .one 7 <| .take 8 <| .one 9 <| .done) mixed (by kernel_rfl) (by kernel_rfl) ⟨rfl, rfl⟩ ?_
    have hd := Ext.drew Wb
    conv => whnf
    refine ⟨_, fun w' hs => ld (hs.2.trans hb8) rfl rfl, ?_⟩
    conv => whnf
    refine ⟨_, fun w' hs => ld (hs.1.trans h8.cell) rfl rfl, ?_⟩
    conv => whnf
    refine run_append inf3 Try.underlying22 rfl (by decide) (own_nil_ _ base 3 1) (hli8.ext hd).rd (one_ints _) (by simp only [maxLen]; omega) (by omega) (Nat.le_trans h8.old hd.le) ?_
    intro v1 Wc hown1 hg1 hat1
    have ec : Ext Wb Wc := hd.tr (ext_row (Ext.refl _) hg1 (own_nil_ _ (Wb.drew).heap.size 3 1) (Nat.le_refl _))
    simp only [Nat.zero_add, List.nil_append] at hown1
    obtain ⟨R1, r1, rfl⟩ := own_form hown1
    replace h8 := h8.ext ec
    replace h4e := ec.at_ h4e
    replace hb8 := ec.at_ hb8
    replace hki8 := hki8.ext ec
    replace hE8' := hE8'.tr ec
    replace hszb : b8 < Wc.heap.size := at_lt hb8
    clear ec hd hg1 hat1
    conv => whnf
    refine ⟨b8, 0, _, _, rfl, hb8, Nat.le_of_ble_eq_true rfl, rfl, rfl, fun Wd hWd => ?_⟩
    have hb8d : Wd.heap[b8]? = some (.cells #[.slice R1 s'.line.length r1, .int .i64 s'.at_, .slice none 0 0] 24 (0, 0)) := hWd.at_
    have hcd := hWd.keep h8.cell hne8
    have h4d := hWd.keep h4e (by omega)
    have hown1d := own_put hown1 hWd hb8 (by decide)
    have hactd := own_put h8.acts hWd hb8 (by decide)
    have hneK : rb (.slice KA' s'.kill.length kc') ≠ some b8 := fun e => by have i1 := hrbK _ e; omega
    have hkd := (h8.kill.put hWd hneK).form
    have hEd := hWd.e hE8' (by omega)
    have hsd : base ≤ Wd.heap.size := by rw [hWd.size]; exact h8.old
    clear hWd hown1 hb8 h8 hE8' h4e hli8 hki8
    obtain ⟨_, _, e, hkid, _⟩ := hkd
    cases e
    conv => whnf
    refine VDraw.mk' tab_ok (fun V => V.heap[base]? = Wd.heap[base]? ∧ V.heap[b8]? = Wd.heap[b8]?) [7, 9] (.take 0 <| .take 1 <| .take 2 <| .take 3 <| .take 4 <| .take 5 <| .take 6 <| .one 7 <| .take 8 <| .one 9 <| .done) mixed (by kernel_rfl) (by kernel_rfl) ⟨rfl, rfl⟩ ?_
    have hd := Ext.drew Wd
    conv => whnf
    refine ⟨_, fun w' hs => ld (hs.2.trans hb8d) rfl rfl, ?_⟩
    conv => whnf
    refine ⟨_, fun w' hs => ld (hs.1.trans hcd) rfl rfl, ?_⟩
    conv => whnf
    refine run_append inf3 Try.underlying22 rfl (by decide) (own_nil_ _ base 3 1) (hkid.ext hd).rd (one_ints _) (by simp only [maxLen]; omega) (by omega) (Nat.le_trans hsd hd.le) ?_
    intro v2 We hown2 hg2 hat2
    have ee : Ext Wd We := hd.tr (ext_row (Ext.refl _) hg2 (own_nil_ _ (Wd.drew).heap.size 3 1) (Nat.le_refl _))
    simp only [Nat.zero_add, List.nil_append] at hown2
    obtain ⟨R2, r2, rfl⟩ := own_form hown2
    have hb8e := ee.at_ hb8d
    have hce := ee.at_ hcd
    have h4f := ee.at_ h4d
    have hown1e := own_ext hown1d ee
    have hacte := own_ext hactd ee
    have hEe := hEd.tr ee
    clear ee hd hg2 hat2 hown1d hactd hcd h4d hb8d hEd
    conv => whnf
    refine ⟨b8, 2, _, _, rfl, hb8e, Nat.le_of_ble_eq_true rfl, rfl, rfl, fun Wf hWf => ?_⟩
    have hb8f : Wf.heap[b8]? = some (.cells #[.slice R1 s'.line.length r1, .int .i64 s'.at_, .slice R2 s'.kill.length r2] 24 (0, 0)) := hWf.at_
    have hcf := hWf.keep hce hne8
    have h4g := hWf.keep h4f (by omega)
    have hownf := own_put hown1e hWf hb8e (by decide)
    have hownk := own_put hown2 hWf hb8e (by decide)
    have hactf := own_put hacte hWf hb8e (by decide)
    have hEf := hWf.e hEe (by omega)
    clear hWf hown1e hown2 hacte hce h4f hb8e hEe
    conv => whnf
    refine VDraw.mk' tab_ok (fun V => V.heap[base]? = Wf.heap[base]? ∧ V.heap[b8]? = Wf.heap[b8]?) [] (.take 0 <| .take 1 <| .take 2 <| .take 3 <| .take 4 <| .one 5 <| .take 6 <| .done) mixed (by kernel_rfl) (by kernel_rfl) ⟨rfl, rfl⟩ ?_
    have hd := Ext.drew Wf
    conv => whnf
    refine ⟨[.slice R1 s'.line.length r1, .int .i64 s'.at_, .slice R2 s'.kill.length r2], rfl, fun w' hs => lds (hs.2.trans hb8f) rfl rfl, ?_⟩
    conv => whnf
    refine ⟨_, fun w' hs => ld (hs.1.trans hcf) rfl rfl, ?_⟩
    conv => whnf
    refine ⟨b4, 0, _, _, rfl, hd.at_ h4g, Nat.le_of_ble_eq_true rfl, rfl, rfl, fun Wg hWg => ?_⟩
    conv => whnf
    refine ⟨⟨hWg.ne base (by omega), hWg.ne b8 (by omega)⟩, ?_⟩
    conv => whnf
    refine ⟨[.slice R1 s'.line.length r1, .int .i64 s'.at_, .slice R2 s'.kill.length r2], rfl, lds hWg.at_ rfl rfl, ?_⟩
    have h4h := hd.at_ h4g
    refine ⟨hWg.e (hEf.tr hd) (by omega), _, _, _, rfl, ?_⟩
    exact ⟨own_weak (own_put (own_ext hownf hd) hWg h4h (by decide)) (by omega), own_weak (own_put (own_ext hownk hd) hWg h4h (by decide)) (by omega), own_weak (own_put (own_ext hactf hd) hWg h4h (by decide)) (by omega)⟩
  rw [if_neg k9]
  intro t k10
  cases t <;> simp only [VB] at k10 <;> (conv => whnf)
  case true =>
    rw [if_pos k10]
    refine (fn31 100 hwk htx hts (Nat.le_refl _) hle hs0.1 hs0.2.1 (by omega)).mono ?_
    rintro v W8 ⟨hE8, L', K', T', h8⟩
    conv => whnf
    have hrbK : ∀ k, rb K' = some k → k < W8.heap.size := h8.kill.lt
    generalize ctrlS s 100 = s' at h8 ⊢
    have h4e : W8.heap[b4]? = _ := hE8.at_ (by rw [trunc_at (by omega)]; exact h4)
    obtain ⟨LA, lc, rfl, hli8, _⟩ := h8.line.form
    obtain ⟨KA', kc', rfl, hki8, _⟩ := h8.kill.form
    have hf8 := h8.few
    have hkf8 := h8.kfew
    refine ⟨_, ld h8.cell rfl rfl, ?_⟩
    conv => whnf
    refine Run.mk' _ _ (build24 _ _) ?_
    conv => whnf
    intro Wa hWa
    have hE8' := hcut.tr hE8
    have hba := h8.old
    conv => whnf
    refine ⟨W8.heap.size, 0, _, _, rfl, hWa.at_, Nat.le_of_ble_eq_true rfl, rfl, rfl, fun Wb hWb => ?_⟩
    have eb := hWb.e hWa.e (Nat.le_refl _)
    have hb8 : Wb.heap[W8.heap.size]? = some (.cells #[.slice none 0 0, .int .i64 s'.at_, .slice none 0 0] 24 (0, 0)) := hWb.at_
    have hszb : Wb.heap.size = W8.heap.size + 1 := by rw [hWb.size, hWa.size]
    generalize W8.heap.size = b8 at hb8 hszb hba hrbK ⊢
    replace h8 := h8.ext eb
    replace h4e := eb.at_ h4e
    replace hli8 := hli8.ext eb
    replace hki8 := hki8.ext eb
    replace hE8' := hE8'.tr eb
    have hne8 : base ≠ b8 := fun e => by
      have i1 := h8.cell
      rw [e, hb8] at i1
      injection i1 with i1
      injection i1 with _ i1
      exact absurd i1 (by decide)
    clear hWa hWb eb
    conv => whnf
    refine VDraw.mk' tab_ok (fun V => V.heap[base]? = Wb.heap[base]? ∧ V.heap[b8]? = Wb.heap[b8]?) [7, 9] (.take 0 <| .take 1 <| .take 2 <| .take 3 <| .take 4 <| .take 5 <| .take 6 <| .one 7 <| .take 8 <| .one 9 <| .done) mixed (by kernel_rfl) (by kernel_rfl) ⟨rfl, rfl⟩ ?_
    have hd := Ext.drew Wb
    conv => whnf
    refine ⟨_, fun w' hs => ld (hs.2.trans hb8) rfl rfl, ?_⟩
    conv => whnf
    refine ⟨_, fun w' hs => ld (hs.1.trans h8.cell) rfl rfl, ?_⟩
    conv => whnf
    refine run_append inf3 Try.underlying22 rfl (by decide) (own_nil_ _ base 3 1) (hli8.ext hd).rd (one_ints _) (by simp only [maxLen]; omega) (by omega) (Nat.le_trans h8.old hd.le) ?_
    intro v1 Wc hown1 hg1 hat1
    have ec : Ext Wb Wc := hd.tr (ext_row (Ext.refl _) hg1 (own_nil_ _ (Wb.drew).heap.size 3 1) (Nat.le_refl _))
    simp only [Nat.zero_add, List.nil_append] at hown1
    obtain ⟨R1, r1, rfl⟩ := own_form hown1
    replace h8 := h8.ext ec
    replace h4e := ec.at_ h4e
    replace hb8 := ec.at_ hb8
    replace hki8 := hki8.ext ec
    replace hE8' := hE8'.tr ec
    replace hszb : b8 < Wc.heap.size := at_lt hb8
    clear ec hd hg1 hat1
    conv => whnf
    refine ⟨b8, 0, _, _, rfl, hb8, Nat.le_of_ble_eq_true rfl, rfl, rfl, fun Wd hWd => ?_⟩
    have hb8d : Wd.heap[b8]? = some (.cells #[.slice R1 s'.line.length r1, .int .i64 s'.at_, .slice none 0 0] 24 (0, 0)) := hWd.at_
    have hcd := hWd.keep h8.cell hne8
    have h4d := hWd.keep h4e (by omega)
    have hown1d := own_put hown1 hWd hb8 (by decide)
    have hactd := own_put h8.acts hWd hb8 (by decide)
    have hneK : rb (.slice KA' s'.kill.length kc') ≠ some b8 := fun e => by have i1 := hrbK _ e; omega
    have hkd := (h8.kill.put hWd hneK).form
    have hEd := hWd.e hE8' (by omega)
    have hsd : base ≤ Wd.heap.size := by rw [hWd.size]; exact h8.old
    clear hWd hown1 hb8 h8 hE8' h4e hli8 hki8
    obtain ⟨_, _, e, hkid, _⟩ := hkd
    cases e
    conv => whnf
    refine VDraw.mk' tab_ok (fun V => V.heap[base]? = Wd.heap[base]? ∧ V.heap[b8]? = Wd.heap[b8]?) [7, 9] (.take 0 <| .take 1 <| .take 2 <| .take 3 <| .take 4 <| .take 5 <| .take 6 <| .one 7 <| .take 8 <| .one 9 <| .done) mixed (by kernel_rfl) (by kernel_rfl) ⟨rfl, rfl⟩ ?_
    have hd := Ext.drew Wd
    conv => whnf
    refine ⟨_, fun w' hs => ld (hs.2.trans hb8d) rfl rfl, ?_⟩
    conv => whnf
    refine ⟨_, fun w' hs => ld (hs.1.trans hcd) rfl rfl, ?_⟩
    conv => whnf
    refine run_append inf3 Try.underlying22 rfl (by decide) (own_nil_ _ base 3 1) (hkid.ext hd).rd (one_ints _) (by simp only [maxLen]; omega) (by omega) (Nat.le_trans hsd hd.le) ?_
    intro v2 We hown2 hg2 hat2
    have ee : Ext Wd We := hd.tr (ext_row (Ext.refl _) hg2 (own_nil_ _ (Wd.drew).heap.size 3 1) (Nat.le_refl _))
    simp only [Nat.zero_add, List.nil_append] at hown2
    obtain ⟨R2, r2, rfl⟩ := own_form hown2
    have hb8e := ee.at_ hb8d
    have hce := ee.at_ hcd
    have h4f := ee.at_ h4d
    have hown1e := own_ext hown1d ee
    have hacte := own_ext hactd ee
    have hEe := hEd.tr ee
    clear ee hd hg2 hat2 hown1d hactd hcd h4d hb8d hEd
    conv => whnf
    refine ⟨b8, 2, _, _, rfl, hb8e, Nat.le_of_ble_eq_true rfl, rfl, rfl, fun Wf hWf => ?_⟩
    have hb8f : Wf.heap[b8]? = some (.cells #[.slice R1 s'.line.length r1, .int .i64 s'.at_, .slice R2 s'.kill.length r2] 24 (0, 0)) := hWf.at_
    have hcf := hWf.keep hce hne8
    have h4g := hWf.keep h4f (by omega)
    have hownf := own_put hown1e hWf hb8e (by decide)
    have hownk := own_put hown2 hWf hb8e (by decide)
    have hactf := own_put hacte hWf hb8e (by decide)
    have hEf := hWf.e hEe (by omega)
    clear hWf hown1e hown2 hacte hce h4f hb8e hEe
    conv => whnf
    refine VDraw.mk' tab_ok (fun V => V.heap[base]? = Wf.heap[base]? ∧ V.heap[b8]? = Wf.heap[b8]?) [] (.take 0 <| .take 1 <| .take 2 <| .take 3 <| .take 4 <| .one 5 <| .take 6 <| .done) mixed (by kernel_rfl) (by kernel_rfl) ⟨rfl, rfl⟩ ?_
    have hd := Ext.drew Wf
    conv => whnf
    refine ⟨[.slice R1 s'.line.length r1, .int .i64 s'.at_, .slice R2 s'.kill.length r2], rfl, fun w' hs => lds (hs.2.trans hb8f) rfl rfl, ?_⟩
    conv => whnf
    refine ⟨_, fun w' hs => ld (hs.1.trans hcf) rfl rfl, ?_⟩
    conv => whnf
    refine ⟨b4, 0, _, _, rfl, hd.at_ h4g, Nat.le_of_ble_eq_true rfl, rfl, rfl, fun Wg hWg => ?_⟩
    conv => whnf
    refine ⟨⟨hWg.ne base (by omega), hWg.ne b8 (by omega)⟩, ?_⟩
    conv => whnf
    refine ⟨[.slice R1 s'.line.length r1, .int .i64 s'.at_, .slice R2 s'.kill.length r2], rfl, lds hWg.at_ rfl rfl, ?_⟩
    have h4h := hd.at_ h4g
    refine ⟨hWg.e (hEf.tr hd) (by omega), _, _, _, rfl, ?_⟩
    exact ⟨own_weak (own_put (own_ext hownf hd) hWg h4h (by decide)) (by omega), own_weak (own_put (own_ext hownk hd) hWg h4h (by decide)) (by omega), own_weak (own_put (own_ext hactf hd) hWg h4h (by decide)) (by omega)⟩
  rw [if_neg k10]
  have h8 := hwk
  have hE8 := htx
  have hW8 : W5 = W5 := rfl
  generalize Value.slice A n c = L' at h8
  generalize Value.slice KA kn kc = K' at h8
  generalize Value.slice none 0 0 = T' at h8
  have hrbK : ∀ k, rb K' = some k → k < W5.heap.size := h8.kill.lt
  generalize s = s' at h8 ⊢
  have h4e : W5.heap[b4]? = _ := hE8.at_ (by rw [trunc_at (by omega)]; exact h4)
  obtain ⟨LA, lc, rfl, hli8, _⟩ := h8.line.form
  obtain ⟨KA', kc', rfl, hki8, _⟩ := h8.kill.form
  have hf8 := h8.few
  have hkf8 := h8.kfew
  refine ⟨_, ld h8.cell rfl rfl, ?_⟩
  conv => whnf
  refine Run.mk' _ _ (build24 _ _) ?_
  conv => whnf
  intro Wa hWa
  have hE8' := hcut.tr hE8
  have hba := h8.old
  conv => whnf
  refine ⟨W5.heap.size, 0, _, _, rfl, hWa.at_, Nat.le_of_ble_eq_true rfl, rfl, rfl, fun Wb hWb => ?_⟩
  have eb := hWb.e hWa.e (Nat.le_refl _)
  have hb8 : Wb.heap[W5.heap.size]? = some (.cells #[.slice none 0 0, .int .i64 s'.at_, .slice none 0 0] 24 (0, 0)) := hWb.at_
  have hszb : Wb.heap.size = W5.heap.size + 1 := by rw [hWb.size, hWa.size]
  generalize W5.heap.size = b8 at hb8 hszb hba hrbK ⊢
  replace h8 := h8.ext eb
  replace h4e := eb.at_ h4e
  replace hli8 := hli8.ext eb
  replace hki8 := hki8.ext eb
  replace hE8' := hE8'.tr eb
  have hne8 : base ≠ b8 := fun e => by
    have i1 := h8.cell
    rw [e, hb8] at i1
    injection i1 with i1
    injection i1 with _ i1
    exact absurd i1 (by decide)
  clear hWa hWb eb
  conv => whnf
  refine VDraw.mk' tab_ok (fun V => V.heap[base]? = Wb.heap[base]? ∧ V.heap[b8]? = Wb.heap[b8]?) [7, 9] (.take 0 <| .take 1 <| .take 2 <| .take 3 <| .take 4 <| .take 5 <| .take 6 <| .one 7 <| .take 8 <| .one 9 <| .done) mixed (by kernel_rfl) (by kernel_rfl) ⟨rfl, rfl⟩ ?_
  have hd := Ext.drew Wb
  conv => whnf
  refine ⟨_, fun w' hs => ld (hs.2.trans hb8) rfl rfl, ?_⟩
  conv => whnf
  refine ⟨_, fun w' hs => ld (hs.1.trans h8.cell) rfl rfl, ?_⟩
  conv => whnf
  refine run_append inf3 Try.underlying22 rfl (by decide) (own_nil_ _ base 3 1) (hli8.ext hd).rd (one_ints _) (by simp only [maxLen]; omega) (by omega) (Nat.le_trans h8.old hd.le) ?_
  intro v1 Wc hown1 hg1 hat1
  have ec : Ext Wb Wc := hd.tr (ext_row (Ext.refl _) hg1 (own_nil_ _ (Wb.drew).heap.size 3 1) (Nat.le_refl _))
  simp only [Nat.zero_add, List.nil_append] at hown1
  obtain ⟨R1, r1, rfl⟩ := own_form hown1
  replace h8 := h8.ext ec
  replace h4e := ec.at_ h4e
  replace hb8 := ec.at_ hb8
  replace hki8 := hki8.ext ec
  replace hE8' := hE8'.tr ec
  replace hszb : b8 < Wc.heap.size := at_lt hb8
  clear ec hd hg1 hat1
  conv => whnf
  refine ⟨b8, 0, _, _, rfl, hb8, Nat.le_of_ble_eq_true rfl, rfl, rfl, fun Wd hWd => ?_⟩
  have hb8d : Wd.heap[b8]? = some (.cells #[.slice R1 s'.line.length r1, .int .i64 s'.at_, .slice none 0 0] 24 (0, 0)) := hWd.at_
  have hcd := hWd.keep h8.cell hne8
  have h4d := hWd.keep h4e (by omega)
  have hown1d := own_put hown1 hWd hb8 (by decide)
  have hactd := own_put h8.acts hWd hb8 (by decide)
  have hneK : rb (.slice KA' s'.kill.length kc') ≠ some b8 := fun e => by have i1 := hrbK _ e; omega
  have hkd := (h8.kill.put hWd hneK).form
  have hEd := hWd.e hE8' (by omega)
  have hsd : base ≤ Wd.heap.size := by rw [hWd.size]; exact h8.old
  clear hWd hown1 hb8 h8 hE8' h4e hli8 hki8
  obtain ⟨_, _, e, hkid, _⟩ := hkd
  cases e
  conv => whnf
  refine VDraw.mk' tab_ok (fun V => V.heap[base]? = Wd.heap[base]? ∧ V.heap[b8]? = Wd.heap[b8]?) [7, 9] (.take 0 <| .take 1 <| .take 2 <| .take 3 <| .take 4 <| .take 5 <| .take 6 <| .one 7 <| .take 8 <| .one 9 <| .done) mixed (by kernel_rfl) (by kernel_rfl) ⟨rfl, rfl⟩ ?_
  have hd := Ext.drew Wd
  conv => whnf
  refine ⟨_, fun w' hs => ld (hs.2.trans hb8d) rfl rfl, ?_⟩
  conv => whnf
  refine ⟨_, fun w' hs => ld (hs.1.trans hcd) rfl rfl, ?_⟩
  conv => whnf
  refine run_append inf3 Try.underlying22 rfl (by decide) (own_nil_ _ base 3 1) (hkid.ext hd).rd (one_ints _) (by simp only [maxLen]; omega) (by omega) (Nat.le_trans hsd hd.le) ?_
  intro v2 We hown2 hg2 hat2
  have ee : Ext Wd We := hd.tr (ext_row (Ext.refl _) hg2 (own_nil_ _ (Wd.drew).heap.size 3 1) (Nat.le_refl _))
  simp only [Nat.zero_add, List.nil_append] at hown2
  obtain ⟨R2, r2, rfl⟩ := own_form hown2
  have hb8e := ee.at_ hb8d
  have hce := ee.at_ hcd
  have h4f := ee.at_ h4d
  have hown1e := own_ext hown1d ee
  have hacte := own_ext hactd ee
  have hEe := hEd.tr ee
  clear ee hd hg2 hat2 hown1d hactd hcd h4d hb8d hEd
  conv => whnf
  refine ⟨b8, 2, _, _, rfl, hb8e, Nat.le_of_ble_eq_true rfl, rfl, rfl, fun Wf hWf => ?_⟩
  have hb8f : Wf.heap[b8]? = some (.cells #[.slice R1 s'.line.length r1, .int .i64 s'.at_, .slice R2 s'.kill.length r2] 24 (0, 0)) := hWf.at_
  have hcf := hWf.keep hce hne8
  have h4g := hWf.keep h4f (by omega)
  have hownf := own_put hown1e hWf hb8e (by decide)
  have hownk := own_put hown2 hWf hb8e (by decide)
  have hactf := own_put hacte hWf hb8e (by decide)
  have hEf := hWf.e hEe (by omega)
  clear hWf hown1e hown2 hacte hce h4f hb8e hEe
  conv => whnf
  refine VDraw.mk' tab_ok (fun V => V.heap[base]? = Wf.heap[base]? ∧ V.heap[b8]? = Wf.heap[b8]?) [] (.take 0 <| .take 1 <| .take 2 <| .take 3 <| .take 4 <| .one 5 <| .take 6 <| .done) mixed (by kernel_rfl) (by kernel_rfl) ⟨rfl, rfl⟩ ?_
  have hd := Ext.drew Wf
  conv => whnf
  refine ⟨[.slice R1 s'.line.length r1, .int .i64 s'.at_, .slice R2 s'.kill.length r2], rfl, fun w' hs => lds (hs.2.trans hb8f) rfl rfl, ?_⟩
  conv => whnf
  refine ⟨_, fun w' hs => ld (hs.1.trans hcf) rfl rfl, ?_⟩
  conv => whnf
  refine ⟨b4, 0, _, _, rfl, hd.at_ h4g, Nat.le_of_ble_eq_true rfl, rfl, rfl, fun Wg hWg => ?_⟩
  conv => whnf
  refine ⟨⟨hWg.ne base (by omega), hWg.ne b8 (by omega)⟩, ?_⟩
  conv => whnf
  refine ⟨[.slice R1 s'.line.length r1, .int .i64 s'.at_, .slice R2 s'.kill.length r2], rfl, lds hWg.at_ rfl rfl, ?_⟩
  have h4h := hd.at_ h4g
  refine ⟨hWg.e (hEf.tr hd) (by omega), _, _, _, rfl, ?_⟩
  exact ⟨own_weak (own_put (own_ext hownf hd) hWg h4h (by decide)) (by omega), own_weak (own_put (own_ext hownk hd) hWg h4h (by decide)) (by omega), own_weak (own_put (own_ext hactf hd) hWg h4h (by decide)) (by omega)⟩
end Go.Proofs.Ythphdaeaicjgmaa
