/- duetref04.Check: it answers as mesg.Check. -/
import Derived.Test.YtgcelfplgfloaaaB1
import Derived.Test.YtgcelfplgfloaaaA3
namespace Go.Proofs.Ytgcelfplgfloaaa
open Go Go.VC Go.RowKit
set_option linter.unusedVariables false
set_option linter.unusedSimpArgs false
set_option maxRecDepth 100000

theorem ok_op (m : MsgV) : m.ok = (m.c1 && m.c2 && m.c3 && opOk m.kind m.epoch m.idT m.idS m.refT m.refS m.rune m.site m.know.length) := by
  unfold MsgV.ok
  rw [Bool.eq_iff_iff]
  cases m.c1 <;> cases m.c2 <;> cases m.c3 <;> simp only [Bool.true_and, Bool.false_and, Bool.false_eq_true]
  simp only [MsgV.c4, MsgV.c5, MsgV.c6, MsgV.c7, MsgV.c8, opOk]
  obtain ⟨site, seq, know, kind, epoch, idT, idS, refT, refS, rune⟩ := m
  dsimp only
  have hz : ∀ t s n, t = 0 ∧ s = 0 → mayId t s n = false := by
    rintro t s n ⟨rfl, rfl⟩
    simp [mayId]
  generalize (know.length : Int) = n
  have hz1 := hz refT refS n
  clear hz
  generalize mayId refT refS n = a at *
  generalize mayId idT idS n = b at *
  generalize isClk epoch = e at *
  generalize runeOk rune = u at *
  by_cases h1 : kind = 1
  · subst h1; simp; grind
  by_cases h6 : kind = 6
  · subst h6; simp; grind
  by_cases h5 : kind = 5
  · subst h5; simp; grind
  by_cases h2 : kind = 2
  · subst h2; simp; grind
  by_cases h3 : kind = 3
  · subst h3; simp; grind
  by_cases h4 : kind = 4
  · subst h4; simp; grind
  by_cases h7 : kind = 7
  · subst h7; simp; grind
  by_cases h8 : kind = 8
  · subst h8; simp; grind
  have : ¬ (1 ≤ kind ∧ kind ≤ 8) := by omega
  simp [this, h1, h2, h3, h4, h5, h6, h7, h8]

theorem no_op {m : MsgV} (h : opOk m.kind m.epoch m.idT m.idS m.refT m.refS m.rune m.site m.know.length = false) : errN m.ok = .int .i64 1 := by
  rw [ok_op, h]; simp [errN]
theorem yes_op {m : MsgV} (h1 : m.c1 = true) (h2 : m.c2 = true) (h3 : m.c3 = true) (h : opOk m.kind m.epoch m.idT m.idS m.refT m.refS m.rune m.site m.know.length = true) : errN m.ok = .int .i64 0 := by
  rw [ok_op, h, h1, h2, h3]; rfl

set_option maxHeartbeats 4000000
theorem fn14 (m : MsgV) (A : Option Addr) (n c : Nat) (w : World) (h : Ints w A n m.know) :
    Ret Try.prog 14 #[.agg (m.cells A n c).toArray] w fun v w' => Ext w w' ∧ v = errN m.ok := by
  have hl := h.len
  have hm := h.small
  refine Ret.of_vc tab_ok Try.func14 rfl Try.ntmps14 rfl (Nat.le_of_ble_eq_true rfl) Try.call14 ?_
  conv => whnf
  intro W1 hW1
  have hb := hW1.at_
  have he1 := hW1.e
  generalize w.heap.size = b at hb
  conv => whnf
  refine ⟨_, ld hb rfl rfl, ?_⟩
  conv => whnf
  refine VDraw.mk' tab_ok (Ext W1) [] (.take 0 <| .take 1 <| .take 2 <| .take 3 <| .take 4 <| .take 5 <| .take 6 <| .take 7 <| .take 8 <| .take 9 <| .take 10 <| .take 11 <| .take 12 <| .take 13 <| .take 14 <| .take 15 <| .take 16 <| .take 17 <| .take 18 <| .take 19 <| .take 20 <| .take 21 <| .take 22 <| .take 23 <| .take 24 <| .one 25 <| .take 26 <| .take 27 <| .take 28 <| .take 29 <| .take 30 <| .take 31 <| .take 32 <| .take 33 <| .take 34 <| .take 35 <| .take 36 <| .take 37 <| .take 38 <| .take 39 <| .take 40 <| .take 41 <| .take 42 <| .take 43 <| .take 44 <| .take 45 <| .one 46 <| .take 47 <| .take 48 <| .done) mixed (by kernel_rfl) (by kernel_rfl) (Ext.drew _) ?_
  have he0 := Ext.drew W1
  generalize W1.drew = W at he0
  have hE := he1.tr he0
  conv => whnf
  intro t ht
  cases t <;> simp only [VB] at ht <;> (conv => whnf)
  case true => exact ⟨hE, (MsgV.no1 (by simp only [MsgV.c1, decide_eq_false_iff_not]; omega)).symm⟩
  intro t ht2
  cases t <;> simp only [VB] at ht2 <;> (conv => whnf)
  case true => exact ⟨hE, (MsgV.no1 (by simp only [MsgV.c1, decide_eq_false_iff_not]; omega)).symm⟩
  refine ⟨_, fun w' hs => hs.cell (ld hb rfl rfl), ?_⟩
  conv => whnf
  intro t ht3
  cases t <;> simp only [VB] at ht3 <;> (conv => whnf)
  case true => exact ⟨hE, (MsgV.no1 (by simp only [MsgV.c1, decide_eq_false_iff_not]; omega)).symm⟩
  refine ⟨_, fun w' hs => hs.cell (ld hb rfl rfl), ?_⟩
  conv => whnf
  intro t ht4
  cases t <;> simp only [VB] at ht4 <;> (conv => whnf)
  case true => exact ⟨hE, (MsgV.no1 (by simp only [MsgV.c1, decide_eq_false_iff_not]; omega)).symm⟩
  have hc1 : m.c1 = true := by simp only [MsgV.c1, decide_eq_true_eq]; omega
  refine ⟨_, fun w' hs => hs.cell (ld hb rfl rfl), ?_⟩
  conv => whnf
  intro t ht5
  cases t <;> simp only [VB] at ht5 <;> (conv => whnf)
  case true => exact ⟨hE, (MsgV.no2 (by simp only [MsgV.c2, Bool.and_eq_false_iff, decide_eq_false_iff_not]; omega)).symm⟩
  refine ⟨_, fun w' hs => hs.cell (ld hb rfl rfl), ?_⟩
  conv => whnf
  refine (fn38 _ _).mono ?_
  rintro _ _ ⟨t, rfl, ht6, rfl⟩
  conv => whnf
  refine ⟨he0, ?_⟩
  cases t <;> simp only [VB] at ht6 <;> (conv => whnf)
  case false => exact ⟨hE, (MsgV.no2 (by simp [MsgV.c2, isClk]; omega)).symm⟩
  obtain ⟨a, hA, hk⟩ := (h.ext he1).at_ (k := m.site.toNat) (by omega)
  refine ⟨_, fun w' hs => hs.cell (ld hb rfl rfl), ?_⟩
  conv => whnf
  refine ⟨_, fun w' hs => hs.cell (ld hb rfl rfl), ?_⟩
  conv => whnf
  refine ⟨by omega, by omega, a, hA, ?_⟩
  conv => whnf
  refine ⟨.int .i64 (m.know.getD m.site.toNat 0), fun w' hs => hs.cell (by simpa using hk), ?_⟩
  conv => whnf
  refine ⟨_, fun w' hs => hs.cell (ld hb rfl rfl), ?_⟩
  conv => whnf
  intro r hr
  rw [wrap_id (by omega) (by omega)] at hr
  conv => whnf
  intro t ht7
  cases t <;> simp only [VB] at ht7 <;> (conv => whnf)
  case true => exact ⟨hE, (MsgV.no2 (by simp only [MsgV.c2, Bool.and_eq_false_iff, decide_eq_false_iff_not]; omega)).symm⟩
  have hc2 : m.c2 = true := by simp only [MsgV.c2, isClk, Bool.and_eq_true, decide_eq_true_eq]; omega
  refine ⟨[.int .i64 m.kind, .int .i64 m.epoch, .int .i64 m.idT, .int .i64 m.idS, .int .i64 m.refT, .int .i64 m.refS, .int .i64 m.rune], rfl, fun w' hs => lds (hs.at_ hb) rfl rfl, ?_⟩
  conv => whnf
  refine ⟨_, fun w' hs => hs.cell (ld hb rfl rfl), ?_⟩
  conv => whnf
  refine (fn39 _ _ _ _ _ _ _ _ _ _).mono ?_
  rintro _ W' ⟨he', rfl⟩
  rw [← hl]
  conv => whnf
  refine ⟨he0.tr he', ?_⟩
  replace hE := hE.tr he'
  cases hop : opOk m.kind m.epoch m.idT m.idS m.refT m.refS m.rune m.site m.know.length <;> (conv => whnf)
  case false => exact ⟨hE, (no_op hop).symm⟩
  replace hb := (he0.tr he').at_ hb
  clear he0 he' he1 hW1
  refine VLoop.mk' tab_ok (X := Nat) (fun k => [(1, .pointer (some ⟨b, 0, none⟩)), (3, .int .i64 m.know.length), (4, .int .i64 k)])
    (fun k V => W' = V ∧ k ≤ n ∧ ∀ i, i < k → isClk (m.know.getD i 0) = true) (fun k _ => n - k) 0 ⟨rfl, rfl, rfl, trivial⟩ ⟨rfl, by omega, fun i hi => by omega⟩ ?_
  rintro k j _ ⟨rfl, h1, h2⟩
  conv => whnf
  intro t ht8
  cases t <;> simp only [VB] at ht8 <;> (conv => whnf)
  · refine ⟨hE, (yes_op hc1 hc2 ?_ hop).symm⟩
    simp only [MsgV.c3, List.all_eq_true]
    intro x hx
    obtain ⟨i, hi, rfl⟩ := List.getElem_of_mem hx
    have := h2 i (by omega)
    rwa [List.getD_eq_getElem?_getD, List.getElem?_eq_getElem hi] at this
  obtain ⟨a, hA, hck⟩ := (h.ext hE).at_ (k := k) (by omega)
  refine ⟨_, ld hb rfl rfl, ?_⟩
  conv => whnf
  refine ⟨by omega, by omega, a, hA, ?_⟩
  conv => whnf
  refine ⟨.int .i64 (m.know.getD k 0), by simpa using hck, ?_⟩
  conv => whnf
  refine (fn38 _ _).mono ?_
  rintro _ _ ⟨t, rfl, ht9, rfl⟩
  conv => whnf
  cases t <;> simp only [VB] at ht9 <;> (conv => whnf)
  · refine ⟨hE, (MsgV.no3 ?_).symm⟩
    simp only [MsgV.c3, List.all_eq_false]
    refine ⟨m.know.getD k 0, ?_, by simp only [isClk, decide_eq_true_eq]; exact ht9⟩
    rw [List.getD_eq_getElem?_getD, List.getElem?_eq_getElem (by omega)]
    exact List.getElem_mem _
  · intro r hr
    have hr3 : r = ((k + 1 : Nat) : Int) := by rw [hr]; exact wrap_nat (n := n) (by omega) hm
    subst hr3
    conv => whnf
    refine ⟨k + 1, ⟨rfl, rfl, rfl, trivial⟩, ⟨rfl, by omega, fun i hi => ?_⟩, by omega⟩
    by_cases e : i = k
    · subst e; simp only [isClk, decide_eq_true_eq]; exact ht9
    · exact h2 i (by omega)
end Go.Proofs.Ytgcelfplgfloaaa
