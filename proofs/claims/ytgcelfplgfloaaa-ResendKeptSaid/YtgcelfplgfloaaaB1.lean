/- The document's side: which messages may be. -/
import Derived.Test.YtgcelfplgfloaaaA10
namespace Go.Proofs.Ytgcelfplgfloaaa
open Go Go.VC Go.RowKit
set_option linter.unusedVariables false
set_option linter.unusedSimpArgs false
set_option maxRecDepth 100000

theorem fn38 (n : Int) (w : World) : Ret Try.prog 38 #[.int .i64 n] w fun v w' => ∃ t, w = w' ∧ VB t (0 ≤ n ∧ n ≤ 4294967295) ∧ v = .bool t := by
  refine Ret.of_vc tab_ok Try.func38 rfl Try.ntmps38 rfl (Nat.le_of_ble_eq_true rfl) Try.call38 ?_
  conv => whnf
  intro t ht
  cases t <;> simp only [VB] at ht <;> (conv => whnf)
  · exact ⟨false, rfl, by simp only [VB]; omega, rfl⟩
  · intro t ht2
    conv => whnf
    exact ⟨t, rfl, by cases t <;> simp only [VB] at ht2 ⊢ <;> omega, rfl⟩

theorem fn60 (n : Int) (w : World) : Ret Try.prog 60 #[.int .i64 n] w fun v w' => ∃ t, w = w' ∧ VB t (runeOk n = true) ∧ v = .bool t := by
  refine Ret.of_vc tab_ok Try.func60 rfl Try.ntmps60 rfl (Nat.le_of_ble_eq_true rfl) Try.call60 ?_
  conv => whnf
  repeat' (first
    | (intro t ht; cases t <;> simp only [VB] at ht <;> (conv => whnf))
    | (intro r hr; conv => whnf))
  all_goals
    first
      | exact ⟨true, rfl, by simp only [VB, runeOk, decide_eq_true_eq]; omega, rfl⟩
      | exact ⟨false, rfl, by simp only [VB, runeOk, decide_eq_true_eq]; omega, rfl⟩

theorem fn59 (t s n : Int) (w : World) : Ret Try.prog 59 #[.agg #[.int .i64 t, .int .i64 s], .int .i64 n] w fun v w' => ∃ u, Ext w w' ∧ VB u (mayId t s n = true) ∧ v = .bool u := by
  refine Ret.of_vc tab_ok Try.func59 rfl Try.ntmps59 rfl (Nat.le_of_ble_eq_true rfl) Try.call59 ?_
  conv => whnf
  intro W hW
  have hb := hW.at_
  have hE := hW.e
  clear hW
  generalize w.heap.size = b at hb
  conv => whnf
  repeat' (first
    | (intro t ht; cases t <;> simp only [VB] at ht <;> (conv => whnf))
    | (refine ⟨_, ld hb rfl rfl, ?_⟩; conv => whnf)
    | (refine (fn38 _ _).mono ?_; rintro _ _ ⟨t, rfl, ht, rfl⟩; cases t <;> simp only [VB] at ht <;> (conv => whnf)))
  all_goals
    first
      | exact ⟨true, hE, by simp only [VB, mayId, decide_eq_true_eq]; omega, rfl⟩
      | exact ⟨false, hE, by simp only [VB, mayId, decide_eq_true_eq]; omega, rfl⟩

/-- May an op of a site be, among n? -/
def opOk (kind epoch idT idS refT refS rune site n : Int) : Bool :=
  isClk epoch && (if kind = 1 then mayId idT idS n && decide (idS = site) && (decide (refT = 0 ∧ refS = 0) || (mayId refT refS n && decide (refT < idT))) && runeOk rune
    else if kind = 2 ∨ kind = 3 ∨ kind = 4 ∨ kind = 7 ∨ kind = 8 then mayId refT refS n && decide (idT = 0 ∧ idS = 0) && decide (rune = 0)
    else if kind = 5 then (decide (refT = 0 ∧ refS = 0) || mayId refT refS n) && decide (idT = 0 ∧ idS = 0) && decide (rune = 0)
    else if kind = 6 then mayId idT idS n && decide (idS = site) && decide (refT = 0 ∧ refS = 0) && decide (rune = 0) else false)

set_option maxHeartbeats 4000000
theorem fn39 (kind epoch idT idS refT refS rune site n : Int) (w : World) :
    Ret Try.prog 39 #[.agg #[.int .i64 kind, .int .i64 epoch, .int .i64 idT, .int .i64 idS, .int .i64 refT, .int .i64 refS, .int .i64 rune], .int .i64 site, .int .i64 n] w fun v W => Ext w W ∧ v = .bool (opOk kind epoch idT idS refT refS rune site n) := by
  refine Ret.of_vc tab_ok Try.func39 rfl Try.ntmps39 rfl (Nat.le_of_ble_eq_true rfl) Try.call39 ?_
  conv => whnf
  intro W1 hW1
  have hb := hW1.at_
  have hE := hW1.e
  clear hW1
  generalize w.heap.size = b at hb
  conv => whnf
  refine Run.mk' _ _ (build37z _) ?_
  conv => whnf
  intro W2 hW2
  conv => whnf
  refine ⟨W1.heap.size, 0, _, _, rfl, hW2.at_, Nat.le_of_ble_eq_true rfl, rfl, rfl, fun W3 hW3 => ?_⟩
  have h7 : W3.heap[W1.heap.size]? = some (.cells #[.int .i64 0, .int .i64 0] 37 (0, 0)) := hW3.at_
  replace hb := hW3.keep (hW2.e.at_ hb) (by have := at_lt hb; omega)
  replace hE : Ext w W3 := hE.tr (hW3.e hW2.e (Nat.le_refl _))
  clear hW3 hW2
  generalize W1.heap.size = b7 at h7
  conv => whnf
  repeat' (first
    | (intro t ht; cases t <;> simp only [VB] at ht <;> (conv => whnf))
    | (refine ⟨_, ld hb rfl rfl, ?_⟩; conv => whnf)
    | (refine ⟨[.int .i64 idT, .int .i64 idS], rfl, lds hb rfl rfl, ?_⟩; conv => whnf)
    | (refine ⟨[.int .i64 refT, .int .i64 refS], rfl, lds hb rfl rfl, ?_⟩; conv => whnf)
    | (refine ⟨[.int .i64 0, .int .i64 0], rfl, lds h7 rfl rfl, ?_⟩; conv => whnf)
    | (refine ⟨_, fun xo yo w => eql37 _ _ _ _ xo yo w, ?_⟩; intro t ht; replace ht := vb_eq ht; cases t <;> simp only [VB] at ht <;> (conv => whnf))
    | (refine (fn38 _ _).mono ?_; rintro _ _ ⟨t, rfl, ht, rfl⟩; cases t <;> simp only [VB] at ht <;> (conv => whnf))
    | (refine (fn60 _ _).mono ?_; rintro _ _ ⟨t, rfl, ht, rfl⟩; cases t <;> simp only [VB] at ht <;> (conv => whnf))
    | (refine (fn59 _ _ _ _).mono ?_; rintro _ W' ⟨t, he, ht, rfl⟩; replace hb := he.at_ hb; replace h7 := he.at_ h7; replace hE := hE.tr he; clear he; cases t <;> simp only [VB] at ht <;> (conv => whnf)))
  all_goals
    refine ⟨hE, ?_⟩
    clear hb h7 hE
    simp_all [opOk, isClk]
    try omega
end Go.Proofs.Ytgcelfplgfloaaa
