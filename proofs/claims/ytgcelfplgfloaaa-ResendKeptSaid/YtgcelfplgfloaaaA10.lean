/- Messages that are the same; live of layer 8. -/
import Derived.Test.YtgcelfplgfloaaaA9
import Derived.Test.YtgcelfplgfloaaaA7
namespace Go.Proofs.Ytgcelfplgfloaaa
open Go Go.VC Go.RowKit
set_option linter.unusedVariables false
set_option linter.unusedSimpArgs false
set_option maxRecDepth 100000

/-- duetref01.Same. -/
theorem fn29 (w : World) (A B : Option Addr) (n c m d : Nat) (xs ys : List Int) (h : Ints w A n xs) (h' : Ints w B m ys) :
    Ret Try.prog 29 #[.slice A n c, .slice B m d] w fun v W => Ext w W ∧ v = .bool (decide (xs = ys)) := by
  have hl := h.len
  have hl' := h'.len
  have hm := h.small
  refine Ret.of_vc tab_ok Try.func29 rfl Try.ntmps29 rfl (Nat.le_of_ble_eq_true rfl) Try.call29 ?_
  conv => whnf
  intro t ht
  cases t <;> simp only [VB] at ht <;> (conv => whnf)
  case true =>
    refine ⟨Ext.refl _, ?_⟩
    congr 1; symm
    simp only [decide_eq_false_iff_not]
    rintro rfl
    omega
  refine VLoop.mk' tab_ok (X := Nat) (fun k => [(0, .slice A n c), (1, .slice B m d), (5, .int .i64 k)])
    (fun k W => Ext w W ∧ k ≤ n ∧ ∀ i, i < k → xs.getD i 0 = ys.getD i 0) (fun k _ => n - k) 0 ⟨rfl, rfl, rfl, trivial⟩ ⟨Ext.refl _, by omega, fun i hi => by omega⟩ ?_
  rintro k j W ⟨he, h1, h2⟩
  conv => whnf
  intro t ht1
  cases t <;> simp only [VB] at ht1 <;> (conv => whnf)
  · refine ⟨he, ?_⟩
    congr 1; symm
    simp only [decide_eq_true_eq]
    apply List.ext_getElem (by omega)
    intro i hi hi'
    have := h2 i (by omega)
    simpa [List.getElem?_eq_getElem hi, List.getElem?_eq_getElem hi'] using this
  obtain ⟨a, rfl, hck⟩ := (h.ext he).at_ (k := k) (by omega)
  obtain ⟨b, rfl, hck'⟩ := (h'.ext he).at_ (k := k) (by omega)
  refine VDraw.mk' tab_ok (Ext W) [] (.take 0 <| .take 1 <| .take 2 <| .take 3 <| .take 4 <| .take 5 <| .take 6 <| .take 7 <| .take 8 <| .done) mixed (by kernel_rfl) (by kernel_rfl) (Ext.drew _) ?_
  conv => whnf
  refine ⟨by omega, ht1, a, rfl, ?_⟩
  conv => whnf
  refine ⟨.int .i64 (xs.getD k 0), fun w' hs => hs.cell (by simpa using hck), ?_⟩
  conv => whnf
  refine ⟨by omega, by omega, b, rfl, ?_⟩
  conv => whnf
  refine ⟨.int .i64 (ys.getD k 0), fun w' hs => hs.cell (by simpa using hck'), ?_⟩
  conv => whnf
  intro t ht2
  cases t <;> simp only [VB] at ht2 <;> (conv => whnf)
  · intro r hr
    have hr3 : r = ((k + 1 : Nat) : Int) := by rw [hr]; exact wrap_nat (n := n) (by omega) hm
    subst hr3
    conv => whnf
    refine ⟨k + 1, ⟨rfl, rfl, rfl, trivial⟩, ⟨he.then_drew, by omega, fun i hi => ?_⟩, by omega⟩
    by_cases e : i = k
    · subst e; exact Classical.not_not.1 ht2
    · exact h2 i (by omega)
  · refine ⟨he.then_drew, ?_⟩
    congr 1; symm
    simp only [decide_eq_false_iff_not]
    rintro rfl
    exact ht2 rfl

theorem eq37i (n : Nat) (a b c d : Int) (w : World) : (Op.equalIn (n + 2) 37 (.agg #[.int .i64 a, .int .i64 b]) (.agg #[.int .i64 c, .int .i64 d])).run Try.prog w = .ok (decide (a = c ∧ b = d)) w :=
  eqIn_two Try.underlying37 Try.stoodInHeld37 Try.underlying3 Try.underlying3 rfl rfl rfl rfl n a b c d w
theorem eq39i (n : Nat) (a1 a2 a3 a4 a5 a6 a7 b1 b2 b3 b4 b5 b6 b7 : Int) (w : World) :
    (Op.equalIn (n + 3) 39 (.agg #[.int .i64 a1, .int .i64 a2, .int .i64 a3, .int .i64 a4, .int .i64 a5, .int .i64 a6, .int .i64 a7]) (.agg #[.int .i64 b1, .int .i64 b2, .int .i64 b3, .int .i64 b4, .int .i64 b5, .int .i64 b6, .int .i64 b7])).run Try.prog w =
      .ok (decide (a1 = b1 ∧ a2 = b2 ∧ (a3 = b3 ∧ a4 = b4) ∧ (a5 = b5 ∧ a6 = b6) ∧ a7 = b7)) w := by
  refine eqF_struct (d := n + 2) Try.underlying39 Try.stoodInHeld39 ?_
  refine eqF_cons rfl (part_one Try.underlying3 rfl w) (part_one Try.underlying3 rfl w) (eqI_int Try.underlying3 _ _ _ w) ?_
  refine eqF_cons rfl (part_one Try.underlying3 rfl w) (part_one Try.underlying3 rfl w) (eqI_int Try.underlying3 _ _ _ w) ?_
  refine eqF_cons rfl (part_struct Try.underlying37 Try.sizeOf37 rfl w) (part_struct Try.underlying37 Try.sizeOf37 rfl w) (eq37i n _ _ _ _ w) ?_
  refine eqF_cons rfl (part_struct Try.underlying37 Try.sizeOf37 rfl w) (part_struct Try.underlying37 Try.sizeOf37 rfl w) (eq37i n _ _ _ _ w) ?_
  exact eqF_one rfl (part_one Try.underlying3 rfl w) (part_one Try.underlying3 rfl w) (eqI_int Try.underlying3 _ _ _ w)
theorem eql39 (a1 a2 a3 a4 a5 a6 a7 b1 b2 b3 b4 b5 b6 b7 : Int) (xo yo : Operand) (w : World) :
    (do eqGuard .eql 39 xo yo (.agg #[.int .i64 a1, .int .i64 a2, .int .i64 a3, .int .i64 a4, .int .i64 a5, .int .i64 a6, .int .i64 a7]) (.agg #[.int .i64 b1, .int .i64 b2, .int .i64 b3, .int .i64 b4, .int .i64 b5, .int .i64 b6, .int .i64 b7]);
        Go.binOp .eql 39 (.agg #[.int .i64 a1, .int .i64 a2, .int .i64 a3, .int .i64 a4, .int .i64 a5, .int .i64 a6, .int .i64 a7]) (.agg #[.int .i64 b1, .int .i64 b2, .int .i64 b3, .int .i64 b4, .int .i64 b5, .int .i64 b6, .int .i64 b7]) : Sem Value).run Try.prog w =
      .ok (.bool (decide (a1 = b1 ∧ a2 = b2 ∧ (a3 = b3 ∧ a4 = b4) ∧ (a5 = b5 ∧ a6 = b6) ∧ a7 = b7))) w :=
  eql_agg Try.eqGuardType39 (fun w => eq39i 9997 _ _ _ _ _ _ _ _ _ _ _ _ _ _ w) xo yo w

/-- duetref04.Same. -/
theorem fn20 (m m' : MsgV) (A B : Option Addr) (n c n' c' : Nat) (w : World) (h : Ints w A n m.know) (h' : Ints w B n' m'.know) :
    Ret Try.prog 20 #[.agg (m.cells A n c).toArray, .agg (m'.cells B n' c').toArray] w fun v W => Ext w W ∧ ∃ t, v = .bool t ∧ (t = true ↔ m = m') := by
  refine Ret.of_vc tab_ok Try.func20 rfl Try.ntmps20 rfl (Nat.le_of_ble_eq_true rfl) Try.call20 ?_
  conv => whnf
  intro W1 hW1
  conv => whnf
  intro W2 hW2
  have hb1 := hW2.e.at_ hW1.at_
  have hb2 := hW2.at_
  have hE := hW1.e.tr hW2.e
  generalize w.heap.size = b1 at hb1
  generalize W1.heap.size = b2 at hb2
  conv => whnf
  refine ⟨_, ld hb1 rfl rfl, ?_⟩
  conv => whnf
  refine ⟨_, ld hb2 rfl rfl, ?_⟩
  conv => whnf
  intro t ht1
  cases t <;> simp only [VB] at ht1 <;> (conv => whnf)
  · exact ⟨hE, false, rfl, by simp; rintro rfl; exact ht1 rfl⟩
  refine ⟨_, ld hb1 rfl rfl, ?_⟩
  conv => whnf
  refine ⟨_, ld hb2 rfl rfl, ?_⟩
  conv => whnf
  intro t ht2
  cases t <;> simp only [VB] at ht2 <;> (conv => whnf)
  · exact ⟨hE, false, rfl, by simp; rintro rfl; exact ht2 rfl⟩
  refine ⟨[.int .i64 m.kind, .int .i64 m.epoch, .int .i64 m.idT, .int .i64 m.idS, .int .i64 m.refT, .int .i64 m.refS, .int .i64 m.rune], rfl, lds hb1 rfl rfl, ?_⟩
  conv => whnf
  refine ⟨[.int .i64 m'.kind, .int .i64 m'.epoch, .int .i64 m'.idT, .int .i64 m'.idS, .int .i64 m'.refT, .int .i64 m'.refS, .int .i64 m'.rune], rfl, lds hb2 rfl rfl, ?_⟩
  conv => whnf
  refine ⟨_, fun xo yo w => eql39 _ _ _ _ _ _ _ _ _ _ _ _ _ _ xo yo w, ?_⟩
  intro t ht3
  replace ht3 := vb_eq ht3
  cases t <;> simp only [VB] at ht3 <;> (conv => whnf)
  · exact ⟨hE, false, rfl, by simp; rintro rfl; exact ht3 ⟨rfl, rfl, ⟨rfl, rfl⟩, ⟨rfl, rfl⟩, rfl⟩⟩
  refine ⟨_, ld hb1 rfl rfl, ?_⟩
  conv => whnf
  refine ⟨_, ld hb2 rfl rfl, ?_⟩
  conv => whnf
  refine (fn29 W2 A B n c n' c' _ _ (h.ext hE) (h'.ext hE)).mono ?_
  rintro _ W3 ⟨he3, rfl⟩
  conv => whnf
  refine ⟨hE.tr he3, _, rfl, ?_⟩
  obtain ⟨s1, q1, k1, x1, x2, x3, x4, x5, x6, x7⟩ := m
  obtain ⟨s2, q2, k2, y1, y2, y3, y4, y5, y6, y7⟩ := m'
  simp only [decide_eq_true_eq, MsgV.mk.injEq] at *
  obtain ⟨z1, z2, ⟨z3, z4⟩, ⟨z5, z6⟩, z7⟩ := ht3
  subst ht1 ht2 z1 z2 z3 z4 z5 z6 z7
  simp
end Go.Proofs.Ytgcelfplgfloaaa
