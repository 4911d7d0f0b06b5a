/- The walk of duetlaw08.ResendAsks: whatever two vectors and a number come in, it answers true and changes nothing that was there. -/
import Derived.Test.YtgcelfplgfloaaaA11
namespace Go.Proofs.Ytgcelfplgfloaaa
open Go Go.VC Go.RowKit
set_option linter.unusedVariables false
set_option linter.unusedSimpArgs false
set_option maxRecDepth 100000
set_option maxHeartbeats 1000000

theorem asksV_len (hs ks : List Int) (most : Int) : (asksV hs ks most).1.length ≤ 1000 := by
  unfold asksV
  split
  · rename_i h
    have := asks_le hs ks most (by omega) hs.length
    dsimp only
    omega
  · simp

theorem fn3 (w : World) (A B : Option Addr) (n c m d : Nat) (hs ks : List Int) (most : Int) (h : Ints w A n hs) (h' : Ints w B m ks) :
    Ret Try.prog 3 #[.slice A n c, .slice B m d, .int .i64 most] w fun v W => Ext w W ∧ v = .bool true := by
  refine Ret.of_vc tab_ok Try.func3 rfl Try.ntmps3 rfl (Nat.le_of_ble_eq_true rfl) Try.call3 ?_
  conv => whnf
  intro t ht
  cases t <;> simp only [VB] at ht <;> (conv => whnf)
  case true =>
    refine (fn10 w).mono ?_
    rintro _ W ⟨he, rfl⟩
    conv => whnf
    exact ⟨he, rfl⟩
  intro t ht2
  cases t <;> simp only [VB] at ht2 <;> (conv => whnf)
  case true =>
    refine (fn10 w).mono ?_
    rintro _ W ⟨he, rfl⟩
    conv => whnf
    exact ⟨he, rfl⟩
  refine (fn11 w A B n c m d hs ks most h h').mono ?_
  rintro _ W1 ⟨he1, v1, rfl, hown1⟩
  obtain ⟨A1, c1, rfl⟩ := own_form hown1
  conv => whnf
  refine (fn12 W1 A B n c m d hs ks most (h.ext he1) (h'.ext he1)).mono ?_
  rintro _ W2 ⟨he2, v2, rfl, hown2⟩
  obtain ⟨A2, c2, rfl⟩ := own_form hown2
  have hp1 := (own_pairs hown1).ext he2
  have hp2 := own_pairs hown2
  have hlen := asksV_len hs ks most
  have hE := he1.tr he2
  clear hown1 hown2 he1 he2
  generalize (asksV hs ks most).2 = okk
  generalize (asksV hs ks most).1 = L at *
  conv => whnf
  refine VLoop.mk' tab_ok (X := Nat × Value) (fun p => [(7, .slice A1 L.length c1), (8, errN okk), (9, .slice A2 L.length c2), (10, errN okk), (11, p.2), (12, .int .i64 p.1)])
    (fun p W => Ext W2 W ∧ p.1 ≤ L.length ∧ W.ownsRow W2.heap.size 33 2 p.2 p.1 (pcells (L.take p.1))) (fun p _ => L.length - p.1) (0, .slice none 0 0) ⟨rfl, rfl, rfl, rfl, rfl, rfl, trivial⟩ ⟨Ext.refl _, by omega, own_nil_ _ _ _ _⟩ ?_
  rintro ⟨k, v⟩ j W ⟨he, hk, hown⟩
  dsimp only at hk hown
  conv => whnf
  intro t ht1
  cases t <;> simp only [VB] at ht1 <;> (conv => whnf)
  · obtain rfl : k = L.length := by omega
    rw [List.take_length] at hown
    obtain ⟨A3, c3, rfl⟩ := own_form hown
    refine (fn13 W A3 A2 L.length c3 c2 L (own_pairs hown) (hp2.ext he)).mono ?_
    rintro _ W3 ⟨he3, rfl⟩
    conv => whnf
    intro t ht
    obtain rfl : t = true := ht.yes rfl
    conv => whnf
    refine (fn10 W3).mono ?_
    rintro _ W4 ⟨he4, rfl⟩
    conv => whnf
    exact ⟨((hE.tr he).tr he3).tr he4, rfl⟩
  have hkl : k < L.length := by omega
  obtain ⟨a, rfl, hsp, hck⟩ := hp1.get k _ (List.getElem?_eq_getElem hkl)
  have htk : pcells (L.take (k + 1)) = pcells (L.take k) ++ [.int .i64 L[k].1, .int .i64 L[k].2] := by
    rw [List.take_succ_eq_append_getElem hkl, pcells_app]; rfl
  generalize L[k] = p at hck htk
  obtain ⟨hc1, hc2⟩ := two_cells hck
  obtain ⟨A3, c3, rfl⟩ := own_form hown
  refine VDraw.mk' tab_ok (Ext W2) [] (.take 0 <| .take 1 <| .take 2 <| .take 3 <| .take 4 <| .take 5 <| .take 6 <| .take 7 <| .take 8 <| .take 9 <| .take 10 <| .one 11 <| .one 12 <| .one 13 <| .take 14 <| .done) mixed (by kernel_rfl) (by kernel_rfl) he.then_drew ?_
  have he0 := he.then_drew
  have hown0 : W.drew.ownsRow W2.heap.size 33 2 (.slice A3 k c3) k (pcells (L.take k)) := own_ext hown (Ext.drew W)
  generalize W.drew = W5 at he0 hown0
  conv => whnf
  refine ⟨by omega, ht1, a, rfl, ?_⟩
  conv => whnf
  refine ⟨.int .i64 p.1, fun w' hs => hs.cell (by simpa [add_zero_] using hc1), ?_⟩
  conv => whnf
  refine ⟨by omega, ht1, a, rfl, ?_⟩
  conv => whnf
  refine ⟨.int .i64 p.2, fun w' hs => hs.cell (by simpa using hc2), ?_⟩
  conv => whnf
  refine Run.mk' _ _ (build33 _ _ _) ?_
  conv => whnf
  refine ⟨he0, ?_⟩
  conv => whnf
  refine Run.mk' _ _ (slice28_1 _ _ _) ?_
  have hnew := New.mk' W5 (.cells #[.int .i64 p.1, .int .i64 p.2] 33)
  generalize W5.alloc (.cells #[.int .i64 p.1, .int .i64 p.2] 33) = W6 at hnew ⊢
  have hown6 := own_ext hown0 hnew.e
  conv => whnf
  refine ⟨he0.tr hnew.e, ?_⟩
  conv => whnf
  refine run_append inf33 Try.underlying28 rfl (by decide) hown6 (rd_pair hnew.at_) (one_pair _ _) (by simp only [maxLen]; omega) (by omega) (he0.tr hnew.e).le ?_
  intro v' W7 hown7 hg7 hat
  have he7 := ext_row (he0.tr hnew.e) hg7 hown6 (Nat.le_refl _)
  conv => whnf
  refine ⟨he7, ?_⟩
  conv => whnf
  intro r hr
  have hr3 : r = ((k + 1 : Nat) : Int) := by rw [hr]; exact wrap_nat (n := L.length) (by omega) (by omega)
  subst hr3
  conv => whnf
  refine ⟨(k + 1, v'), ⟨rfl, rfl, rfl, rfl, rfl, rfl, trivial⟩, ⟨he7, by dsimp only; omega, by dsimp only; rw [htk]; exact hown7⟩, by dsimp only; omega⟩
end Go.Proofs.Ytgcelfplgfloaaa
