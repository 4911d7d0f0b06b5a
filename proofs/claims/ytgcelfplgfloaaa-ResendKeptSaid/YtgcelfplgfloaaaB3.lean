/- A row of zeros; a place of a row is written. -/
import Derived.Test.YtgcelfplgfloaaaB2
import Derived.Test.YtgcelfplgfloaaaA8
namespace Go.Proofs.Ytgcelfplgfloaaa
open Go Go.VC Go.RowKit
set_option linter.unusedVariables false
set_option linter.unusedSimpArgs false
set_option maxRecDepth 100000

/-- A place of an owned row of whole numbers. -/
theorem own_place {w : World} {base e n c : Nat} {A : Option Addr} {xs : List Int} (h : w.ownsRow base e 1 (.slice A n c) n (ints xs)) {k : Nat} (hk : k < n) (q : Int) :
    ∃ g cur, A = some ⟨g, 0, none⟩ ∧ base ≤ g ∧ w.heap[g]? = some (.cells cur e (0, 0)) ∧ k < cur.size ∧
      ∀ W, Put w g (.cells (splice cur k [.int .i64 q]) e (0, 0)) W → W.ownsRow base e 1 (.slice A n c) n (ints (xs.set k q)) := by
  obtain ⟨h1, h2⟩ := h
  rcases h2 with ⟨h2, h3⟩ | ⟨g, cap, cur, h3, hb, hg, hn, hm, hs, ht⟩
  · omega
  · injection h3 with h3 h4 h5
    subst h3 h5
    refine ⟨g, cur, rfl, hb, hg, by omega, fun W hW => ⟨?_, .inr ⟨g, _, _, rfl, hb, hW.at_, hn, hm, ?_, ?_⟩⟩⟩
    · simpa [ints] using h1
    · simpa [splice, setL] using hs
    · rw [splice_cons, splice_nil, Array.toList_setIfInBounds, List.take_set, ht]
      simp [ints, List.map_set]

theorem slice22_1z (w : World) : (Instr.buildSlice 22 1 #[(0, .int .i64 0)]).run Try.prog w = .ok (.slice (some ⟨w.heap.size, 0, none⟩) 1 1) (w.alloc (.cells #[.int .i64 0] 3)) := by kernel_rfl
theorem rd_one {W : World} {g : Nat} {x : Int} (h : W.heap[g]? = some (.cells #[.int .i64 x] 3 (0, 0))) : Rd W 1 (some ⟨g, 0, none⟩) 1 (ints [x]) := by
  have : Ints W (some ⟨g, 0, none⟩) 1 [x] := ⟨rfl, by decide, fun i u hu => ⟨_, rfl, by
    rw [add_plain_, cell_of_at h]
    match i, hu with
    | 0, hu => simp at hu; subst hu; rfl
    | i + 1, hu => simp at hu⟩⟩
  exact this.rd

/-- duetref06.Zero. -/
theorem fn18 (n : Nat) (hn : n ≤ 100000) (w : World) :
    Ret Try.prog 18 #[.int .i64 n] w fun v W => Ext w W ∧ ∃ A c, v = .slice A n c ∧ W.ownsRow w.heap.size 3 1 v n (ints (List.replicate n 0)) := by
  refine Ret.of_vc tab_ok Try.func18 rfl Try.ntmps18 rfl (Nat.le_of_ble_eq_true rfl) Try.call18 ?_
  conv => whnf
  refine VLoop.mk' tab_ok (X := Nat × Value) (fun p => [(0, .int .i64 n), (3, p.2), (4, .int .i64 p.1)])
    (fun p W => Ext w W ∧ p.1 ≤ n ∧ W.ownsRow w.heap.size 3 1 p.2 p.1 (ints (List.replicate p.1 0))) (fun p _ => n - p.1) (0, .slice none 0 0) ⟨rfl, rfl, rfl, trivial⟩ ⟨Ext.refl _, by omega, own_nil_ _ _ _ _⟩ ?_
  rintro ⟨k, v⟩ j W ⟨he, hk, hown⟩
  dsimp only at hk hown
  conv => whnf
  intro t ht
  cases t <;> simp only [VB] at ht <;> (conv => whnf)
  · obtain rfl : k = n := by omega
    obtain ⟨A, c, rfl⟩ := own_form hown
    exact ⟨he, A, c, rfl, hown⟩
  obtain ⟨A, c, rfl⟩ := own_form hown
  conv => whnf
  refine Run.mk' _ _ (slice22_1z W) ?_
  have hN := New.mk' W (.cells #[.int .i64 0] 3)
  generalize W.alloc (.cells #[.int .i64 0] 3) = W2 at hN ⊢
  have hown2 := own_ext hown hN.e
  have hat := hN.at_
  generalize W.heap.size = g at hat
  conv => whnf
  refine run_append inf3 Try.underlying22 rfl (by decide) hown2 (rd_one hat) (one_ints [0]) (by simp only [maxLen]; omega) (by omega) (he.tr hN.e).le ?_
  intro v' W3 hown3 hg3 _
  conv => whnf
  intro r hr
  have hr3 : r = ((k + 1 : Nat) : Int) := by rw [hr]; exact wrap_nat (n := n) (by omega) (by omega)
  subst hr3
  conv => whnf
  refine ⟨(k + 1, v'), ⟨rfl, rfl, rfl, trivial⟩, ⟨ext_row (he.tr hN.e) hg3 hown2 (Nat.le_refl _), by dsimp only; omega, ?_⟩, by dsimp only; omega⟩
  have e1 : ints (List.replicate k 0) ++ ints [0] = ints (List.replicate (k + 1) 0) := by simp [ints, List.replicate_succ']
  rw [e1] at hown3
  exact hown3
end Go.Proofs.Ytgcelfplgfloaaa
