/- What came in: a state, a key, numbers. -/
import Derived.Test.YthphdaeaicjgmaaE23
import Derived.Test.YthphdaeaicjgmaaOpens
import Derived.WalkKit
import Derived.ProofKit
import Derived.OpenShut
import Derived.ShutString
import Derived.ChangeOld
import Derived.Below
namespace Go.Proofs.Ythphdaeaicjgmaa
open Go Go.VC Go.ChangeShapes Go.WideShapes Go.ChangeAt Go.RowKit
set_option linter.unusedVariables false
set_option maxRecDepth 100000
section
variable {H : Type} {enc : TypeId × Value → H} {w : World} {base : Nat} {held : Bool}

theorem wfI_of {v : Int} (h : (Lit.int .i64 v).wf = true) : wfI v := by
  simp only [Lit.wf, Bool.and_eq_true, decide_eq_true_eq] at h
  exact h
theorem row_of_trod {fuel : Nat} {cs : List Value} {x : DataW H × List MemPlace} (h : DataW.trod enc Try.prog w base (fun _ => true) held fuel 22 cs = some x) :
    ∃ A n c xs, cs = [.slice A n c] ∧ InRow w A n c xs := by
  rcases open_ints Try.underlying22 Try.underlying3 (by kernel_rfl) h with ⟨hcs, _⟩ | ⟨a, l, c, zs, hcs, _, hl, hm, hz, _, hcell, hwz⟩
  · exact ⟨none, 0, 0, [], hcs, Ints.nil _ _, Nat.le_refl _, by omega, fun v hv => by cases hv⟩
  · have := Ints.of_row (w := w) (a := some a) (len := l) (cap := c) (zs := zs) (.inr ⟨a, rfl, hl, hm, by simpa using hz, hcell, hwz⟩)
    exact ⟨some a, l, c, zs.take l, hcs, this.1, hl, by simp only [maxLen] at hm; omega, fun v hv => wfI_of (hwz v (List.mem_of_mem_take hv))⟩
theorem two_of_trod {t : TypeId} {f1 f2 : Field} (hu : Try.prog.underlying t = some (.struct #[f1, f2])) (h1 : f1.type = 3) (h2 : f2.type = 3) (o1 : f1.offset = 0) (o2 : f2.offset = 1) (hc : Try.prog.cellsOf t = 2) (hc3 : Try.prog.cellsOf 3 = 1)
    {fuel : Nat} {cs : List Value} {x : DataW H × List MemPlace} (h : DataW.trod enc Try.prog w base (fun _ => true) held fuel t cs = some x) :
    ∃ a b, cs = [.int .i64 a, .int .i64 b] ∧ wfI a ∧ wfI b := by
  obtain ⟨ys, n, _, _, hl, hyl, hf⟩ := DataW.trod_struct hu h
  rw [hc] at hl
  match cs, hl, ys, hyl with
  | [c0, c1], _, [y0, y1], _ =>
    have g0 := hf 0 f1 rfl
    have g1 := hf 1 f2 rfl
    rw [h1, o1, hc3] at g0
    rw [h2, o2, hc3] at g1
    obtain ⟨a, e0, _, w0⟩ := DataW.trod_int Try.underlying3 g0
    obtain ⟨b, e1, _, w1⟩ := DataW.trod_int Try.underlying3 g1
    simp at e0 e1
    subst e0 e1
    exact ⟨a, b, rfl, wfI_of w0, wfI_of w1⟩
theorem key_of_trod {fuel : Nat} {cs : List Value} {x : DataW H × List MemPlace} (h : DataW.trod enc Try.prog w base (fun _ => true) held fuel 26 cs = some x) : ∃ a b, cs = [.int .i64 a, .int .i64 b] ∧ wfI a ∧ wfI b :=
  two_of_trod Try.underlying26 rfl rfl rfl rfl (by kernel_rfl) (by kernel_rfl) h
theorem state_of_trod {fuel : Nat} {cs : List Value} {x : DataW H × List MemPlace} (h : DataW.trod enc Try.prog w base (fun _ => true) held fuel 24 cs = some x) :
    ∃ A n c xs at_ KA kn kc ks, cs = [.slice A n c, .int .i64 at_, .slice KA kn kc] ∧ InRow w A n c xs ∧ InRow w KA kn kc ks ∧ wfI at_ := by
  have c24 : Try.prog.cellsOf 24 = 3 := by kernel_rfl
  have c22 : Try.prog.cellsOf 22 = 1 := by kernel_rfl
  have c3 : Try.prog.cellsOf 3 = 1 := by kernel_rfl
  obtain ⟨ys, n, _, _, hl, hyl, hf⟩ := DataW.trod_struct Try.underlying24 h
  rw [c24] at hl
  match cs, hl, ys, hyl with
  | [v0, v1, v2], _, [y0, y1, y2], _ =>
    have g0 : DataW.trod enc Try.prog w base (fun _ => true) held n 22 ((List.drop 0 [v0, v1, v2]).take (Try.prog.cellsOf 22)) = some y0 := hf 0 _ rfl
    have g1 : DataW.trod enc Try.prog w base (fun _ => true) held n 3 ((List.drop 1 [v0, v1, v2]).take (Try.prog.cellsOf 3)) = some y1 := hf 1 _ rfl
    have g2 : DataW.trod enc Try.prog w base (fun _ => true) held n 22 ((List.drop 2 [v0, v1, v2]).take (Try.prog.cellsOf 22)) = some y2 := hf 2 _ rfl
    clear hf
    rw [c22] at g0 g2
    rw [c3] at g1
    obtain ⟨A, nn, c, xs, e0, h0⟩ := row_of_trod g0
    obtain ⟨at_, e1, _, w1⟩ := DataW.trod_int Try.underlying3 g1
    obtain ⟨KA, kn, kc, ks, e2, h2⟩ := row_of_trod g2
    simp at e0 e1 e2
    subst e0 e1 e2
    exact ⟨A, nn, c, xs, at_, KA, kn, kc, ks, rfl, h0, h2, wfI_of w1⟩
theorem key_of {cs : Array Value} {d : DataW H} {p : List MemPlace} (h : DataW.Trod enc Try.prog w base (fun _ => true) held 26 (.agg cs) d p) : ∃ a b, cs = #[.int .i64 a, .int .i64 b] ∧ wfI a ∧ wfI b := by
  obtain ⟨fuel, hf⟩ := h
  obtain ⟨a, b, e, h1, h2⟩ := key_of_trod hf
  exact ⟨a, b, by apply Array.toList_inj.1; exact e, h1, h2⟩
theorem state_of {cs : Array Value} {d : DataW H} {p : List MemPlace} (h : DataW.Trod enc Try.prog w base (fun _ => true) held 24 (.agg cs) d p) :
    ∃ A n c xs at_ KA kn kc ks, cs = #[.slice A n c, .int .i64 at_, .slice KA kn kc] ∧ InRow w A n c xs ∧ InRow w KA kn kc ks ∧ wfI at_ := by
  obtain ⟨fuel, hf⟩ := h
  obtain ⟨A, n, c, xs, at_, KA, kn, kc, ks, e, h1, h2, h3⟩ := state_of_trod hf
  exact ⟨A, n, c, xs, at_, KA, kn, kc, ks, by apply Array.toList_inj.1; exact e, h1, h2, h3⟩
theorem row_of {a : Option Addr} {n c : Nat} {d : DataW H} {p : List MemPlace} (h : DataW.Trod enc Try.prog w base (fun _ => true) held 22 (.slice a n c) d p) : ∃ xs, InRow w a n c xs := by
  obtain ⟨fuel, hf⟩ := h
  obtain ⟨A, n, c, xs, e, h1⟩ := row_of_trod hf
  simp [Value.cells] at e
  obtain ⟨rfl, rfl, rfl⟩ := e
  exact ⟨xs, h1⟩
theorem act_of_trod {fuel : Nat} {cs : List Value} {x : DataW H × List MemPlace} (h : DataW.trod enc Try.prog w base (fun _ => true) held fuel 72 cs = some x) :
    ∃ a b c, cs = [.int .i64 a, .int .i64 b, .int .i64 c] := by
  have c72 : Try.prog.cellsOf 72 = 3 := by kernel_rfl
  have c3 : Try.prog.cellsOf 3 = 1 := by kernel_rfl
  obtain ⟨ys, n, _, _, hl, hyl, hf⟩ := DataW.trod_struct Try.underlying72 h
  rw [c72] at hl
  match cs, hl, ys, hyl with
  | [v0, v1, v2], _, [y0, y1, y2], _ =>
    have g0 : DataW.trod enc Try.prog w base (fun _ => true) held n 3 ((List.drop 0 [v0, v1, v2]).take (Try.prog.cellsOf 3)) = some y0 := hf 0 _ rfl
    have g1 : DataW.trod enc Try.prog w base (fun _ => true) held n 3 ((List.drop 1 [v0, v1, v2]).take (Try.prog.cellsOf 3)) = some y1 := hf 1 _ rfl
    have g2 : DataW.trod enc Try.prog w base (fun _ => true) held n 3 ((List.drop 2 [v0, v1, v2]).take (Try.prog.cellsOf 3)) = some y2 := hf 2 _ rfl
    clear hf
    rw [c3] at g0 g1 g2
    obtain ⟨a, e0, _⟩ := DataW.trod_int Try.underlying3 g0
    obtain ⟨b, e1, _⟩ := DataW.trod_int Try.underlying3 g1
    obtain ⟨c, e2, _⟩ := DataW.trod_int Try.underlying3 g2
    simp at e0 e1 e2
    subst e0 e1 e2
    exact ⟨a, b, c, rfl⟩
theorem acells_cons (a : Act3) (l : List Act3) : acells (a :: l) = [.int .i64 a.1, .int .i64 a.2.1, .int .i64 a.2.2] ++ acells l := by simp [acells]
theorem rd_of_each {W : World} {A : Option Addr} : ∀ (l : List Act3) (j : Nat), (∀ i z, l[i]? = some z → ∃ a, A = some a ∧ Cells W (a.add ((j + i) * 3)) [.int .i64 z.1, .int .i64 z.2.1, .int .i64 z.2.2]) → ∀ i u, (acells l)[i]? = some u → ∃ a, A = some a ∧ W.cell? (a.add (j * 3 + i)) = some u := by
  intro l
  induction l with
  | nil => intro j _ i u hu; simp [acells] at hu
  | cons z l ih =>
    intro j h i u hu
    rw [acells_cons] at hu
    by_cases hi : i < 3
    · rw [List.getElem?_append_left (by simpa using hi)] at hu
      obtain ⟨a, rfl, hc⟩ := h 0 z rfl
      refine ⟨a, rfl, ?_⟩
      have := hc i (by simpa using hi)
      rw [add_add', Nat.add_zero] at this
      rw [this, List.getD_eq_getElem?_getD, hu]
      rfl
    · rw [List.getElem?_append_right (by simp; omega)] at hu
      have := ih (j + 1) (fun i z hz => by
        obtain ⟨a, e, hc⟩ := h (i + 1) z (by simpa using hz)
        exact ⟨a, e, by rw [show j + 1 + i = j + (i + 1) by omega]; exact hc⟩) (i - 3) u (by simpa using hu)
      rw [show (j + 1) * 3 + (i - 3) = j * 3 + i by omega] at this
      exact this
theorem acts_of_trod {fuel : Nat} {cs : List Value} {x : DataW H × List MemPlace} (h : DataW.trod enc Try.prog w base (fun _ => true) held fuel 35 cs = some x) :
    ∃ A n c zs, cs = [.slice A n c] ∧ Rd w 3 A n (acells zs) ∧ n ≤ 9223372036854775807 := by
  obtain ⟨A, n, c, zs, e, hl, h1, h2, _, h3⟩ := slice_of_trod (α := Act3) (fun z => [.int .i64 z.1, .int .i64 z.2.1, .int .i64 z.2.2]) Try.underlying35 (size := 3) (by kernel_rfl) (fun _ => True)
    (fun fuel cs x h => by obtain ⟨a, b, c, e⟩ := act_of_trod h; exact ⟨(a, b, c), e, trivial⟩) h
  simp only [maxLen] at h2
  refine ⟨A, n, c, zs, e, ⟨by rw [acells_len, hl], fun i u hu => ?_⟩, by omega⟩
  have := rd_of_each zs 0 (fun i z hz => by rw [Nat.zero_add]; exact h3 i z hz) i u hu
  simpa using this
theorem case_of {cs : Array Value} {d : DataW H} {p : List MemPlace} (h : DataW.Trod enc Try.prog w base (fun _ => true) held 43 (.agg cs) d p) :
    ∃ A n c xs T m t zs at_ b, cs = #[.slice A n c, .slice T m t, .int .i64 at_, .bool b] ∧ InRow w A n c xs ∧ Rd w 3 T m (acells zs) ∧ wfI at_ ∧ m ≤ 9223372036854775807 := by
  obtain ⟨fuel, h⟩ := h
  have c43 : Try.prog.cellsOf 43 = 4 := by kernel_rfl
  have c22 : Try.prog.cellsOf 22 = 1 := by kernel_rfl
  have c35 : Try.prog.cellsOf 35 = 1 := by kernel_rfl
  have c3 : Try.prog.cellsOf 3 = 1 := by kernel_rfl
  have c4 : Try.prog.cellsOf 4 = 1 := by kernel_rfl
  obtain ⟨ys, n, _, _, hl, hyl, hf⟩ := DataW.trod_struct Try.underlying43 h
  rw [c43] at hl
  have hcs : ∃ l, cs.toList = l := ⟨_, rfl⟩
  obtain ⟨l, hcl⟩ := hcs
  change (cs.toList).length = 4 at hl
  simp only [Value.cells] at hf
  rw [hcl] at hl hf
  match l, hl, ys, hyl with
  | [v0, v1, v2, v3], _, [y0, y1, y2, y3], _ =>
    have g0 : DataW.trod enc Try.prog w base (fun _ => true) held n 22 ((List.drop 0 [v0, v1, v2, v3]).take (Try.prog.cellsOf 22)) = some y0 := hf 0 _ rfl
    have g1 : DataW.trod enc Try.prog w base (fun _ => true) held n 35 ((List.drop 1 [v0, v1, v2, v3]).take (Try.prog.cellsOf 35)) = some y1 := hf 1 _ rfl
    have g2 : DataW.trod enc Try.prog w base (fun _ => true) held n 3 ((List.drop 2 [v0, v1, v2, v3]).take (Try.prog.cellsOf 3)) = some y2 := hf 2 _ rfl
    have g3 : DataW.trod enc Try.prog w base (fun _ => true) held n 4 ((List.drop 3 [v0, v1, v2, v3]).take (Try.prog.cellsOf 4)) = some y3 := hf 3 _ rfl
    clear hf
    rw [c22] at g0
    rw [c35] at g1
    rw [c3] at g2
    rw [c4] at g3
    obtain ⟨A, nn, c, xs, e0, h0⟩ := row_of_trod g0
    obtain ⟨T, m, t, zs, e1, h1, hm⟩ := acts_of_trod g1
    obtain ⟨at_, e2, _, w2⟩ := DataW.trod_int Try.underlying3 g2
    obtain ⟨b, e3, _⟩ := DataW.trod_bool Try.underlying4 g3
    simp at e0 e1 e2 e3
    subst e0 e1 e2 e3
    exact ⟨A, nn, c, xs, T, m, t, zs, at_, b, by apply Array.toList_inj.1; exact hcl, h0, h1, wfI_of w2, hm⟩
end
end Go.Proofs.Ythphdaeaicjgmaa
