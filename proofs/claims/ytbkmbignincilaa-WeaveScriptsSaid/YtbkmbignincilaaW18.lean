/- What came in: Ids, calls, elements. -/
import Derived.Test.YtbkmbignincilaaW17
import Derived.Test.YtbkmbignincilaaOpens
import Derived.WalkKit
import Derived.ProofKit
import Derived.OpenShut
import Derived.ShutString
import Derived.ChangeOld
import Derived.Below
namespace Go.Proofs.Ytbkmbignincilaa
open Go Go.VC Go.ChangeShapes Go.WideShapes Go.ChangeAt Go.RowKit
set_option linter.unusedVariables false
set_option maxRecDepth 100000

/-- An element with whatever users. -/
structure ElU where
  e : El
  A : Option Addr
  n : Nat
  c : Nat
instance : Inhabited ElU := ⟨⟨El.z, none, 0, 0⟩⟩
instance : Inhabited Op1 := ⟨⟨false, El.z⟩⟩
abbrev cU (z : ElU) : List Value := [.int .i64 z.e.id.t, .int .i64 z.e.id.s, .int .i64 z.e.ref.t, .int .i64 z.e.ref.s, .int .i64 z.e.rune, .slice z.A z.n z.c]
def wfI (c : Int) : Prop := -9223372036854775808 ≤ c ∧ c ≤ 9223372036854775807
abbrev Row32 := Row cO 6
abbrev RowU := Row cU 6
section
variable {H : Type} {enc : TypeId × Value → H} {w : World} {base : Nat} {held : Bool}
theorem wfI_of {v : Int} (h : (Lit.int .i64 v).wf = true) : wfI v := by
  simp only [Lit.wf, Bool.and_eq_true, decide_eq_true_eq] at h
  exact h
theorem c3_ : Try.prog.cellsOf 3 = 1 := by kernel_rfl
theorem c4_ : Try.prog.cellsOf 4 = 1 := by kernel_rfl
theorem c24_ : Try.prog.cellsOf 24 = 2 := by kernel_rfl
theorem c32_ : Try.prog.cellsOf 32 = 6 := by kernel_rfl
theorem c49_ : Try.prog.cellsOf 49 = 6 := by kernel_rfl
theorem c47_ : Try.prog.cellsOf 47 = 1 := by kernel_rfl
theorem id_of_trod {fuel : Nat} {cs : List Value} {x : DataW H × List MemPlace} (h : DataW.trod enc Try.prog w base (fun _ => true) held fuel 24 cs = some x) : ∃ x : Idn, cs = cI x := by
  obtain ⟨ys, n, _, _, hl, hyl, hf⟩ := DataW.trod_struct Try.underlying24 h
  rw [c24_] at hl
  match cs, hl, ys, hyl with
  | [v0, v1], _, [y0, y1], _ =>
    have g0 : DataW.trod enc Try.prog w base (fun _ => true) held n 3 ((List.drop 0 [v0, v1]).take (Try.prog.cellsOf 3)) = some y0 := hf 0 _ rfl
    have g1 : DataW.trod enc Try.prog w base (fun _ => true) held n 3 ((List.drop 1 [v0, v1]).take (Try.prog.cellsOf 3)) = some y1 := hf 1 _ rfl
    clear hf
    rw [c3_] at g0 g1
    obtain ⟨a, e0, _⟩ := DataW.trod_int Try.underlying3 g0
    obtain ⟨b, e1, _⟩ := DataW.trod_int Try.underlying3 g1
    simp at e0 e1
    subst e0 e1
    exact ⟨⟨a, b⟩, rfl⟩
theorem op_of_trod {fuel : Nat} {cs : List Value} {x : DataW H × List MemPlace} (h : DataW.trod enc Try.prog w base (fun _ => true) held fuel 32 cs = some x) : ∃ o : Op1, cs = cO o := by
  obtain ⟨ys, n, _, _, hl, hyl, hf⟩ := DataW.trod_struct Try.underlying32 h
  rw [c32_] at hl
  match cs, hl, ys, hyl with
  | [v0, v1, v2, v3, v4, v5], _, [y0, y1, y2, y3], _ =>
    have g0 : DataW.trod enc Try.prog w base (fun _ => true) held n 4 ((List.drop 0 [v0, v1, v2, v3, v4, v5]).take (Try.prog.cellsOf 4)) = some y0 := hf 0 _ rfl
    have g1 : DataW.trod enc Try.prog w base (fun _ => true) held n 24 ((List.drop 1 [v0, v1, v2, v3, v4, v5]).take (Try.prog.cellsOf 24)) = some y1 := hf 1 _ rfl
    have g2 : DataW.trod enc Try.prog w base (fun _ => true) held n 24 ((List.drop 3 [v0, v1, v2, v3, v4, v5]).take (Try.prog.cellsOf 24)) = some y2 := hf 2 _ rfl
    have g3 : DataW.trod enc Try.prog w base (fun _ => true) held n 3 ((List.drop 5 [v0, v1, v2, v3, v4, v5]).take (Try.prog.cellsOf 3)) = some y3 := hf 3 _ rfl
    clear hf
    rw [c4_] at g0
    rw [c24_] at g1 g2
    rw [c3_] at g3
    obtain ⟨d, e0, _⟩ := DataW.trod_bool Try.underlying4 g0
    obtain ⟨i, e1⟩ := id_of_trod g1
    obtain ⟨r, e2⟩ := id_of_trod g2
    obtain ⟨u, e3, _⟩ := DataW.trod_int Try.underlying3 g3
    simp at e0 e1 e2 e3
    obtain ⟨rfl, rfl⟩ := e1
    obtain ⟨rfl, rfl⟩ := e2
    subst e0 e3
    exact ⟨⟨d, ⟨i, r, u⟩⟩, rfl⟩
theorem el_of_trod {fuel : Nat} {cs : List Value} {x : DataW H × List MemPlace} (h : DataW.trod enc Try.prog w base (fun _ => true) held fuel 49 cs = some x) : ∃ z : ElU, cs = cU z := by
  obtain ⟨ys, n, _, _, hl, hyl, hf⟩ := DataW.trod_struct Try.underlying49 h
  rw [c49_] at hl
  match cs, hl, ys, hyl with
  | [v0, v1, v2, v3, v4, v5], _, [y0, y1, y2, y3], _ =>
    have g0 : DataW.trod enc Try.prog w base (fun _ => true) held n 24 ((List.drop 0 [v0, v1, v2, v3, v4, v5]).take (Try.prog.cellsOf 24)) = some y0 := hf 0 _ rfl
    have g1 : DataW.trod enc Try.prog w base (fun _ => true) held n 24 ((List.drop 2 [v0, v1, v2, v3, v4, v5]).take (Try.prog.cellsOf 24)) = some y1 := hf 1 _ rfl
    have g2 : DataW.trod enc Try.prog w base (fun _ => true) held n 3 ((List.drop 4 [v0, v1, v2, v3, v4, v5]).take (Try.prog.cellsOf 3)) = some y2 := hf 2 _ rfl
    have g3 : DataW.trod enc Try.prog w base (fun _ => true) held n 47 ((List.drop 5 [v0, v1, v2, v3, v4, v5]).take (Try.prog.cellsOf 47)) = some y3 := hf 3 _ rfl
    clear hf
    rw [c24_] at g0 g1
    rw [c3_] at g2
    rw [c47_] at g3
    obtain ⟨i, e0⟩ := id_of_trod g0
    obtain ⟨r, e1⟩ := id_of_trod g1
    obtain ⟨u, e2, _⟩ := DataW.trod_int Try.underlying3 g2
    have h3 : ∃ A k c, [v5] = [Value.slice A k c] := by
      rcases open_ints Try.underlying47 Try.underlying3 (by kernel_rfl) g3 with ⟨hcs, _⟩ | ⟨a, l, c, zs, hcs, _⟩
      · exact ⟨none, 0, 0, hcs⟩
      · exact ⟨some a, l, c, hcs⟩
    obtain ⟨A, k, c, e3⟩ := h3
    simp at e0 e1 e2 e3
    obtain ⟨rfl, rfl⟩ := e0
    obtain ⟨rfl, rfl⟩ := e1
    subst e2 e3
    exact ⟨⟨⟨i, r, u⟩, A, k, c⟩, rfl⟩
theorem id_of {cs : Array Value} {d : DataW H} {p : List MemPlace} (h : DataW.Trod enc Try.prog w base (fun _ => true) held 24 (.agg cs) d p) : ∃ x : Idn, cs = #[.int .i64 x.t, .int .i64 x.s] := by
  obtain ⟨fuel, hf⟩ := h
  obtain ⟨x, e⟩ := id_of_trod hf
  exact ⟨x, by apply Array.toList_inj.1; exact e⟩
theorem op_of {cs : Array Value} {d : DataW H} {p : List MemPlace} (h : DataW.Trod enc Try.prog w base (fun _ => true) held 32 (.agg cs) d p) : ∃ o : Op1, cs = #[.bool o.drop, .int .i64 o.e.id.t, .int .i64 o.e.id.s, .int .i64 o.e.ref.t, .int .i64 o.e.ref.s, .int .i64 o.e.rune] := by
  obtain ⟨fuel, hf⟩ := h
  obtain ⟨x, e⟩ := op_of_trod hf
  exact ⟨x, by apply Array.toList_inj.1; exact e⟩
theorem script_of {a : Option Addr} {n c : Nat} {d : DataW H} {p : List MemPlace} (h : DataW.Trod enc Try.prog w base (fun _ => true) held 22 (.slice a n c) d p) : ∃ zs, Row32 w a n zs := by
  obtain ⟨fuel, hf⟩ := h
  obtain ⟨A, k, c', zs, e, hl, h1, h2, _, h3⟩ := slice_of_trod (α := Op1) cO Try.underlying22 (size := 6) (by kernel_rfl) (fun _ => True) (fun fuel cs x h => by obtain ⟨o, e⟩ := op_of_trod h; exact ⟨o, e, trivial⟩) hf
  simp [Value.cells] at e
  obtain ⟨rfl, rfl, rfl⟩ := e
  simp only [maxLen] at h2
  exact ⟨zs, hl, by omega, h3⟩
theorem els_of {a : Option Addr} {n c : Nat} {d : DataW H} {p : List MemPlace} (h : DataW.Trod enc Try.prog w base (fun _ => true) held 28 (.slice a n c) d p) : ∃ zs, RowU w a n zs := by
  obtain ⟨fuel, hf⟩ := h
  obtain ⟨A, k, c', zs, e, hl, h1, h2, _, h3⟩ := slice_of_trod (α := ElU) cU Try.underlying28 (size := 6) (by kernel_rfl) (fun _ => True) (fun fuel cs x h => by obtain ⟨o, e⟩ := el_of_trod h; exact ⟨o, e, trivial⟩) hf
  simp [Value.cells] at e
  obtain ⟨rfl, rfl, rfl⟩ := e
  simp only [maxLen] at h2
  exact ⟨zs, hl, by omega, h3⟩
end
end Go.Proofs.Ytbkmbignincilaa
