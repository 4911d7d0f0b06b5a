/- A message that came in, opened to its cells. -/
import Derived.Test.YtgcelfplgfloaaaA3
import Derived.WalkKit
import Derived.ProofKit
import Derived.OpenShut
import Derived.ShutString
import Derived.ChangeOld
import Derived.Below
namespace Go.Proofs.Ytgcelfplgfloaaa
open Go Go.VC Go.ChangeShapes Go.WideShapes Go.ChangeAt Go.RowKit
set_option linter.unusedVariables false
set_option maxRecDepth 100000
section
variable {H : Type} {enc : TypeId × Value → H} {w : World} {base : Nat} {held : Bool}

theorem ints_of_trod {fuel : Nat} {cs : List Value} {x : DataW H × List MemPlace} (h : DataW.trod enc Try.prog w base (fun _ => true) held fuel 22 cs = some x) :
    ∃ A n c xs, cs = [.slice A n c] ∧ Ints w A n xs ∧ ∀ v ∈ xs, (Lit.int .i64 v).wf = true := by
  rcases open_ints Try.underlying22 Try.underlying3 (by kernel_rfl) h with ⟨hcs, _⟩ | ⟨a, l, c, zs, hcs, _, hl, hm, hz, _, hcell, hwz⟩
  · exact ⟨none, 0, 0, [], hcs, Ints.nil _ _, fun v hv => by cases hv⟩
  · have := Ints.of_row (w := w) (a := some a) (len := l) (cap := c) (zs := zs) (.inr ⟨a, rfl, hl, hm, by simpa using hz, hcell, hwz⟩)
    exact ⟨some a, l, c, zs.take l, hcs, this.1, fun v hv => hwz v (List.mem_of_mem_take hv)⟩

theorem two_of_trod {t : TypeId} {f1 f2 : Field} (hu : Try.prog.underlying t = some (.struct #[f1, f2])) (h1 : f1.type = 3) (h2 : f2.type = 3) (o1 : f1.offset = 0) (o2 : f2.offset = 1) (hc : Try.prog.cellsOf t = 2) (hc3 : Try.prog.cellsOf 3 = 1)
    {fuel : Nat} {cs : List Value} {x : DataW H × List MemPlace} (h : DataW.trod enc Try.prog w base (fun _ => true) held fuel t cs = some x) :
    ∃ a b, cs = [.int .i64 a, .int .i64 b] := by
  obtain ⟨ys, n, _, _, hl, hyl, hf⟩ := DataW.trod_struct hu h
  rw [hc] at hl
  match cs, hl, ys, hyl with
  | [c0, c1], _, [y0, y1], _ =>
    have g0 := hf 0 f1 rfl
    have g1 := hf 1 f2 rfl
    rw [h1, o1, hc3] at g0
    rw [h2, o2, hc3] at g1
    obtain ⟨a, e0, _⟩ := DataW.trod_int Try.underlying3 g0
    obtain ⟨b, e1, _⟩ := DataW.trod_int Try.underlying3 g1
    simp at e0 e1
    subst e0 e1
    exact ⟨a, b, rfl⟩

theorem msg_of_trod {fuel : Nat} {cs : List Value} {x : DataW H × List MemPlace} (h : DataW.trod enc Try.prog w base (fun _ => true) held fuel 41 cs = some x) :
    ∃ (m : MsgV) (A : Option Addr) (c : Nat), cs = m.cells A m.know.length c ∧ Ints w A m.know.length m.know := by
  have c41 : Try.prog.cellsOf 41 = 10 := by kernel_rfl
  have c39 : Try.prog.cellsOf 39 = 7 := by kernel_rfl
  have c37 : Try.prog.cellsOf 37 = 2 := by kernel_rfl
  have c22 : Try.prog.cellsOf 22 = 1 := by kernel_rfl
  have c3 : Try.prog.cellsOf 3 = 1 := by kernel_rfl
  obtain ⟨ys, n, _, _, hl, hyl, hf⟩ := DataW.trod_struct Try.underlying41 h
  rw [c41] at hl
  match cs, hl, ys, hyl with
  | [v0, v1, v2, v3, v4, v5, v6, v7, v8, v9], _, [y0, y1, y2, y3], _ =>
    have g0 : DataW.trod enc Try.prog w base (fun _ => true) held n 3 ((List.drop 0 [v0, v1, v2, v3, v4, v5, v6, v7, v8, v9]).take (Try.prog.cellsOf 3)) = some y0 := hf 0 _ rfl
    have g1 : DataW.trod enc Try.prog w base (fun _ => true) held n 3 ((List.drop 1 [v0, v1, v2, v3, v4, v5, v6, v7, v8, v9]).take (Try.prog.cellsOf 3)) = some y1 := hf 1 _ rfl
    have g2 : DataW.trod enc Try.prog w base (fun _ => true) held n 22 ((List.drop 2 [v0, v1, v2, v3, v4, v5, v6, v7, v8, v9]).take (Try.prog.cellsOf 22)) = some y2 := hf 2 _ rfl
    have g3 : DataW.trod enc Try.prog w base (fun _ => true) held n 39 ((List.drop 3 [v0, v1, v2, v3, v4, v5, v6, v7, v8, v9]).take (Try.prog.cellsOf 39)) = some y3 := hf 3 _ rfl
    clear hf
    rw [c3] at g0 g1
    rw [c22] at g2
    rw [c39] at g3
    obtain ⟨site, e0, _⟩ := DataW.trod_int Try.underlying3 g0
    obtain ⟨seq, e1, _⟩ := DataW.trod_int Try.underlying3 g1
    obtain ⟨A, nn, c, xs, e2, hi, _⟩ := ints_of_trod g2
    obtain ⟨zs, n2, _, _, _, hzl, hf⟩ := DataW.trod_struct Try.underlying39 g3
    match zs, hzl with
    | [z0, z1, z2, z3, z4], _ =>
      have k0 : DataW.trod enc Try.prog w base (fun _ => true) held n2 3 ((List.drop 0 [v3, v4, v5, v6, v7, v8, v9]).take (Try.prog.cellsOf 3)) = some z0 := hf 0 _ rfl
      have k1 : DataW.trod enc Try.prog w base (fun _ => true) held n2 3 ((List.drop 1 [v3, v4, v5, v6, v7, v8, v9]).take (Try.prog.cellsOf 3)) = some z1 := hf 1 _ rfl
      have k2 : DataW.trod enc Try.prog w base (fun _ => true) held n2 37 ((List.drop 2 [v3, v4, v5, v6, v7, v8, v9]).take (Try.prog.cellsOf 37)) = some z2 := hf 2 _ rfl
      have k3 : DataW.trod enc Try.prog w base (fun _ => true) held n2 37 ((List.drop 4 [v3, v4, v5, v6, v7, v8, v9]).take (Try.prog.cellsOf 37)) = some z3 := hf 3 _ rfl
      have k4 : DataW.trod enc Try.prog w base (fun _ => true) held n2 3 ((List.drop 6 [v3, v4, v5, v6, v7, v8, v9]).take (Try.prog.cellsOf 3)) = some z4 := hf 4 _ rfl
      clear hf g0 g1 g2 g3
      rw [c3] at k0 k1 k4
      rw [c37] at k2 k3
      obtain ⟨kind, d0, _⟩ := DataW.trod_int Try.underlying3 k0
      obtain ⟨epoch, d1, _⟩ := DataW.trod_int Try.underlying3 k1
      obtain ⟨idT, idS, d2⟩ := two_of_trod Try.underlying37 rfl rfl rfl rfl c37 c3 k2
      obtain ⟨refT, refS, d3⟩ := two_of_trod Try.underlying37 rfl rfl rfl rfl c37 c3 k3
      obtain ⟨rune, d4, _⟩ := DataW.trod_int Try.underlying3 k4
      have hn := hi.len
      simp at e0 e1 e2 d0 d1 d2 d3 d4
      obtain ⟨rfl, rfl⟩ := d2
      obtain ⟨rfl, rfl⟩ := d3
      subst e0 e1 e2 d0 d1 d4
      subst hn
      exact ⟨⟨site, seq, xs, kind, epoch, idT, idS, refT, refS, rune⟩, A, c, rfl, hi⟩
end
end Go.Proofs.Ytgcelfplgfloaaa
