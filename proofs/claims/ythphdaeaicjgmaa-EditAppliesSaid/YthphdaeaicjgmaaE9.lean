/- slices.Delete in an own row. -/
import Derived.Test.YthphdaeaicjgmaaE8
namespace Go.Proofs.Ythphdaeaicjgmaa
open Go Go.VC Go.RowKit
set_option linter.unusedVariables false
set_option linter.unusedSimpArgs false
set_option maxRecDepth 100000

theorem run_append_row (w : World) (ty : TypeId) {g i c k sc : Nat} {cs : Array Value} {A : Option Addr} {xs : List Int} (hg : w.heap[g]? = some (.cells cs 3 (0, 0)))
    (h : Ints w A k xs) (hroom : i + k ≤ c) (hfit : c ≤ cs.size) :
    (Builtin.append_ #[22, 22] ty #[.slice (some ⟨g, 0, none⟩) i c, .slice A k sc]).run Try.prog w = .ok (.slice (some ⟨g, 0, none⟩) (i + k) c) (World.putObj w g (.cells (splice cs i (ints xs)) 3 (0, 0))) := by
  have hl := h.len
  cases hi : Try.prog.info? 3 with
  | none => have := inf3; rw [hi] at this; cases this
  | some inf =>
    have h3 := inf3
    rw [hi] at h3
    simp only [Option.map_some, Option.some.injEq, Prod.mk.injEq] at h3
    obtain ⟨hz, hs, hb⟩ := h3
    have hf : (Builtin.firstCells 1 k (.slice A k sc)).run Try.prog w = .ok (ints xs).toArray w := by
      cases A with
      | none =>
        have hx : xs = [] := by
          cases xs with
          | nil => rfl
          | cons x xs => obtain ⟨a, e, _⟩ := h.get 0 x rfl; cases e
        subst hx
        simp [Builtin.firstCells, ints]
      | some a =>
        refine run_firstCells_some (P := Try.prog) w 1 k a k sc (ints xs) (by simp [ints, hl]) ?_
        intro j v hj
        simp only [ints, List.getElem?_map, Option.map_eq_some_iff] at hj
        obtain ⟨x, hx, rfl⟩ := hj
        obtain ⟨a', e, hc⟩ := h.get j x hx
        cases e
        exact hc
    have hone : ((ints xs).all one) = true := by simp [ints, one]
    have hst := storeCells_run (P := Try.prog) g 3 (ints xs) w cs i 0 hg (by simp [ints, hl]; omega) hone
    simp only [Nat.add_zero] at hst
    simp [Builtin.append_, run_underlying Try.underlying22, Builtin.lenOf, sizeOf, typeInfo, hi, hs, hroom, hf, add_plain_, hst]

set_option maxHeartbeats 4000000
theorem fn34 {w : World} {base n c i j : Nat} {A : Option Addr} {xs : List Int} (h : w.ownsRow base 3 1 (.slice A n c) n (ints xs)) (hij : i ≤ j) (hj : j ≤ n) :
    Ret Try.prog 34 #[.slice A n c, .int .i64 i, .int .i64 j] w fun u W => u = .slice A (i + (n - j)) c ∧ W.ownsRow base 3 1 u (i + (n - j)) (ints (xs.take i ++ xs.drop j)) ∧ w.grownBy W (Value.slice A n c).ownBlock := by
  have hin := own_ints h
  have hl := hin.len
  have hm := hin.small
  have hnc : n ≤ c := by
    rcases h.2 with ⟨h1, h2⟩ | ⟨g, cap, cur, h1, _, _, h2, _⟩
    · omega
    · injection h1 with h4 h5 h6; omega
  refine Ret.of_vc tab_ok Try.func34 rfl Try.ntmps34 rfl (Nat.le_of_ble_eq_true rfl) Try.call34 ?_
  conv => whnf
  refine ⟨by omega, by omega, by omega, by omega, fun a b d ha hb hd => ?_⟩
  obtain rfl : a = i := by omega
  obtain rfl : b = j := by omega
  obtain rfl : d = n := by omega
  clear ha hb hd
  conv => whnf
  intro t ht
  cases t <;> simp only [VB] at ht <;> (conv => whnf)
  case true =>
    obtain rfl : a = b := by omega
    have e : a + (d - a) = d := by omega
    rw [e, List.take_append_drop]
    exact ⟨rfl, h, World.grownBy.refl w _⟩
  rcases h.2 with ⟨h2, h3⟩ | ⟨g, cap, cur, h3, hbg, hg, hnc2, hcm, hcs, htk⟩
  · omega
  injection h3 with h3 h4 h5
  subst h3 h5
  rw [Nat.mul_one] at htk hcs
  refine VDraw.mk' tab_ok (Ext w) [6] (.take 0 <| .take 1 <| .take 2 <| .take 3 <| .take 4 <| .take 5 <| .one 6 <| .take 7 <| .done) mixed (by kernel_rfl) (by kernel_rfl) (Ext.drew _) ?_
  have hd := Ext.drew w
  have hin3 := hin.ext hd
  have hg3 := hd.at_ hg
  generalize w.drew = W1 at hd hin3 hg3 ⊢
  conv => whnf
  refine ⟨by omega, by omega, fun m hm => ?_⟩
  obtain rfl : m = a := by omega
  conv => whnf
  refine ⟨by omega, by omega, fun m2 hm2 => ?_⟩
  obtain rfl : m2 = b := by omega
  conv => whnf
  have hdr : Ints W1 (if c = m2 then (some ⟨g, 0, none⟩ : Option Addr) else Option.map (fun x : Addr => x.add (m2 * ty3.size)) (some (⟨g, 0, none⟩ : Addr))) (d - m2) (xs.drop m2) := ints_drop hin3 hnc m2 hj
  have hdl : (ints (xs.drop m2)).length = d - m2 := by simp [ints, hl]
  have hroom : m + (d - m2) ≤ c := by omega
  refine Run.mk' _ _ (run_append_row W1 22 (sc := c - m2) hg3 hdr hroom (by omega)) ?_
  have hP := Put.mk' hg3 (.cells (splice cur m (ints (xs.drop m2))) 3 (0, 0))
  generalize World.putObj W1 g (.cells (splice cur m (ints (xs.drop m2))) 3 (0, 0)) = W2 at hP ⊢
  have hg4 := hP.at_
  have hgr := grownBy_put (grownBy_ext hd (Value.slice (some ⟨g, 0, none⟩) d c).ownBlock) hP (.inl rfl)
  have hss : (splice cur m (ints (xs.drop m2))).size = c := by rw [splice_size _ _ _ (by omega), hcs]
  conv => whnf
  refine ⟨by omega, by omega, by omega, fun p q hp hq => ?_⟩
  obtain rfl : p = m + (d - m2) := by omega
  obtain rfl : q = d := by omega
  rw [at_from (by omega)]
  conv => whnf
  obtain ⟨W3, hrun, hP2⟩ := run_clear_row W2 0 (g := g) (o := m + (q - m2)) (k := q - (m + (q - m2))) (c := c - (m + (q - m2))) hg4 (by omega)
  refine Run.mk' _ _ hrun ?_
  conv => whnf
  refine ⟨rfl, ⟨?_, .inr ⟨g, c, _, rfl, hbg, hP2.at_, by omega, hcm, ?_, ?_⟩⟩, grownBy_put hgr hP2 (.inl rfl)⟩
  · simp [ints]; omega
  · rw [splice_size _ _ _ (by rw [hss]; simp only [ints, List.length_map, List.length_replicate]; omega), hss, Nat.mul_one]
  · rw [Nat.mul_one, splice_list _ _ _ (by rw [hss]; simp only [ints, List.length_map, List.length_replicate]; omega)]
    have htl : ((splice cur m (ints (xs.drop m2))).toList.take (m + (q - m2))).length = m + (q - m2) := by rw [List.length_take, Array.length_toList, hss]; omega
    rw [List.append_assoc, List.take_left' htl, splice_list _ _ _ (by omega), ints_app]
    have e1 : cur.toList.take m = ints (xs.take m) := by
      have := congrArg (List.take m) htk
      rw [List.take_take, Nat.min_eq_left (by omega)] at this
      rw [this]
      simp [ints]
    rw [e1]
    exact List.take_left' (by rw [List.length_append, hdl]; simp [ints, hl]; omega)
end Go.Proofs.Ythphdaeaicjgmaa
