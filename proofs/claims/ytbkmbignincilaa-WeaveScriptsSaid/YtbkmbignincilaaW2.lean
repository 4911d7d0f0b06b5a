/- slices.Insert of one element into an own row; slices.Delete. (Printed by tools/genins.py.) -/
import Derived.Test.YtbkmbignincilaaW1
import Derived.Test.YtbkmbignincilaaRowL
import Derived.Lib.Overlaps
namespace Go.Proofs.Ytbkmbignincilaa
open Go Go.VC Go.RowKit
set_option linter.unusedVariables false
set_option linter.unusedSimpArgs false
set_option maxRecDepth 100000

theorem inf24 : (Try.prog.info? 24).map (fun i => (i.zero, i.size, i.bytes)) = some (some (.agg (cI Idn.z).toArray), 2, 16) := by kernel_rfl
theorem cl24 : ∀ z : Idn, (cI z).length = 2 := fun _ => rfl
theorem all24 (zs : List Idn) : (zs.flatMap cI).all one = true := by
  induction zs with
  | nil => rfl
  | cons z zs ih => rw [List.flatMap_cons, List.all_append, ih]; rfl
theorem onec24 (zs : List Idn) : ∀ u ∈ zs.flatMap cI, u.oneCell' = true := by
  intro u hu
  obtain ⟨z, _, hu⟩ := List.mem_flatMap.1 hu
  simp only [cI, List.mem_cons, List.not_mem_nil, or_false] at hu
  rcases hu with rfl | rfl <;> rfl
abbrev Row24 := Row cI 2

/-- slices.overlaps of two blocks. -/
theorem fn62 (w : World) {g v o lb cb la ca : Nat} {cs ds : Array Value} (hne : v ≠ g) (hg : w.heap[g]? = some (.cells cs 24 (0, 0))) (hv : w.heap[v]? = some (.cells ds 24 (0, 0))) (hcs : cs.size ≠ 0) :
    Ret Try.prog 62 #[.slice (some ⟨v, 0, none⟩) la ca, .slice (some ⟨g, o, none⟩) lb cb] w fun u W => w = W ∧ u = .bool false := by
  refine ⟨.inr ⟨.bool false, w, ?_, rfl, rfl⟩⟩
  rw [run_callFunc_extern Try.func62 (by kernel_rfl) (by kernel_rfl) (by kernel_rfl) (e := Extern.SlicesOverlaps.overlaps #[41, 41] #[4]) (by kernel_rfl),
      Lib.run_overlaps_apart w 41 4 24 Try.underlying41 2 Try.sizeOf24 ⟨v, 0, none⟩ ⟨g, o, none⟩ la ca lb cb hne 24 24 ds.size cs.size ?_ ?_ hcs ?_ ?_]
  · rfl
  · simp only [World.shape?, hv]
  · simp only [World.shape?, hg]
  · simp only [World.frozen?, hv]; simp
  · simp only [World.frozen?, hv]; simp

theorem from24 {g c k : Nat} (h : c ≠ k) : (if c = k then (some ⟨g, 0, none⟩ : Option Addr) else Option.map (fun x : Addr => x.add (k * ty24.size)) (some (⟨g, 0, none⟩ : Addr))) = some (⟨g, k * 2, none⟩ : Addr) := by
  rw [if_neg h]
  simp [add_plain_, show ty24.size = 2 from rfl]
theorem from24' {g c k : Nat} (h : c ≠ k) : (if c = k then (some ⟨g, 0, none⟩ : Option Addr) else Option.map (fun x : Addr => x.add (k * 2)) (some (⟨g, 0, none⟩ : Addr))) = some (⟨g, k * 2, none⟩ : Addr) := from24 h
theorem ins_list24 (cu : Array Value) (xs : List Idn) (x : Idn) (n i : Nat) (hl : xs.length = n) (hi : i < n) (hc : (n + 1) * 2 ≤ cu.size) (h : cu.toList.take (i * 2) = List.flatMap cI (xs.take i)) :
    (splice (splice cu ((i + 1) * 2) (List.flatMap cI (xs.drop i))) (i * 2) (List.flatMap cI [x])).toList.take ((n + 1) * 2) = List.flatMap cI (xs.take i ++ x :: xs.drop i) ∧ (splice (splice cu (i * 2) (List.flatMap cI [x])) ((i + 1) * 2) (List.flatMap cI (xs.drop i))).toList.take ((n + 1) * 2) = List.flatMap cI (xs.take i ++ x :: xs.drop i) := by
  have hd : (List.flatMap cI (xs.drop i)).length = (n - i) * 2 := by rw [flat_len cl24, List.length_drop, hl]
  have ht : (List.flatMap cI (xs.take i)).length = i * 2 := by rw [flat_len cl24, List.length_take, hl, Nat.min_eq_left (by omega)]
  have e0 : List.flatMap cI (xs.take i ++ x :: xs.drop i) = List.flatMap cI (xs.take i) ++ List.flatMap cI [x] ++ List.flatMap cI (xs.drop i) := by rw [← List.flatMap_append, ← List.flatMap_append]; simp
  have h1 : (List.flatMap cI [x]).length = 2 := rfl
  have hcl : cu.toList.length = cu.size := Array.length_toList
  have hz : ∀ R : List Value, (List.flatMap cI (xs.take i) ++ List.flatMap cI [x] ++ List.flatMap cI (xs.drop i) ++ R).take ((n + 1) * 2) = List.flatMap cI (xs.take i) ++ List.flatMap cI [x] ++ List.flatMap cI (xs.drop i) := fun R =>
    List.take_left' (by rw [List.length_append, List.length_append, ht, h1, hd]; omega)
  have htl : (cu.toList.take ((i + 1) * 2)).length = (i + 1) * 2 := by rw [List.length_take]; omega
  generalize List.flatMap cI (xs.drop i) = D at *
  generalize List.flatMap cI (xs.take i) = H at *
  generalize List.flatMap cI [x] = X at *
  constructor
  · rw [splice_list _ _ _ (by rw [splice_size _ _ _ (by omega), h1]; omega), splice_list _ _ _ (by omega), e0]
    generalize hR : cu.toList.drop ((i + 1) * 2 + D.length) = R
    have a1 : (cu.toList.take ((i + 1) * 2) ++ D ++ R).take (i * 2) = H := by
      rw [List.append_assoc, List.take_append_of_le_length (by omega), List.take_take, Nat.min_eq_left (by omega), h]
    have a2 : (cu.toList.take ((i + 1) * 2) ++ D ++ R).drop (i * 2 + X.length) = D ++ R := by
      rw [List.append_assoc, h1]
      exact List.drop_left' (by omega)
    rw [a1, a2, ← List.append_assoc]
    exact hz R
  · rw [splice_list _ _ _ (by rw [splice_size _ _ _ (by rw [h1]; omega), hd]; omega), splice_list _ _ _ (by rw [h1]; omega), e0, h]
    have a1 : ∀ R : List Value, (H ++ X ++ R).take ((i + 1) * 2) = H ++ X := fun R => List.take_left' (by rw [List.length_append, ht, h1]; omega)
    rw [a1]
    exact hz _

set_option maxHeartbeats 4000000
theorem fn47 {w0 w : World} {base n c i v : Nat} {x : Idn} {A : Option Addr} {xs : List Idn} (h : w.ownsRow base 24 2 (.slice A n c) n (List.flatMap cI xs)) (hb : base ≤ w.heap.size) (hi : i ≤ n)
    (hv : w.heap[v]? = some (.cells (cI x).toArray 24 (0, 0))) (hne : (Value.slice A n c).ownBlock ≠ some v) (hsm : (n + 1) * 16 ≤ 140737488355328) :
    Ret Try.prog 47 #[.slice A n c, .int .i64 i, .slice (some ⟨v, 0, none⟩) 1 1] w fun u W => W.ownsRow base 24 2 u (n + 1) (List.flatMap cI (xs.take i ++ x :: xs.drop i)) ∧ w.grownBy W (Value.slice A n c).ownBlock ∧ Moved w u (.slice A n c) := by
  have hin := own_row cl24 (by decide) h
  have hl := hin.len
  have hvi : Row24 w (some ⟨v, 0, none⟩) 1 [x] := Row.of_at cl24 (by decide) hv rfl rfl (by decide)
  refine Ret.of_vc tab_ok Try.func47 rfl Try.ntmps47 rfl (Nat.le_of_ble_eq_true rfl) Try.call47 ?_
  conv => whnf
  refine ⟨by omega, by omega, fun i' hi' => ?_⟩
  obtain rfl : i' = i := by omega
  conv => whnf
  intro t ht
  obtain rfl : t = false := ht.no (by decide)
  conv => whnf
  intro t ht1
  cases t <;> simp only [VB] at ht1 <;> (conv => whnf)
  case true =>
    obtain rfl : i' = n := by omega
    refine run_append inf24 Try.underlying41 rfl (by decide) h (hvi.rd cl24) (onec24 [x]) (by simp only [maxLen]; omega) (by omega) hb ?_
    intro v' W1 hown hg hat
    conv => whnf
    rw [List.take_of_length_le (by omega), List.drop_of_length_le (by omega)]
    refine ⟨by rw [List.flatMap_append]; exact hown, hg, ?_⟩
    rcases hat with hat | hat
    · exact .inl hat
    · exact .inr ⟨_, hat, Nat.le_refl _⟩
  have hin2 : i' < n := by omega
  intro r hr
  have hr2 : r = ((n + 1 : Nat) : Int) := by rw [hr, wrap_id (by omega) (by omega)]; rfl
  subst hr2
  clear hr
  conv => whnf
  intro t ht2
  rcases h.2 with ⟨h2, h3⟩ | ⟨g, cap, cur, h3, hbg, hg, hnc, hcm, hcs, htk⟩
  · injection h2 with _ h4 _; omega
  injection h3 with h3 h4 h5
  subst h3 h5
  have hgv : v ≠ g := fun e => hne (by rw [e]; rfl)
  cases t <;> simp only [VB] at ht2 <;> (conv => whnf)
  case true =>
    refine ⟨by omega, by omega, fun m hm => ?_⟩
    obtain rfl : m = i' := by omega
    conv => whnf
    intro r hr
    obtain rfl : r = ((n + 1 : Nat) : Int) := by rw [hr, wrap_id (by omega) (by omega)]; rfl
    clear hr
    conv => whnf
    intro r hr
    obtain rfl : r = ((n + 1 - m : Nat) : Int) := by rw [hr, wrap_id (by omega) (by omega)]; omega
    clear hr
    conv => whnf
    obtain ⟨c', hrun, hge, hcm'⟩ := append_zeros (z0 := Idn.z) rfl cl24 (by decide) inf24 Try.underlying41 Try.underlying3 w 41 (hin.take m hi) (cap := c) (k := n + 1 - m) (by omega) (by omega) (by omega) (by simp only [maxLen]; omega)
    refine Run.mk' _ _ hrun ?_
    generalize hcz : (xs.take m ++ List.replicate (c' - m) (Idn.z : Idn)) = zs at *
    have hzl : zs.length = c' := by rw [← hcz, List.length_append, List.length_take, List.length_replicate]; omega
    have hN := New.mk' w.drew (.cells (zs.flatMap cI).toArray 24)
    have hE1 := (Ext.drew w).tr hN.e
    have hg1 : (w.drew.alloc (.cells (zs.flatMap cI).toArray 24)).heap[w.heap.size]? = _ := hN.at_
    have hsz1 : (zs.flatMap cI).toArray.size = c' * 2 := by rw [List.size_toArray, flat_len cl24, hzl]
    have htk1 : (zs.flatMap cI).toArray.toList.take (m * 2) = List.flatMap cI (xs.take m) := by
      rw [List.toList_toArray, flat_take cl24, ← hcz, List.take_left' (by rw [List.length_take]; omega)]
    generalize w.drew.alloc (.cells (zs.flatMap cI).toArray 24) = W1 at hN hE1 hg1 ⊢
    clear hN hrun
    generalize (zs.flatMap cI).toArray = cz at *
    generalize hgs : w.heap.size = g' at hg1 ⊢
    conv => whnf
    refine ⟨by omega, by omega, fun m2 hm2 => ?_⟩
    obtain rfl : m2 = m := by omega
    conv => whnf
    have hvi1 := hvi.ext hE1
    have hx1 : (List.flatMap cI [x]).length = 2 := rfl
    refine Run.mk' (goInt 1) (VC.World.putObj W1 g' (.cells (splice cz (m2 * 2) (List.flatMap cI [x])) 24 (0, 0))) (by rw [from24 (by omega)]; exact copy_row inf24 Try.underlying41 W1 3 (k := 1) (o := m2 * 2) (dLen := m2 + (n + 1 - m2) - m2) (dCap := c' - m2) (sLen := 1) (sCap := 1) hg1 (hvi1.rd cl24) (all24 _) (by omega) (by omega)) ?_
    have hP := Put.mk' hg1 (.cells (splice cz (m2 * 2) (List.flatMap cI [x])) 24 (0, 0))
    generalize VC.World.putObj W1 g' (.cells (splice cz (m2 * 2) (List.flatMap cI [x])) 24 (0, 0)) = W2 at hP ⊢
    have hE2 := hP.e hE1 (by omega)
    have hg2 := hP.at_
    conv => whnf
    refine VDraw.mk' tab_ok (Ext W2) [8] (.take 0 <| .take 1 <| .take 2 <| .take 3 <| .take 4 <| .take 5 <| .take 6 <| .take 7 <| .one 8 <| .done) mixed (by kernel_rfl) (by kernel_rfl) (Ext.drew _) ?_
    have hd := Ext.drew W2
    replace hE2 := hE2.tr hd
    replace hg2 := hd.at_ hg2
    generalize W2.drew = W3 at hE2 hg2 ⊢
    conv => whnf
    intro r hr
    obtain rfl : r = ((m2 + 1 : Nat) : Int) := by rw [hr, wrap_id (by omega) (by omega)]; rfl
    conv => whnf
    refine ⟨by omega, by omega, fun m3 hm3 => ?_⟩
    obtain rfl : m3 = m2 + 1 := by omega
    conv => whnf
    refine ⟨by omega, by omega, fun m4 hm4 => ?_⟩
    obtain rfl : m4 = m2 := by omega
    conv => whnf
    have hdr := (hin.ext hE2).drop hnc m4 hi
    rw [from24' (by omega)] at hdr
    have hdl : (List.flatMap cI (xs.drop m4)).length = (n - m4) * 2 := by rw [flat_len cl24, List.length_drop, hl]
    have hss : (splice cz (m4 * 2) (List.flatMap cI [x])).size = c' * 2 := by rw [splice_size _ _ _ (by omega), hsz1]
    refine Run.mk' (goInt ((n - m4 : Nat) : Int)) (VC.World.putObj W3 g' (.cells (splice (splice cz (m4 * 2) (List.flatMap cI [x])) ((m4 + 1) * 2) (List.flatMap cI (xs.drop m4))) 24 (0, 0)))
      (by rw [from24 (by omega), from24 (by omega)]; exact copy_row inf24 Try.underlying41 W3 3 (k := n - m4) (o := (m4 + 1) * 2) (dLen := m4 + (n + 1 - m4) - (m4 + 1)) (dCap := c' - (m4 + 1)) (sLen := n - m4) (sCap := c - m4) hg2 (hdr.rd cl24) (all24 _) (by omega) (by omega)) ?_
    have hP2 := Put.mk' hg2 (.cells (splice (splice cz (m4 * 2) (List.flatMap cI [x])) ((m4 + 1) * 2) (List.flatMap cI (xs.drop m4))) 24 (0, 0))
    generalize VC.World.putObj W3 g' (.cells (splice (splice cz (m4 * 2) (List.flatMap cI [x])) ((m4 + 1) * 2) (List.flatMap cI (xs.drop m4))) 24 (0, 0)) = W4 at hP2 ⊢
    conv => whnf
    have q1 : n + 1 ≤ c' := by omega
    have q2 : base ≤ g' := by omega
    have q3 : w.heap.size ≤ g' := by omega
    refine ⟨⟨?_, .inr ⟨g', c', _, ?_, q2, hP2.at_, q1, hcm', ?_, ?_⟩⟩, grownBy_put (grownBy_ext hE2 _) hP2 (.inr q3), .inr ⟨g', rfl, q3⟩⟩
    · rw [flat_len cl24]; simp; omega
    · rw [show m4 + (n + 1 - m4) = n + 1 by omega]
    · rw [splice_size _ _ _ (by omega), hss]
    · exact (ins_list24 cz xs x n m4 hl hin2 (by omega) htk1).2
  case false =>
    intro r hr
    obtain rfl : r = ((n + 1 : Nat) : Int) := by rw [hr, wrap_id (by omega) (by omega)]; rfl
    clear hr
    conv => whnf
    refine ⟨by omega, by omega, fun m hm => ?_⟩
    obtain rfl : m = n + 1 := by omega
    conv => whnf
    intro r hr
    obtain rfl : r = ((i' + 1 : Nat) : Int) := by rw [hr, wrap_id (by omega) (by omega)]; rfl
    clear hr
    conv => whnf
    refine ⟨by omega, by omega, fun m hm2 => ?_⟩
    obtain rfl : m = i' + 1 := by omega
    rw [from24 (by omega)]
    conv => whnf
    refine (fn62 w hgv hg hv (by omega)).mono ?_
    rintro _ _ ⟨rfl, rfl⟩
    conv => whnf
    refine VDraw.mk' tab_ok (Ext w) [8] (.take 0 <| .take 1 <| .take 2 <| .take 3 <| .take 4 <| .take 5 <| .take 6 <| .take 7 <| .one 8 <| .done) mixed (by kernel_rfl) (by kernel_rfl) (Ext.drew _) ?_
    have hd := Ext.drew w
    have hin3 := hin.ext hd
    have hvi3 := hvi.ext hd
    have hg3 := hd.at_ hg
    generalize w.drew = W1 at hd hin3 hvi3 hg3 ⊢
    conv => whnf
    intro r hr
    obtain rfl : r = ((i' + 1 : Nat) : Int) := by rw [hr, wrap_id (by omega) (by omega)]; rfl
    clear hr
    conv => whnf
    refine ⟨by omega, by omega, fun m3 hm3 => ?_⟩
    obtain rfl : m3 = i' + 1 := by omega
    conv => whnf
    refine ⟨by omega, by omega, fun m4 hm4 => ?_⟩
    obtain rfl : m4 = i' := by omega
    conv => whnf
    have hdr := hin3.drop hnc m4 hi
    rw [from24' (by omega)] at hdr
    have hdl : (List.flatMap cI (xs.drop m4)).length = (n - m4) * 2 := by rw [flat_len cl24, List.length_drop, hl]
    have hx1 : (List.flatMap cI [x]).length = 2 := rfl
    have q1 : n + 1 ≤ c := by omega
    refine Run.mk' (goInt ((n - m4 : Nat) : Int)) (VC.World.putObj W1 g (.cells (splice cur ((m4 + 1) * 2) (List.flatMap cI (xs.drop m4))) 24 (0, 0)))
      (by rw [from24 (by omega), from24 (by omega)]; exact copy_row inf24 Try.underlying41 W1 3 (k := n - m4) (o := (m4 + 1) * 2) (dLen := n + 1 - (m4 + 1)) (dCap := c - (m4 + 1)) (sLen := n + 1 - m4) (sCap := c - m4) hg3 (hdr.rd cl24) (all24 _) (by omega) (by omega)) ?_
    have hP := Put.mk' hg3 (.cells (splice cur ((m4 + 1) * 2) (List.flatMap cI (xs.drop m4))) 24 (0, 0))
    generalize VC.World.putObj W1 g (.cells (splice cur ((m4 + 1) * 2) (List.flatMap cI (xs.drop m4))) 24 (0, 0)) = W2 at hP ⊢
    have hg4 := hP.at_
    have hgr := grownBy_put (grownBy_ext hd (Value.slice (some ⟨g, 0, none⟩) n c).ownBlock) hP (.inl rfl)
    have hvi4 : Row24 W2 (some ⟨v, 0, none⟩) 1 [x] := hvi3.put hP (fun a e => by cases e; exact hgv)
    have hss : (splice cur ((m4 + 1) * 2) (List.flatMap cI (xs.drop m4))).size = c * 2 := by rw [splice_size _ _ _ (by omega), hcs]
    conv => whnf
    refine ⟨by omega, by omega, fun m5 hm5 => ?_⟩
    obtain rfl : m5 = m4 := by omega
    conv => whnf
    refine Run.mk' (goInt 1) (VC.World.putObj W2 g (.cells (splice (splice cur ((m5 + 1) * 2) (List.flatMap cI (xs.drop m5))) (m5 * 2) (List.flatMap cI [x])) 24 (0, 0)))
      (by rw [from24 (by omega)]; exact copy_row inf24 Try.underlying41 W2 3 (k := 1) (o := m5 * 2) (dLen := n + 1 - m5) (dCap := c - m5) (sLen := 1) (sCap := 1) hg4 (hvi4.rd cl24) (all24 _) (by omega) (by omega)) ?_
    have hP2 := Put.mk' hg4 (.cells (splice (splice cur ((m5 + 1) * 2) (List.flatMap cI (xs.drop m5))) (m5 * 2) (List.flatMap cI [x])) 24 (0, 0))
    generalize VC.World.putObj W2 g (.cells (splice (splice cur ((m5 + 1) * 2) (List.flatMap cI (xs.drop m5))) (m5 * 2) (List.flatMap cI [x])) 24 (0, 0)) = W3 at hP2 ⊢
    conv => whnf
    refine ⟨⟨?_, .inr ⟨g, c, _, rfl, hbg, hP2.at_, q1, hcm, ?_, ?_⟩⟩, grownBy_put hgr hP2 (.inl rfl), .inl rfl⟩
    · rw [flat_len cl24]; simp; omega
    · rw [splice_size _ _ _ (by omega), hss]
    · refine (ins_list24 cur xs x n m5 hl hin2 (by omega) ?_).1
      have := congrArg (List.take (m5 * 2)) htk
      rw [List.take_take, Nat.min_eq_left (by omega)] at this
      rw [this, flat_take cl24]

theorem fn44 {w : World} {base n c i j : Nat} {A : Option Addr} {xs : List Idn} (h : w.ownsRow base 24 2 (.slice A n c) n (List.flatMap cI xs)) (hij : i ≤ j) (hj : j ≤ n) :
    Ret Try.prog 44 #[.slice A n c, .int .i64 i, .int .i64 j] w fun u W => u = .slice A (i + (n - j)) c ∧ W.ownsRow base 24 2 u (i + (n - j)) (List.flatMap cI (xs.take i ++ xs.drop j)) ∧ w.grownBy W (Value.slice A n c).ownBlock := by
  have hin := own_row cl24 (by decide) h
  have hl := hin.len
  have hm := hin.small
  have hnc : n ≤ c := by
    rcases h.2 with ⟨h1, h2⟩ | ⟨g, cap, cur, h1, _, _, h2, _⟩
    · injection h1 with _ h4 h5; omega
    · injection h1 with h4 h5 h6; omega
  refine Ret.of_vc tab_ok Try.func44 rfl Try.ntmps44 rfl (Nat.le_of_ble_eq_true rfl) Try.call44 ?_
  conv => whnf
  refine ⟨by omega, by omega, by omega, by omega, fun a b d ha hb hd => ?_⟩
  obtain rfl : a = i := by omega
  obtain rfl : b = j := by omega
  obtain rfl : d = n := by omega
  clear ha hb hd
  conv => whnf
  intro t ht
  cases t <;> simp only [VB] at ht <;> (conv => whnf)
  case true =>
    obtain rfl : a = b := by omega
    have e : a + (d - a) = d := by omega
    rw [e, List.take_append_drop]
    exact ⟨rfl, h, World.grownBy.refl w _⟩
  rcases h.2 with ⟨h2, h3⟩ | ⟨g, cap, cur, h3, hbg, hg, hnc2, hcm, hcs, htk⟩
  · injection h2 with _ h4 _; omega
  injection h3 with h3 h4 h5
  subst h3 h5
  refine VDraw.mk' tab_ok (Ext w) [6] (.take 0 <| .take 1 <| .take 2 <| .take 3 <| .take 4 <| .take 5 <| .one 6 <| .take 7 <| .done) mixed (by kernel_rfl) (by kernel_rfl) (Ext.drew _) ?_
  have hd := Ext.drew w
  have hin3 := hin.ext hd
  have hg3 := hd.at_ hg
  generalize w.drew = W1 at hd hin3 hg3 ⊢
  conv => whnf
  refine ⟨by omega, by omega, fun m hm => ?_⟩
  obtain rfl : m = a := by omega
  conv => whnf
  refine ⟨by omega, by omega, fun m2 hm2 => ?_⟩
  obtain rfl : m2 = b := by omega
  conv => whnf
  have hdr : Row24 W1 (if c = m2 then (some ⟨g, 0, none⟩ : Option Addr) else Option.map (fun x : Addr => x.add (m2 * ty24.size)) (some (⟨g, 0, none⟩ : Addr))) (d - m2) (xs.drop m2) := hin3.drop hnc m2 hj
  have hdl : (List.flatMap cI (xs.drop m2)).length = (d - m2) * 2 := by rw [flat_len cl24, List.length_drop, hl]
  have hroom : m + (d - m2) ≤ c := by omega
  refine Run.mk' _ _ (append_row inf24 Try.underlying41 W1 41 (sc := c - m2) hg3 (hdr.rd cl24) (all24 _) hroom (by rw [show ((xs.drop m2).flatMap cI).length = (d - m2) * 2 from hdl]; omega)) ?_
  have hP := Put.mk' hg3 (.cells (splice cur (m * 2) (List.flatMap cI (xs.drop m2))) 24 (0, 0))
  generalize VC.World.putObj W1 g (.cells (splice cur (m * 2) (List.flatMap cI (xs.drop m2))) 24 (0, 0)) = W2 at hP ⊢
  have hg4 := hP.at_
  have hgr := grownBy_put (grownBy_ext hd (Value.slice (some ⟨g, 0, none⟩) d c).ownBlock) hP (.inl rfl)
  have hss : (splice cur (m * 2) (List.flatMap cI (xs.drop m2))).size = c * 2 := by rw [splice_size _ _ _ (by omega), hcs]
  conv => whnf
  refine ⟨by omega, by omega, by omega, fun p q hp hq => ?_⟩
  obtain rfl : p = m + (d - m2) := by omega
  obtain rfl : q = d := by omega
  rw [from24 (by omega)]
  conv => whnf
  obtain ⟨W3, hrun, hP2⟩ := clear_row (z0 := Idn.z) rfl cl24 (by decide) (fun k => all24 _) inf24 Try.underlying41 W2 0 (g := g) (o := (m + (q - m2)) * 2) (k := q - (m + (q - m2))) (c := c - (m + (q - m2))) hg4 (by omega)
  refine Run.mk' _ _ hrun ?_
  have hzl : ((List.replicate (q - (m + (q - m2))) (Idn.z : Idn)).flatMap cI).length = (q - (m + (q - m2))) * 2 := by rw [flat_len cl24, List.length_replicate]
  conv => whnf
  refine ⟨rfl, ⟨?_, .inr ⟨g, c, _, rfl, hbg, hP2.at_, by omega, hcm, ?_, ?_⟩⟩, grownBy_put hgr hP2 (.inl rfl)⟩
  · rw [flat_len cl24]; simp; omega
  · rw [splice_size _ _ _ (by omega), hss]
  · rw [splice_list _ _ _ (by omega)]
    have htl : ((splice cur (m * 2) (List.flatMap cI (xs.drop m2))).toList.take ((m + (q - m2)) * 2)).length = (m + (q - m2)) * 2 := by rw [List.length_take, Array.length_toList, hss]; omega
    rw [List.append_assoc, List.take_left' htl, splice_list _ _ _ (by omega)]
    rw [List.flatMap_append]
    have e1 : cur.toList.take (m * 2) = List.flatMap cI (xs.take m) := by
      have := congrArg (List.take (m * 2)) htk
      rw [List.take_take, Nat.min_eq_left (by omega)] at this
      rw [this, flat_take cl24]
    rw [e1]
    exact List.take_left' (by rw [List.length_append, hdl, flat_len cl24, List.length_take]; omega)
end Go.Proofs.Ytbkmbignincilaa
