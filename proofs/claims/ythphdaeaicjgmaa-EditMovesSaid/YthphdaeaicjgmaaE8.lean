/- slices.Insert of one element into an own row. -/
import Derived.Test.YthphdaeaicjgmaaE7
namespace Go.Proofs.Ythphdaeaicjgmaa
open Go Go.VC Go.RowKit
set_option linter.unusedVariables false
set_option linter.unusedSimpArgs false
set_option maxRecDepth 100000

theorem setL_list : ∀ (vs l : List Value) (o : Nat), o + vs.length ≤ l.length → setL l o vs = l.take o ++ vs ++ l.drop (o + vs.length)
  | [], l, o, _ => by simp [setL]
  | v :: vs, l, o, h => by
    simp only [List.length_cons] at h
    rw [setL, setL_list vs (l.set o v) (o + 1) (by rw [List.length_set]; omega)]
    rw [List.take_set, List.drop_set_of_lt (by omega)]
    rw [show o + 1 + vs.length = o + (v :: vs).length by simp; omega]
    congr 1
    have : (l.take (o + 1)).set o v = l.take o ++ [v] := by
      rw [List.take_succ_eq_append_getElem (by omega), List.set_append_right _ _ (by simp; omega)]
      simp [List.length_take, Nat.min_eq_left (show o ≤ l.length by omega)]
    rw [this]
    simp
theorem splice_list (cs : Array Value) (o : Nat) (vs : List Value) (h : o + vs.length ≤ cs.size) : (splice cs o vs).toList = cs.toList.take o ++ vs ++ cs.toList.drop (o + vs.length) := by
  simp only [splice]
  exact setL_list vs cs.toList o (by simpa using h)
theorem splice_size (cs : Array Value) (o : Nat) (vs : List Value) (h : o + vs.length ≤ cs.size) : (splice cs o vs).size = cs.size := by
  rw [← Array.length_toList, splice_list cs o vs h]
  simp; omega
theorem grownBy_ext {w W : World} (h : Ext w W) (row : Option Nat) : w.grownBy W row :=
  ⟨h.os, h.tape, h.output, h.size, fun k hk _ => h.block k hk⟩
theorem grownBy_put {w W W' : World} {row : Option Nat} {g : Nat} {o : Obj} (h : w.grownBy W row) (hp : Put W g o W') (hg : row = some g ∨ w.heap.size ≤ g) : w.grownBy W' row :=
  ⟨hp.os.trans h.os, hp.tape.trans h.tape, hp.output.trans h.output, by rw [hp.size]; exact h.size, fun k hk hr => by
    rw [hp.ne k (fun e => by subst e; rcases hg with hg | hg; exact hr hg.symm; omega)]
    exact h.block k hk hr⟩

/-- What a slice's own block is: kept, or new. -/
def Moved (w : World) (u v : Value) : Prop := u.ownBlock = v.ownBlock ∨ ∃ k, u.ownBlock = some k ∧ w.heap.size ≤ k
theorem ints_of_at {W : World} {g : Nat} {cs : Array Value} {xs : List Int} {n o : Nat} (h : W.heap[g]? = some (.cells cs 3 (0, 0))) (hx : (cs.toList.drop o).take n = ints xs) (hl : xs.length = n) (hn : n ≤ 9223372036854775807) : Ints W (some ⟨g, o, none⟩) n xs := by
  refine ⟨hl, hn, fun i x hi => ⟨_, rfl, ?_⟩⟩
  rw [add_plain_, cell_of_at h]
  have hlt : i < xs.length := (List.getElem?_eq_some_iff.1 hi).1
  have h2 : (ints xs)[i]? = some (.int .i64 x) := by simp [ints, hi]
  rw [← hx, List.getElem?_take, if_pos (by omega), List.getElem?_drop] at h2
  simpa using h2

theorem at_from {g c k : Nat} (h : c ≠ k) : (if c = k then (some ⟨g, 0, none⟩ : Option Addr) else Option.map (fun x : Addr => x.add (k * ty3.size)) (some (⟨g, 0, none⟩ : Addr))) = some (⟨g, k, none⟩ : Addr) := by
  rw [if_neg h]
  simp [add_plain_, show ty3.size = 1 from rfl]
theorem ins_list (cu : Array Value) (xs : List Int) (x : Int) (n i : Nat) (hl : xs.length = n) (hi : i < n) (hc : n + 1 ≤ cu.size) (h : cu.toList.take i = ints (xs.take i)) :
    (splice (splice cu (i + 1) (ints (xs.drop i))) i (ints [x])).toList.take (n + 1) = ints (xs.take i ++ x :: xs.drop i) ∧ (splice (splice cu i (ints [x])) (i + 1) (ints (xs.drop i))).toList.take (n + 1) = ints (xs.take i ++ x :: xs.drop i) := by
  have hd : (ints (xs.drop i)).length = n - i := by simp [ints, hl]
  have ht : (ints (xs.take i)).length = i := by simp [ints, hl]; omega
  have e0 : ints (xs.take i ++ x :: xs.drop i) = ints (xs.take i) ++ ints [x] ++ ints (xs.drop i) := by rw [← ints_app, ← ints_app]; simp
  have h1 : (ints [x]).length = 1 := rfl
  have hcl : cu.toList.length = cu.size := Array.length_toList
  have hz : ∀ R : List Value, (ints (xs.take i) ++ ints [x] ++ ints (xs.drop i) ++ R).take (n + 1) = ints (xs.take i) ++ ints [x] ++ ints (xs.drop i) := fun R =>
    List.take_left' (by rw [List.length_append, List.length_append, ht, h1, hd]; omega)
  have htl : (cu.toList.take (i + 1)).length = i + 1 := by rw [List.length_take]; omega
  constructor
  · rw [splice_list _ _ _ (by rw [splice_size _ _ _ (by omega), h1]; omega), splice_list _ _ _ (by omega), e0]
    generalize hR : cu.toList.drop (i + 1 + (ints (xs.drop i)).length) = R
    have a1 : (cu.toList.take (i + 1) ++ ints (xs.drop i) ++ R).take i = ints (xs.take i) := by
      rw [List.append_assoc, List.take_append_of_le_length (by omega), List.take_take, Nat.min_eq_left (by omega), h]
    have a2 : (cu.toList.take (i + 1) ++ ints (xs.drop i) ++ R).drop (i + (ints [x]).length) = ints (xs.drop i) ++ R := by
      rw [List.append_assoc, h1]
      exact List.drop_left' htl
    rw [a1, a2, ← List.append_assoc]
    exact hz R
  · rw [splice_list _ _ _ (by rw [splice_size _ _ _ (by rw [h1]; omega), hd]; omega), splice_list _ _ _ (by rw [h1]; omega), e0, h]
    have a1 : ∀ R : List Value, (ints (xs.take i) ++ ints [x] ++ R).take (i + 1) = ints (xs.take i) ++ ints [x] := fun R => List.take_left' (by rw [List.length_append, ht, h1])
    rw [a1]
    exact hz _

set_option maxHeartbeats 4000000
theorem fn33 {w0 w : World} {base n c i v : Nat} {x : Int} {A : Option Addr} {xs : List Int} (h : w.ownsRow base 3 1 (.slice A n c) n (ints xs)) (hb : base ≤ w.heap.size) (hi : i ≤ n)
    (hv : w.heap[v]? = some (.cells #[.int .i64 x] 3 (0, 0))) (hne : (Value.slice A n c).ownBlock ≠ some v) (hsm : (n + 1) * 8 ≤ 140737488355328) :
    Ret Try.prog 33 #[.slice A n c, .int .i64 i, .slice (some ⟨v, 0, none⟩) 1 1] w fun u W => W.ownsRow base 3 1 u (n + 1) (ints (xs.take i ++ x :: xs.drop i)) ∧ w.grownBy W (Value.slice A n c).ownBlock ∧ Moved w u (.slice A n c) := by
  have hin := own_ints h
  have hl := hin.len
  have hvi : Ints w (some ⟨v, 0, none⟩) 1 [x] := ints_of_at hv (by simp [ints]) rfl (by decide)
  refine Ret.of_vc tab_ok Try.func33 rfl Try.ntmps33 rfl (Nat.le_of_ble_eq_true rfl) Try.call33 ?_
  conv => whnf
  refine ⟨by omega, by omega, fun i' hi' => ?_⟩
  obtain rfl : i' = i := by omega
  conv => whnf
  intro t ht
  obtain rfl : t = false := ht.no (by decide)
  conv => whnf
  intro t ht1
  cases t <;> simp only [VB] at ht1 <;> (conv => whnf)
  case true =>
    obtain rfl : i' = n := by omega
    refine run_append inf3 Try.underlying22 rfl (by decide) h hvi.rd (one_ints [x]) (by simp only [maxLen]; omega) (by omega) hb ?_
    intro v' W1 hown hg hat
    conv => whnf
    rw [List.take_of_length_le (by omega), List.drop_of_length_le (by omega)]
    refine ⟨by rw [ints_app]; exact hown, hg, ?_⟩
    rcases hat with hat | hat
    · exact .inl hat
    · exact .inr ⟨_, hat, Nat.le_refl _⟩
  have hin2 : i' < n := by omega
  intro r hr
  have hr2 : r = ((n + 1 : Nat) : Int) := by rw [hr, wrap_id (by omega) (by omega)]; rfl
  subst hr2
  clear hr
  conv => whnf
  intro t ht2
  rcases h.2 with ⟨h2, h3⟩ | ⟨g, cap, cur, h3, hbg, hg, hnc, hcm, hcs, htk⟩
  · omega
  injection h3 with h3 h4 h5
  subst h3 h5
  have hgv : v ≠ g := fun e => hne (by rw [e]; rfl)
  rw [Nat.mul_one] at htk hcs
  cases t <;> simp only [VB] at ht2 <;> (conv => whnf)
  case true =>
    refine ⟨by omega, by omega, fun m hm => ?_⟩
    obtain rfl : m = i' := by omega
    conv => whnf
    intro r hr
    obtain rfl : r = ((n + 1 : Nat) : Int) := by rw [hr, wrap_id (by omega) (by omega)]; rfl
    clear hr
    conv => whnf
    intro r hr
    obtain rfl : r = ((n + 1 - m : Nat) : Int) := by rw [hr, wrap_id (by omega) (by omega)]; omega
    clear hr
    conv => whnf
    obtain ⟨c', hrun, hge, hcm'⟩ := run_append_zeros w 22 (ints_take hin m hi) (cap := c) (k := n + 1 - m) (by omega) (by omega) (by omega)
    refine Run.mk' _ _ hrun ?_
    have hN := New.mk' w.drew (.cells (ints (xs.take m ++ List.replicate (c' - m) 0)).toArray 3)
    have hE1 := (Ext.drew w).tr hN.e
    have hg1 : (w.drew.alloc (.cells (ints (xs.take m ++ List.replicate (c' - m) 0)).toArray 3)).heap[w.heap.size]? = _ := hN.at_
    generalize w.drew.alloc (.cells (ints (xs.take m ++ List.replicate (c' - m) 0)).toArray 3) = W1 at hN hE1 hg1 ⊢
    clear hN hrun
    generalize hgs : w.heap.size = g' at hg1 ⊢
    conv => whnf
    refine ⟨by omega, by omega, fun m2 hm2 => ?_⟩
    obtain rfl : m2 = m := by omega
    conv => whnf
    have hvi1 := hvi.ext hE1
    have hsz1 : (ints (xs.take m2 ++ List.replicate (c' - m2) 0)).toArray.size = c' := by simp [ints]; omega
    refine Run.mk' (goInt 1) (World.putObj W1 g' (.cells (splice (ints (xs.take m2 ++ List.replicate (c' - m2) 0)).toArray m2 (ints [x])) 3 (0, 0))) (by rw [at_from (by omega)]; exact run_copy_row (k := 1) (o := m2) (dLen := m2 + (n + 1 - m2) - m2) (dCap := c' - m2) (sLen := 1) (sCap := 1) W1 3 hg1 hvi1 (by omega) (by omega)) ?_
    have hP := Put.mk' hg1 (.cells (splice (ints (xs.take m2 ++ List.replicate (c' - m2) 0)).toArray m2 (ints [x])) 3 (0, 0))
    generalize World.putObj W1 g' (.cells (splice (ints (xs.take m2 ++ List.replicate (c' - m2) 0)).toArray m2 (ints [x])) 3 (0, 0)) = W2 at hP ⊢
    have hE2 := hP.e hE1 (by omega)
    have hg2 := hP.at_
    conv => whnf
    refine VDraw.mk' tab_ok (Ext W2) [8] (.take 0 <| .take 1 <| .take 2 <| .take 3 <| .take 4 <| .take 5 <| .take 6 <| .take 7 <| .one 8 <| .done) mixed (by kernel_rfl) (by kernel_rfl) (Ext.drew _) ?_
    have hd := Ext.drew W2
    replace hE2 := hE2.tr hd
    replace hg2 := hd.at_ hg2
    generalize W2.drew = W3 at hE2 hg2 ⊢
    conv => whnf
    intro r hr
    obtain rfl : r = ((m2 + 1 : Nat) : Int) := by rw [hr, wrap_id (by omega) (by omega)]; rfl
    conv => whnf
    refine ⟨by omega, by omega, fun m3 hm3 => ?_⟩
    obtain rfl : m3 = m2 + 1 := by omega
    conv => whnf
    refine ⟨by omega, by omega, fun m4 hm4 => ?_⟩
    obtain rfl : m4 = m2 := by omega
    conv => whnf
    have hdr := ints_drop (hin.ext hE2) hnc m4 hi
    rw [Nat.mul_one, show (if c = m4 then (some ⟨g, 0, none⟩ : Option Addr) else Option.map (fun x : Addr => x.add m4) (some (⟨g, 0, none⟩ : Addr))) = some ⟨g, m4, none⟩ by rw [if_neg (by omega)]; simp [add_plain_]] at hdr
    have hss : (splice (ints (xs.take m4 ++ List.replicate (c' - m4) 0)).toArray m4 (ints [x])).size = c' := by rw [splice_size _ _ _ (by simp [ints]; omega), hsz1]
    refine Run.mk' (goInt ((n - m4 : Nat) : Int)) (World.putObj W3 g' (.cells (splice (splice (ints (xs.take m4 ++ List.replicate (c' - m4) 0)).toArray m4 (ints [x])) (m4 + 1) (ints (xs.drop m4))) 3 (0, 0)))
      (by rw [at_from (by omega), at_from (by omega)]; exact run_copy_row (k := n - m4) (o := m4 + 1) (dLen := m4 + (n + 1 - m4) - (m4 + 1)) (dCap := c' - (m4 + 1)) (sLen := n - m4) (sCap := c - m4) W3 3 hg2 hdr (by omega) (by omega)) ?_
    have hP2 := Put.mk' hg2 (.cells (splice (splice (ints (xs.take m4 ++ List.replicate (c' - m4) 0)).toArray m4 (ints [x])) (m4 + 1) (ints (xs.drop m4))) 3 (0, 0))
    generalize World.putObj W3 g' (.cells (splice (splice (ints (xs.take m4 ++ List.replicate (c' - m4) 0)).toArray m4 (ints [x])) (m4 + 1) (ints (xs.drop m4))) 3 (0, 0)) = W4 at hP2 ⊢
    conv => whnf
    have q1 : n + 1 ≤ c' := by omega
    have q2 : base ≤ g' := by omega
    have q3 : w.heap.size ≤ g' := by omega
    refine ⟨⟨by simp [ints]; omega, .inr ⟨g', c', _, ?_, q2, hP2.at_, q1, hcm', ?_, ?_⟩⟩, grownBy_put (grownBy_ext hE2 _) hP2 (.inr q3), .inr ⟨g', rfl, q3⟩⟩
    · rw [show m4 + (n + 1 - m4) = n + 1 by omega]
    · rw [splice_size _ _ _ (by rw [hss]; simp only [ints, List.length_map, List.length_drop]; omega), hss, Nat.mul_one]
    · rw [Nat.mul_one]
      exact (ins_list _ xs x n m4 hl hin2 (by rw [hsz1]; omega) (by rw [show (ints (xs.take m4 ++ List.replicate (c' - m4) 0)).toArray.toList = ints (xs.take m4 ++ List.replicate (c' - m4) 0) from rfl, ints_app]; exact List.take_left' (by simp [ints, hl]; omega))).2
  case false =>
    intro r hr
    obtain rfl : r = ((n + 1 : Nat) : Int) := by rw [hr, wrap_id (by omega) (by omega)]; rfl
    clear hr
    conv => whnf
    refine ⟨by omega, by omega, fun m hm => ?_⟩
    obtain rfl : m = n + 1 := by omega
    conv => whnf
    intro r hr
    obtain rfl : r = ((i' + 1 : Nat) : Int) := by rw [hr, wrap_id (by omega) (by omega)]; rfl
    clear hr
    conv => whnf
    refine ⟨by omega, by omega, fun m hm2 => ?_⟩
    obtain rfl : m = i' + 1 := by omega
    rw [at_from (by omega)]
    conv => whnf
    refine (fn60 w hgv hg hv (by omega)).mono ?_
    rintro _ _ ⟨rfl, rfl⟩
    conv => whnf
    refine VDraw.mk' tab_ok (Ext w) [8] (.take 0 <| .take 1 <| .take 2 <| .take 3 <| .take 4 <| .take 5 <| .take 6 <| .take 7 <| .one 8 <| .done) mixed (by kernel_rfl) (by kernel_rfl) (Ext.drew _) ?_
    have hd := Ext.drew w
    have hin3 := hin.ext hd
    have hvi3 := hvi.ext hd
    have hg3 := hd.at_ hg
    generalize w.drew = W1 at hd hin3 hvi3 hg3 ⊢
    conv => whnf
    intro r hr
    obtain rfl : r = ((i' + 1 : Nat) : Int) := by rw [hr, wrap_id (by omega) (by omega)]; rfl
    clear hr
    conv => whnf
    refine ⟨by omega, by omega, fun m3 hm3 => ?_⟩
    obtain rfl : m3 = i' + 1 := by omega
    conv => whnf
    refine ⟨by omega, by omega, fun m4 hm4 => ?_⟩
    obtain rfl : m4 = i' := by omega
    conv => whnf
    have hdr := ints_drop hin3 hnc m4 hi
    rw [Nat.mul_one, show (if c = m4 then (some ⟨g, 0, none⟩ : Option Addr) else Option.map (fun x : Addr => x.add m4) (some (⟨g, 0, none⟩ : Addr))) = some ⟨g, m4, none⟩ by rw [if_neg (by omega)]; simp [add_plain_]] at hdr
    have hdl : (ints (xs.drop m4)).length = n - m4 := by simp [ints, hl]
    have q1 : n + 1 ≤ c := by omega
    refine Run.mk' (goInt ((n - m4 : Nat) : Int)) (World.putObj W1 g (.cells (splice cur (m4 + 1) (ints (xs.drop m4))) 3 (0, 0)))
      (by rw [at_from (by omega), at_from (by omega)]; exact run_copy_row (k := n - m4) (o := m4 + 1) (dLen := n + 1 - (m4 + 1)) (dCap := c - (m4 + 1)) (sLen := n + 1 - m4) (sCap := c - m4) W1 3 hg3 hdr (by omega) (by omega)) ?_
    have hP := Put.mk' hg3 (.cells (splice cur (m4 + 1) (ints (xs.drop m4))) 3 (0, 0))
    generalize World.putObj W1 g (.cells (splice cur (m4 + 1) (ints (xs.drop m4))) 3 (0, 0)) = W2 at hP ⊢
    have hg4 := hP.at_
    have hgr := grownBy_put (grownBy_ext hd (Value.slice (some ⟨g, 0, none⟩) n c).ownBlock) hP (.inl rfl)
    have hvi4 : Ints W2 (some ⟨v, 0, none⟩) 1 [x] := hvi3.put hP (fun a e => by cases e; exact hgv)
    have hss : (splice cur (m4 + 1) (ints (xs.drop m4))).size = c := by rw [splice_size _ _ _ (by omega), hcs]
    conv => whnf
    refine ⟨by omega, by omega, fun m5 hm5 => ?_⟩
    obtain rfl : m5 = m4 := by omega
    conv => whnf
    refine Run.mk' (goInt 1) (World.putObj W2 g (.cells (splice (splice cur (m5 + 1) (ints (xs.drop m5))) m5 (ints [x])) 3 (0, 0)))
      (by rw [at_from (by omega)]; exact run_copy_row (k := 1) (o := m5) (dLen := n + 1 - m5) (dCap := c - m5) (sLen := 1) (sCap := 1) W2 3 hg4 hvi4 (by omega) (by omega)) ?_
    have hP2 := Put.mk' hg4 (.cells (splice (splice cur (m5 + 1) (ints (xs.drop m5))) m5 (ints [x])) 3 (0, 0))
    generalize World.putObj W2 g (.cells (splice (splice cur (m5 + 1) (ints (xs.drop m5))) m5 (ints [x])) 3 (0, 0)) = W3 at hP2 ⊢
    conv => whnf
    refine ⟨⟨?_, .inr ⟨g, c, _, rfl, hbg, hP2.at_, q1, hcm, ?_, ?_⟩⟩, grownBy_put hgr hP2 (.inl rfl), .inl rfl⟩
    · simp [ints]; omega
    · rw [splice_size _ _ _ (by rw [hss]; simp only [ints, List.length_map, List.length_cons, List.length_nil]; omega), hss, Nat.mul_one]
    · rw [Nat.mul_one]
      refine (ins_list cur xs x n m5 hl hin2 (by omega) ?_).1
      have := congrArg (List.take m5) htk
      rw [List.take_take, Nat.min_eq_left (by omega)] at this
      rw [this]
      simp [ints]
end Go.Proofs.Ythphdaeaicjgmaa
