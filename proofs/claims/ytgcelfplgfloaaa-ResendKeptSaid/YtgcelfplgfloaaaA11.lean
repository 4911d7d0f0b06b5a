/- live of layer 8: it answers true. -/
import Derived.Test.YtgcelfplgfloaaaA10
namespace Go.Proofs.Ytgcelfplgfloaaa
open Go Go.VC Go.RowKit
set_option linter.unusedVariables false
set_option linter.unusedSimpArgs false
set_option maxRecDepth 100000

theorem slice22_2 (a b : Int) (w : World) : (Instr.buildSlice 22 2 #[(0, .int .i64 a), (1, .int .i64 b)]).run Try.prog w = .ok (.slice (some ⟨w.heap.size, 0, none⟩) 2 2) (w.alloc (.cells #[.int .i64 a, .int .i64 b] 3)) := by kernel_rfl
theorem slice48_2 (a b : Int) (w : World) : (Instr.buildSlice 48 2 #[(0, .int .i64 a), (1, .int .i64 b)]).run Try.prog w = .ok (.slice (some ⟨w.heap.size, 0, none⟩) 2 2) (w.alloc (.cells #[.int .i64 a, .int .i64 b] 3)) := by kernel_rfl
theorem build39_1 (a : Int) (w : World) : (Instr.build 39 #[(0, .int .i64 a)]).run Try.prog w = .ok (.agg #[.int .i64 a, .int .i64 0, .int .i64 0, .int .i64 0, .int .i64 0, .int .i64 0, .int .i64 0]) w := by kernel_rfl
theorem build41_4 (a b c1 c2 c3 c4 c5 c6 c7 : Int) (A : Option Addr) (n c : Nat) (w : World) :
    (Instr.build 41 #[(0, .int .i64 a), (1, .int .i64 b), (2, .slice A n c), (3, .agg #[.int .i64 c1, .int .i64 c2, .int .i64 c3, .int .i64 c4, .int .i64 c5, .int .i64 c6, .int .i64 c7])]).run Try.prog w =
      .ok (.agg #[.int .i64 a, .int .i64 b, .slice A n c, .int .i64 c1, .int .i64 c2, .int .i64 c3, .int .i64 c4, .int .i64 c5, .int .i64 c6, .int .i64 c7]) w := by kernel_rfl
theorem build32_1 (a : Int) (w : World) : (Instr.build 32 #[(1, .int .i64 a)]).run Try.prog w = .ok (.agg #[.int .i64 0, .int .i64 a]) w := by kernel_rfl
theorem eql32 (a b c d : Int) (xo yo : Operand) (w : World) : (do eqGuard .eql 32 xo yo (.agg #[.int .i64 a, .int .i64 b]) (.agg #[.int .i64 c, .int .i64 d]); Go.binOp .eql 32 (.agg #[.int .i64 a, .int .i64 b]) (.agg #[.int .i64 c, .int .i64 d]) : Sem Value).run Try.prog w = .ok (.bool (decide (a = c ∧ b = d))) w :=
  eql_agg Try.eqGuardType32 (fun w => eqIn_two (n := 9998) Try.underlying32 Try.stoodInHeld32 Try.underlying3 Try.underlying3 rfl rfl rfl rfl a b c d w) xo yo w
theorem ints_two {w : World} {b : Nat} {x y : Int} {e : Nat} (h : w.heap[b]? = some (.cells #[.int .i64 x, .int .i64 y] e (0, 0))) : Ints w (some ⟨b, 0, none⟩) 2 [x, y] := by
  refine ⟨rfl, by decide, fun i u hu => ⟨_, rfl, ?_⟩⟩
  rw [add_plain_, cell_of_at h]
  match i, hu with
  | 0, hu => simp at hu; subst hu; rfl
  | 1, hu => simp at hu; subst hu; rfl
  | i + 2, hu => simp at hu
theorem at_ne {w : World} {b r e : Nat} {cs : Array Value} {f : Nat × Nat} {es : Array MapEntry} {cl : Nat} (h : w.heap[b]? = some (.cells cs e f)) (h' : w.heap[r]? = some (.map es cl)) : b ≠ r := fun x => by
  rw [x, h'] at h; cases h
theorem ints_ne {w : World} {A : Option Addr} {n r : Nat} {xs : List Int} {es : Array MapEntry} {cl : Nat} (h : Ints w A n xs) (hn : 0 < n) (h' : w.heap[r]? = some (.map es cl)) : ∀ a, A = some a → ¬ a.block = r := by
  rintro a rfl hb
  obtain ⟨a', e, hc⟩ := h.at_ (k := 0) hn
  cases e
  rw [add_zero_, World.cell?, hb, h'] at hc
  cases hc

/-- The message of live. -/
def m0 : MsgV := ⟨0, 1, [0, 3], 5, 0, 0, 0, 0, 0, 0⟩
theorem m0_ok : m0.ok = true := by decide
theorem keep0 : keepE 2 2 [] m0 = 0 := by decide
theorem getL0 {x : Ent} (hx : x.m = m0) : getL [x] 0 1 = some x := by simp [getL, hx, m0]
theorem keep1 {x : Ent} (hx : x.m = m0) : keepE 2 2 [x] m0 = 7 := by
  have h1 : getL [x] m0.site m0.seq = some x := getL0 hx
  have h2 : ¬ (m0.ok = false ∨ (m0.know.length : Int) ≠ 2) := by decide
  simp only [keepE, h1]
  rw [if_neg h2]
  rfl
theorem getR1 {x : Ent} (hx : x.m = m0) : getR [x] 0 1 = (m0, true) := by simp [getR, getL0 hx, hx]
theorem getR0 : getR [] 0 1 = (zeroM, false) := rfl
theorem asks0 : asksV [0, 1] [2, 1] 5 = ([(0, 1), (0, 2)], true) := by decide

set_option maxHeartbeats 4000000
theorem fn10 (w : World) : Ret Try.prog 10 #[] w fun v W => Ext w W ∧ v = .bool true := by
  refine Ret.of_vc tab_ok Try.func10 rfl Try.ntmps10 rfl (Nat.le_of_ble_eq_true rfl) Try.call10 ?_
  conv => whnf
  refine (fn15 2 2 w).mono ?_
  rintro _ W1 ⟨he1, hp⟩
  rw [if_pos (by decide)] at hp
  obtain ⟨b, r, hwb, hwr, rfl, hst⟩ := hp
  conv => whnf
  refine (fn15 2 0 W1).mono ?_
  rintro _ W2 ⟨he2, hp⟩
  rw [if_neg (by decide)] at hp
  subst hp
  replace hst := hst.ext he2
  have hE := he1.tr he2
  clear he1 he2
  conv => whnf
  intro t ht
  obtain rfl : t = false := ht.no (by decide)
  conv => whnf
  intro t ht2
  obtain rfl : t = false := ht2.no (by decide)
  conv => whnf
  refine Run.mk' _ _ (slice22_2 _ _ _) ?_
  have hN := New.mk' W2 (.cells #[.int .i64 0, .int .i64 3] 3)
  generalize W2.alloc (.cells #[.int .i64 0, .int .i64 3] 3) = W3 at hN ⊢
  replace hst := hst.ext hN.e
  have hE3 := hE.tr hN.e
  have hi : Ints W3 (some ⟨W2.heap.size, 0, none⟩) 2 m0.know := ints_two hN.at_
  generalize (some ⟨W2.heap.size, 0, none⟩ : Option Addr) = A at hi
  clear hN hE
  conv => whnf
  refine Run.mk' _ _ (build39_1 _ _) ?_
  conv => whnf
  refine Run.mk' _ _ (build41_4 _ _ _ _ _ _ _ _ _ _ _ _ _) ?_
  conv => whnf
  intro W4 hW4
  conv => whnf
  refine ⟨W3.heap.size, 0, _, _, rfl, hW4.at_, Nat.le_of_ble_eq_true rfl, rfl, rfl, fun W5 hW5 => ?_⟩
  have hE35 : Ext W3 W5 := hW5.e hW4.e (Nat.le_refl _)
  have hb5 : W5.heap[W3.heap.size]? = some (.cells (m0.cells A 2 2).toArray 41 (0, 0)) := hW5.at_
  replace hst := hst.ext hE35
  replace hi := hi.ext hE35
  have hE5 := hE3.tr hE35
  generalize W3.heap.size = b5 at hb5
  clear hW5 hW4 hE35 hE3
  conv => whnf
  refine ⟨m0.cells A 2 2, rfl, lds hb5 rfl rfl, ?_⟩
  conv => whnf
  refine (fn17 m0 A 2 W5 hst hi).mono ?_
  rintro _ W6 ⟨hc6, rfl, l', cl', hst6, hl'⟩
  rw [keep0, if_pos rfl] at hl'
  obtain ⟨x, hx, rfl⟩ := hl'
  have hst6 : StoreAt W6 b r 2 2 [x] cl' := hst6
  have hb6 := hc6.at_ hb5 (at_ne hb5 hst.map)
  have hi6 := hi.chg hc6 (ints_ne hi (by decide) hst.map)
  have hE6 : Ext w W6 := Chg.ext_new hE5 hc6 (by rintro i rfl; exact hwr)
  clear hst hi hb5 hc6 hE5
  conv => whnf
  refine ⟨m0.cells A 2 2, rfl, lds hb6 rfl rfl, ?_⟩
  conv => whnf
  refine (fn17 m0 A 2 W6 hst6 hi6).mono ?_
  rintro _ W7 ⟨hc7, rfl, l', cl2, hst7, hl'⟩
  rw [if_neg (by rw [keep1 hx]; decide)] at hl'
  subst hl'
  have hb7 := hc7.at_ hb6 (at_ne hb6 hst6.map)
  have hi7 := hi6.chg hc7 (ints_ne hi6 (by decide) hst6.map)
  have hE7 : Ext w W7 := Chg.ext_new hE6 hc7 (by rintro i rfl; exact hwr)
  clear hst6 hi6 hb6 hc7 hE6
  conv => whnf
  refine Run.mk' _ _ (build32 _ _ _) ?_
  conv => whnf
  refine (fn16 0 1 W7 hst7).mono ?_
  rw [getR1 hx]
  rintro _ W8 ⟨he8, A8, c8, rfl, hi8, hfr8⟩
  dsimp only at hi8
  replace hst7 := hst7.ext he8
  replace hi7 := hi7.ext he8
  replace hb7 := he8.at_ hb7
  replace hE7 := hE7.tr he8
  clear he8
  conv => whnf
  intro W9 hW9
  conv => whnf
  refine ⟨W8.heap.size, 0, _, _, rfl, hW9.at_, Nat.le_of_ble_eq_true rfl, rfl, rfl, fun W10 hW10 => ?_⟩
  have hE10 : Ext W8 W10 := hW10.e hW9.e (Nat.le_refl _)
  have hb8 : W10.heap[W8.heap.size]? = some (.cells (m0.cells A8 2 c8).toArray 41 (0, 0)) := hW10.at_
  replace hst7 := hst7.ext hE10
  replace hi7 := hi7.ext hE10
  replace hi8 := hi8.ext hE10
  replace hb7 := hE10.at_ hb7
  replace hE7 := hE7.tr hE10
  generalize W8.heap.size = b8 at hb8
  clear hW10 hW9 hE10 hfr8
  conv => whnf
  refine Run.mk' _ _ (slice48_2 _ _ _) ?_
  have hN := New.mk' W10 (.cells #[.int .i64 1, .int .i64 0] 3)
  generalize W10.alloc (.cells #[.int .i64 1, .int .i64 0] 3) = W11 at hN ⊢
  replace hst7 := hst7.ext hN.e
  replace hi7 := hi7.ext hN.e
  replace hi8 := hi8.ext hN.e
  replace hb7 := hN.e.at_ hb7
  replace hb8 := hN.e.at_ hb8
  replace hE7 := hE7.tr hN.e
  have hv : Ints W11 (some ⟨W10.heap.size, 0, none⟩) 2 [1, 0] := ints_two hN.at_
  generalize (some ⟨W10.heap.size, 0, none⟩ : Option Addr) = V at hv
  clear hN
  conv => whnf
  refine (fn19 (b := b) (r := r) (R := 2) (x := x) W11 V 2 2 [1, 0] hst7 hv (by decide)).mono ?_
  have hcov : covers [1, 0] x.m.site x.m.seq = true := by rw [hx]; decide
  rw [hcov]
  rintro _ W12 ⟨hc12, hst12, rfl⟩
  have hst12 : StoreAt W12 b r 2 2 [] cl2 := hst12
  have hb7' := hc12.at_ hb7 (at_ne hb7 hst7.map)
  have hb8' := hc12.at_ hb8 (at_ne hb8 hst7.map)
  have hi7' := hi7.chg hc12 (ints_ne hi7 (by decide) hst7.map)
  have hi8' := hi8.chg hc12 (ints_ne hi8 (by decide) hst7.map)
  have hE12 : Ext w W12 := Chg.ext_new hE7 hc12 (by rintro i rfl; exact hwr)
  clear hst7 hi7 hi8 hb7 hb8 hc12 hE7 hv
  conv => whnf
  refine Run.mk' _ _ (build32 _ _ _) ?_
  conv => whnf
  refine (fn16 0 1 W12 hst12).mono ?_
  rw [getR0]
  rintro _ W13 ⟨he13, A13, c13, rfl, _, _⟩
  replace hst12 := hst12.ext he13
  replace hi7' := hi7'.ext he13
  replace hi8' := hi8'.ext he13
  replace hb7' := he13.at_ hb7'
  replace hb8' := he13.at_ hb8'
  replace hE12 := hE12.tr he13
  clear he13
  conv => whnf
  intro W14 hW14
  conv => whnf
  refine ⟨W13.heap.size, 0, _, _, rfl, hW14.at_, Nat.le_of_ble_eq_true rfl, rfl, rfl, fun W15 hW15 => ?_⟩
  have hE15 : Ext W13 W15 := hW15.e hW14.e (Nat.le_refl _)
  replace hst12 := hst12.ext hE15
  replace hi7' := hi7'.ext hE15
  replace hi8' := hi8'.ext hE15
  replace hb7' := hE15.at_ hb7'
  replace hb8' := hE15.at_ hb8'
  replace hE12 := hE12.tr hE15
  clear hE15 hW14 hW15
  conv => whnf
  refine Run.mk' _ _ (slice48_2 _ _ _) ?_
  have hN := New.mk' W15 (.cells #[.int .i64 0, .int .i64 1] 3)
  generalize W15.alloc (.cells #[.int .i64 0, .int .i64 1] 3) = W16 at hN ⊢
  have hu : Ints W16 (some ⟨W15.heap.size, 0, none⟩) 2 [0, 1] := ints_two hN.at_
  generalize (some ⟨W15.heap.size, 0, none⟩ : Option Addr) = U at hu
  conv => whnf
  refine Run.mk' _ _ (slice48_2 _ _ _) ?_
  have hN2 := New.mk' W16 (.cells #[.int .i64 2, .int .i64 1] 3)
  generalize W16.alloc (.cells #[.int .i64 2, .int .i64 1] 3) = W17 at hN2 ⊢
  have hu2 : Ints W17 (some ⟨W16.heap.size, 0, none⟩) 2 [2, 1] := ints_two hN2.at_
  generalize (some ⟨W16.heap.size, 0, none⟩ : Option Addr) = U2 at hu2
  have hE17 := hN.e.tr hN2.e
  replace hu := hu.ext hN2.e
  conv => whnf
  refine (fn11 W17 U U2 2 2 2 2 [0, 1] [2, 1] 5 hu hu2).mono ?_
  rw [asks0]
  rintro _ W18 ⟨he18, vl, rfl, hown⟩
  have hE18 := hE17.tr he18
  have hst18 := hst12.ext hE18
  replace hi7' := hi7'.ext hE18
  replace hi8' := hi8'.ext hE18
  replace hb7' := hE18.at_ hb7'
  replace hb8' := hE18.at_ hb8'
  replace hE12 := hE12.tr hE18
  clear hE18 he18 hE17 hN hN2 hst12
  obtain ⟨AL, cL, rfl⟩ := own_form hown
  have hown : W18.ownsRow W17.heap.size 32 2 (.slice AL 2 cL) 2 (pcells [(0, 1), (0, 2)]) := hown
  have hpairs := own_pairs hown
  conv => whnf
  intro t ht
  obtain rfl : t = true := ht.yes (by decide)
  conv => whnf
  intro t ht
  obtain rfl : t = true := ht.yes (keep1 hx)
  conv => whnf
  refine ⟨m0.cells A8 2 c8, rfl, lds hb8' rfl rfl, ?_⟩
  conv => whnf
  refine ⟨m0.cells A 2 2, rfl, lds hb7' rfl rfl, ?_⟩
  conv => whnf
  refine (fn20 m0 m0 A8 A 2 c8 2 2 W18 hi8' hi7').mono ?_
  rintro _ W19 ⟨he19, t, rfl, ht⟩
  obtain rfl : t = true := ht.2 rfl
  have hst19 := hst18.ext he19
  have hE19 := hE12.tr he19
  have hp19 := hpairs.ext he19
  conv => whnf
  intro t ht
  obtain rfl : t = true := ht.yes (by decide)
  conv => whnf
  intro t ht
  obtain rfl : t = true := ht.yes (by decide)
  conv => whnf
  refine (fn35 W19 hst19).mono ?_
  rintro _ _ ⟨rfl, rfl⟩
  conv => whnf
  intro t ht
  obtain rfl : t = true := ht.yes (by decide)
  conv => whnf
  intro t ht
  obtain rfl : t = true := ht.yes (by decide)
  obtain ⟨aL, rfl, _, hcL⟩ := hp19.get 1 (0, 2) rfl
  conv => whnf
  refine ⟨by decide, by decide, aL, rfl, ?_⟩
  conv => whnf
  refine ⟨[.int .i64 0, .int .i64 2], rfl, fun i hi => by simpa using hcL i hi, ?_⟩
  conv => whnf
  refine Run.mk' _ _ (build32_1 _ _) ?_
  conv => whnf
  refine ⟨_, fun xo yo w => eql32 _ _ _ _ xo yo w, ?_⟩
  intro t ht
  obtain rfl : t = true := by rw [ht]; rfl
  conv => whnf
  intro t ht
  obtain rfl : t = true := ht.yes (by decide)
  conv => whnf
  exact ⟨hE19, rfl⟩
end Go.Proofs.Ytgcelfplgfloaaa
