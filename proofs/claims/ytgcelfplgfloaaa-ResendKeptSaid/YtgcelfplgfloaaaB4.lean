/- ResendKept's walk. -/
import Derived.Test.YtgcelfplgfloaaaB3
import Derived.Test.YtgcelfplgfloaaaA11
namespace Go.Proofs.Ytgcelfplgfloaaa
open Go Go.VC Go.RowKit
set_option linter.unusedVariables false
set_option linter.unusedSimpArgs false
set_option maxRecDepth 100000

/-- What lasts through ResendKept. -/
structure K4 (w W : World) (b1 b5 b r : Nat) (m : MsgV) (A : Option Addr) (c : Nat) (l : List Ent) (cl : Nat) : Prop where
  arg : W.heap[b1]? = some (.cells (m.cells A m.know.length c).toArray 41 (0, 0))
  id : W.heap[b5]? = some (.cells #[.int .i64 m.site, .int .i64 m.seq] 32 (0, 0))
  st : StoreAt W b r m.know.length 3 l cl
  know : Ints W A m.know.length m.know
  e : Ext w W
  new : w.heap.size ≤ r
theorem K4.ext {w W W' : World} {b1 b5 b r : Nat} {m : MsgV} {A : Option Addr} {c : Nat} {l : List Ent} {cl : Nat} (h : K4 w W b1 b5 b r m A c l cl) (he : Ext W W') : K4 w W' b1 b5 b r m A c l cl :=
  ⟨he.at_ h.arg, he.at_ h.id, h.st.ext he, h.know.ext he, h.e.tr he, h.new⟩
theorem K4.chg {w W W' : World} {b1 b5 b r : Nat} {m : MsgV} {A : Option Addr} {c : Nat} {l l' : List Ent} {cl cl' : Nat} (h : K4 w W b1 b5 b r m A c l cl) (hc : Chg (· = r) W W') (hst : StoreAt W' b r m.know.length 3 l' cl') (hn : 0 < m.know.length) : K4 w W' b1 b5 b r m A c l' cl' :=
  ⟨hc.at_ h.arg (at_ne h.arg h.st.map), hc.at_ h.id (at_ne h.id h.st.map), hst, h.know.chg hc (ints_ne h.know hn h.st.map), Chg.ext_new h.e hc (by rintro i rfl; exact h.new), h.new⟩

theorem ok_facts {m : MsgV} (h : m.ok = true) : 1 ≤ m.know.length ∧ m.know.length ≤ 16 ∧ 0 ≤ m.site ∧ m.site < m.know.length ∧ 1 ≤ m.seq ∧ m.seq ≤ 4294967295 := by
  simp only [MsgV.ok, Bool.and_eq_true] at h
  have h1 := h.1.1.1.1.1.1.1
  have h2 := h.1.1.1.1.1.1.2
  simp only [MsgV.c1, decide_eq_true_eq] at h1
  simp only [MsgV.c2, isClk, Bool.and_eq_true, decide_eq_true_eq] at h2
  omega
theorem zeros_ok {n : Nat} (h : 1 ≤ n ∧ n ≤ 16) : vecOk (List.replicate n 0) = true := by
  simp [vecOk, isClk]; omega
theorem zeros_not {n : Nat} {s q : Int} (h : 1 ≤ q) : covers (List.replicate n 0) s q = false := by
  simp only [covers, Bool.and_eq_false_iff, decide_eq_false_iff_not]
  refine .inr fun ⟨h1, h2, h3, h4⟩ => ?_
  rw [List.getD_eq_getElem?_getD, List.getElem?_replicate] at h4
  split at h4 <;> simp at h4 <;> omega
theorem set_ok {n : Nat} {s : Nat} {q : Int} (h : 1 ≤ n ∧ n ≤ 16) (hs : s < n) (hq : 1 ≤ q ∧ q ≤ 4294967295) : vecOk ((List.replicate n 0).set s q) = true ∧ covers ((List.replicate n 0).set s q) s q = true := by
  have h1 : vecOk ((List.replicate n 0).set s q) = true := by
    simp only [vecOk, List.length_set, List.length_replicate, decide_eq_true_eq]
    refine ⟨h.1, h.2, fun x hx => ?_⟩
    rcases List.mem_or_eq_of_mem_set hx with hx | rfl
    · obtain ⟨_, rfl⟩ := List.mem_replicate.1 hx
      decide
    · omega
  refine ⟨h1, ?_⟩
  simp only [covers, h1, Bool.true_and, decide_eq_true_eq, List.length_set, List.length_replicate]
  refine ⟨by omega, by omega, by omega, ?_⟩
  rw [List.getD_eq_getElem?_getD, Int.toNat_natCast, List.getElem?_set_self (by simpa using hs)]
  simp
theorem getR_one {x : Ent} {m : MsgV} (hx : x.m = m) : getR [x] m.site m.seq = (m, true) := by
  subst hx; simp [getR, getL]
theorem keep_nil {m : MsgV} (h : m.ok = true) : keepE m.know.length 3 [] m = 0 := by
  simp [keepE, h, getL]

theorem ints_lt {w : World} {A : Option Addr} {n : Nat} {xs : List Int} (h : Ints w A n xs) (hn : 0 < n) : ∀ a, A = some a → a.block < w.heap.size := by
  rintro a rfl
  obtain ⟨a', e, hc⟩ := h.at_ (k := 0) hn
  cases e
  rw [add_zero_, World.cell?] at hc
  rcases Nat.lt_or_ge a.block w.heap.size with h1 | h1
  · exact h1
  · rw [Array.getElem?_eq_none h1] at hc; cases hc
theorem K4.put {w W0 W W' : World} {b1 b5 b r g : Nat} {o : Obj} {m : MsgV} {A : Option Addr} {c : Nat} {x : Ent} {cl cl' : Nat} (h0 : K4 w W0 b1 b5 b r m A c [x] cl) (h : K4 w W b1 b5 b r m A c [x] cl') (hx : x.m = m) (hn : 0 < m.know.length)
    (hp : Put W g o W') (hg : W0.heap.size ≤ g) : K4 w W' b1 b5 b r m A c [x] cl' := by
  have h1 := at_lt h0.arg
  have h2 := at_lt h0.id
  have h3 := at_lt h0.st.head
  have h4 := at_lt h0.st.map
  have h5 := h0.e.le
  refine ⟨hp.keep h.arg (by omega), hp.keep h.id (by omega), ⟨hp.keep h.st.head (by omega), hp.keep h.st.map (by omega), ?_, h.st.few, h.st.young⟩, h.know.put hp fun a e => ?_, hp.e h.e (by omega), h.new⟩
  · intro y hy
    refine (h.st.know y hy).put hp fun a e => ?_
    have h6 := ints_lt (h0.st.know y hy) (by simp only [List.mem_singleton] at hy; subst hy; rw [hx]; exact hn) a e
    omega
  · have h6 := ints_lt h0.know hn a e
    omega
theorem own_chg {w W : World} {base e n c r cl : Nat} {es : Array MapEntry} {A : Option Addr} {xs : List Value} (h : w.ownsRow base e 1 (.slice A n c) n xs) (hc : Chg (· = r) w W) (hr : w.heap[r]? = some (.map es cl)) : W.ownsRow base e 1 (.slice A n c) n xs := by
  refine ⟨h.1, ?_⟩
  rcases h.2 with h2 | ⟨g, cap, cur, h3, h4, h5, h6⟩
  · exact .inl h2
  · exact .inr ⟨g, cap, cur, h3, h4, hc.at_ h5 (at_ne h5 hr), h6⟩

set_option maxHeartbeats 4000000
theorem fn4 (m : MsgV) (A : Option Addr) (c : Nat) (w : World) (h : Ints w A m.know.length m.know) :
    Ret Try.prog 4 #[.agg (m.cells A m.know.length c).toArray] w fun v W => Ext w W ∧ v = .bool true := by
  refine Ret.of_vc tab_ok Try.func4 rfl Try.ntmps4 rfl (Nat.le_of_ble_eq_true rfl) Try.call4 ?_
  conv => whnf
  intro W1 hW1
  have hb := hW1.at_
  have he1 := hW1.e
  generalize hx1 : w.heap.size = b1 at hb
  conv => whnf
  refine ⟨m.cells A m.know.length c, rfl, lds hb rfl rfl, ?_⟩
  conv => whnf
  refine (fn14 m A m.know.length c W1 (h.ext he1)).mono ?_
  rintro _ W2 ⟨he2, rfl⟩
  cases hok : m.ok
  · conv => whnf
    intro t ht
    obtain rfl : t = true := ht.yes (by decide)
    conv => whnf
    refine (fn10 W2).mono ?_
    rintro _ W3 ⟨he3, rfl⟩
    conv => whnf
    exact ⟨(he1.tr he2).tr he3, rfl⟩
  obtain ⟨f1, f2, f3, f4, f5, f6⟩ := ok_facts hok
  conv => whnf
  intro t ht
  obtain rfl : t = false := ht.no (by decide)
  replace hb := he2.at_ hb
  have hE := he1.tr he2
  clear he1 he2 hW1
  conv => whnf
  refine ⟨_, ld hb rfl rfl, ?_⟩
  conv => whnf
  refine (fn15 m.know.length 3 W2).mono ?_
  rintro _ W3 ⟨he3, hp⟩
  rw [if_pos (by omega)] at hp
  obtain ⟨b, r, hwb, hwr, rfl, hst⟩ := hp
  replace hb := he3.at_ hb
  have hE2 := hE.le
  replace hE := hE.tr he3
  have hrn : w.heap.size ≤ r := Nat.le_trans hE2 hwr
  clear hwb hwr he3 hE2
  conv => whnf
  intro t ht
  obtain rfl : t = false := ht.no (by decide)
  conv => whnf
  refine ⟨_, ld hb rfl rfl, ?_⟩
  conv => whnf
  refine ⟨_, ld hb rfl rfl, ?_⟩
  conv => whnf
  refine Run.mk' _ _ (build32 _ _ _) ?_
  conv => whnf
  intro W4 hW4
  conv => whnf
  refine ⟨W3.heap.size, 0, _, _, rfl, hW4.at_, Nat.le_of_ble_eq_true rfl, rfl, rfl, fun W5 hW5 => ?_⟩
  have he35 : Ext W3 W5 := hW5.e hW4.e (Nat.le_refl _)
  have hid : W5.heap[W3.heap.size]? = some (.cells #[.int .i64 m.site, .int .i64 m.seq] 32 (0, 0)) := hW5.at_
  have hE5 : Ext w W5 := hE.tr he35
  have hk : K4 w W5 b1 W3.heap.size b r m A c [] 0 := ⟨he35.at_ hb, hid, hst.ext he35, h.ext hE5, hE5, hrn⟩
  generalize W3.heap.size = b5 at hk
  clear hb hst hE hE5 hid he35 hW5 hW4 hx1 hrn
  -- Get
  conv => whnf
  refine ⟨[.int .i64 m.site, .int .i64 m.seq], rfl, lds hk.id rfl rfl, ?_⟩
  conv => whnf
  refine (fn16 m.site m.seq W5 hk.st).mono ?_
  rw [show getR [] m.site m.seq = (zeroM, false) from rfl]
  rintro _ W6 ⟨he6, A6, c6, rfl, _, _⟩
  replace hk := hk.ext he6
  clear he6
  conv => whnf
  intro W7 hW7
  conv => whnf
  refine ⟨W6.heap.size, 0, _, _, rfl, hW7.at_, Nat.le_of_ble_eq_true rfl, rfl, rfl, fun W8 hW8 => ?_⟩
  replace hk := hk.ext (hW8.e hW7.e (Nat.le_refl _))
  clear hW7 hW8
  -- Keep
  conv => whnf
  refine ⟨m.cells A m.know.length c, rfl, lds hk.arg rfl rfl, ?_⟩
  conv => whnf
  refine (fn17 m A c W8 hk.st hk.know).mono ?_
  rintro _ W9 ⟨hc9, rfl, l', cl', hst9, hl'⟩
  rw [keep_nil hok, if_pos rfl] at hl'
  obtain ⟨x, hx, rfl⟩ := hl'
  have hst9 : StoreAt W9 b r m.know.length 3 [x] cl' := hst9
  replace hk := hk.chg hc9 hst9 (by omega)
  clear hc9 hst9
  rw [keep_nil hok]
  -- Get
  conv => whnf
  refine ⟨[.int .i64 m.site, .int .i64 m.seq], rfl, lds hk.id rfl rfl, ?_⟩
  conv => whnf
  refine (fn16 m.site m.seq W9 hk.st).mono ?_
  rw [getR_one hx]
  rintro _ W10 ⟨he10, A10, c10, rfl, hi10, _⟩
  dsimp only at hi10
  replace hk := hk.ext he10
  clear he10
  conv => whnf
  intro W11 hW11
  conv => whnf
  refine ⟨W10.heap.size, 0, _, _, rfl, hW11.at_, Nat.le_of_ble_eq_true rfl, rfl, rfl, fun W12 hW12 => ?_⟩
  have he12 := (hW12.e hW11.e (Nat.le_refl _))
  replace hk := hk.ext he12
  replace hi10 := hi10.ext he12
  have hb9 : W12.heap[W10.heap.size]? = some (.cells (m.cells A10 m.know.length c10).toArray 41 (0, 0)) := hW12.at_
  generalize W10.heap.size = b9 at hb9
  clear hW11 hW12 he12
  -- Get
  conv => whnf
  refine ⟨[.int .i64 m.site, .int .i64 m.seq], rfl, lds hk.id rfl rfl, ?_⟩
  conv => whnf
  refine (fn16 m.site m.seq W12 hk.st).mono ?_
  rw [getR_one hx]
  rintro _ W13 ⟨he13, A13, c13, rfl, hi13, _⟩
  dsimp only at hi13
  replace hk := hk.ext he13
  replace hb9 := he13.at_ hb9
  replace hi10 := hi10.ext he13
  clear he13
  conv => whnf
  intro W14 hW14
  conv => whnf
  refine ⟨W13.heap.size, 0, _, _, rfl, hW14.at_, Nat.le_of_ble_eq_true rfl, rfl, rfl, fun W15 hW15 => ?_⟩
  have he15 := (hW15.e hW14.e (Nat.le_refl _))
  replace hk := hk.ext he15
  replace hb9 := he15.at_ hb9
  replace hi10 := hi10.ext he15
  replace hi13 := hi13.ext he15
  have hb11 : W15.heap[W13.heap.size]? = some (.cells (m.cells A13 m.know.length c13).toArray 41 (0, 0)) := hW15.at_
  generalize W13.heap.size = b11 at hb11
  clear hW14 hW15 he15
  -- Zero
  conv => whnf
  refine ⟨_, ld hk.arg rfl rfl, ?_⟩
  conv => whnf
  refine (fn18 m.know.length (by omega) W15).mono ?_
  rintro _ W16 ⟨he16, V, vc, rfl, hown⟩
  have hk0 := hk
  have l9 := at_lt hb9
  have l11 := at_lt hb11
  have l10 := ints_lt hi10 (by omega)
  have l13 := ints_lt hi13 (by omega)
  replace hk := hk.ext he16
  replace hb9 := he16.at_ hb9
  replace hb11 := he16.at_ hb11
  replace hi10 := hi10.ext he16
  replace hi13 := hi13.ext he16
  clear he16
  -- Drop
  conv => whnf
  refine (fn19 (b := b) (r := r) (R := 3) (x := x) W16 V m.know.length vc _ hk.st (own_ints hown) (zeros_ok ⟨f1, f2⟩)).mono ?_
  rw [show covers (List.replicate m.know.length 0) x.m.site x.m.seq = false by rw [hx]; exact zeros_not f5]
  rintro _ W17 ⟨hc17, hst17, rfl⟩
  have hst17 : StoreAt W17 b r m.know.length 3 [x] cl' := hst17
  replace hb9 := hc17.at_ hb9 (at_ne hb9 hk.st.map)
  replace hb11 := hc17.at_ hb11 (at_ne hb11 hk.st.map)
  replace hi10 := hi10.chg hc17 (ints_ne hi10 (by omega) hk.st.map)
  replace hi13 := hi13.chg hc17 (ints_ne hi13 (by omega) hk.st.map)
  replace hown := own_chg hown hc17 hk.st.map
  replace hk := hk.chg hc17 hst17 (by omega)
  clear hc17 hst17
  obtain ⟨g, cur, rfl, hgb, hg, hlt, hset⟩ := own_place hown (k := m.site.toNat) (by omega) m.seq
  conv => whnf
  refine ⟨_, ld hk.arg rfl rfl, ?_⟩
  conv => whnf
  refine ⟨_, ld hk.arg rfl rfl, ?_⟩
  conv => whnf
  refine ⟨by omega, by omega, _, rfl, ?_⟩
  conv => whnf
  refine ⟨g, m.site.toNat, _, _, ?_, hg, ?_, rfl, rfl, fun W18 hW18 => ?_⟩
  · rw [add_plain_]; simp [show ty3.size = 1 from rfl]
  · exact hlt
  replace hb9 := hW18.keep hb9 (by omega)
  replace hb11 := hW18.keep hb11 (by omega)
  replace hi10 := hi10.put hW18 (fun a e => by have := l10 a e; omega)
  replace hi13 := hi13.put hW18 (fun a e => by have := l13 a e; omega)
  replace hk := hk0.put hk hx (by omega) hW18 hgb
  replace hown := hset W18 hW18
  clear hW18 hset hk0 l9 l11 l10 l13 hg hgb hlt
  generalize (some ⟨g, 0, none⟩ : Option Addr) = V at hown
  obtain ⟨v1, v2⟩ := set_ok (n := m.know.length) (s := m.site.toNat) (q := m.seq) ⟨f1, f2⟩ (by omega) ⟨f5, f6⟩
  -- Drop
  conv => whnf
  refine (fn19 (b := b) (r := r) (R := 3) (x := x) W18 V m.know.length vc _ hk.st (own_ints hown) v1).mono ?_
  rw [show covers ((List.replicate m.know.length 0).set m.site.toNat m.seq) x.m.site x.m.seq = true by rw [hx, show m.site = (m.site.toNat : Int) by omega] ; exact v2]
  rintro _ W19 ⟨hc19, hst19, rfl⟩
  have hst19 : StoreAt W19 b r m.know.length 3 [] cl' := hst19
  replace hb9 := hc19.at_ hb9 (at_ne hb9 hk.st.map)
  replace hb11 := hc19.at_ hb11 (at_ne hb11 hk.st.map)
  replace hi10 := hi10.chg hc19 (ints_ne hi10 (by omega) hk.st.map)
  replace hi13 := hi13.chg hc19 (ints_ne hi13 (by omega) hk.st.map)
  clear hown
  replace hk := hk.chg hc19 hst19 (by omega)
  clear hc19 hst19
  -- Get
  conv => whnf
  refine ⟨[.int .i64 m.site, .int .i64 m.seq], rfl, lds hk.id rfl rfl, ?_⟩
  conv => whnf
  refine (fn16 m.site m.seq W19 hk.st).mono ?_
  rw [show getR [] m.site m.seq = (zeroM, false) from rfl]
  rintro _ W20 ⟨he20, A20, c20, rfl, _, _⟩
  replace hk := hk.ext he20
  replace hb9 := he20.at_ hb9
  replace hb11 := he20.at_ hb11
  replace hi10 := hi10.ext he20
  replace hi13 := hi13.ext he20
  clear he20
  conv => whnf
  intro W21 hW21
  conv => whnf
  refine ⟨W20.heap.size, 0, _, _, rfl, hW21.at_, Nat.le_of_ble_eq_true rfl, rfl, rfl, fun W22 hW22 => ?_⟩
  have he22 := (hW22.e hW21.e (Nat.le_refl _))
  replace hk := hk.ext he22
  replace hb9 := he22.at_ hb9
  replace hb11 := he22.at_ hb11
  replace hi10 := hi10.ext he22
  replace hi13 := hi13.ext he22
  clear hW21 hW22 he22
  -- the answer
  conv => whnf
  intro t ht
  obtain rfl : t = true := ht.yes (by decide)
  conv => whnf
  refine ⟨m.cells A10 m.know.length c10, rfl, lds hb9 rfl rfl, ?_⟩
  conv => whnf
  refine ⟨m.cells A m.know.length c, rfl, lds hk.arg rfl rfl, ?_⟩
  conv => whnf
  refine (fn20 m m A10 A _ c10 _ c W22 hi10 hk.know).mono ?_
  rintro _ W23 ⟨he23, t, rfl, ht⟩
  obtain rfl : t = true := ht.2 rfl
  replace hk := hk.ext he23
  replace hb9 := he23.at_ hb9
  replace hb11 := he23.at_ hb11
  replace hi10 := hi10.ext he23
  replace hi13 := hi13.ext he23
  clear he23
  conv => whnf
  refine ⟨m.cells A13 m.know.length c13, rfl, lds hb11 rfl rfl, ?_⟩
  conv => whnf
  refine ⟨m.cells A m.know.length c, rfl, lds hk.arg rfl rfl, ?_⟩
  conv => whnf
  refine (fn20 m m A13 A _ c13 _ c W23 hi13 hk.know).mono ?_
  rintro _ W24 ⟨he24, t, rfl, ht⟩
  obtain rfl : t = true := ht.2 rfl
  replace hk := hk.ext he24
  clear he24
  conv => whnf
  repeat' (intro t ht; obtain rfl : t = true := ht.yes (by decide); conv => whnf)
  refine (fn10 W24).mono ?_
  rintro _ W25 ⟨he25, rfl⟩
  conv => whnf
  exact ⟨hk.e.tr he25, rfl⟩
end Go.Proofs.Ytgcelfplgfloaaa
