/- A line and its blocks; Same, One; the functions of a line that is none. -/
import Derived.Test.YtbkmbignincilaaW14
namespace Go.Proofs.Ytbkmbignincilaa
open Go Go.VC Go.RowKit
set_option linter.unusedVariables false
set_option linter.unusedSimpArgs false
set_option maxRecDepth 100000

abbrev ptr (b : Nat) : Value := .pointer (some ⟨b, 0, none⟩)
/-- A line at b, its blocks B. -/
def LineW (w : World) (B : Nat → Prop) (b : Nat) (S : List El) : Prop := ∃ m R Ns cl, LineAt w b m S R Ns cl ∧ ∀ k, B k ↔ Foot b m (R :: Ns) k
section
variable {w W : World} {B : Nat → Prop} {b : Nat} {S : List El}
theorem LineW.chg {T : Nat → Prop} (h : LineW w B b S) (hc : Chg T w W) (hn : ∀ k, T k → ¬ B k) : LineW W B b S := by
  obtain ⟨m, R, Ns, cl, h1, h2⟩ := h
  exact ⟨m, R, Ns, cl, h1.chg hc (fun k t f => hn k t ((h2 k).2 f)), h2⟩
theorem LineW.ext (h : LineW w B b S) (he : Ext w W) : LineW W B b S := h.chg (he.chg fun _ => False) (fun k t => t.elim)
theorem LineW.lt (h : LineW w B b S) {k : Nat} (hk : B k) : k < w.heap.size := by
  obtain ⟨m, R, Ns, cl, h1, h2⟩ := h
  exact h1.foot_lt ((h2 k).1 hk)
theorem LineW.ok (h : LineW w B b S) : SOK S := by obtain ⟨m, R, Ns, cl, h1, h2⟩ := h; exact h1.ok
theorem LineW.few (h : LineW w B b S) : S.length ≤ 4096 := by obtain ⟨m, R, Ns, cl, h1, h2⟩ := h; exact h1.few
theorem wNew (w : World) : Ret Try.prog 13 #[] w fun v W => Ext w W ∧ ∃ b B, v = ptr b ∧ LineW W B b [] ∧ ∀ k, B k → w.heap.size ≤ k := by
  refine (fn13 w).mono ?_
  rintro v W ⟨he, b, m, R, cl, rfl, hL, hf⟩
  exact ⟨he, b, Foot b m [R], rfl, ⟨m, R, [], cl, hL, fun k => Iff.rfl⟩, hf⟩
theorem wInsert (h : LineW w B b S) (e : El) : Ret Try.prog 16 #[ptr b, kI e.id, kI e.ref, .int .i64 e.rune] w fun v W => v = .int .i64 (insE S e) ∧ Chg B w W ∧ ∃ B', LineW W B' b (insS S e) ∧ ∀ k, B' k → B k ∨ w.heap.size ≤ k := by
  obtain ⟨m, R, Ns, cl, h1, h2⟩ := h
  refine (fn16 h1 e).mono ?_
  rintro v W ⟨rfl, hc, R', Ns', cl', hL, hf⟩
  exact ⟨rfl, hc.mono fun k hk => (h2 k).2 hk, Foot b m (R' :: Ns'), ⟨m, R', Ns', cl', hL, fun k => Iff.rfl⟩, fun k hk => (hf k hk).imp (h2 k).2 id⟩
theorem wDrop (h : LineW w B b S) (x : Idn) : Ret Try.prog 14 #[ptr b, kI x] w fun v W => v = .int .i64 (drpE S x) ∧ Chg B w W ∧ ∃ B', LineW W B' b (drpS S x) ∧ ∀ k, B' k → B k ∨ w.heap.size ≤ k := by
  obtain ⟨m, R, Ns, cl, h1, h2⟩ := h
  refine (fn14 h1 x).mono ?_
  rintro v W ⟨rfl, hc, R', Ns', cl', hL, hf⟩
  exact ⟨rfl, hc.mono fun k hk => (h2 k).2 hk, Foot b m (R' :: Ns'), ⟨m, R', Ns', cl', hL, fun k => Iff.rfl⟩, fun k hk => (hf k hk).imp (h2 k).2 id⟩
theorem wPlace (h : LineW w B b S) (x : Idn) : Ret Try.prog 18 #[ptr b, kI x] w fun v W => Ext w W ∧ v = placeV (own S Idn.z) x := by
  obtain ⟨m, R, Ns, cl, h1, h2⟩ := h
  exact fn18 h1 x
theorem wElements (h : LineW w B b S) : Ret Try.prog 21 #[ptr b] w fun v W => Ext w W ∧ ∃ A c, v = .slice A (own S Idn.z).length c ∧ Row49 W A (own S Idn.z).length (own S Idn.z) ∧ ∀ a, A = some a → w.heap.size ≤ a.block := by
  obtain ⟨m, R, Ns, cl, h1, h2⟩ := h
  exact fn21 h1
theorem wKids (h : LineW w B b S) (x : Idn) : Ret Try.prog 24 #[ptr b, kI x] w fun v W => Ext w W ∧ ∃ A c, v = .slice A (kidsOf S x).length c ∧ Row24 W A (kidsOf S x).length (kidsOf S x) ∧ ∀ a, A = some a → w.heap.size ≤ a.block := by
  obtain ⟨m, R, Ns, cl, h1, h2⟩ := h
  exact fn24 h1 x
theorem wLen (h : LineW w B b S) : Ret Try.prog 26 #[ptr b] w fun v W => w = W ∧ v = .int .i64 (S.length : Nat) := by
  obtain ⟨m, R, Ns, cl, h1, h2⟩ := h
  exact fn26 h1
end

/-- A line whose blocks are all new since w0; nothing of w0 has changed. -/
structure LX (w0 w : World) (B : Nat → Prop) (b : Nat) (S : List El) : Prop where
  line : LineW w B b S
  ext : Ext w0 w
  low : ∀ k, B k → w0.heap.size ≤ k
section
variable {w0 w W : World} {B : Nat → Prop} {b : Nat} {S : List El}
theorem LX.go (h : LX w0 w B b S) (he : Ext w W) : LX w0 W B b S := ⟨h.line.ext he, h.ext.tr he, h.low⟩
theorem LX.step (h : LX w0 w B b S) {B' : Nat → Prop} {S' : List El} (hc : Chg B w W) (hl : LineW W B' b S') (hB : ∀ k, B' k → B k ∨ w.heap.size ≤ k) : LX w0 W B' b S' :=
  ⟨hl, Chg.ext_new h.ext hc h.low, fun k hk => by
    rcases hB k hk with h1 | h1
    · exact h.low k h1
    · exact Nat.le_trans h.ext.le h1⟩
theorem xNew {w0 w : World} (he : Ext w0 w) : Ret Try.prog 13 #[] w fun v W => ∃ b B, v = ptr b ∧ LX w0 W B b [] := by
  refine (wNew w).mono ?_
  rintro v W ⟨he2, b, B, rfl, hL, hB⟩
  exact ⟨b, B, rfl, hL, he.tr he2, fun k hk => Nat.le_trans he.le (hB k hk)⟩
theorem xInsert (h : LX w0 w B b S) (e : El) : Ret Try.prog 16 #[ptr b, kI e.id, kI e.ref, .int .i64 e.rune] w fun v W => v = .int .i64 (insE S e) ∧ Chg B w W ∧ ∃ B', LX w0 W B' b (insS S e) ∧ ∀ k, B' k → B k ∨ w.heap.size ≤ k :=
  (wInsert h.line e).mono fun v W ⟨hv, hc, B', h', hB⟩ => ⟨hv, hc, B', h.step hc h' hB, hB⟩
theorem xDrop (h : LX w0 w B b S) (x : Idn) : Ret Try.prog 14 #[ptr b, kI x] w fun v W => v = .int .i64 (drpE S x) ∧ Chg B w W ∧ ∃ B', LX w0 W B' b (drpS S x) ∧ ∀ k, B' k → B k ∨ w.heap.size ≤ k :=
  (wDrop h.line x).mono fun v W ⟨hv, hc, B', h', hB⟩ => ⟨hv, hc, B', h.step hc h' hB, hB⟩
end

/-! ### A line that is none -/
theorem fn16n (e : El) (w : World) : Ret Try.prog 16 #[.pointer none, kI e.id, kI e.ref, .int .i64 e.rune] w fun v W => Ext w W ∧ v = .int .i64 1 := by
  refine Ret.of_vc tab_ok Try.func16 rfl Try.ntmps16 rfl (Nat.le_of_ble_eq_true rfl) Try.call16 ?_
  conv => whnf
  intro W hW
  conv => whnf
  intro W1 hW1
  have hb6 := hW1.at_
  conv => whnf
  refine ⟨cI e.ref, rfl, lds hb6 rfl rfl, ?_⟩
  conv => whnf
  refine Run.mk' _ _ (build24_0 W1) ?_
  conv => whnf
  refine ⟨_, eq24 e.ref Idn.z, fun tb htb => ?_⟩
  conv => whnf
  exact ⟨hW.e.tr hW1.e, rfl⟩
theorem fn14n (x : Idn) (w : World) : Ret Try.prog 14 #[.pointer none, kI x] w fun v W => Ext w W ∧ v = .int .i64 1 := by
  refine Ret.of_vc tab_ok Try.func14 rfl Try.ntmps14 rfl (Nat.le_of_ble_eq_true rfl) Try.call14 ?_
  conv => whnf
  intro W hW
  conv => whnf
  exact ⟨hW.e, rfl⟩
theorem fn18n (x : Idn) (w : World) : Ret Try.prog 18 #[.pointer none, kI x] w fun v W => Ext w W ∧ v = .tuple #[.int .i64 0, .bool false] := by
  refine Ret.of_vcm tab_ok Try.func18 rfl Try.ntmps18 rfl (Nat.le_of_ble_eq_true rfl) Try.call18 ?_
  conv => whnf
  intro W3 hW3
  conv => whnf
  intro W4 hW4
  conv => whnf
  intro W5 hW5
  conv => whnf
  have l4 := hW4.at_
  have l5 := hW5.at_
  have s4 := hW4.size
  have s5 := hW5.size
  refine ⟨W3.heap.size, 0, _, _, rfl, hW5.e.at_ l4, Nat.le_of_ble_eq_true rfl, rfl, rfl, fun W6 hW6 => ?_⟩
  conv => whnf
  refine ⟨W4.heap.size, 0, _, _, rfl, hW6.keep l5 (by omega), Nat.le_of_ble_eq_true rfl, rfl, rfl, fun W7 hW7 => ?_⟩
  conv => whnf
  refine ⟨.int .i64 0, ld (hW7.keep hW6.at_ (show W3.heap.size ≠ W4.heap.size by omega)) rfl rfl, ?_⟩
  conv => whnf
  refine ⟨.bool false, ld hW7.at_ rfl rfl, ?_⟩
  have e1 := hW3.e
  have e2 := e1.tr (hW4.e.tr hW5.e)
  exact ⟨hW7.e (hW6.e e2 e1.le) (e1.tr hW4.e).le, rfl⟩

/-! ### Same -/
set_option maxHeartbeats 2000000
theorem list_ext_upto {α : Type} {a b : List α} (hl : a.length = b.length) (h : ∀ i (h1 : i < a.length) (h2 : i < b.length), a[i] = b[i]) : a = b := List.ext_getElem hl h
theorem fn23 {w : World} {A1 A2 : Option Addr} {n1 n2 c1 c2 : Nat} {xs ys : List Idn} (h1 : Row24 w A1 n1 xs) (h2 : Row24 w A2 n2 ys) : Ret Try.prog 23 #[.slice A1 n1 c1, .slice A2 n2 c2] w fun v W => Ext w W ∧ v = .bool (decide (xs = ys)) := by
  have hl1 := h1.len
  have hl2 := h2.len
  have hs1 := h1.small
  refine Ret.of_vc tab_ok Try.func23 rfl Try.ntmps23 rfl (Nat.le_of_ble_eq_true rfl) Try.call23 ?_
  conv => whnf
  intro t ht
  cases t <;> simp only [VB] at ht <;> (conv => whnf)
  case true =>
    refine ⟨Ext.refl w, ?_⟩
    rw [decide_eq_false (fun e => ht (by rw [← hl1, ← hl2, e]))]
  have hnn : n1 = n2 := by omega
  subst hnn
  refine VLoop.mk' tab_ok (X := Nat) (fun k => [(0, .slice A1 n1 c1), (1, .slice A2 n1 c2), (5, .int .i64 k), (4, .bool false)]) (fun k W => Ext w W ∧ k ≤ n1 ∧ ∀ i (hi : i < xs.length) (hi2 : i < ys.length), i < k → xs[i] = ys[i]) (fun k _ => n1 - k) 0 ⟨rfl, rfl, rfl, rfl, trivial⟩ ⟨Ext.refl w, Nat.zero_le _, fun i _ _ h => by omega⟩ ?_
  rintro k j Wk ⟨he, hk, hall⟩
  conv => whnf
  intro t ht
  cases t <;> simp only [VB] at ht <;> (conv => whnf)
  · refine ⟨he, ?_⟩
    rw [decide_eq_true (list_ext_upto (by omega) fun i h3 h4 => hall i h3 h4 (by omega))]
  · have hk2 : k < n1 := by omega
    obtain ⟨a1, k1, rfl, d1⟩ := h1.at_ hk2
    obtain ⟨a2, k2, rfl, d2⟩ := h2.at_ hk2
    refine VDraw.mk' tab_ok (Ext Wk) [] (.take 0 <| .take 1 <| .take 2 <| .take 3 <| .take 4 <| .take 5 <| .take 6 <| .take 7 <| .take 8 <| .done) mixed (by kernel_rfl) (by kernel_rfl) (Ext.drew _) ?_
    have hd := Ext.drew Wk
    generalize Wk.drew = Wd at hd
    conv => whnf
    refine ⟨by omega, by omega, a1, rfl, ?_⟩
    conv => whnf
    refine ⟨cI xs[k], rfl, fun w' hs => d1.ext (he.tr hs), ?_⟩
    conv => whnf
    refine ⟨by omega, by omega, a2, rfl, ?_⟩
    conv => whnf
    refine ⟨cI ys[k], rfl, fun w' hs => d2.ext (he.tr hs), ?_⟩
    conv => whnf
    refine ⟨_, neq24 xs[k] ys[k], fun t ht2 => ?_⟩
    by_cases hxy : xs[k] = ys[k]
    · rw [decide_eq_true hxy] at ht2
      subst ht2
      conv => whnf
      intro r hr
      obtain rfl : r = ((k + 1 : Nat) : Int) := by rw [hr, wrap_id (by omega) (by omega)]; rfl
      clear hr
      conv => whnf
      refine ⟨k + 1, ⟨rfl, rfl, rfl, rfl, trivial⟩, ⟨he.tr hd, by omega, fun i h3 h4 h5 => ?_⟩, by omega⟩
      rcases Nat.lt_or_ge i k with h6 | h6
      · exact hall i h3 h4 h6
      · obtain rfl : i = k := by omega
        exact hxy
    · rw [decide_eq_false hxy] at ht2
      subst ht2
      conv => whnf
      refine ⟨he.tr hd, ?_⟩
      rw [decide_eq_false (fun e => hxy (by subst e; rfl))]
/-- An element whose users are none. -/
theorem fn51 (a b : El) (w : World) : Ret Try.prog 51 #[elV a, elV b] w fun v W => Ext w W ∧ v = .bool (decide (a = b)) := by
  refine Ret.of_vc tab_ok Try.func51 rfl Try.ntmps51 rfl (Nat.le_of_ble_eq_true rfl) Try.call51 ?_
  conv => whnf
  intro W hW
  conv => whnf
  intro W1 hW1
  have ha := hW1.e.at_ hW.at_
  have hb := hW1.at_
  have hE := hW.e.tr hW1.e
  clear hW hW1
  generalize w.heap.size = ba at ha ⊢
  generalize W.heap.size = bb at hb ⊢
  conv => whnf
  refine ⟨cI a.id, rfl, lds ha rfl rfl, ?_⟩
  conv => whnf
  refine ⟨cI b.id, rfl, lds hb rfl rfl, ?_⟩
  conv => whnf
  refine ⟨_, neq24 a.id b.id, fun t ht => ?_⟩
  by_cases h1 : a.id = b.id
  case neg =>
    rw [decide_eq_false h1] at ht
    subst ht
    conv => whnf
    exact ⟨hE, by rw [decide_eq_false (fun e => h1 (by rw [e]))]⟩
  rw [decide_eq_true h1] at ht
  subst ht
  conv => whnf
  refine ⟨cI a.ref, rfl, lds ha rfl rfl, ?_⟩
  conv => whnf
  refine ⟨cI b.ref, rfl, lds hb rfl rfl, ?_⟩
  conv => whnf
  refine ⟨_, neq24 a.ref b.ref, fun t ht => ?_⟩
  by_cases h2 : a.ref = b.ref
  case neg =>
    rw [decide_eq_false h2] at ht
    subst ht
    conv => whnf
    exact ⟨hE, by rw [decide_eq_false (fun e => h2 (by rw [e]))]⟩
  rw [decide_eq_true h2] at ht
  subst ht
  conv => whnf
  refine ⟨.int .i64 a.rune, ld ha rfl rfl, ?_⟩
  conv => whnf
  refine ⟨.int .i64 b.rune, ld hb rfl rfl, ?_⟩
  conv => whnf
  intro t ht
  cases t <;> simp only [VB] at ht
  case true =>
    conv => whnf
    exact ⟨hE, by rw [decide_eq_false (fun e => ht (by rw [e]))]⟩
  have hab : a = b := by cases a; cases b; simp_all
  conv => whnf
  refine ⟨.slice none 0 0, ld ha rfl rfl, ?_⟩
  conv => whnf
  refine ⟨.slice none 0 0, ld hb rfl rfl, ?_⟩
  conv => whnf
  intro t ht2
  obtain rfl : t = false := ht2.no (by decide)
  conv => whnf
  refine VLoop.mk' tab_ok (X := Unit) (fun _ => [(2, ptr ba), (3, ptr bb), (5, .int .i64 0), (4, .bool false)]) (fun _ W' => W1 = W') (fun _ _ => 0) () ⟨rfl, rfl, rfl, rfl, trivial⟩ rfl ?_
  rintro _ j _ rfl
  conv => whnf
  refine ⟨.slice none 0 0, ld ha rfl rfl, ?_⟩
  conv => whnf
  intro t ht3
  obtain rfl : t = false := ht3.no (by decide)
  conv => whnf
  exact ⟨hE, by rw [decide_eq_true hab]⟩
theorem fn20 {w : World} {A1 A2 : Option Addr} {n1 n2 c1 c2 : Nat} {xs ys : List El} (h1 : Row49 w A1 n1 xs) (h2 : Row49 w A2 n2 ys) : Ret Try.prog 20 #[.slice A1 n1 c1, .slice A2 n2 c2] w fun v W => Ext w W ∧ v = .bool (decide (xs = ys)) := by
  have hl1 := h1.len
  have hl2 := h2.len
  have hs1 := h1.small
  refine Ret.of_vc tab_ok Try.func20 rfl Try.ntmps20 rfl (Nat.le_of_ble_eq_true rfl) Try.call20 ?_
  conv => whnf
  intro t ht
  cases t <;> simp only [VB] at ht <;> (conv => whnf)
  case true =>
    refine ⟨Ext.refl w, ?_⟩
    rw [decide_eq_false (fun e => ht (by rw [← hl1, ← hl2, e]))]
  have hnn : n1 = n2 := by omega
  subst hnn
  refine VLoop.mk' tab_ok (X := Nat) (fun k => [(0, .slice A1 n1 c1), (1, .slice A2 n1 c2), (5, .int .i64 k), (4, .bool false)]) (fun k W => Ext w W ∧ k ≤ n1 ∧ ∀ i (hi : i < xs.length) (hi2 : i < ys.length), i < k → xs[i] = ys[i]) (fun k _ => n1 - k) 0 ⟨rfl, rfl, rfl, rfl, trivial⟩ ⟨Ext.refl w, Nat.zero_le _, fun i _ _ h => by omega⟩ ?_
  rintro k j Wk ⟨he, hk, hall⟩
  conv => whnf
  intro t ht
  cases t <;> simp only [VB] at ht <;> (conv => whnf)
  · refine ⟨he, ?_⟩
    rw [decide_eq_true (list_ext_upto (by omega) fun i h3 h4 => hall i h3 h4 (by omega))]
  · have hk2 : k < n1 := by omega
    obtain ⟨a1, k1, rfl, d1⟩ := h1.at_ hk2
    obtain ⟨a2, k2, rfl, d2⟩ := h2.at_ hk2
    refine VDraw.mk' tab_ok (Ext Wk) [8] (.take 0 <| .take 1 <| .take 2 <| .take 3 <| .take 4 <| .take 5 <| .take 6 <| .take 7 <| .one 8 <| .take 9 <| .done) mixed (by kernel_rfl) (by kernel_rfl) (Ext.drew _) ?_
    have hd := Ext.drew Wk
    generalize Wk.drew = Wd at hd
    conv => whnf
    refine ⟨by omega, by omega, a1, rfl, ?_⟩
    conv => whnf
    refine ⟨cE xs[k], rfl, fun w' hs => d1.ext (he.tr hs), ?_⟩
    conv => whnf
    refine ⟨by omega, by omega, a2, rfl, ?_⟩
    conv => whnf
    refine ⟨cE ys[k], rfl, fun w' hs => d2.ext (he.tr hs), ?_⟩
    conv => whnf
    refine (fn51 xs[k] ys[k] _).mono ?_
    rintro _ W2 ⟨he2, rfl⟩
    by_cases hxy : xs[k] = ys[k]
    · rw [decide_eq_true hxy]
      conv => whnf
      intro r hr
      obtain rfl : r = ((k + 1 : Nat) : Int) := by rw [hr, wrap_id (by omega) (by omega)]; rfl
      clear hr
      conv => whnf
      refine ⟨k + 1, ⟨rfl, rfl, rfl, rfl, trivial⟩, ⟨he.tr (hd.tr he2), by omega, fun i h3 h4 h5 => ?_⟩, by omega⟩
      rcases Nat.lt_or_ge i k with h6 | h6
      · exact hall i h3 h4 h6
      · obtain rfl : i = k := by omega
        exact hxy
    · rw [decide_eq_false hxy]
      conv => whnf
      refine ⟨he.tr (hd.tr he2), ?_⟩
      rw [decide_eq_false (fun e => hxy (by subst e; rfl))]
end Go.Proofs.Ytbkmbignincilaa
