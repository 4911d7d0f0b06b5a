/- duetlaw18's helpers: few, key, same, Same, Told, acts, runes. -/
import Derived.Test.YthphdaeaicjgmaaE20
namespace Go.Proofs.Ythphdaeaicjgmaa
open Go Go.VC Go.RowKit
set_option linter.unusedVariables false
set_option linter.unusedSimpArgs false
set_option maxRecDepth 100000

theorem fn10 (w : World) (A KA : Option Addr) (n c kn kc : Nat) (at_ : Int) (hn : n ≤ 9223372036854775807) (hkn : kn ≤ 9223372036854775807) :
    Ret Try.prog 10 #[.agg #[.slice A n c, .int .i64 at_, .slice KA kn kc]] w fun v W => Ext w W ∧ v = .bool (decide (n ≤ 1100 ∧ kn ≤ 1100)) := by
  refine Ret.of_vc tab_ok Try.func10 rfl Try.ntmps10 rfl (Nat.le_of_ble_eq_true rfl) Try.call10 ?_
  conv => whnf
  intro W hW
  have h2 := hW.at_
  conv => whnf
  refine ⟨_, ld h2 rfl rfl, ?_⟩
  conv => whnf
  intro t ht
  cases t <;> simp only [VB] at ht <;> (conv => whnf)
  case false =>
    refine ⟨hW.e, ?_⟩
    congr 1; symm
    simp only [decide_eq_false_iff_not]; omega
  refine ⟨_, ld h2 rfl rfl, ?_⟩
  conv => whnf
  intro t ht2
  cases t <;> simp only [VB] at ht2 <;> (conv => whnf)
  case false =>
    refine ⟨hW.e, ?_⟩
    congr 1; symm
    simp only [decide_eq_false_iff_not]; omega
  refine ⟨hW.e, ?_⟩
  congr 1; symm
  simp only [decide_eq_true_eq]; omega

theorem fn13 (w : World) (a b : Int) : Ret Try.prog 13 #[.agg #[.int .i64 a, .int .i64 b]] w fun v W => Ext w W ∧ v = .agg #[.int .i64 a, .int .i64 b] := by
  refine Ret.of_vc tab_ok Try.func13 rfl Try.ntmps13 rfl (Nat.le_of_ble_eq_true rfl) Try.call13 ?_
  conv => whnf
  intro W1 hW1
  conv => whnf
  intro W2 hW2
  have h1 := hW2.e.at_ hW1.at_
  conv => whnf
  refine ⟨_, ld h1 rfl rfl, ?_⟩
  conv => whnf
  refine ⟨_, ld h1 rfl rfl, ?_⟩
  conv => whnf
  refine Run.mk' _ _ (build33 _ _ _) ?_
  conv => whnf
  refine ⟨_, 0, _, _, rfl, hW2.at_, Nat.le_of_ble_eq_true rfl, rfl, rfl, fun W3 hW3 => ?_⟩
  conv => whnf
  refine ⟨[.int .i64 a, .int .i64 b], rfl, lds hW3.at_ rfl rfl, ?_⟩
  exact ⟨hW3.e (hW1.e.tr hW2.e) hW1.e.le, rfl⟩

theorem fn15 (w : World) (A KA B KB : Option Addr) (n c kn kc m d km kd : Nat) (xs ks ys ls : List Int) (a b : Int) (h : Ints w A n xs) (hk : Ints w KA kn ks) (h' : Ints w B m ys) (hk' : Ints w KB km ls) :
    Ret Try.prog 15 #[.agg #[.slice A n c, .int .i64 a, .slice KA kn kc], .agg #[.slice B m d, .int .i64 b, .slice KB km kd]] w fun v W => Ext w W ∧ v = .bool (decide (xs = ys ∧ a = b ∧ ks = ls)) := by
  refine Ret.of_vc tab_ok Try.func15 rfl Try.ntmps15 rfl (Nat.le_of_ble_eq_true rfl) Try.call15 ?_
  conv => whnf
  intro W1 hW1
  conv => whnf
  intro W2 hW2
  have h1 := hW2.e.at_ hW1.at_
  have h2 := hW2.at_
  have e2 := hW1.e.tr hW2.e
  conv => whnf
  refine ⟨_, ld h1 rfl rfl, ?_⟩
  conv => whnf
  refine ⟨_, ld h2 rfl rfl, ?_⟩
  conv => whnf
  refine (fn21 W2 A B n c m d xs ys (h.ext e2) (h'.ext e2)).mono ?_
  rintro _ W3 ⟨e3, rfl⟩
  replace h1 := e3.at_ h1
  replace h2 := e3.at_ h2
  replace e2 := e2.tr e3
  by_cases q1 : xs = ys
  case neg =>
    rw [decide_eq_false q1]
    conv => whnf
    exact ⟨e2, by rw [decide_eq_false (fun e => q1 e.1)]⟩
  rw [decide_eq_true q1]
  conv => whnf
  refine ⟨_, ld h1 rfl rfl, ?_⟩
  conv => whnf
  refine ⟨_, ld h2 rfl rfl, ?_⟩
  conv => whnf
  intro t ht
  cases t <;> simp only [VB] at ht <;> (conv => whnf)
  case false => exact ⟨e2, by rw [decide_eq_false (fun e => ht e.2.1)]⟩
  refine ⟨_, ld h1 rfl rfl, ?_⟩
  conv => whnf
  refine ⟨_, ld h2 rfl rfl, ?_⟩
  conv => whnf
  refine (fn21 W3 KA KB kn kc km kd ks ls (hk.ext e2) (hk'.ext e2)).mono ?_
  rintro _ W4 ⟨e4, rfl⟩
  conv => whnf
  refine ⟨e2.tr e4, ?_⟩
  congr 1
  rw [decide_eq_decide]
  exact ⟨fun e => ⟨q1, ht, e⟩, fun e => e.2.2⟩

theorem eq72 (a b c a' b' c' : Int) (w : World) : (Op.equalIn 10000 72 (.agg #[.int .i64 a, .int .i64 b, .int .i64 c]) (.agg #[.int .i64 a', .int .i64 b', .int .i64 c'])).run Try.prog w = .ok (decide (a = a' ∧ b = b' ∧ c = c')) w := by
  refine eqF_struct (d := 9999) Try.underlying72 (by kernel_rfl) ?_
  refine eqF_cons (by kernel_rfl) (part_one Try.underlying3 rfl w) (part_one Try.underlying3 rfl w) (eqI_int Try.underlying3 9998 a a' w) ?_
  refine eqF_cons (by kernel_rfl) (part_one Try.underlying3 rfl w) (part_one Try.underlying3 rfl w) (eqI_int Try.underlying3 9998 b b' w) ?_
  exact eqF_one (by kernel_rfl) (part_one Try.underlying3 rfl w) (part_one Try.underlying3 rfl w) (eqI_int Try.underlying3 9998 c c' w)

theorem fn16 (w : World) (A B : Option Addr) (n c m d : Nat) (xs ys : List Act3) (h : Rd w 3 A n (acells xs)) (h' : Rd w 3 B m (acells ys)) (hn : n ≤ 100000) :
    Ret Try.prog 16 #[.slice A n c, .slice B m d] w fun v W => Ext w W ∧ v = .bool (decide (xs = ys)) := by
  have hl := rd_len3 h
  have hl' := rd_len3 h'
  refine Ret.of_vc tab_ok Try.func16 rfl Try.ntmps16 rfl (Nat.le_of_ble_eq_true rfl) Try.call16 ?_
  conv => whnf
  intro t ht
  cases t <;> simp only [VB] at ht <;> (conv => whnf)
  case true =>
    refine ⟨Ext.refl _, ?_⟩
    congr 1; symm
    simp only [decide_eq_false_iff_not]
    rintro rfl
    omega
  refine VLoop.mk' tab_ok (X := Nat) (fun k => [(0, .slice A n c), (1, .slice B m d), (5, .int .i64 k)])
    (fun k W => Ext w W ∧ k ≤ n ∧ ∀ i, i < k → xs.getD i (0, 0, 0) = ys.getD i (0, 0, 0)) (fun k _ => n - k) 0 ⟨rfl, rfl, rfl, trivial⟩ ⟨Ext.refl _, by omega, fun i hi => by omega⟩ ?_
  rintro k j W ⟨he, h1, h2⟩
  conv => whnf
  intro t ht1
  cases t <;> simp only [VB] at ht1 <;> (conv => whnf)
  · refine ⟨he, ?_⟩
    congr 1; symm
    simp only [decide_eq_true_eq]
    apply List.ext_getElem (by omega)
    intro i hi hi'
    have := h2 i (by omega)
    rwa [List.getD_eq_getElem?_getD, List.getElem?_eq_getElem hi, List.getD_eq_getElem?_getD, List.getElem?_eq_getElem hi'] at this
  obtain ⟨a, rfl, hck⟩ := act_at (h.ext he) (k := k) (by omega)
  obtain ⟨b, rfl, hck'⟩ := act_at (h'.ext he) (k := k) (by omega)
  have hcl : ∀ (V : World) (p : Addr) (vs : List Value), Cells W p vs → Ext W V → Cells V p vs := fun V p vs hc hv i hi => hv.cell (hc i hi)
  refine VDraw.mk' tab_ok (Ext W) [] (.take 0 <| .take 1 <| .take 2 <| .take 3 <| .take 4 <| .take 5 <| .take 6 <| .take 7 <| .take 8 <| .done) mixed (by kernel_rfl) (by kernel_rfl) (Ext.drew _) ?_
  conv => whnf
  refine ⟨by omega, ht1, a, rfl, ?_⟩
  conv => whnf
  refine ⟨_, rfl, fun w' hs => hcl w' _ _ hck hs, ?_⟩
  conv => whnf
  refine ⟨by omega, by omega, b, rfl, ?_⟩
  conv => whnf
  refine ⟨_, rfl, fun w' hs => hcl w' _ _ hck' hs, ?_⟩
  conv => whnf
  refine ⟨_, neq_agg (by kernel_rfl) (eq72 _ _ _ _ _ _), ?_⟩
  intro t ht2
  by_cases q : xs.getD k (0, 0, 0) = ys.getD k (0, 0, 0)
  · have : t = false := by rw [ht2, decide_eq_true (by rw [q]; exact ⟨rfl, rfl, rfl⟩)]; rfl
    subst this
    conv => whnf
    intro r hr
    have hr3 : r = ((k + 1 : Nat) : Int) := by rw [hr]; exact wrap_nat (n := n) (by omega) (by omega)
    subst hr3
    conv => whnf
    refine ⟨k + 1, ⟨rfl, rfl, rfl, trivial⟩, ⟨he.then_drew, by omega, fun i hi => ?_⟩, by omega⟩
    by_cases e : i = k
    · subst e; exact q
    · exact h2 i (by omega)
  · have : t = true := by
      rw [ht2, decide_eq_false (fun e => q (by
        obtain ⟨e1, e2, e3⟩ := e
        exact Prod.ext e1 (Prod.ext e2 e3)))]
      rfl
    subst this
    conv => whnf
    refine ⟨he.then_drew, ?_⟩
    congr 1; symm
    simp only [decide_eq_false_iff_not]
    rintro rfl
    exact q rfl

theorem acells_take (l : List Act3) (k : Nat) (h : k < l.length) : acells (l.take k) ++ acells [l.getD k (0, 0, 0)] = acells (l.take (k + 1)) := by
  rw [← acells_app, List.take_succ_eq_append_getElem h]
  congr 2
  rw [List.getD_eq_getElem?_getD, List.getElem?_eq_getElem h]
  rfl

theorem fn17 (w : World) (A : Option Addr) (n c : Nat) (xs : List Act3) (h : Rd w 3 A n (acells xs)) (hn : n ≤ 100000) :
    Ret Try.prog 17 #[.slice A n c] w fun v W => Ext w W ∧ W.ownsRow w.heap.size 72 3 v n (acells xs) := by
  have hl := rd_len3 h
  refine Ret.of_vc tab_ok Try.func17 rfl Try.ntmps17 rfl (Nat.le_of_ble_eq_true rfl) Try.call17 ?_
  conv => whnf
  refine VLoop.mk' tab_ok (X := Nat × Value) (fun x => [(0, .slice A n c), (3, x.2), (4, .int .i64 x.1)])
    (fun x W => Ext w W ∧ x.1 ≤ n ∧ W.ownsRow w.heap.size 72 3 x.2 x.1 (acells (xs.take x.1))) (fun x _ => n - x.1) (0, .slice none 0 0) ⟨rfl, rfl, rfl, trivial⟩ ⟨Ext.refl _, Nat.zero_le _, own_nil_ _ _ _ _⟩ ?_
  rintro ⟨k, L⟩ j W ⟨he, h1, hown⟩
  dsimp only at h1 hown
  conv => whnf
  intro t ht
  cases t <;> simp only [VB] at ht <;> (conv => whnf)
  case false =>
    obtain rfl : k = n := by omega
    rw [List.take_of_length_le (by omega)] at hown
    exact ⟨he, hown⟩
  obtain ⟨a, rfl, hck⟩ := act_at (h.ext he) (k := k) (by omega)
  refine VDraw.mk' tab_ok (Ext W) [16, 17, 18] (.take 0 <| .take 1 <| .take 2 <| .take 3 <| .take 4 <| .take 5 <| .take 6 <| .take 7 <| .take 8 <| .take 9 <| .take 10 <| .take 11 <| .take 12 <| .take 13 <| .take 14 <| .take 15 <| .one 16 <| .one 17 <| .one 18 <| .take 19 <| .done) mixed (by kernel_rfl) (by kernel_rfl) (Ext.drew _) ?_
  conv => whnf
  refine ⟨by omega, by omega, a, rfl, ?_⟩
  conv => whnf
  refine ⟨_, fun w' hs => hs.cell (hck 0 (Nat.le_of_ble_eq_true rfl)), ?_⟩
  conv => whnf
  refine ⟨by omega, by omega, a, rfl, ?_⟩
  conv => whnf
  refine ⟨_, fun w' hs => hs.cell (hck 1 (Nat.le_of_ble_eq_true rfl)), ?_⟩
  conv => whnf
  refine ⟨by omega, by omega, a, rfl, ?_⟩
  conv => whnf
  refine ⟨_, fun w' hs => hs.cell (hck 2 (Nat.le_of_ble_eq_true rfl)), ?_⟩
  generalize hp : xs.getD k (0, 0, 0) = p
  obtain ⟨p1, p2, p3⟩ := p
  conv => whnf
  refine Run.mk' _ _ (build72 p1 p2 p3 _) ?_
  conv => whnf
  refine Run.mk' _ _ (slice35_1 _ _ _ _) ?_
  have hd := Ext.drew W
  have hN := New.mk' W.drew (.cells #[.int .i64 p1, .int .i64 p2, .int .i64 p3] 72)
  generalize W.drew.alloc (.cells #[.int .i64 p1, .int .i64 p2, .int .i64 p3] 72) = W2 at hN ⊢
  have hat := hN.at_
  have e2 := hd.tr hN.e
  generalize W.drew.heap.size = g1 at hat ⊢
  conv => whnf
  refine run_append inf72 Try.underlying35 rfl (by decide) (own_ext hown e2) (rd_three' hat) (one_three _ _ _) (by simp only [maxLen]; omega) (by omega) (he.tr e2).le ?_
  intro v' W3 hown3 hgr _
  have he3 := ext_row (he.tr e2) hgr (own_ext hown e2) (Nat.le_refl _)
  rw [← hp, acells_take xs k (by omega)] at hown3
  conv => whnf
  intro r hr
  have hr3 : r = ((k + 1 : Nat) : Int) := by rw [hr]; exact wrap_nat (n := n) (by omega) (by omega)
  subst hr3
  conv => whnf
  exact ⟨(k + 1, v'), ⟨rfl, rfl, rfl, trivial⟩, ⟨he3, by dsimp only; omega, hown3⟩, by dsimp only; omega⟩

theorem fn19 (w : World) (A : Option Addr) (n c : Nat) (xs : List Act3) (h : Rd w 3 A n (acells xs)) (hn : n ≤ 100000) :
    Ret Try.prog 19 #[.slice A n c] w fun v W => Ext w W ∧ W.ownsRow w.heap.size 73 3 v n (acells xs) := by
  have hl := rd_len3 h
  refine Ret.of_vc tab_ok Try.func19 rfl Try.ntmps19 rfl (Nat.le_of_ble_eq_true rfl) Try.call19 ?_
  conv => whnf
  refine VLoop.mk' tab_ok (X := Nat × Value) (fun x => [(0, .slice A n c), (3, x.2), (4, .int .i64 x.1)])
    (fun x W => Ext w W ∧ x.1 ≤ n ∧ W.ownsRow w.heap.size 73 3 x.2 x.1 (acells (xs.take x.1))) (fun x _ => n - x.1) (0, .slice none 0 0) ⟨rfl, rfl, rfl, trivial⟩ ⟨Ext.refl _, Nat.zero_le _, own_nil_ _ _ _ _⟩ ?_
  rintro ⟨k, L⟩ j W ⟨he, h1, hown⟩
  dsimp only at h1 hown
  conv => whnf
  intro t ht
  cases t <;> simp only [VB] at ht <;> (conv => whnf)
  case false =>
    obtain rfl : k = n := by omega
    rw [List.take_of_length_le (by omega)] at hown
    exact ⟨he, hown⟩
  obtain ⟨a, rfl, hck⟩ := act_at (h.ext he) (k := k) (by omega)
  refine VDraw.mk' tab_ok (Ext W) [16, 17, 18] (.take 0 <| .take 1 <| .take 2 <| .take 3 <| .take 4 <| .take 5 <| .take 6 <| .take 7 <| .take 8 <| .take 9 <| .take 10 <| .take 11 <| .take 12 <| .take 13 <| .take 14 <| .take 15 <| .one 16 <| .one 17 <| .one 18 <| .take 19 <| .done) mixed (by kernel_rfl) (by kernel_rfl) (Ext.drew _) ?_
  conv => whnf
  refine ⟨by omega, by omega, a, rfl, ?_⟩
  conv => whnf
  refine ⟨_, fun w' hs => hs.cell (hck 0 (Nat.le_of_ble_eq_true rfl)), ?_⟩
  conv => whnf
  refine ⟨by omega, by omega, a, rfl, ?_⟩
  conv => whnf
  refine ⟨_, fun w' hs => hs.cell (hck 1 (Nat.le_of_ble_eq_true rfl)), ?_⟩
  conv => whnf
  refine ⟨by omega, by omega, a, rfl, ?_⟩
  conv => whnf
  refine ⟨_, fun w' hs => hs.cell (hck 2 (Nat.le_of_ble_eq_true rfl)), ?_⟩
  generalize hp : xs.getD k (0, 0, 0) = p
  obtain ⟨p1, p2, p3⟩ := p
  conv => whnf
  refine Run.mk' _ _ (build73 p1 p2 p3 _) ?_
  conv => whnf
  refine Run.mk' _ _ (slice30_1 _ _ _ _) ?_
  have hd := Ext.drew W
  have hN := New.mk' W.drew (.cells #[.int .i64 p1, .int .i64 p2, .int .i64 p3] 73)
  generalize W.drew.alloc (.cells #[.int .i64 p1, .int .i64 p2, .int .i64 p3] 73) = W2 at hN ⊢
  have hat := hN.at_
  have e2 := hd.tr hN.e
  generalize W.drew.heap.size = g1 at hat ⊢
  conv => whnf
  refine run_append inf73 Try.underlying30 rfl (by decide) (own_ext hown e2) (rd_three' hat) (one_three _ _ _) (by simp only [maxLen]; omega) (by omega) (he.tr e2).le ?_
  intro v' W3 hown3 hgr _
  have he3 := ext_row (he.tr e2) hgr (own_ext hown e2) (Nat.le_refl _)
  rw [← hp, acells_take xs k (by omega)] at hown3
  conv => whnf
  intro r hr
  have hr3 : r = ((k + 1 : Nat) : Int) := by rw [hr]; exact wrap_nat (n := n) (by omega) (by omega)
  subst hr3
  conv => whnf
  exact ⟨(k + 1, v'), ⟨rfl, rfl, rfl, trivial⟩, ⟨he3, by dsimp only; omega, hown3⟩, by dsimp only; omega⟩

/-- A text's bytes. -/
def bytesL (s : ByteArray) : List Int := (List.range s.size).map fun k => if h : k < s.size then ((s[k]'h).toNat : Int) else 0
theorem bytes_len (s : ByteArray) : (bytesL s).length = s.size := by simp [bytesL]
theorem bytes_get (s : ByteArray) (k : Nat) (h : k < s.size) : (bytesL s).getD k 0 = ((s[k]'h).toNat : Int) := by
  unfold bytesL
  rw [List.getD_eq_getElem?_getD, List.getElem?_map, List.getElem?_range h]
  simp [h]
theorem fn24 (w : World) (s : ByteArray) (hs : s.size ≤ 1000) :
    Ret Try.prog 24 #[.string s] w fun v W => Ext w W ∧ W.ownsRow w.heap.size 3 1 v s.size (ints (bytesL s)) := by
  have hl := bytes_len s
  refine Ret.of_vc tab_ok Try.func24 rfl Try.ntmps24 rfl (Nat.le_of_ble_eq_true rfl) Try.call24 ?_
  conv => whnf
  refine VLoop.mk' tab_ok (X := Nat × Value) (fun x => [(0, .string s), (3, x.2), (4, .int .i64 x.1)])
    (fun x W => Ext w W ∧ x.1 ≤ s.size ∧ W.ownsRow w.heap.size 3 1 x.2 x.1 (ints ((bytesL s).take x.1))) (fun x _ => s.size - x.1) (0, .slice none 0 0) ⟨rfl, rfl, rfl, trivial⟩ ⟨Ext.refl _, Nat.zero_le _, own_nil_ _ _ _ _⟩ ?_
  rintro ⟨k, L⟩ j W ⟨he, h1, hown⟩
  dsimp only at h1 hown
  conv => whnf
  intro t ht
  cases t <;> simp only [VB] at ht <;> (conv => whnf)
  case false =>
    obtain rfl : k = s.size := by omega
    rw [List.take_of_length_le (by omega)] at hown
    exact ⟨he, hown⟩
  have hk : k < s.size := by omega
  refine ⟨by omega, hk, ?_⟩
  conv => whnf
  intro r hr
  have hb : (s[k]'hk).toNat < 256 := UInt8.toNat_lt _
  have hr2 : r = (bytesL s).getD k 0 := by
    rw [bytes_get s k hk]
    have e : r = IntKind.i64.wrap ((s[k]'hk).toNat : Int) := hr
    rw [e, wrap_id (by omega) (by omega)]
  clear hr
  subst hr2
  generalize hc : (bytesL s).getD k 0 = c
  conv => whnf
  refine Run.mk' _ _ (slice22_1 _ _) ?_
  have hN := New.mk' W (.cells #[.int .i64 c] 3)
  generalize W.alloc (.cells #[.int .i64 c] 3) = W2 at hN ⊢
  have hat := hN.at_
  have e2 := hN.e
  generalize W.heap.size = g1 at hat ⊢
  have hri : Ints W2 (some ⟨g1, 0, none⟩) 1 [c] := ints_of_at hat (by simp [ints]) rfl (by decide)
  conv => whnf
  refine run_append inf3 Try.underlying22 rfl (by decide) (own_ext hown e2) hri.rd (one_ints _) (by simp only [maxLen]; omega) (by omega) (he.tr e2).le ?_
  intro v' W3 hown3 hgr _
  have he3 := ext_row (he.tr e2) hgr (own_ext hown e2) (Nat.le_refl _)
  rw [← ints_app, ← hc, ← take_succ_getD _ _ (by omega)] at hown3
  conv => whnf
  intro r hr
  have hr3 : r = ((k + 1 : Nat) : Int) := by rw [hr]; exact wrap_nat (n := s.size) (by omega) (by omega)
  subst hr3
  conv => whnf
  exact ⟨(k + 1, v'), ⟨rfl, rfl, rfl, trivial⟩, ⟨he3, by dsimp only; omega, hown3⟩, by dsimp only; omega⟩
end Go.Proofs.Ythphdaeaicjgmaa
