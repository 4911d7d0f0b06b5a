/- The document's side: vectors, Asks, lists that are the same. -/
import Derived.Test.YtgcelfplgfloaaaA8
namespace Go.Proofs.Ytgcelfplgfloaaa
open Go Go.VC Go.RowKit
set_option linter.unusedVariables false
set_option linter.unusedSimpArgs false
set_option maxRecDepth 100000

theorem fn75 (w : World) (A : Option Addr) (n c : Nat) (xs : List Int) (h : Ints w A n xs) :
    Ret Try.prog 75 #[.slice A n c] w fun v w' => w = w' ∧ v = .bool (vecOk xs) := by
  have hl := h.len
  have hm := h.small
  refine Ret.of_vc tab_ok Try.func75 rfl Try.ntmps75 rfl (Nat.le_of_ble_eq_true rfl) Try.call75 ?_
  conv => whnf
  refine VLoop.mk' tab_ok (X := Nat) (fun k => [(0, .slice A n c), (3, .int .i64 k)])
    (fun k w' => w = w' ∧ k ≤ n ∧ ∀ i x, i < k → xs[i]? = some x → 0 ≤ x ∧ x ≤ 4294967295) (fun k _ => n - k) 0 ⟨rfl, rfl, trivial⟩ ⟨rfl, by omega, fun i x hi => by omega⟩ ?_
  rintro k j _ ⟨rfl, h1, h2⟩
  conv => whnf
  intro t ht
  cases t <;> simp only [VB] at ht <;> (conv => whnf)
  · obtain rfl : k = n := by omega
    have hall : ∀ x ∈ xs, 0 ≤ x ∧ x ≤ 4294967295 := fun x hx => by
      obtain ⟨i, hi, rfl⟩ := List.getElem_of_mem hx
      exact h2 i _ (by omega) (List.getElem?_eq_getElem hi)
    intro t ht1
    cases t <;> simp only [VB] at ht1 <;> (conv => whnf)
    · refine ⟨rfl, ?_⟩
      congr 1; symm
      simp only [vecOk, decide_eq_false_iff_not]
      omega
    · intro t ht2
      conv => whnf
      refine ⟨rfl, ?_⟩
      congr 1
      cases t <;> simp only [VB] at ht2 <;> symm
      · simp only [vecOk, decide_eq_false_iff_not]; omega
      · simp only [vecOk, decide_eq_true_eq]; exact ⟨by omega, by omega, hall⟩
  obtain ⟨a, rfl, hck⟩ := h.at_ (k := k) (by omega)
  have hk : k < xs.length := by omega
  have hget : xs[k]? = some (xs.getD k 0) := by simp [List.getElem?_eq_getElem hk]
  have hmem : xs.getD k 0 ∈ xs := List.mem_of_getElem? hget
  refine ⟨by omega, ht, a, rfl, ?_⟩
  conv => whnf
  refine ⟨.int .i64 (xs.getD k 0), by simpa using hck, ?_⟩
  conv => whnf
  intro t ht1
  cases t <;> simp only [VB] at ht1 <;> (conv => whnf)
  case true =>
    refine ⟨rfl, ?_⟩
    congr 1; symm
    simp only [vecOk, decide_eq_false_iff_not]
    rintro ⟨_, _, h3⟩
    have := (h3 _ hmem).1
    omega
  refine ⟨by omega, ht, a, rfl, ?_⟩
  conv => whnf
  refine ⟨.int .i64 (xs.getD k 0), by simpa using hck, ?_⟩
  conv => whnf
  intro t ht2
  cases t <;> simp only [VB] at ht2 <;> (conv => whnf)
  case true =>
    refine ⟨rfl, ?_⟩
    congr 1; symm
    simp only [vecOk, decide_eq_false_iff_not]
    rintro ⟨_, _, h3⟩
    have := (h3 _ hmem).2
    omega
  intro r hr
  have hr3 : r = ((k + 1 : Nat) : Int) := by rw [hr]; exact wrap_nat (by omega) hm
  subst hr3
  conv => whnf
  refine ⟨k + 1, ⟨rfl, rfl, trivial⟩, ⟨rfl, by omega, fun i x hi hx => ?_⟩, by omega⟩
  by_cases e : i = k
  · subst e
    rw [hget] at hx
    cases hx
    omega
  · exact h2 i x (by omega) hx

theorem fn58 (w : World) (A B : Option Addr) (n c m d : Nat) (xs ys : List Int) (h : Ints w A n xs) (h' : Ints w B m ys) :
    Ret Try.prog 58 #[.slice A n c, .slice B m d] w fun v w' => w = w' ∧ v = .bool (goes xs ys) := by
  have hl := h.len
  have hl' := h'.len
  refine Ret.of_vc tab_ok Try.func58 rfl Try.ntmps58 rfl (Nat.le_of_ble_eq_true rfl) Try.call58 ?_
  conv => whnf
  refine (fn75 w A n c xs h).mono ?_
  rintro _ _ ⟨rfl, rfl⟩
  cases hv : vecOk xs <;> (conv => whnf)
  · exact ⟨rfl, by simp [goes, hv]⟩
  refine (fn75 w B m d ys h').mono ?_
  rintro _ _ ⟨rfl, rfl⟩
  cases hv' : vecOk ys <;> (conv => whnf)
  · exact ⟨rfl, by simp [goes, hv']⟩
  intro t ht
  conv => whnf
  refine ⟨rfl, ?_⟩
  congr 1
  cases t <;> simp only [VB] at ht <;> symm
  · simp only [goes, hv, hv', Bool.and_true, decide_eq_false_iff_not]; omega
  · simp only [goes, hv, hv', Bool.and_true, decide_eq_true_eq]; omega

/-- Is none of one's numbers greater? -/
def below (xs ys : List Int) : Bool := decide (∀ i, i < xs.length → i < ys.length → xs.getD i 0 ≤ ys.getD i 0)
theorem fn33 (w : World) (A B : Option Addr) (n c m d : Nat) (xs ys : List Int) (h : Ints w A n xs) (h' : Ints w B m ys) :
    Ret Try.prog 33 #[.slice A n c, .slice B m d] w fun v w' => Ext w w' ∧ v = .bool (below xs ys) := by
  have hl := h.len
  have hl' := h'.len
  have hm := h.small
  refine Ret.of_vc tab_ok Try.func33 rfl Try.ntmps33 rfl (Nat.le_of_ble_eq_true rfl) Try.call33 ?_
  conv => whnf
  refine VLoop.mk' tab_ok (X := Nat) (fun k => [(0, .slice A n c), (1, .slice B m d), (5, .int .i64 k)])
    (fun k W => Ext w W ∧ k ≤ n ∧ k ≤ m ∧ ∀ i, i < k → xs.getD i 0 ≤ ys.getD i 0) (fun k _ => n - k) 0 ⟨rfl, rfl, rfl, trivial⟩ ⟨Ext.refl _, by omega, by omega, fun i hi => by omega⟩ ?_
  rintro k j W ⟨he, h1, h1', h2⟩
  conv => whnf
  intro t ht
  cases t <;> simp only [VB] at ht <;> (conv => whnf)
  · refine ⟨he, ?_⟩
    congr 1; symm
    simp only [below, decide_eq_true_eq]
    intro i hi hi'
    exact h2 i (by omega)
  intro t ht'
  cases t <;> simp only [VB] at ht' <;> (conv => whnf)
  · refine ⟨he, ?_⟩
    congr 1; symm
    simp only [below, decide_eq_true_eq]
    intro i hi hi'
    exact h2 i (by omega)
  obtain ⟨a, rfl, hck⟩ := (h.ext he).at_ (k := k) (by omega)
  obtain ⟨b, rfl, hck'⟩ := (h'.ext he).at_ (k := k) (by omega)
  refine VDraw.mk' tab_ok (Ext W) [] (.take 0 <| .take 1 <| .take 2 <| .take 3 <| .take 4 <| .take 5 <| .take 6 <| .take 7 <| .take 8 <| .done) mixed (by kernel_rfl) (by kernel_rfl) (Ext.drew _) ?_
  conv => whnf
  refine ⟨by omega, ht, a, rfl, ?_⟩
  conv => whnf
  refine ⟨.int .i64 (xs.getD k 0), fun w' hs => hs.cell (by simpa using hck), ?_⟩
  conv => whnf
  refine ⟨by omega, ht', b, rfl, ?_⟩
  conv => whnf
  refine ⟨.int .i64 (ys.getD k 0), fun w' hs => hs.cell (by simpa using hck'), ?_⟩
  conv => whnf
  intro t ht2
  cases t <;> simp only [VB] at ht2 <;> (conv => whnf)
  · intro r hr
    have hr3 : r = ((k + 1 : Nat) : Int) := by rw [hr]; exact wrap_nat (n := n) (by omega) hm
    subst hr3
    conv => whnf
    refine ⟨k + 1, ⟨rfl, rfl, rfl, trivial⟩, ⟨he.then_drew, by omega, by omega, fun i hi => ?_⟩, by omega⟩
    by_cases e : i = k
    · subst e; omega
    · exact h2 i (by omega)
  · refine ⟨he.then_drew, ?_⟩
    congr 1; symm
    simp only [below, decide_eq_false_iff_not]
    intro hh
    have := hh k (by omega) (by omega)
    omega

theorem fn37 (w : World) (A B : Option Addr) (n c m d : Nat) (xs ys : List Int) (h : Ints w A n xs) (h' : Ints w B m ys) :
    Ret Try.prog 37 #[.slice A n c, .slice B m d] w fun v W => Ext w W ∧ ∃ k, v = .tuple #[.int .i64 k, errN (goes xs ys)] := by
  refine Ret.of_vc tab_ok Try.func37 rfl Try.ntmps37 rfl (Nat.le_of_ble_eq_true rfl) Try.call37 ?_
  conv => whnf
  refine (fn58 w A B n c m d xs ys h h').mono ?_
  rintro _ _ ⟨rfl, rfl⟩
  cases hg : goes xs ys <;> (conv => whnf)
  · exact ⟨Ext.refl _, 0, rfl⟩
  refine (fn33 w A B n c m d xs ys h h').mono ?_
  rintro _ W1 ⟨he1, rfl⟩
  conv => whnf
  refine (fn33 W1 B A m d n c ys xs (h'.ext he1) (h.ext he1)).mono ?_
  rintro _ W2 ⟨he2, rfl⟩
  have he := he1.tr he2
  cases below xs ys <;> cases below ys xs <;> (conv => whnf)
  · exact ⟨he, 3, rfl⟩
  · exact ⟨he, 2, rfl⟩
  · exact ⟨he, 1, rfl⟩
  · exact ⟨he, 0, rfl⟩

set_option maxHeartbeats 1000000
theorem fn12 (w : World) (A B : Option Addr) (n c m d : Nat) (hs ks : List Int) (most : Int) (h : Ints w A n hs) (h' : Ints w B m ks) :
    Ret Try.prog 12 #[.slice A n c, .slice B m d, .int .i64 most] w fun v W => Ext w W ∧ ∃ v', v = .tuple #[v', errN (asksV hs ks most).2] ∧
      W.ownsRow w.heap.size 33 2 v' (asksV hs ks most).1.length (pcells (asksV hs ks most).1) := by
  have hl := h.len
  have hl' := h'.len
  refine Ret.of_vc tab_ok Try.func12 rfl Try.ntmps12 rfl (Nat.le_of_ble_eq_true rfl) Try.call12 ?_
  conv => whnf
  refine (fn37 w A B n c m d hs ks h h').mono ?_
  rintro _ W0 ⟨he0, kd, rfl⟩
  have no : ¬ (goes hs ks = true ∧ 0 ≤ most ∧ most ≤ 1000) → asksV hs ks most = ([], false) := fun hh => by simp only [asksV]; rw [if_neg hh]
  cases hg : goes hs ks
  · conv => whnf
    intro t ht
    obtain rfl : t = true := ht.yes (by decide)
    conv => whnf
    rw [no (by rw [hg]; simp)]
    exact ⟨he0, _, rfl, own_nil_ _ _ _ _⟩
  conv => whnf
  intro t ht
  obtain rfl : t = false := ht.no (by decide)
  conv => whnf
  intro t ht1
  cases t <;> simp only [VB] at ht1 <;> (conv => whnf)
  case true =>
    rw [no (by omega)]
    exact ⟨he0, _, rfl, own_nil_ _ _ _ _⟩
  intro t ht2
  cases t <;> simp only [VB] at ht2 <;> (conv => whnf)
  case true =>
    rw [no (by omega)]
    exact ⟨he0, _, rfl, own_nil_ _ _ _ _⟩
  have yes : asksV hs ks most = (asksTo hs ks most hs.length, true) := by simp only [asksV]; rw [if_pos ⟨hg, by omega, by omega⟩]
  have hg' : (hs.length = ks.length ∧ vecOk hs = true) ∧ vecOk ks = true := by simpa [goes] using hg
  obtain ⟨⟨hlen, hv1⟩, hv2⟩ := hg'
  obtain ⟨hs16, hb1⟩ := vec_small hv1
  obtain ⟨_, hb2⟩ := vec_small hv2
  have hle := asks_le hs ks most (by omega)
  refine VLoop.mk' tab_ok (X := Nat × Value) (fun p => [(0, .slice A n c), (1, .slice B m d), (2, .int .i64 most), (10, p.2), (11, .int .i64 p.1)])
    (fun p W => Ext w W ∧ p.1 ≤ n ∧ W.ownsRow w.heap.size 33 2 p.2 (asksTo hs ks most p.1).length (pcells (asksTo hs ks most p.1))) (fun p _ => n - p.1) (0, .slice none 0 0) ⟨rfl, rfl, rfl, rfl, rfl, trivial⟩ ⟨he0, by omega, own_nil_ _ _ _ _⟩ ?_
  rintro ⟨k, v⟩ j W ⟨he, hk, hown⟩
  dsimp only at hk hown
  conv => whnf
  intro t ht
  cases t <;> simp only [VB] at ht <;> (conv => whnf)
  · obtain rfl : k = n := by omega
    rw [yes]
    refine ⟨he, v, rfl, ?_⟩
    rw [hl]
    exact hown
  have hkn : k < n := by omega
  obtain ⟨a, rfl, hck⟩ := (h.ext he).at_ (k := k) hkn
  obtain ⟨b, hB, hck'⟩ := (h'.ext he).at_ (k := k) (by omega)
  refine ⟨by omega, ht, a, rfl, ?_⟩
  conv => whnf
  refine ⟨.int .i64 (hs.getD k 0), by simpa using hck, ?_⟩
  conv => whnf
  have q1 := hb1 k
  have q2 := hb2 k
  have q3 := hle k
  intro r1 hr1
  rw [wrap_id (by omega) (by omega)] at hr1
  subst hr1
  conv => whnf
  have hle2 := hle (k + 1)
  simp only [asksTo, List.length_append, askRow_len] at hle2
  have hto : asksTo hs ks most (k + 1) = asksTo hs ks most k ++ askRow hs k (askN hs ks most k (asksTo hs ks most k).length) := rfl
  have hN : (askN hs ks most k (asksTo hs ks most k).length : Int) = min (max (ks.getD k 0 - hs.getD k 0) 0) (most - (asksTo hs ks most k).length) := by simp only [askN]; omega
  generalize hNN : askN hs ks most k (asksTo hs ks most k).length = N at hle2 hto hN
  generalize hL : asksTo hs ks most k = L at *
  refine VLoop.mk' tab_ok (X := Nat × Value) (fun p => [(0, .slice (some a) n c), (1, .slice B m d), (2, .int .i64 most), (10, p.2), (11, .int .i64 k), (12, .int .i64 (hs.getD k 0 + 1 + p.1))])
    (fun p W => Ext w W ∧ p.1 ≤ N ∧ W.ownsRow w.heap.size 33 2 p.2 (L ++ askRow hs k p.1).length (pcells (L ++ askRow hs k p.1))) (fun p _ => N - p.1) (0, v) ⟨rfl, rfl, rfl, rfl, rfl, by simp [den], trivial⟩ ⟨he, by omega, by simpa [askRow] using hown⟩ ?_
  clear hown he hck hck'
  rintro ⟨s, v⟩ j W ⟨he, hs1, hown⟩
  dsimp only at hs1 hown
  obtain ⟨b', hB', hck'⟩ := (h'.ext he).at_ (k := k) (by omega)
  rw [hB] at hB'
  cases hB'
  subst hB
  have hlen2 : (L ++ askRow hs k s).length = L.length + s := by simp [askRow_len]
  obtain ⟨A1, c1, rfl⟩ := own_form hown
  conv => whnf
  refine ⟨by omega, by omega, b, rfl, ?_⟩
  conv => whnf
  refine ⟨.int .i64 (ks.getD k 0), by simpa using hck', ?_⟩
  conv => whnf
  have stop : s = N → Ext w W ∧ ∀ (r : Int), r = IntKind.wrap .i64 ((k : Int) + 1) → r = ((k + 1 : Nat) : Int) := fun _ => ⟨he, fun r hr => by rw [hr]; exact wrap_nat hkn h.small⟩
  intro t ht
  cases t <;> simp only [VB] at ht <;> (conv => whnf)
  · obtain rfl : s = N := by omega
    intro r hr
    have hr3 := (stop rfl).2 r hr
    subst hr3
    conv => whnf
    refine ⟨(k + 1, _), ⟨rfl, rfl, rfl, rfl, rfl, trivial⟩, ⟨he, by dsimp only; omega, by rw [hto]; exact hown⟩, by dsimp only; omega⟩
  intro t ht3
  cases t <;> simp only [VB] at ht3 <;> (conv => whnf)
  · obtain rfl : s = N := by omega
    intro r hr
    have hr3 := (stop rfl).2 r hr
    subst hr3
    conv => whnf
    refine ⟨(k + 1, _), ⟨rfl, rfl, rfl, rfl, rfl, trivial⟩, ⟨he, by dsimp only; omega, by rw [hto]; exact hown⟩, by dsimp only; omega⟩
  refine Run.mk' _ _ (build33 _ _ _) ?_
  conv => whnf
  refine Run.mk' _ _ (slice28_1 _ _ _) ?_
  have hnew := New.mk' W (.cells #[.int .i64 k, .int .i64 (hs.getD k 0 + 1 + s)] 33)
  generalize W.alloc (.cells #[.int .i64 k, .int .i64 (hs.getD k 0 + 1 + s)] 33) = W2 at hnew ⊢
  have hown2 := own_ext hown hnew.e
  conv => whnf
  refine run_append inf33 Try.underlying28 rfl (by decide) hown2 (rd_pair hnew.at_) (one_pair _ _) (by simp only [maxLen]; omega) (by omega) (he.tr hnew.e).le ?_
  intro v' W3 hown3 hg3 hat
  conv => whnf
  intro r3 hr3
  rw [wrap_id (by omega) (by omega)] at hr3
  have hr4 : r3 = hs.getD k 0 + 1 + ((s + 1 : Nat) : Int) := by omega
  subst hr4
  conv => whnf
  refine ⟨(s + 1, v'), ⟨rfl, rfl, rfl, rfl, rfl, rfl, trivial⟩, ⟨ext_row (he.tr hnew.e) hg3 hown2 (Nat.le_refl _), by dsimp only; omega, ?_⟩, by dsimp only; omega⟩
  dsimp only
  rw [askRow_succ, ← List.append_assoc, pcells_app, List.length_append]
  exact hown3

theorem neq33 (a b c d : Int) (xo yo : Operand) (w : World) : (do eqGuard .neq 33 xo yo (.agg #[.int .i64 a, .int .i64 b]) (.agg #[.int .i64 c, .int .i64 d]); Go.binOp .neq 33 (.agg #[.int .i64 a, .int .i64 b]) (.agg #[.int .i64 c, .int .i64 d]) : Sem Value).run Try.prog w = .ok (.bool (!decide (a = c ∧ b = d))) w :=
  neq_agg Try.eqGuardType33 (fun w => eqIn_two (n := 9998) Try.underlying33 Try.stoodInHeld33 Try.underlying3 Try.underlying3 rfl rfl rfl rfl a b c d w) xo yo w

/-- Same, of two lists that are one. -/
theorem fn13 (w : World) (A B : Option Addr) (n c d : Nat) (l : List (Int × Int)) (h : Pairs w A n l) (h' : Pairs w B n l) :
    Ret Try.prog 13 #[.slice A n c, .slice B n d] w fun v W => Ext w W ∧ v = .bool true := by
  have hl := h.len
  have hm := h.small
  refine Ret.of_vc tab_ok Try.func13 rfl Try.ntmps13 rfl (Nat.le_of_ble_eq_true rfl) Try.call13 ?_
  conv => whnf
  intro t ht
  obtain rfl : t = false := ht.no (by simp)
  conv => whnf
  refine VLoop.mk' tab_ok (X := Nat) (fun k => [(0, .slice A n c), (1, .slice B n d), (5, .int .i64 k)])
    (fun k W => Ext w W ∧ k ≤ n) (fun k _ => n - k) 0 ⟨rfl, rfl, rfl, trivial⟩ ⟨Ext.refl _, by omega⟩ ?_
  rintro k j W ⟨he, h1⟩
  conv => whnf
  intro t ht
  cases t <;> simp only [VB] at ht <;> (conv => whnf)
  · exact ⟨he, rfl⟩
  have hk : k < l.length := by omega
  obtain ⟨a, rfl, hsp, hck⟩ := (h.ext he).get k _ (List.getElem?_eq_getElem hk)
  obtain ⟨b, rfl, hsp', hck'⟩ := (h'.ext he).get k _ (List.getElem?_eq_getElem hk)
  generalize l[k] = p at hck hck'
  refine VDraw.mk' tab_ok (Ext W) [] (.take 0 <| .take 1 <| .take 2 <| .take 3 <| .take 4 <| .take 5 <| .take 6 <| .take 7 <| .take 8 <| .done) mixed (by kernel_rfl) (by kernel_rfl) (Ext.drew _) ?_
  conv => whnf
  refine ⟨by omega, ht, a, rfl, ?_⟩
  conv => whnf
  refine ⟨[.int .i64 p.1, .int .i64 p.2], rfl, fun w' hs i hi => hs.cell (by simpa using hck i hi), ?_⟩
  conv => whnf
  refine ⟨by omega, ht, b, rfl, ?_⟩
  conv => whnf
  refine ⟨[.int .i64 p.1, .int .i64 p.2], rfl, fun w' hs i hi => hs.cell (by simpa using hck' i hi), ?_⟩
  conv => whnf
  refine ⟨_, fun xo yo w => neq33 _ _ _ _ xo yo w, ?_⟩
  intro t ht2
  obtain rfl : t = false := by rw [ht2]; simp
  conv => whnf
  intro r hr
  have hr3 : r = ((k + 1 : Nat) : Int) := by rw [hr]; exact wrap_nat (n := n) (by omega) hm
  subst hr3
  conv => whnf
  exact ⟨k + 1, ⟨rfl, rfl, rfl, trivial⟩, ⟨he.then_drew, by omega⟩, by omega⟩
end Go.Proofs.Ytgcelfplgfloaaa
