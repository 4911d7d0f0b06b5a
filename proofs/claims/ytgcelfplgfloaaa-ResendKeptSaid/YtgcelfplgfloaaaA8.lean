/- What is to be asked for: by the program, by the document. -/
import Derived.Test.YtgcelfplgfloaaaA4
namespace Go.Proofs.Ytgcelfplgfloaaa
open Go Go.VC Go.RowKit
set_option linter.unusedVariables false
set_option linter.unusedSimpArgs false
set_option maxRecDepth 100000

/-! ### Slices of pairs -/
def pcells (l : List (Int × Int)) : List Value := l.flatMap fun p => [.int .i64 p.1, .int .i64 p.2]
theorem pcells_len (l : List (Int × Int)) : (pcells l).length = l.length * 2 := by
  induction l with
  | nil => rfl
  | cons p l ih => simp only [pcells, List.flatMap_cons, List.length_append, List.length_cons, List.length_nil] at ih ⊢; omega
theorem pcells_app (l m : List (Int × Int)) : pcells (l ++ m) = pcells l ++ pcells m := by simp [pcells]
theorem pcells_get (l : List (Int × Int)) : ∀ (i : Nat) (p : Int × Int), l[i]? = some p → (pcells l)[i * 2]? = some (.int .i64 p.1) ∧ (pcells l)[i * 2 + 1]? = some (.int .i64 p.2) := by
  induction l with
  | nil => intro i p h; simp at h
  | cons q l ih =>
    intro i p h
    cases i with
    | zero => simp at h; subst h; exact ⟨rfl, rfl⟩
    | succ i =>
      have := ih i p (by simpa using h)
      have e1 : (i + 1) * 2 = (i * 2) + 2 := by omega
      have e2 : (i + 1) * 2 + 1 = (i * 2 + 1) + 2 := by omega
      rw [e1, show (i * 2) + 2 + 1 = (i * 2 + 1) + 2 by omega]
      simpa [pcells, List.flatMap_cons] using this
structure Pairs (w : World) (A : Option Addr) (n : Nat) (l : List (Int × Int)) : Prop where
  len : l.length = n
  small : n ≤ 9223372036854775807
  get : ∀ i p, l[i]? = some p → ∃ a, A = some a ∧ a.spot = none ∧ Cells w (a.add (i * 2)) [.int .i64 p.1, .int .i64 p.2]
theorem Pairs.ext {w w' : World} {A : Option Addr} {n : Nat} {l : List (Int × Int)} (h : Pairs w A n l) (he : Ext w w') : Pairs w' A n l :=
  ⟨h.len, h.small, fun i p hp => by obtain ⟨a, e, hs, hc⟩ := h.get i p hp; exact ⟨a, e, hs, fun j hj => he.cell (hc j hj)⟩⟩
theorem own_pairs {w : World} {base e n c : Nat} {A : Option Addr} {l : List (Int × Int)} (h : w.ownsRow base e 2 (.slice A n c) n (pcells l)) : Pairs w A n l := by
  have hl : l.length = n := by have := h.1; rw [pcells_len] at this; omega
  have hs : n ≤ 9223372036854775807 := by
    rcases h.2 with ⟨_, rfl⟩ | ⟨_, _, _, _, _, _, h4, h5, _⟩
    · omega
    · simp only [maxLen] at h5; omega
  refine ⟨hl, hs, fun i p hp => ?_⟩
  obtain ⟨h1, h2⟩ := pcells_get l i p hp
  have hr := own_rd h
  have hi : i < l.length := (List.getElem?_eq_some_iff.1 hp).1
  have hn : 0 < n := by omega
  obtain ⟨g, hA⟩ : ∃ g, A = some ⟨g, 0, none⟩ := by
    rcases h.2 with ⟨_, rfl⟩ | ⟨g, _, _, hA, _⟩
    · omega
    · injection hA with hA; exact ⟨g, hA⟩
  subst hA
  obtain ⟨a, e1, c1⟩ := hr.2 _ _ h1
  obtain ⟨a', e2, c2⟩ := hr.2 _ _ h2
  cases e1; cases e2
  refine ⟨_, rfl, rfl, fun j hj => ?_⟩
  rw [add_plain_] at c1 c2 ⊢
  rw [add_plain_]
  match j, hj with
  | 0, _ => simpa using c1
  | 1, _ => simpa [Nat.add_assoc] using c2
theorem own_pairs_ge {w : World} {base e n c : Nat} {A : Option Addr} {l : List (Int × Int)} (h : w.ownsRow base e 2 (.slice A n c) n (pcells l)) : ∀ a, A = some a → base ≤ a.block := own_ge h

theorem two_cells {w : World} {a : Addr} {x y : Value} (h : Cells w a [x, y]) : w.cell? a = some x ∧ w.cell? (a.add 1) = some y := by
  have h0 := h 0 (by simp)
  have h1 := h 1 (by simp)
  exact ⟨by simpa [add_zero_] using h0, by simpa using h1⟩

/-! ### The list -/
def askN (hs ks : List Int) (most : Int) (k len : Nat) : Nat := (min (max (ks.getD k 0 - hs.getD k 0) 0) (most - len)).toNat
def askRow (hs : List Int) (k s : Nat) : List (Int × Int) := (List.range s).map fun (i : Nat) => ((k : Int), hs.getD k 0 + 1 + (i : Int))
def asksTo (hs ks : List Int) (most : Int) : Nat → List (Int × Int)
  | 0 => []
  | k + 1 => asksTo hs ks most k ++ askRow hs k (askN hs ks most k (asksTo hs ks most k).length)
theorem askRow_succ (hs : List Int) (k s : Nat) : askRow hs k (s + 1) = askRow hs k s ++ [((k : Int), hs.getD k 0 + 1 + s)] := by simp [askRow, List.range_succ]
theorem askRow_len (hs : List Int) (k s : Nat) : (askRow hs k s).length = s := by simp [askRow]
theorem asks_le (hs ks : List Int) (most : Int) (h0 : 0 ≤ most) : ∀ k, ((asksTo hs ks most k).length : Int) ≤ most
  | 0 => by simpa [asksTo] using h0
  | k + 1 => by
    have ih := asks_le hs ks most h0 k
    simp only [asksTo, List.length_append, askRow_len, askN]
    omega

theorem one_pair (a b : Int) : ∀ u ∈ [Value.int .i64 a, Value.int .i64 b], u.oneCell' = true := by
  intro u hu
  rcases List.mem_cons.1 hu with rfl | hu
  · rfl
  · rcases List.mem_cons.1 hu with rfl | hu
    · rfl
    · cases hu

theorem slice24_1 (a b : Int) (w : World) : (Instr.buildSlice 24 1 #[(0, .agg #[.int .i64 a, .int .i64 b])]).run Try.prog w = .ok (.slice (some ⟨w.heap.size, 0, none⟩) 1 1) (w.alloc (.cells #[.int .i64 a, .int .i64 b] 32)) := by kernel_rfl
theorem slice28_1 (a b : Int) (w : World) : (Instr.buildSlice 28 1 #[(0, .agg #[.int .i64 a, .int .i64 b])]).run Try.prog w = .ok (.slice (some ⟨w.heap.size, 0, none⟩) 1 1) (w.alloc (.cells #[.int .i64 a, .int .i64 b] 33)) := by kernel_rfl
theorem inf33 : (Try.prog.info? 33).map (fun i => (i.zero, i.size, i.bytes)) = some (some (.agg #[.int .i64 0, .int .i64 0]), 2, 16) := by kernel_rfl
theorem build32' (a b : Int) (w : World) : (Instr.build 32 #[(0, .int .i64 a), (1, .int .i64 b)]).run Try.prog w = .ok (.agg #[.int .i64 a, .int .i64 b]) w := by kernel_rfl
theorem build33 (a b : Int) (w : World) : (Instr.build 33 #[(0, .int .i64 a), (1, .int .i64 b)]).run Try.prog w = .ok (.agg #[.int .i64 a, .int .i64 b]) w := by kernel_rfl
theorem rd_pair {w : World} {b e : Nat} {x y : Int} (h : w.heap[b]? = some (.cells #[.int .i64 x, .int .i64 y] e (0, 0))) : Rd w 2 (some ⟨b, 0, none⟩) 1 [.int .i64 x, .int .i64 y] := by
  refine ⟨rfl, fun i u hu => ⟨_, rfl, ?_⟩⟩
  rw [add_plain_, cell_of_at h]
  match i, hu with
  | 0, hu => simpa using hu
  | 1, hu => simpa using hu
  | i + 2, hu => simp at hu

set_option maxHeartbeats 1000000
theorem vec_small {xs : List Int} (h : vecOk xs = true) : xs.length ≤ 16 ∧ ∀ k, 0 ≤ xs.getD k 0 ∧ xs.getD k 0 ≤ 4294967295 := by
  simp only [vecOk, decide_eq_true_eq] at h
  refine ⟨h.2.1, fun k => ?_⟩
  by_cases hk : k < xs.length
  · have : xs.getD k 0 = xs[k] := by simp [List.getElem?_eq_getElem hk]
    rw [this]
    exact h.2.2 _ (List.getElem_mem hk)
  · have : xs.getD k 0 = 0 := by simp [List.getElem?_eq_none (by omega : xs.length ≤ k)]
    rw [this]; omega

/-- What Asks tells. -/
def asksV (hs ks : List Int) (most : Int) : List (Int × Int) × Bool := if goes hs ks = true ∧ 0 ≤ most ∧ most ≤ 1000 then (asksTo hs ks most hs.length, true) else ([], false)

theorem fn11 (w : World) (A B : Option Addr) (n c m d : Nat) (hs ks : List Int) (most : Int) (h : Ints w A n hs) (h' : Ints w B m ks) :
    Ret Try.prog 11 #[.slice A n c, .slice B m d, .int .i64 most] w fun v W => Ext w W ∧ ∃ v', v = .tuple #[v', errN (asksV hs ks most).2] ∧
      W.ownsRow w.heap.size 32 2 v' (asksV hs ks most).1.length (pcells (asksV hs ks most).1) := by
  have hl := h.len
  have hl' := h'.len
  refine Ret.of_vc tab_ok Try.func11 rfl Try.ntmps11 rfl (Nat.le_of_ble_eq_true rfl) Try.call11 ?_
  conv => whnf
  refine (fn36 w A B n c m d hs ks h h').mono ?_
  rintro _ _ ⟨rfl, kd, rfl⟩
  have no : ¬ (goes hs ks = true ∧ 0 ≤ most ∧ most ≤ 1000) → asksV hs ks most = ([], false) := fun hh => by simp only [asksV]; rw [if_neg hh]
  cases hg : goes hs ks
  · conv => whnf
    intro t ht
    obtain rfl : t = true := ht.yes (by decide)
    conv => whnf
    rw [no (by rw [hg]; simp)]
    exact ⟨Ext.refl _, _, rfl, own_nil_ _ _ _ _⟩
  conv => whnf
  intro t ht
  obtain rfl : t = false := ht.no (by decide)
  conv => whnf
  intro t ht1
  cases t <;> simp only [VB] at ht1 <;> (conv => whnf)
  case true =>
    rw [no (by omega)]
    exact ⟨Ext.refl _, _, rfl, own_nil_ _ _ _ _⟩
  intro t ht2
  cases t <;> simp only [VB] at ht2 <;> (conv => whnf)
  case true =>
    rw [no (by omega)]
    exact ⟨Ext.refl _, _, rfl, own_nil_ _ _ _ _⟩
  have yes : asksV hs ks most = (asksTo hs ks most hs.length, true) := by simp only [asksV]; rw [if_pos ⟨hg, by omega, by omega⟩]
  have hg' : (hs.length = ks.length ∧ vecOk hs = true) ∧ vecOk ks = true := by simpa [goes] using hg
  obtain ⟨⟨hlen, hv1⟩, hv2⟩ := hg'
  obtain ⟨hs16, hb1⟩ := vec_small hv1
  obtain ⟨_, hb2⟩ := vec_small hv2
  have hle := asks_le hs ks most (by omega)
  refine VLoop.mk' tab_ok (X := Nat × Value) (fun p => [(0, .slice A n c), (1, .slice B m d), (2, .int .i64 most), (10, p.2), (30, .slice A n c), (31, .int .i64 n), (32, .int .i64 p.1)])
    (fun p W => Ext w W ∧ p.1 ≤ n ∧ W.ownsRow w.heap.size 32 2 p.2 (asksTo hs ks most p.1).length (pcells (asksTo hs ks most p.1))) (fun p _ => n - p.1) (0, .slice none 0 0) ⟨rfl, rfl, rfl, rfl, rfl, rfl, rfl, trivial⟩ ⟨Ext.refl _, by omega, own_nil_ _ _ _ _⟩ ?_
  rintro ⟨k, v⟩ j W ⟨he, hk, hown⟩
  dsimp only at hk hown
  conv => whnf
  intro t ht
  cases t <;> simp only [VB] at ht <;> (conv => whnf)
  · obtain rfl : k = n := by omega
    rw [yes]
    refine ⟨he, v, rfl, ?_⟩
    rw [hl]
    exact hown
  have hkn : k < n := by omega
  obtain ⟨a, rfl, hck⟩ := (h.ext he).at_ (k := k) hkn
  obtain ⟨b, rfl, hck'⟩ := (h'.ext he).at_ (k := k) (by omega)
  refine ⟨by omega, ht, a, rfl, ?_⟩
  conv => whnf
  refine ⟨.int .i64 (hs.getD k 0), by simpa using hck, ?_⟩
  conv => whnf
  refine ⟨by omega, by omega, b, rfl, ?_⟩
  conv => whnf
  refine ⟨.int .i64 (ks.getD k 0), by simpa using hck', ?_⟩
  conv => whnf
  have q1 := hb1 k
  have q2 := hb2 k
  have q3 := hle k
  intro r1 hr1
  rw [wrap_id (by omega) (by omega)] at hr1
  conv => whnf
  intro r2 hr2
  obtain ⟨A0, c0, rfl⟩ := own_form hown
  conv => whnf
  intro r3 hr3
  rw [wrap_id (by omega) (by omega)] at hr3
  conv => whnf
  intro r4 hr4
  have hN : r4 = ((askN hs ks most k (asksTo hs ks most k).length : Nat) : Int) := by
    rw [hr4, hr3, hr2, hr1]
    simp only [askN]
    omega
  subst hN
  conv => whnf
  have hle2 := hle (k + 1)
  simp only [asksTo, List.length_append, askRow_len] at hle2
  have hto : asksTo hs ks most (k + 1) = asksTo hs ks most k ++ askRow hs k (askN hs ks most k (asksTo hs ks most k).length) := rfl
  generalize hNN : askN hs ks most k (asksTo hs ks most k).length = N at hle2 hto
  generalize hL : asksTo hs ks most k = L at *
  refine VLoop.mk' tab_ok (X := Nat × Value) (fun p => [(0, .slice (some a) n c), (1, .slice (some b) m d), (2, .int .i64 most), (10, p.2), (11, .int .i64 k), (12, .int .i64 (hs.getD k 0)), (30, .slice (some a) n c), (31, .int .i64 n), (32, .int .i64 k), (48, .int .i64 N), (49, .int .i64 p.1)])
    (fun p W => Ext w W ∧ p.1 ≤ N ∧ W.ownsRow w.heap.size 32 2 p.2 (L ++ askRow hs k p.1).length (pcells (L ++ askRow hs k p.1))) (fun p _ => N - p.1) (0, .slice A0 L.length c0) ⟨rfl, rfl, rfl, rfl, rfl, rfl, rfl, rfl, rfl, rfl, rfl, trivial⟩ ⟨he, by omega, by simpa [askRow] using hown⟩ ?_
  clear hown he
  rintro ⟨s, v⟩ j W ⟨he, hs1, hown⟩
  dsimp only at hs1 hown
  conv => whnf
  intro t ht
  cases t <;> simp only [VB] at ht <;> (conv => whnf)
  · obtain rfl : s = N := by omega
    intro r hr
    have hr3 : r = ((k + 1 : Nat) : Int) := by rw [hr]; exact wrap_nat hkn h.small
    subst hr3
    conv => whnf
    refine ⟨(k + 1, v), ⟨rfl, rfl, rfl, rfl, rfl, rfl, rfl, trivial⟩, ⟨he, by dsimp only; omega, by rw [hto]; exact hown⟩, by dsimp only; omega⟩
  intro r1 hr1
  rw [wrap_id (by omega) (by omega)] at hr1
  conv => whnf
  intro r2 hr2
  rw [wrap_id (by omega) (by omega)] at hr2
  conv => whnf
  refine Run.mk' _ _ (build32' _ _ _) ?_
  conv => whnf
  refine Run.mk' _ _ (slice24_1 _ _ _) ?_
  have hnew := New.mk' W (.cells #[.int .i64 k, .int .i64 r2] 32)
  generalize W.alloc (.cells #[.int .i64 k, .int .i64 r2] 32) = W2 at hnew ⊢
  have hown2 := own_ext hown hnew.e
  have hlen2 : (L ++ askRow hs k s).length = L.length + s := by simp [askRow_len]
  conv => whnf
  obtain ⟨A1, c1, rfl⟩ := own_form hown
  refine run_append inf32 Try.underlying24 rfl (by decide) hown2 (rd_pair hnew.at_) (one_pair _ _) (by simp only [maxLen]; omega) (by omega) (he.tr hnew.e).le ?_
  intro v' W3 hown3 hg3 hat
  conv => whnf
  intro r3 hr3
  have hr4 : r3 = ((s + 1 : Nat) : Int) := by rw [hr3]; exact wrap_nat (n := N) (by omega) (by omega)
  subst hr4
  conv => whnf
  refine ⟨(s + 1, v'), ⟨rfl, rfl, rfl, rfl, rfl, rfl, rfl, rfl, rfl, rfl, rfl, trivial⟩, ⟨ext_row (he.tr hnew.e) hg3 hown2 (Nat.le_refl _), by dsimp only; omega, ?_⟩, by dsimp only; omega⟩
  dsimp only
  rw [askRow_succ, ← List.append_assoc, pcells_app, List.length_append]
  have e1 : pcells [((k : Int), hs.getD k 0 + 1 + s)] = [.int .i64 k, .int .i64 r2] := by rw [hr2, hr1]; rfl
  rw [e1]
  exact hown3
end Go.Proofs.Ytgcelfplgfloaaa
