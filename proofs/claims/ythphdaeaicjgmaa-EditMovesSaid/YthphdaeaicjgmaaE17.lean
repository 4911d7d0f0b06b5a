/- The document's Apply. -/
import Derived.Test.YthphdaeaicjgmaaE16
namespace Go.Proofs.Ythphdaeaicjgmaa
open Go Go.VC Go.RowKit
set_option linter.unusedVariables false
set_option linter.unusedSimpArgs false
set_option maxRecDepth 100000

def Apart (r v : Value) : Prop := r.ownBlock = none ∨ r.ownBlock ≠ v.ownBlock
theorem other_row {w w' : World} {b2 e2 s2 n2 : Nat} {r v v' : Value} {xs2 : List Value} (hr : w.ownsRow b2 e2 s2 r n2 xs2) (hg : w.grownBy w' v.ownBlock) (hat : v'.ownBlock = v.ownBlock ∨ v'.ownBlock = some w.heap.size) (hap : Apart r v) :
    w'.ownsRow b2 e2 s2 r n2 xs2 ∧ Apart r v' := by
  refine ⟨hr.kept hg hap, ?_⟩
  unfold Apart
  cases hk : r.ownBlock with
  | none => exact .inl rfl
  | some k =>
    refine .inr fun e => ?_
    rcases hat with hat | hat
    · rcases hap with h | h
      · rw [hk] at h; cases h
      · exact h (by rw [hk, e, hat])
    · rw [hat] at e
      injection e with e
      have := (hr.lt _ hk).2
      omega
theorem apart_nil (r : Value) : Apart r (.slice none 0 0) := by
  unfold Apart
  cases h : r.ownBlock with
  | none => exact .inl rfl
  | some k => exact .inr (by simp [Value.ownBlock])
theorem grown_at {w w' : World} {base e e' size n b : Nat} {v : Value} {xs : List Value} {cs : Array Value} {f : Nat × Nat} (hg : w.grownBy w' v.ownBlock) (hv : w.ownsRow base e size v n xs) (hb : w.heap[b]? = some (.cells cs e' f)) (hne : e ≠ e') : w'.heap[b]? = some (.cells cs e' f) :=
  (hg.block b (at_lt hb) (not_row hv hb hne)).trans hb
theorem apply1_none {l : List Int} {kind at_ rune : Int} (h : (kind ≠ 1 ∧ kind ≠ 2) ∨ at_ < 0 ∨ (l.length : Int) < at_ ∨ (kind = 2 ∧ at_ = l.length)) : apply1 l (kind, at_, rune) = none := by
  unfold apply1
  dsimp only
  split
  · rfl
  · rw [if_neg (by omega), if_neg (by omega)]
theorem apply1_ins {l : List Int} {rune : Int} {i : Nat} (h : i ≤ l.length) : apply1 l (1, (i : Int), rune) = some (l.take i ++ rune :: l.drop i) := by
  unfold apply1
  dsimp only
  rw [if_neg (by omega), if_pos rfl, Int.toNat_natCast]
theorem apply1_del {l : List Int} {rune : Int} {i : Nat} (h : i < l.length) : apply1 l (2, (i : Int), rune) = some (l.take i ++ l.drop (i + 1)) := by
  unfold apply1
  dsimp only
  rw [if_neg (by omega), if_neg (by omega), if_pos (by omega), Int.toNat_natCast]

set_option maxHeartbeats 8000000
theorem fn20 (w : World) (A TA : Option Addr) (n c m tc : Nat) (xs : List Int) (zs : List Act3) (h : Ints w A n xs) (ha : Rd w 3 TA m (acells zs)) (hn : n ≤ 10000) (hm : m ≤ 100000) :
    Ret Try.prog 20 #[.slice A n c, .slice TA m tc] w fun v W => Ext w W ∧ Applied W w.heap.size (applyAll xs zs) v := by
  have hl := h.len
  have hal := rd_len3 ha
  refine Ret.of_vc tab_ok Try.func20 rfl Try.ntmps20 rfl (Nat.le_of_ble_eq_true rfl) Try.call20 ?_
  conv => whnf
  refine run_append inf3 Try.underlying22 rfl (by decide) (own_nil_ w w.heap.size 3 1) h.rd (one_ints xs) (by simp only [maxLen]; omega) (by omega) (Nat.le_refl _) ?_
  intro v1 W1 hown1 hg1 _
  have he1 := ext_row (Ext.refl w) hg1 (own_nil_ w w.heap.size 3 1) (Nat.le_refl _)
  simp only [Nat.zero_add, List.nil_append] at hown1
  conv => whnf
  refine VLoop.mk' tab_ok (X := Nat × Value × List Int) (fun x => [(1, .slice TA m tc), (6, x.2.1), (7, .int .i64 x.1)])
    (fun x W => Ext w W ∧ x.1 ≤ m ∧ x.2.2.length ≤ n + x.1 ∧ W.ownsRow w.heap.size 3 1 x.2.1 x.2.2.length (ints x.2.2) ∧ applyAll xs zs = applyAll x.2.2 (zs.drop x.1)) (fun x _ => m - x.1) (0, v1, xs)
    ⟨rfl, rfl, rfl, trivial⟩ ⟨he1, Nat.zero_le _, by dsimp only; omega, by dsimp only; rw [hl]; exact hown1, rfl⟩ ?_
  clear hown1 he1 hg1
  rintro ⟨k, L, l⟩ j W ⟨hE, hk, hll, hown, hap⟩
  dsimp only at hk hll hown hap
  obtain ⟨LA, lc, rfl⟩ := own_form hown
  conv => whnf
  intro t ht
  cases t <;> simp only [VB] at ht <;> (conv => whnf)
  case false =>
    rw [List.drop_of_length_le (by omega)] at hap
    rw [hap]
    exact ⟨hE, _, rfl, hown⟩
  rw [drop_getD (by omega)] at hap
  obtain ⟨a, rfl, hc⟩ := act_at (ha.ext hE) (k := k) (by omega)
  generalize zs.getD k (0, 0, 0) = p at hap hc
  obtain ⟨kind, at_, rune⟩ := p
  dsimp only at hc
  simp only [applyAll] at hap
  refine ⟨by omega, ht, a, rfl, ?_⟩
  conv => whnf
  refine ⟨[.int .i64 kind, .int .i64 at_, .int .i64 rune], rfl, hc, ?_⟩
  conv => whnf
  intro W2 hW2
  conv => whnf
  refine ⟨W.heap.size, 0, _, _, rfl, hW2.at_, Nat.le_of_ble_eq_true rfl, rfl, rfl, fun W3 hW3 => ?_⟩
  have hE3 := hW3.e (hE.tr hW2.e) hE.le
  have h8 := hW3.at_
  have hown3 : W3.ownsRow w.heap.size 3 1 _ l.length (ints l) := own_ext hown (hW3.e hW2.e (Nat.le_refl _))
  have hlt := hE.le
  generalize hb8 : W.heap.size = b8 at h8 hlt ⊢
  clear hW2 hW3 hc hown hE
  have hli := own_ints hown3
  have hcap := row_cap hown3
  conv => whnf
  refine ⟨_, ld h8 rfl rfl, ?_⟩
  conv => whnf
  intro t ht1
  cases t <;> simp only [VB] at ht1 <;> (conv => whnf)
  -- kind = 1
  case false =>
    obtain rfl : kind = 1 := by omega
    refine ⟨_, ld h8 rfl rfl, ?_⟩
    conv => whnf
    intro t ht2
    cases t <;> simp only [VB] at ht2 <;> (conv => whnf)
    case true =>
      rw [apply1_none (by omega)] at hap
      rw [hap]
      exact ⟨hE3, rfl⟩
    refine ⟨_, ld h8 rfl rfl, ?_⟩
    conv => whnf
    intro t ht3
    cases t <;> simp only [VB] at ht3 <;> (conv => whnf)
    case true =>
      rw [apply1_none (by omega)] at hap
      rw [hap]
      exact ⟨hE3, rfl⟩
    obtain ⟨i, rfl⟩ : ∃ i : Nat, at_ = i := ⟨at_.toNat, by omega⟩
    rw [apply1_ins (by omega)] at hap
    refine ⟨_, ld h8 rfl rfl, ?_⟩
    conv => whnf
    intro t ht4
    obtain rfl : t = false := ht4.no (by decide)
    conv => whnf
    refine ⟨_, ld h8 rfl rfl, ?_⟩
    conv => whnf
    refine ⟨by omega, by omega, fun i' hi' => ?_⟩
    obtain rfl : i' = i := by omega
    conv => whnf
    refine run_append inf3 Try.underlying22 rfl (by decide) (own_nil_ W3 w.heap.size 3 1) (ints_take hli i' (by omega)).rd (one_ints _) (by simp only [maxLen]; omega) (by omega) hE3.le ?_
    intro v4 W4 hown4 hg4 hat4
    have h84 := grown_at hg4 (own_nil_ W3 w.heap.size 3 1) h8 (by decide)
    have hE4 := ext_row hE3 hg4 (own_nil_ W3 w.heap.size 3 1) (Nat.le_refl _)
    obtain ⟨ho4, hp4⟩ := other_row hown3 hg4 hat4 (apart_nil _)
    simp only [Nat.zero_add, List.nil_append] at hown4
    clear hg4 hat4 hli hown3 h8 hE3
    conv => whnf
    refine ⟨_, ld h84 rfl rfl, ?_⟩
    conv => whnf
    intro t ht4
    obtain rfl : t = true := ht4.yes rfl
    conv => whnf
    refine ⟨_, ld h84 rfl rfl, ?_⟩
    conv => whnf
    refine Run.mk' _ _ (slice22_1 _ _) ?_
    have hN := New.mk' W4 (.cells #[.int .i64 rune] 3)
    generalize W4.alloc (.cells #[.int .i64 rune] 3) = W5 at hN ⊢
    have hat := hN.at_
    have hE5 := hE4.tr hN.e
    have hown5 := own_ext hown4 hN.e
    have ho5 := own_ext ho4 hN.e
    have h85 := hN.e.at_ h84
    generalize W4.heap.size = g1 at hat ⊢
    clear hN hown4 ho4 h84 hE4
    conv => whnf
    have hri : Ints W5 (some ⟨g1, 0, none⟩) 1 [rune] := ints_of_at hat (by simp [ints]) rfl (by decide)
    refine run_append inf3 Try.underlying22 rfl (by decide) hown5 hri.rd (one_ints _) (by simp only [maxLen]; omega) (by omega) hE5.le ?_
    intro v6 W6 hown6 hg6 hat6
    have h86 := grown_at hg6 hown5 h85 (by decide)
    have hE6 := ext_row hE5 hg6 hown5 (Nat.le_refl _)
    obtain ⟨ho6, hp6⟩ := other_row ho5 hg6 hat6 hp4
    clear hg6 hat6 ho5 hown5 h85 hE5 hat
    conv => whnf
    refine ⟨_, ld h86 rfl rfl, ?_⟩
    conv => whnf
    refine ⟨by omega, by omega, fun i2 hi2 => ?_⟩
    obtain rfl : i2 = i' := by omega
    conv => whnf
    have hdr : Ints W6 _ (l.length - i2) (l.drop i2) := ints_drop (own_ints ho6) hcap.1 i2 (by omega)
    refine run_append inf3 Try.underlying22 rfl (by decide) hown6 hdr.rd (one_ints _) (by simp only [maxLen]; omega) (by omega) hE6.le ?_
    intro v7 W7 hown7 hg7 hat7
    have hE7 := ext_row hE6 hg7 hown6 (Nat.le_refl _)
    conv => whnf
    intro r hr
    obtain rfl : r = ((k + 1 : Nat) : Int) := by rw [hr]; exact wrap_nat (n := m) (by omega) (by omega)
    conv => whnf
    have el : (l.take i2 ++ rune :: l.drop i2).length = i2 + 1 + (l.length - i2) := by simp; omega
    refine ⟨(k + 1, v7, l.take i2 ++ rune :: l.drop i2), ⟨rfl, rfl, rfl, trivial⟩, ⟨hE7, by dsimp only; omega, by dsimp only; omega, ?_, hap⟩, by dsimp only; omega⟩
    dsimp only
    rw [el, show l.take i2 ++ rune :: l.drop i2 = (l.take i2 ++ [rune]) ++ l.drop i2 by simp, ints_app, ints_app]
    exact hown7
  refine ⟨_, ld h8 rfl rfl, ?_⟩
  conv => whnf
  intro t ht2
  cases t <;> simp only [VB] at ht2 <;> (conv => whnf)
  case true =>
    rw [apply1_none (by omega)] at hap
    rw [hap]
    exact ⟨hE3, rfl⟩
  obtain rfl : kind = 2 := by omega
  refine ⟨_, ld h8 rfl rfl, ?_⟩
  conv => whnf
  intro t ht3
  cases t <;> simp only [VB] at ht3 <;> (conv => whnf)
  case true =>
    rw [apply1_none (by omega)] at hap
    rw [hap]
    exact ⟨hE3, rfl⟩
  refine ⟨_, ld h8 rfl rfl, ?_⟩
  conv => whnf
  intro t ht4
  cases t <;> simp only [VB] at ht4 <;> (conv => whnf)
  case true =>
    rw [apply1_none (by omega)] at hap
    rw [hap]
    exact ⟨hE3, rfl⟩
  refine ⟨_, ld h8 rfl rfl, ?_⟩
  conv => whnf
  intro t ht5
  obtain rfl : t = true := ht5.yes rfl
  conv => whnf
  refine ⟨_, ld h8 rfl rfl, ?_⟩
  conv => whnf
  intro t ht6
  cases t <;> simp only [VB] at ht6 <;> (conv => whnf)
  case true =>
    rw [apply1_none (by omega)] at hap
    rw [hap]
    exact ⟨hE3, rfl⟩
  obtain ⟨i, rfl⟩ : ∃ i : Nat, at_ = i := ⟨at_.toNat, by omega⟩
  rw [apply1_del (by omega)] at hap
  refine ⟨_, ld h8 rfl rfl, ?_⟩
  conv => whnf
  refine ⟨by omega, by omega, fun i' hi' => ?_⟩
  obtain rfl : i' = i := by omega
  conv => whnf
  refine run_append inf3 Try.underlying22 rfl (by decide) (own_nil_ W3 w.heap.size 3 1) (ints_take hli i' (by omega)).rd (one_ints _) (by simp only [maxLen]; omega) (by omega) hE3.le ?_
  intro v4 W4 hown4 hg4 hat4
  have h84 := grown_at hg4 (own_nil_ W3 w.heap.size 3 1) h8 (by decide)
  have hE4 := ext_row hE3 hg4 (own_nil_ W3 w.heap.size 3 1) (Nat.le_refl _)
  obtain ⟨ho4, hp4⟩ := other_row hown3 hg4 hat4 (apart_nil _)
  simp only [Nat.zero_add, List.nil_append] at hown4
  clear hg4 hat4 hli hown3 h8 hE3
  conv => whnf
  refine ⟨_, ld h84 rfl rfl, ?_⟩
  conv => whnf
  intro t ht7
  obtain rfl : t = false := ht7.no (by decide)
  conv => whnf
  refine ⟨_, ld h84 rfl rfl, ?_⟩
  conv => whnf
  intro r hr
  obtain rfl : r = ((i' + 1 : Nat) : Int) := by rw [hr, wrap_id (by omega) (by omega)]; rfl
  conv => whnf
  refine ⟨by omega, by omega, fun i2 hi2 => ?_⟩
  obtain rfl : i2 = i' + 1 := by omega
  conv => whnf
  have hdr : Ints W4 _ (l.length - (i' + 1)) (l.drop (i' + 1)) := ints_drop (own_ints ho4) hcap.1 (i' + 1) (by omega)
  refine run_append inf3 Try.underlying22 rfl (by decide) hown4 hdr.rd (one_ints _) (by simp only [maxLen]; omega) (by omega) hE4.le ?_
  intro v7 W7 hown7 hg7 hat7
  have hE7 := ext_row hE4 hg7 hown4 (Nat.le_refl _)
  conv => whnf
  intro r hr
  obtain rfl : r = ((k + 1 : Nat) : Int) := by rw [hr]; exact wrap_nat (n := m) (by omega) (by omega)
  conv => whnf
  have el : (l.take i' ++ l.drop (i' + 1)).length = i' + (l.length - (i' + 1)) := by simp; omega
  refine ⟨(k + 1, v7, l.take i' ++ l.drop (i' + 1)), ⟨rfl, rfl, rfl, trivial⟩, ⟨hE7, by dsimp only; omega, by dsimp only; omega, ?_, hap⟩, by dsimp only; omega⟩
  dsimp only
  rw [el, ints_app]
  exact hown7
end Go.Proofs.Ythphdaeaicjgmaa
