/- The reference's line: find; Order. -/
import Derived.Test.YtbkmbignincilaaW24
namespace Go.Proofs.Ytbkmbignincilaa
open Go Go.VC Go.RowKit
set_option linter.unusedVariables false
set_option linter.unusedSimpArgs false
set_option maxRecDepth 100000

/-- The reference's line at rb: its elements as they came; its blocks F. -/
def RF (w : World) (F : Nat → Prop) (rb : Nat) (S : List El) : Prop := ∃ v, w.heap[rb]? = some (.cells #[v] 30 (0, 0)) ∧ w.ownsRow 0 49 6 v S.length (S.flatMap cE) ∧ S.length ≤ 4096 ∧ ∀ k, F k ↔ k = rb ∨ v.ownBlock = some k
section
variable {w W : World} {F : Nat → Prop} {rb : Nat} {S : List El}
theorem RF.chg {T : Nat → Prop} (h : RF w F rb S) (hc : Chg T w W) (hn : ∀ k, T k → ¬ F k) : RF W F rb S := by
  obtain ⟨v, h1, h2, h3, h4⟩ := h
  exact ⟨v, hc.at_ h1 (fun t => hn _ t ((h4 _).2 (.inl rfl))), own_chg h2 hc (fun k hk t => hn _ t ((h4 k).2 (.inr hk))), h3, h4⟩
theorem RF.ext (h : RF w F rb S) (he : Ext w W) : RF W F rb S := h.chg (he.chg fun _ => False) (fun k t => t.elim)
theorem RF.lt (h : RF w F rb S) {k : Nat} (hk : F k) : k < w.heap.size := by
  obtain ⟨v, h1, h2, h3, h4⟩ := h
  rcases (h4 k).1 hk with rfl | h5
  · exact at_lt h1
  · obtain ⟨cs, h6⟩ := own_at h2 h5
    exact at_lt h6
theorem RF.open (h : RF w F rb S) : ∃ A c, w.heap[rb]? = some (.cells #[.slice A S.length c] 30 (0, 0)) ∧ Row49 w A S.length S ∧ w.ownsRow 0 49 6 (.slice A S.length c) S.length (S.flatMap cE) ∧ S.length ≤ 4096 ∧ S.length ≤ c ∧ ∀ k, F k ↔ k = rb ∨ (Value.slice A S.length c).ownBlock = some k := by
  obtain ⟨v, h1, h2, h3, h4⟩ := h
  obtain ⟨A, c, rfl⟩ := own_form h2
  refine ⟨A, c, h1, own_row cl49 (by decide) h2, h2, h3, ?_, h4⟩
  rcases h2.2 with ⟨h5, h6⟩ | ⟨g, cap, cur, h5, _, _, h6, _⟩
  · injection h5 with _ h7 h8; omega
  · injection h5 with _ _ h7; omega
end
def findI (S : List El) (x : Idn) : Int := match placeL S x with | some i => (i : Nat) | none => -1
theorem fn45 {w : World} {F : Nat → Prop} {rb : Nat} {S : List El} (h : RF w F rb S) (x : Idn) : Ret Try.prog 45 #[ptr rb, kI x] w fun v W => Ext w W ∧ v = .int .i64 (findI S x) := by
  obtain ⟨A, c, hb, hrow, hown, hfew, hc, hF⟩ := h.open
  refine Ret.of_vc tab_ok Try.func45 rfl Try.ntmps45 rfl (Nat.le_of_ble_eq_true rfl) Try.call45 ?_
  conv => whnf
  intro W hW
  have hb3 := hW.at_
  have hE := hW.e
  clear hW
  generalize w.heap.size = b3 at hb3 ⊢
  conv => whnf
  refine VLoop.mk' tab_ok (X := Nat) (fun i => [(0, ptr rb), (3, ptr b3), (4, .int .i64 0), (5, .int .i64 i)]) (fun i W' => Ext W W' ∧ i ≤ S.length ∧ ∀ k (hk : k < S.length), k < i → S[k].id ≠ x) (fun i _ => S.length - i) 0 ⟨rfl, rfl, rfl, rfl, trivial⟩ ⟨Ext.refl _, Nat.zero_le _, fun k _ hk => by omega⟩ ?_
  rintro i j Wi ⟨he, hi, hall⟩
  conv => whnf
  refine ⟨.slice A S.length c, ld (he.at_ (hE.at_ hb)) rfl rfl, ?_⟩
  conv => whnf
  intro t ht
  cases t <;> simp only [VB] at ht
  case false =>
    conv => whnf
    refine ⟨hE.tr he, ?_⟩
    unfold findI
    rw [placeL_none fun e hm => ?_]
    obtain ⟨k, hk⟩ := List.getElem?_of_mem hm
    have hkl := (List.getElem?_eq_some_iff.1 hk).1
    have := hall k hkl (by omega)
    rw [(List.getElem?_eq_some_iff.1 hk).2] at this
    exact this
  have hin : i < S.length := by omega
  obtain ⟨a, hk, hA, hd⟩ := hrow.at_ hin
  conv => whnf
  refine VDraw.mk' tab_ok (Ext Wi) [] (.take 0 <| .take 1 <| .take 2 <| .take 3 <| .take 4 <| .take 5 <| .take 6 <| .take 7 <| .take 8 <| .take 9 <| .done) mixed (by kernel_rfl) (by kernel_rfl) (Ext.drew _) ?_
  have hdr := Ext.drew Wi
  generalize Wi.drew = W2 at hdr
  conv => whnf
  refine ⟨.slice A S.length c, fun w' hs => hs.cell (ld (he.at_ (hE.at_ hb)) rfl rfl), ?_⟩
  conv => whnf
  refine ⟨by omega, by omega, a, hA, ?_⟩
  conv => whnf
  refine ⟨cI S[i].id, rfl, fun w' hs => (hd.ext (hE.tr (he.tr hs))).sub 0 rfl, ?_⟩
  conv => whnf
  refine ⟨cI x, rfl, fun w' hs => lds (hs.at_ (he.at_ hb3)) rfl rfl, ?_⟩
  conv => whnf
  refine ⟨_, eq24 S[i].id x, fun t ht => ?_⟩
  by_cases hx : S[i].id = x
  · rw [decide_eq_true hx] at ht
    subst ht
    conv => whnf
    refine ⟨hE.tr (he.tr hdr), ?_⟩
    unfold findI
    rw [placeL_at (p0 := S.take i) (e := S[i]) ⟨S.drop (i + 1), by simp⟩ hx fun b hb e1 => ?_]
    · rw [List.length_take, Nat.min_eq_left (by omega)]
    · obtain ⟨k, hk⟩ := List.getElem?_of_mem hb
      rw [List.getElem?_take] at hk
      split at hk
      · have hkl := (List.getElem?_eq_some_iff.1 hk).1
        have := hall k hkl (by assumption)
        rw [(List.getElem?_eq_some_iff.1 hk).2] at this
        exact this e1
      · cases hk
  · rw [decide_eq_false hx] at ht
    subst ht
    conv => whnf
    intro r hr
    obtain rfl : r = ((i + 1 : Nat) : Int) := by rw [hr, wrap_id (by omega) (by omega)]; rfl
    clear hr
    conv => whnf
    refine ⟨i + 1, ⟨rfl, rfl, rfl, rfl, trivial⟩, ⟨he.tr hdr, by omega, fun k hk hki => ?_⟩, by omega⟩
    by_cases hke : k = i
    · subst hke; exact hx
    · exact hall k hk (by omega)

/-- The least first. -/
def Asc (l : List Idn) : Prop := l.Pairwise fun a b => lessI a b = true
theorem asc_ins {l : List Idn} {x : Idn} {p : Nat} (h : Asc l) (hp : p ≤ l.length) (h1 : ∀ k (hk : k < l.length), k < p → lessI l[k] x = true) (h2 : ∀ hk : p < l.length, lessI l[p] x = false ∧ l[p] ≠ x) : Asc (l.take p ++ x :: l.drop p) := by
  have h3 : Asc (l.take p ++ l.drop p) := by rw [List.take_append_drop]; exact h
  obtain ⟨ha, hb, hc⟩ := List.pairwise_append.1 h3
  have hdr : ∀ y ∈ l.drop p, lessI x y = true := fun y hy => by
    by_cases hpl : p < l.length
    · obtain ⟨g1, g2⟩ := h2 hpl
      have hx : lessI x l[p] = true := by
        rcases lessI_tot g2 with g3 | g3
        · rw [g1] at g3; cases g3
        · exact g3
      rw [List.drop_eq_getElem_cons hpl] at hy hb
      rcases List.mem_cons.1 hy with rfl | hy
      · exact hx
      · exact lessI_tr hx ((List.pairwise_cons.1 hb).1 y hy)
    · rw [List.drop_of_length_le (by omega)] at hy; cases hy
  have htk : ∀ y ∈ l.take p, lessI y x = true := fun y hy => by
    obtain ⟨k, hk⟩ := List.getElem?_of_mem hy
    rw [List.getElem?_take] at hk
    split at hk
    · rename_i hkp
      have hkl := (List.getElem?_eq_some_iff.1 hk).1
      have := h1 k hkl hkp
      rw [(List.getElem?_eq_some_iff.1 hk).2] at this
      exact this
    · cases hk
  refine List.pairwise_append.2 ⟨ha, List.pairwise_cons.2 ⟨hdr, hb⟩, fun a ha' b hb' => ?_⟩
  rcases List.mem_cons.1 hb' with rfl | hb'
  · exact htk a ha'
  · exact hc a ha' b hb'
theorem mem_ins {l : List Idn} {x y : Idn} {p : Nat} : y ∈ l.take p ++ x :: l.drop p ↔ y = x ∨ y ∈ l := by
  have e : y ∈ l ↔ y ∈ l.take p ∨ y ∈ l.drop p := by rw [← List.mem_append, List.take_append_drop]
  simp only [List.mem_append, List.mem_cons, e]
  constructor
  · rintro (h1 | h1 | h1)
    · exact .inr (.inl h1)
    · exact .inl h1
    · exact .inr (.inr h1)
  · rintro (h1 | h1 | h1)
    · exact .inr (.inl h1)
    · exact .inl h1
    · exact .inr (.inr h1)
theorem ext_none {w W : World} (h : w.grownBy W (Value.slice none 0 0).ownBlock) : Ext w W := ⟨h.os, h.tape, h.output, h.size, fun k hk => h.block k hk (fun e => by cases e)⟩
theorem own_fresh {w W : World} (he : Ext w W) {v : Value} (h : v.ownBlock = (Value.slice none 0 0).ownBlock ∨ v.ownBlock = some W.heap.size) : ∀ k, v.ownBlock = some k → w.heap.size ≤ k := fun k hk => by
  rcases h with h1 | h1
  · rw [h1] at hk; cases hk
  · rw [h1] at hk; cases hk; exact he.le
theorem own_le {w : World} {base e size n c : Nat} {A : Option Addr} {xs : List Value} (h : w.ownsRow base e size (.slice A n c) n xs) : n ≤ c := by
  rcases h.2 with ⟨h5, h6⟩ | ⟨g, cap, cur, h5, _, _, h6, _⟩
  · injection h5 with _ h7 h8; omega
  · injection h5 with _ _ h7; omega
theorem slice41_1K (x : Idn) (w : World) : (Instr.buildSlice 41 1 #[(0, kI x)]).run Try.prog w = .ok (.slice (some ⟨w.heap.size, 0, none⟩) 1 1) (w.alloc (.cells #[.int .i64 x.t, .int .i64 x.s] 24)) := by kernel_rfl
set_option maxHeartbeats 8000000
theorem fn55 {w : World} {A : Option Addr} {n c : Nat} {xs : List Idn} (h : Row24 w A n xs) (hn : n ≤ 4096) :
    Ret Try.prog 55 #[.slice A n c] w fun v W => Ext w W ∧ ∃ A' n' c' ys, v = .slice A' n' c' ∧ Row24 W A' n' ys ∧ Asc ys ∧ (∀ y, y ∈ ys ↔ y ∈ xs) ∧ n' ≤ n := by
  have hl := h.len
  refine Ret.of_vc tab_ok Try.func55 rfl Try.ntmps55 rfl (Nat.le_of_ble_eq_true rfl) Try.call55 ?_
  conv => whnf
  refine VLoop.mk' tab_ok (X := Nat × Option Addr × Nat × Nat × List Idn) (fun p => [(0, .slice A n c), (3, .slice p.2.1 p.2.2.1 p.2.2.2.1), (4, .int .i64 p.1), (2, .slice none 0 0)])
    (fun p W => p.1 ≤ n ∧ Ext w W ∧ Row24 W p.2.1 p.2.2.1 p.2.2.2.2 ∧ p.2.2.1 ≤ p.2.2.2.1 ∧ Asc p.2.2.2.2 ∧ p.2.2.1 ≤ p.1 ∧ ∀ y, y ∈ p.2.2.2.2 ↔ y ∈ xs.take p.1) (fun p _ => n - p.1) (0, none, 0, 0, []) ⟨rfl, rfl, rfl, rfl, trivial⟩
    ⟨Nat.zero_le _, Ext.refl w, Row.nil _ _, Nat.le_refl _, List.Pairwise.nil, Nat.le_refl _, fun y => by simp⟩ ?_
  rintro ⟨i, A1, n1, c1, ys⟩ j Wi ⟨hin, he, hrow, hnc, hasc, hni, hmem⟩
  dsimp only at hin he hrow hnc hasc hni hmem
  have hyl := hrow.len
  conv => whnf
  intro t ht
  cases t <;> simp only [VB] at ht
  case false =>
    conv => whnf
    refine ⟨he, A1, n1, c1, ys, rfl, hrow, hasc, fun y => ?_, by omega⟩
    rw [hmem, List.take_of_length_le (by omega)]
  have hi : i < n := by omega
  obtain ⟨ai, ki, hAi, di⟩ := h.at_ hi
  obtain ⟨x, hx⟩ : ∃ x, x = xs[i] := ⟨_, rfl⟩
  rw [← hx] at di
  have hmem2 : ∀ y, y ∈ xs.take (i + 1) ↔ y = x ∨ y ∈ ys := fun y => by
    rw [List.take_succ_eq_append_getElem ki, ← hx, List.mem_append, List.mem_singleton, hmem]
    exact Or.comm
  conv => whnf
  refine VLoop.mk' tab_ok (X := Nat) (fun q => [(0, .slice A n c), (3, .slice A1 n1 c1), (4, .int .i64 i), (2, .slice none 0 0), (5, .int .i64 q)])
    (fun q W => q ≤ n1 ∧ Ext Wi W ∧ ∀ k (hk : k < ys.length), k < q → lessI ys[k] x = true) (fun q _ => n1 - q) 0 ⟨rfl, rfl, rfl, rfl, rfl, trivial⟩ ⟨Nat.zero_le _, Ext.refl _, fun k _ hk => by omega⟩ ?_
  rintro q j2 Wq ⟨hqn, heq, hless⟩
  conv => whnf
  refine VDraw.mk' tab_ok (Ext Wq) [13] (.take 0 <| .take 1 <| .take 2 <| .take 3 <| .take 4 <| .take 5 <| .take 6 <| .take 7 <| .take 8 <| .take 9 <| .take 10 <| .take 11 <| .take 12 <| .one 13 <| .take 14 <| .done) mixed (by kernel_rfl) (by kernel_rfl) (Ext.drew _) ?_
  have hdr := Ext.drew Wq
  generalize Wq.drew = W2 at hdr
  conv => whnf
  --WAYS55
  intro t ht2
  cases t <;> simp only [VB] at ht2
  case false =>
    have hstop : ∀ hk : q < ys.length, lessI ys[q] x = false ∧ ys[q] ≠ x := fun hk => by omega
    conv => whnf
    refine VDraw.mk' tab_ok (Ext W2) [] (.take 0 <| .take 1 <| .take 2 <| .take 3 <| .take 4 <| .take 5 <| .take 6 <| .take 7 <| .take 8 <| .take 9 <| .take 10 <| .take 11 <| .take 12 <| .take 13 <| .take 14 <| .done) mixed (by kernel_rfl) (by kernel_rfl) (Ext.drew _) ?_
    have hdr2 := Ext.drew W2
    generalize W2.drew = W3 at hdr2
    have heW : Ext Wi W3 := (heq.tr hdr).tr hdr2
    conv => whnf
    intro t ht3
    obtain rfl : t = false := ht3.no (by omega)
    have hasc2 := asc_ins (x := x) hasc (show q ≤ ys.length by omega) hless hstop
    conv => whnf
    refine ⟨by omega, by omega, fun q1 hq1 => ?_⟩
    obtain rfl : q1 = q := by omega
    conv => whnf
    have hrow2 := hrow.ext heW
    refine run_append inf24 Try.underlying41 rfl (by decide) (own_nil_ _ 0 _ _) ((hrow2.take q1 (by omega)).rd cl24) (onec24 _) (by simp only [maxLen]; omega) (by omega) (Nat.zero_le _) ?_
    intro v1 W4 ho1 hg1 hat1
    rw [Nat.zero_add, List.nil_append] at ho1
    obtain ⟨B1, d1, rfl⟩ := own_form ho1
    have heg1 : Ext _ W4 := ext_none hg1
    replace hrow2 := hrow2.ext heg1
    have heW4 := heW.tr heg1
    conv => whnf
    refine ⟨by omega, by omega, ai, hAi, ?_⟩
    conv => whnf
    refine ⟨cI x, rfl, di.ext (he.tr heW4), ?_⟩
    conv => whnf
    refine Run.mk' _ _ (slice41_1K x W4) ?_
    have hN := New.mk' W4 (.cells #[.int .i64 x.t, .int .i64 x.s] 24)
    generalize W4.alloc (.cells #[.int .i64 x.t, .int .i64 x.s] 24) = W5 at hN ⊢
    have hone : Row24 W5 (some ⟨W4.heap.size, 0, none⟩) 1 [x] := Row.of_at cl24 (by decide) hN.at_ rfl rfl (by decide)
    have ho1' := own_ext ho1 hN.e
    replace hrow2 := hrow2.ext hN.e
    have heW5 := heW4.tr hN.e
    have hnb1 : ∀ k, (Value.slice B1 q1 d1).ownBlock = some k → Wi.heap.size ≤ k := fun k hk => own_fresh heW hat1 k hk
    conv => whnf
    refine run_append inf24 Try.underlying41 rfl (by decide) ho1' (hone.rd cl24) (onec24 _) (by simp only [maxLen]; omega) (by omega) (Nat.zero_le _) ?_
    intro v2 W6 ho2 hg2 hat2
    rw [← List.flatMap_append] at ho2
    obtain ⟨B2, d2, rfl⟩ := own_form ho2
    have hnb2 : ∀ k, (Value.slice B2 (q1 + 1) d2).ownBlock = some k → Wi.heap.size ≤ k := fun k hk => by
      rcases hat2 with h1 | h1
      · exact hnb1 k (h1.symm.trans hk)
      · rw [h1] at hk; cases hk; exact heW5.le
    have heW6 : Ext Wi W6 := grown_ext heW5 hg2 hnb1
    have hrow3 := hrow.ext heW6
    conv => whnf
    refine ⟨by omega, by omega, fun q2 hq2 => ?_⟩
    obtain rfl : q2 = q1 := by omega
    conv => whnf
    refine run_append inf24 Try.underlying41 rfl (by decide) ho2 ((hrow3.drop hnc q2 (by omega)).rd cl24) (onec24 _) (by simp only [maxLen]; omega) (by omega) (Nat.zero_le _) ?_
    intro v3 W7 ho3 hg3 hat3
    rw [← List.flatMap_append, List.append_assoc, List.singleton_append, show q2 + 1 + (n1 - q2) = n1 + 1 by omega] at ho3
    obtain ⟨B3, d3, rfl⟩ := own_form ho3
    have heW7 : Ext Wi W7 := grown_ext heW6 hg3 hnb2
    have hd3 : n1 + 1 ≤ d3 := own_le ho3
    conv => whnf
    intro r hr
    obtain rfl : r = ((i + 1 : Nat) : Int) := by rw [hr, wrap_id (by omega) (by omega)]; rfl
    clear hr
    conv => whnf
    refine ⟨(i + 1, B3, n1 + 1, d3, ys.take q2 ++ x :: ys.drop q2), ⟨?_, rfl, rfl, rfl, trivial⟩, ⟨by dsimp only; omega, he.tr heW7, own_row cl24 (by decide) ho3, hd3, hasc2, by dsimp only; omega, fun y => ?_⟩, by dsimp only; omega⟩
    · rfl
    · rw [hmem2, mem_ins]
  have hq : q < n1 := by omega
  obtain ⟨ay, ky, hAy, dy⟩ := hrow.at_ hq
  conv => whnf
  refine ⟨by omega, by omega, ay, hAy, ?_⟩
  conv => whnf
  refine ⟨cI ys[q], rfl, fun w' hs => dy.ext (heq.tr hs), ?_⟩
  conv => whnf
  refine ⟨by omega, by omega, ai, hAi, ?_⟩
  conv => whnf
  refine ⟨cI x, rfl, fun w' hs => di.ext (he.tr (heq.tr hs)), ?_⟩
  conv => whnf
  refine (fn66 ys[q] x _).mono ?_
  rintro _ Wl ⟨hel, rfl⟩
  have hel2 : Ext Wi Wl := heq.tr (hdr.tr hel)
  cases hls : lessI ys[q] x
  case true =>
    conv => whnf
    intro r hr
    obtain rfl : r = ((q + 1 : Nat) : Int) := by rw [hr, wrap_id (by omega) (by omega)]; rfl
    clear hr
    conv => whnf
    refine ⟨q + 1, ⟨rfl, rfl, rfl, rfl, rfl, trivial⟩, ⟨by omega, hel2, fun k hk hkq => ?_⟩, by omega⟩
    by_cases hke : k = q
    · subst hke; exact hls
    · exact hless k hk (by omega)
  conv => whnf
  refine VDraw.mk' tab_ok (Ext Wl) [] (.take 0 <| .take 1 <| .take 2 <| .take 3 <| .take 4 <| .take 5 <| .take 6 <| .take 7 <| .take 8 <| .take 9 <| .take 10 <| .take 11 <| .take 12 <| .take 13 <| .take 14 <| .done) mixed (by kernel_rfl) (by kernel_rfl) (Ext.drew _) ?_
  have hdr2 := Ext.drew Wl
  generalize Wl.drew = W3 at hdr2
  have heW : Ext Wi W3 := hel2.tr hdr2
  conv => whnf
  intro t ht3
  obtain rfl : t = true := ht3.yes (by omega)
  conv => whnf
  refine ⟨by omega, by omega, ay, hAy, ?_⟩
  conv => whnf
  refine ⟨cI ys[q], rfl, fun w' hs => dy.ext (hel2.tr hs), ?_⟩
  conv => whnf
  refine ⟨by omega, by omega, ai, hAi, ?_⟩
  conv => whnf
  refine ⟨cI x, rfl, fun w' hs => di.ext (he.tr (hel2.tr hs)), ?_⟩
  conv => whnf
  refine ⟨_, eq24 ys[q] x, fun t ht => ?_⟩
  by_cases hyx : ys[q] = x
  · rw [decide_eq_true hyx] at ht
    subst ht
    conv => whnf
    intro r hr
    obtain rfl : r = ((i + 1 : Nat) : Int) := by rw [hr, wrap_id (by omega) (by omega)]; rfl
    clear hr
    conv => whnf
    refine ⟨(i + 1, A1, n1, c1, ys), ⟨rfl, rfl, rfl, rfl, trivial⟩, ⟨by dsimp only; omega, he.tr heW, hrow.ext heW, hnc, hasc, by dsimp only; omega, fun y => ?_⟩, by dsimp only; omega⟩
    rw [hmem2]
    constructor
    · exact .inr
    · rintro (rfl | h1)
      · rw [← hyx]; exact List.getElem_mem _
      · exact h1
  rw [decide_eq_false hyx] at ht
  subst ht
  have hstop : ∀ hk : q < ys.length, lessI ys[q] x = false ∧ ys[q] ≠ x := fun hk => ⟨hls, hyx⟩
  have hasc2 := asc_ins (x := x) hasc (show q ≤ ys.length by omega) hless hstop
  conv => whnf
  refine ⟨by omega, by omega, fun q1 hq1 => ?_⟩
  obtain rfl : q1 = q := by omega
  conv => whnf
  have hrow2 := hrow.ext heW
  refine run_append inf24 Try.underlying41 rfl (by decide) (own_nil_ _ 0 _ _) ((hrow2.take q1 (by omega)).rd cl24) (onec24 _) (by simp only [maxLen]; omega) (by omega) (Nat.zero_le _) ?_
  intro v1 W4 ho1 hg1 hat1
  rw [Nat.zero_add, List.nil_append] at ho1
  obtain ⟨B1, d1, rfl⟩ := own_form ho1
  have heg1 : Ext _ W4 := ext_none hg1
  replace hrow2 := hrow2.ext heg1
  have heW4 := heW.tr heg1
  conv => whnf
  refine ⟨by omega, by omega, ai, hAi, ?_⟩
  conv => whnf
  refine ⟨cI x, rfl, di.ext (he.tr heW4), ?_⟩
  conv => whnf
  refine Run.mk' _ _ (slice41_1K x W4) ?_
  have hN := New.mk' W4 (.cells #[.int .i64 x.t, .int .i64 x.s] 24)
  generalize W4.alloc (.cells #[.int .i64 x.t, .int .i64 x.s] 24) = W5 at hN ⊢
  have hone : Row24 W5 (some ⟨W4.heap.size, 0, none⟩) 1 [x] := Row.of_at cl24 (by decide) hN.at_ rfl rfl (by decide)
  have ho1' := own_ext ho1 hN.e
  replace hrow2 := hrow2.ext hN.e
  have heW5 := heW4.tr hN.e
  have hnb1 : ∀ k, (Value.slice B1 q1 d1).ownBlock = some k → Wi.heap.size ≤ k := fun k hk => own_fresh heW hat1 k hk
  conv => whnf
  refine run_append inf24 Try.underlying41 rfl (by decide) ho1' (hone.rd cl24) (onec24 _) (by simp only [maxLen]; omega) (by omega) (Nat.zero_le _) ?_
  intro v2 W6 ho2 hg2 hat2
  rw [← List.flatMap_append] at ho2
  obtain ⟨B2, d2, rfl⟩ := own_form ho2
  have hnb2 : ∀ k, (Value.slice B2 (q1 + 1) d2).ownBlock = some k → Wi.heap.size ≤ k := fun k hk => by
    rcases hat2 with h1 | h1
    · exact hnb1 k (h1.symm.trans hk)
    · rw [h1] at hk; cases hk; exact heW5.le
  have heW6 : Ext Wi W6 := grown_ext heW5 hg2 hnb1
  have hrow3 := hrow.ext heW6
  conv => whnf
  refine ⟨by omega, by omega, fun q2 hq2 => ?_⟩
  obtain rfl : q2 = q1 := by omega
  conv => whnf
  refine run_append inf24 Try.underlying41 rfl (by decide) ho2 ((hrow3.drop hnc q2 (by omega)).rd cl24) (onec24 _) (by simp only [maxLen]; omega) (by omega) (Nat.zero_le _) ?_
  intro v3 W7 ho3 hg3 hat3
  rw [← List.flatMap_append, List.append_assoc, List.singleton_append, show q2 + 1 + (n1 - q2) = n1 + 1 by omega] at ho3
  obtain ⟨B3, d3, rfl⟩ := own_form ho3
  have heW7 : Ext Wi W7 := grown_ext heW6 hg3 hnb2
  have hd3 : n1 + 1 ≤ d3 := own_le ho3
  conv => whnf
  intro r hr
  obtain rfl : r = ((i + 1 : Nat) : Int) := by rw [hr, wrap_id (by omega) (by omega)]; rfl
  clear hr
  conv => whnf
  refine ⟨(i + 1, B3, n1 + 1, d3, ys.take q2 ++ x :: ys.drop q2), ⟨?_, rfl, rfl, rfl, trivial⟩, ⟨by dsimp only; omega, he.tr heW7, own_row cl24 (by decide) ho3, hd3, hasc2, by dsimp only; omega, fun y => ?_⟩, by dsimp only; omega⟩
  · rfl
  · rw [hmem2, mem_ins]
end Go.Proofs.Ytbkmbignincilaa
