/- weave.New, Kids, slices.Clone. -/
import Derived.Test.YtbkmbignincilaaW5
namespace Go.Proofs.Ytbkmbignincilaa
open Go Go.VC Go.RowKit
set_option linter.unusedVariables false
set_option linter.unusedSimpArgs false
set_option maxRecDepth 100000

theorem build73_0 (w : World) : (Instr.build 73 #[]).run Try.prog w = .ok (.agg #[.int .i64 0, .int .i64 0, .int .i64 0, .int .i64 0, .int .i64 0, .slice none 0 0, .slice none 0 0]) w := by kernel_rfl
theorem build76 (m : Nat) (w : World) : (Instr.build 76 #[(0, .map (some m))]).run Try.prog w = .ok (.agg #[.map (some m)]) w := by kernel_rfl
theorem fn13 (w : World) : Ret Try.prog 13 #[] w fun v W => Ext w W ∧ ∃ b m R cl, v = .pointer (some ⟨b, 0, none⟩) ∧ LineAt W b m [] R [] cl ∧ ∀ k, Foot b m [R] k → w.heap.size ≤ k := by
  refine Ret.of_vc tab_ok Try.func13 rfl Try.ntmps13 rfl (Nat.le_of_ble_eq_true rfl) Try.call13 ?_
  conv => whnf
  intro W hW
  have hE := hW.e
  have hm := hW.at_
  conv => whnf
  refine Run.mk' _ _ (build24_0 W) ?_
  conv => whnf
  refine Run.mk' _ _ (build73_0 W) ?_
  conv => whnf
  intro W2 hW2
  have hm2 := hW2.e.at_ hm
  have hnd := hW2.at_
  conv => whnf
  have hne : W.heap.size ≠ w.heap.size := by rw [hW.size]; omega
  have hmb : w.heap.size ≤ W.heap.size := by rw [hW.size]; omega
  have hE2 := hE.tr hW2.e
  generalize W.heap.size = nb at hne hnd hmb
  generalize hms : w.heap.size = m at hm2 hne hmb
  refine RunU.mk' _ (update_new (k := K2 0 0) keyLaw24 (mt := 74) (et := 71) Try.runUnderlying74 ⟨_, _, rfl⟩ hm2 (fun e he => by cases he) rfl) ?_
  have hP := Put.mk' hm2 (.map ((#[] : Array MapEntry).push { key := K2 0 0, val := .pointer (some ⟨nb, 0, none⟩), born := 0 }) (0 + 1))
  generalize VC.World.putObj W2 m (.map ((#[] : Array MapEntry).push { key := K2 0 0, val := .pointer (some ⟨nb, 0, none⟩), born := 0 }) (0 + 1)) = W3 at hP ⊢
  have hE3 := hP.e hE2 (by omega)
  have hm3 := hP.at_
  have hnd3 := hP.keep hnd hne
  clear hP hm2 hnd hE2 hE hm hW hW2
  conv => whnf
  refine Run.mk' _ _ (build76 m W3) ?_
  conv => whnf
  intro W4 hW4
  conv => whnf
  have hE4 := hE3.tr hW4.e
  refine ⟨hE4, W3.heap.size, m, ⟨El.z, nb, 0, none, 0, 0⟩, 1, rfl, ⟨⟨List.nodup_nil, fun e he => (by cases he), fun e he => (by cases he), fun e he => (by cases he)⟩, by decide, rfl, rfl, hW4.at_, hW4.e.at_ hm3, ?_, ?_, by simp, by simp⟩, ?_⟩
  · intro p hp
    rw [List.mem_singleton] at hp
    subst hp
    exact hW4.e.at_ hnd3
  · intro p hp
    rw [List.mem_singleton] at hp
    subst hp
    exact own_nil_ _ _ _ _
  · rintro k (rfl | rfl | ⟨p, hp, hk⟩)
    · rw [← hms]; exact hE3.le
    · omega
    · rw [List.mem_singleton] at hp
      subst hp
      rcases hk with rfl | hk
      · exact hmb
      · cases hk
theorem slice41_0 (w : World) : (Instr.buildSlice 41 0 #[]).run Try.prog w = .ok (.slice (some ⟨w.heap.size, 0, none⟩) 0 0) (w.alloc (.cells #[] 24)) := by kernel_rfl
theorem fn54 {w : World} {A : Option Addr} {n c : Nat} {xs : List Idn} (h : Row24 w A n xs) (hn : n ≤ 1000000) (h0 : A = none → c = 0) :
    Ret Try.prog 54 #[.slice A n c] w fun v W => Ext w W ∧ ∃ A' c', v = .slice A' n c' ∧ Row24 W A' n xs ∧ ∀ a, A' = some a → w.heap.size ≤ a.block := by
  refine Ret.of_vc tab_ok Try.func54 rfl Try.ntmps54 rfl (Nat.le_of_ble_eq_true rfl) Try.call54 ?_
  cases A with
  | none =>
    conv => whnf
    have hx : xs = [] := by
      cases xs with
      | nil => rfl
      | cons x xs => obtain ⟨a, e, _⟩ := h.get 0 x rfl; cases e
    subst hx
    have hn0 : n = 0 := by have := h.len; simpa using this.symm
    subst hn0
    exact ⟨Ext.refl w, none, 0, rfl, h, fun a e => by cases e⟩
  | some a =>
    conv => whnf
    refine Run.mk' _ _ (slice41_0 w) ?_
    have hN := New.mk' w (.cells #[] 24)
    have hown := own_new w 24 2 0 [] rfl (by simp [maxLen])
    have hE := hN.e
    generalize w.alloc (.cells #[] 24) = W at hN hown hE ⊢
    conv => whnf
    have h1 := (h.ext hE)
    refine run_append inf24 Try.underlying41 rfl (by decide) hown (h1.rd cl24) (onec24 xs) (by simp only [maxLen]; omega) (by omega) hE.le ?_
    intro v' W1 hown2 hg hat
    conv => whnf
    refine ⟨ext_row hE hg hown (Nat.le_refl _), ?_⟩
    obtain ⟨A', c', rfl⟩ := own_form hown2
    rw [Nat.zero_add, List.nil_append] at hown2
    rw [Nat.zero_add]
    exact ⟨A', c', rfl, own_row cl24 (by decide) hown2, own_ge hown2⟩
theorem fn24 {w : World} {b m cl : Nat} {S : List El} {R : NodeR} {Ns : List NodeR} (h : LineAt w b m S R Ns cl) (x : Idn) :
    Ret Try.prog 24 #[.pointer (some ⟨b, 0, none⟩), kI x] w fun v W => Ext w W ∧ ∃ A c, v = .slice A (kidsOf S x).length c ∧ Row24 W A (kidsOf S x).length (kidsOf S x) ∧ ∀ a, A = some a → w.heap.size ≤ a.block := by
  have hkn := kids_len S x
  have hfew := h.few
  refine Ret.of_vc tab_ok Try.func24 rfl Try.ntmps24 rfl (Nat.le_of_ble_eq_true rfl) Try.call24 ?_
  conv => whnf
  intro W hW
  have hb := hW.at_
  have hE := hW.e
  generalize hbxe : w.heap.size = bx at hb
  conv => whnf
  refine VDraw.mk' tab_ok (Ext W) [] (.take 0 <| .take 1 <| .take 2 <| .take 3 <| .take 4 <| .take 5 <| .take 6 <| .take 7 <| .take 8 <| .take 9 <| .take 10 <| .done) mixed (by kernel_rfl) (by kernel_rfl) (Ext.drew _) ?_
  have hd := Ext.drew W
  generalize W.drew = W2 at hd
  conv => whnf
  refine ⟨_, fun w' hs => hs.cell (hE.cell (ld h.head rfl rfl)), ?_⟩
  conv => whnf
  refine ⟨cI x, rfl, fun w' hs => lds (hs.at_ hb) rfl rfl, ?_⟩
  conv => whnf
  refine ⟨_, fun w' hs => (h.ext (hE.tr hs)).lookup x, ?_⟩
  by_cases hx : x = Idn.z ∨ x ∈ ids S
  · obtain ⟨p, hp, hpx, hptr, _⟩ := h.there hx
    rw [hptr]
    conv => whnf
    have hE2 := hE.tr hd
    have hb2 := hd.at_ hb
    have h2 := h.ext hE2
    clear hE hd hb hW
    refine VDraw.mk' tab_ok (Ext W2) [] (.take 0 <| .take 1 <| .take 2 <| .take 3 <| .take 4 <| .take 5 <| .take 6 <| .take 7 <| .take 8 <| .one 9 <| .take 10 <| .done) mixed (by kernel_rfl) (by kernel_rfl) (Ext.drew _) ?_
    have hd := Ext.drew W2
    generalize W2.drew = W3 at hd
    conv => whnf
    refine ⟨_, fun w' hs => hs.cell (ld h2.head rfl rfl), ?_⟩
    conv => whnf
    refine ⟨cI x, rfl, fun w' hs => lds (hs.at_ hb2) rfl rfl, ?_⟩
    conv => whnf
    refine ⟨_, fun w' hs => (h2.ext hs).lookup x, ?_⟩
    rw [hptr]
    conv => whnf
    refine ⟨.slice p.A p.n p.c, fun w' hs => hs.cell (ld (h2.node p hp) rfl rfl), ?_⟩
    conv => whnf
    have hrow := h2.row p hp
    rw [hpx] at hrow
    have hr := own_row cl24 (by decide) hrow
    have hlen : (kidsOf S x).length = p.n := hr.len
    have hc0 : p.A = none → p.c = 0 := by
      intro e
      rcases hrow.2 with ⟨h1, _⟩ | ⟨g, cap, cur, h1, _⟩
      · injection h1 with _ _ h3
      · injection h1 with h3 _ _; rw [e] at h3; cases h3
    refine (fn54 (hr.ext hd) (by omega) hc0).mono ?_
    rintro _ W4 ⟨he, A', c', rfl, hr4, hfr⟩
    refine ⟨hd.tr he, ?_⟩
    conv => whnf
    rw [hlen]
    exact ⟨hE2.tr (hd.tr he), A', c', rfl, hr4, fun a e => by have := (hE2.tr hd).le; have := hfr a e; omega⟩
  · have hx0 : x ≠ Idn.z := fun e => hx (.inl e)
    have hx1 : x ∉ ids S := fun e => hx (.inr e)
    have hk : kidsOf S x = [] := by
      cases hk : kidsOf S x with
      | nil => rfl
      | cons y r =>
        exfalso
        obtain ⟨e, he, h1, _⟩ := mem_kids.1 (show y ∈ kidsOf S x by rw [hk]; exact List.mem_cons_self ..)
        rcases h.ok.ref e he with h2 | ⟨h2, _⟩
        · exact hx0 (h1.symm.trans h2)
        · exact hx1 (h1 ▸ h2)
    rw [h.gone hx0 hx1]
    conv => whnf
    rw [hk]
    exact ⟨hE.tr hd, none, 0, rfl, Row.nil _ _, fun a e => by cases e⟩
theorem fn24n (x : Idn) (w : World) : Ret Try.prog 24 #[.pointer none, kI x] w fun v W => Ext w W ∧ v = .slice none 0 0 := by
  refine Ret.of_vc tab_ok Try.func24 rfl Try.ntmps24 rfl (Nat.le_of_ble_eq_true rfl) Try.call24 ?_
  conv => whnf
  intro W hW
  conv => whnf
  refine VDraw.mk' tab_ok (Ext W) [] (.take 0 <| .take 1 <| .take 2 <| .take 3 <| .take 4 <| .take 5 <| .take 6 <| .take 7 <| .take 8 <| .take 9 <| .take 10 <| .done) mixed (by kernel_rfl) (by kernel_rfl) (Ext.drew _) ?_
  conv => whnf
  exact ⟨hW.e.then_drew, rfl⟩
end Go.Proofs.Ytbkmbignincilaa
