/- The store of messages: Drop, of a store of one message. -/
import Derived.Test.YtgcelfplgfloaaaA6
namespace Go.Proofs.Ytgcelfplgfloaaa
open Go Go.VC
set_option linter.unusedVariables false
set_option linter.unusedSimpArgs false
set_option maxRecDepth 100000

theorem getL_one (x : Ent) : getL [x] x.m.site x.m.seq = some x := by simp [getL]
set_option maxHeartbeats 1000000
theorem fn19 {b r cl : Nat} {R : Int} {x : Ent} (w : World) (A : Option Addr) (n c : Nat) (xs : List Int) (h : StoreAt w b r n R [x] cl) (hv : Ints w A n xs) (hok : vecOk xs = true) :
    Ret Try.prog 19 #[.pointer (some ⟨b, 0, none⟩), .slice A n c] w fun v W => Chg (· = r) w W ∧ StoreAt W b r n R (if covers xs x.m.site x.m.seq then [] else [x]) cl ∧
      v = .tuple #[.int .i64 (if covers xs x.m.site x.m.seq then 1 else 0), .int .i64 0] := by
  have hbr : b ≠ r := fun e => by have h1 := h.head; rw [e, h.map] at h1; cases h1
  refine Ret.of_vc tab_ok Try.func19 rfl Try.ntmps19 rfl (Nat.le_of_ble_eq_true rfl) Try.call19 ?_
  conv => whnf
  refine (fn42 w A n c xs hv).mono ?_
  rintro _ _ ⟨rfl, rfl⟩
  rw [hok]
  conv => whnf
  intro t ht
  obtain rfl : t = false := ht.no (by decide)
  conv => whnf
  refine ⟨_, ld h.head rfl rfl, ?_⟩
  conv => whnf
  intro t ht
  obtain rfl : t = false := ht.no (by simp)
  conv => whnf
  refine ⟨_, ld h.head rfl rfl, ?_⟩
  conv => whnf
  refine Run.mk' _ _ (maplen_run Try.runUnderlying78 h.map) ?_
  conv => whnf
  refine ⟨_, ld h.head rfl rfl, ?_⟩
  conv => whnf
  refine Run.mk' _ _ (range_run Try.runUnderlying78 h.map) ?_
  have hN := New.mk' w (.mapIter (some r) cl #[] cl)
  generalize w.alloc (.mapIter (some r) cl #[] cl) = W1 at hN ⊢
  have hit := hN.at_
  have hE1 := hN.e
  have hlw := hE1.le
  have hil : w.heap.size ≤ w.heap.size := Nat.le_refl _
  generalize hxi : w.heap.size = it at hit hil
  conv => whnf
  have hmap1 : ∀ W, StoreAt W b r n R [x] cl → W.heap[r]? = some (.map #[x.e] cl) := fun W h => h.map
  have hmap0 : ∀ W, StoreAt W b r n R [] cl → W.heap[r]? = some (.map #[] cl) := fun W h => h.map
  have hyoung : x.e.born < cl := h.young x (by simp)
  refine VLoop.mk' tab_ok (X := Bool) (fun p => [(0, .pointer (some ⟨b, 0, none⟩)), (1, .slice A n c), (6, .int .i64 1), (33, .pointer (some ⟨it, 0, none⟩)), (5, .int .i64 0)])
    (fun p W => Chg (· = r) w W ∧ Ints W A n xs ∧ (if p then StoreAt W b r n R (if covers xs x.m.site x.m.seq then [] else [x]) cl ∧ W.heap[it]? = some (.mapIter (some r) cl #[x.e.born] cl) else StoreAt W b r n R [x] cl ∧ W.heap[it]? = some (.mapIter (some r) cl #[] cl))) (fun p _ => if p then 0 else 1)
    false ⟨rfl, rfl, rfl, rfl, rfl, trivial⟩ ⟨hE1.chg _, hv.ext hE1, h.ext hE1, hit⟩ ?_
  rintro p j W ⟨hc, hvW, hp⟩
  cases p
  · simp only [Bool.false_eq_true, if_false] at hp
    obtain ⟨hst, hiW⟩ := hp
    conv => whnf
    refine Run.mk' _ _ (next_one hiW (hmap1 W hst) hyoung) ?_
    have hput := Put.mk' hiW (.mapIter (some r) cl #[x.e.born] cl)
    generalize World.putObj W it (.mapIter (some r) cl #[x.e.born] cl) = W2 at hput ⊢
    have hitne : it ≠ r := fun e => by rw [e, hmap1 W hst] at hiW; cases hiW
    have hitne2 : b ≠ it := fun e => by have h1 := hst.head; rw [e, hiW] at h1; cases h1
    have hst2 : StoreAt W2 b r n R [x] cl := ⟨hput.keep hst.head hitne2, hput.keep hst.map (Ne.symm hitne), fun y hy => hput.no_ints hiW (by simp) (hst.know y hy), hst.few, hst.young⟩
    have hv2 := hput.no_ints hiW (by simp) hvW
    have hc2 : Chg (· = r) w W2 := hput.chg hc (.inr (by rw [hxi]; exact hil))
    have hi2 := hput.at_
    clear hst hiW hvW hc hput
    conv => whnf
    refine Run.mk' _ _ (entry_one hi2 (hmap1 W2 hst2)) ?_
    conv => whnf
    intro W3 hW3
    conv => whnf
    refine ⟨W2.heap.size, 0, _, _, rfl, hW3.at_, Nat.le_of_ble_eq_true rfl, rfl, rfl, fun W4 hW4 => ?_⟩
    have hE24 : Ext W2 W4 := hW4.e hW3.e (Nat.le_refl _)
    have hst4 := hst2.ext hE24
    have hv4 := hv2.ext hE24
    have hi4 := hE24.at_ hi2
    have hc4 := hc2.tr_ext hE24
    have hb7 : W4.heap[W2.heap.size]? = some (.cells #[.int .i64 x.m.site, .int .i64 x.m.seq] 32 (0, 0)) := hW4.at_
    generalize W2.heap.size = b7 at hb7
    conv => whnf
    refine ⟨_, ld hb7 rfl rfl, ?_⟩
    conv => whnf
    refine ⟨_, ld hb7 rfl rfl, ?_⟩
    conv => whnf
    refine (fn43 W4 A n c xs _ _ hv4).mono ?_
    rintro _ _ ⟨rfl, rfl⟩
    conv => whnf
    cases hcv : covers xs x.m.site x.m.seq <;> (conv => whnf)
    · exact ⟨true, ⟨rfl, rfl, rfl, rfl, rfl, trivial⟩, ⟨hc4, hv4, hst4, hi4⟩, by decide⟩
    · refine VDraw.mk' tab_ok (Ext W4) [5] (.take 0 <| .take 1 <| .take 2 <| .take 3 <| .take 4 <| .one 5 <| .done) mixed (by kernel_rfl) (by kernel_rfl) (Ext.drew _) ?_
      have he5 := Ext.drew W4
      generalize W4.drew = W5 at he5
      conv => whnf
      refine ⟨_, fun w' hs => hs.cell (ld hst4.head rfl rfl), ?_⟩
      conv => whnf
      refine ⟨[.int .i64 x.m.site, .int .i64 x.m.seq], rfl, fun w' hs => lds (hs.at_ hb7) rfl rfl, ?_⟩
      conv => whnf
      have hst5 := hst4.ext he5
      obtain ⟨i0, hf⟩ := (findE_getL [x] x.m.site x.m.seq).2 x (getL_one x)
      have hi0 : i0 = 0 := by
        unfold findE at hf
        simp only [List.map_cons, List.map_nil, List.findIdx?_cons, List.findIdx?_nil] at hf
        split at hf
        · rename_i i hh
          injection hf with hf
          injection hf with h1 h2
          subst h1
          split at hh
          · injection hh with hh; exact hh.symm
          · cases hh
        · cases hf
      subst hi0
      have hdel := delete_run klaw (P := Try.prog) (mt := 78) (et := 41) (ty := 0) (kt2 := 32) Try.runUnderlying78 ⟨x.m.site, x.m.seq, rfl⟩ (hmap1 W5 hst5) (keys_ent [x])
      have hf' : findE (K2 x.m.site x.m.seq) (#[x.e] : Array MapEntry).toList = some (0, x.val) := hf
      rw [hf'] at hdel
      refine Run.mk' _ _ hdel ?_
      have hput := Put.mk' (hmap1 W5 hst5) (.map ((#[x.e] : Array MapEntry).eraseIdxIfInBounds 0) cl)
      have hes : (#[x.e] : Array MapEntry).eraseIdxIfInBounds 0 = #[] := by simp [Array.eraseIdxIfInBounds]
      simp only [hes] at hput ⊢
      generalize World.putObj W5 r (.map #[] cl) = W6 at hput ⊢
      conv => whnf
      refine ⟨true, ⟨rfl, rfl, rfl, rfl, rfl, trivial⟩, ⟨hput.chg (hc4.tr_ext he5) (.inl rfl), hput.map_ints (hmap1 W5 hst5) (hv4.ext he5), ⟨hput.keep hst5.head hbr, hput.at_, fun y hy => (by cases hy), fun y hy => (by cases hy), fun y hy => (by cases hy)⟩, hput.keep (he5.at_ hi4) ?_⟩, by decide⟩
      intro e
      have h1 := he5.at_ hi4
      rw [e, hmap1 W5 hst5] at h1
      cases h1
  · simp only [if_true] at hp
    obtain ⟨hst, hiW⟩ := hp
    conv => whnf
    cases hcv : covers xs x.m.site x.m.seq
    · rw [hcv] at hst
      have hst' : StoreAt W b r n R [x] cl := hst
      refine Run.mk' _ _ (next_end1 hiW (hmap1 W hst') hyoung) ?_
      conv => whnf
      refine ⟨_, ld hst'.head rfl rfl, ?_⟩
      conv => whnf
      refine Run.mk' _ _ (maplen_run Try.runUnderlying78 (hmap1 W hst')) ?_
      conv => whnf
      intro q hq
      conv => whnf
      refine ⟨hc, hst', ?_⟩
      have : q = 0 := by rw [hq]; rfl
      subst this
      rfl
    · rw [hcv] at hst
      have hst' : StoreAt W b r n R [] cl := hst
      refine Run.mk' _ _ (next_end0 hiW (hmap0 W hst')) ?_
      conv => whnf
      refine ⟨_, ld hst'.head rfl rfl, ?_⟩
      conv => whnf
      refine Run.mk' _ _ (maplen_run Try.runUnderlying78 (hmap0 W hst')) ?_
      conv => whnf
      intro q hq
      conv => whnf
      refine ⟨hc, hst', ?_⟩
      have : q = 1 := by rw [hq]; rfl
      subst this
      rfl
end Go.Proofs.Ytgcelfplgfloaaa
