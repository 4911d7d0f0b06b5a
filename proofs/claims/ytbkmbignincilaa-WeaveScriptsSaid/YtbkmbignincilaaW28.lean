/- The reference's Insert, Drop. -/
import Derived.Test.YtbkmbignincilaaW27
namespace Go.Proofs.Ytbkmbignincilaa
open Go Go.VC Go.RowKit
set_option linter.unusedVariables false
set_option linter.unusedSimpArgs false
set_option maxRecDepth 100000

/-- What a reference's op leaves behind. -/
def RInsQ (w : World) (F : Nat → Prop) (rb : Nat) (S' : List El) (r : Int) (v : Value) (W : World) : Prop :=
  v = .int .i64 r ∧ Chg F w W ∧ ∃ F', RF W F' rb S' ∧ ∀ k, F' k → F k ∨ w.heap.size ≤ k
theorem RInsQ.not {w W : World} {F : Nat → Prop} {rb : Nat} {S : List El} {r : Int} (h : RF w F rb S) (he : Ext w W) : RInsQ w F rb S r (.int .i64 r) W :=
  ⟨rfl, he.chg _, F, h.ext he, fun k hk => .inl hk⟩
set_option maxHeartbeats 8000000
theorem fn15 {S : List El} (hok : SOK S) {F : Nat → Prop} {rb : Nat} {w : World} (h : RF w F rb S) (x : Idn) : Ret Try.prog 15 #[ptr rb, kI x] w (RInsQ w F rb (drpS S x) (drpE S x)) := by
  obtain ⟨A, c, hb, hrow, hown, hfew, hc, hF⟩ := h.open
  refine Ret.of_vc tab_ok Try.func15 rfl Try.ntmps15 rfl (Nat.le_of_ble_eq_true rfl) Try.call15 ?_
  conv => whnf
  intro W hW
  have hb3 := hW.at_
  have hE := hW.e
  clear hW
  generalize hb3e : w.heap.size = b3 at hb3 ⊢
  conv => whnf
  refine ⟨cI x, rfl, lds hb3 rfl rfl, ?_⟩
  conv => whnf
  refine (fn45 (h.ext hE) x).mono ?_
  rintro _ W1 ⟨he, rfl⟩
  replace hE := hE.tr he
  replace hb3 := he.at_ hb3
  conv => whnf
  intro t ht
  cases t <;> simp only [VB] at ht
  case true =>
    have hx := findI_neg.1 ht
    have h6 : drpE S x = 6 := by unfold drpE; rw [if_pos hx]
    have hs : drpS S x = S := by unfold drpS; rw [if_neg (by rw [h6]; decide)]
    conv => whnf
    rw [h6, hs]
    exact RInsQ.not h hE
  have hx : x ∈ ids S := Classical.byContradiction fun hn => ht (findI_neg.2 hn)
  obtain ⟨i, hi, hfi, hfe⟩ := findI_in hok hx
  rw [hfi]
  conv => whnf
  refine ⟨cI x, rfl, lds hb3 rfl rfl, ?_⟩
  conv => whnf
  refine (fn25 (h.ext hE) hok x).mono ?_
  rintro _ W2 ⟨he2, A1, c1, rfl, hk⟩
  replace hE := hE.tr he2
  conv => whnf
  intro t ht2
  cases t <;> simp only [VB] at ht2
  case true =>
    have h8 : drpE S x = 8 := by
      unfold drpE
      rw [if_neg (by simpa using hx), if_pos (fun e1 => by rw [e1] at ht2; simp at ht2)]
    have hs : drpS S x = S := by unfold drpS; rw [if_neg (by rw [h8]; decide)]
    conv => whnf
    rw [h8, hs]
    exact RInsQ.not h hE
  have hk0 : kidsOf S x = [] := List.length_eq_zero_iff.1 (by omega)
  have h0 : drpE S x = 0 := by unfold drpE; rw [if_neg (by simpa using hx), if_neg (by simpa using hk0)]
  have hS' : drpS S x = S.take i ++ S.drop (i + 1) := by
    have hid : S[i].id = x := by rw [hfe]; obtain ⟨e, he, rfl⟩ := List.mem_map.1 hx; rw [elOf_of hok.nodup he]
    have e1 : S = S.take i ++ S[i] :: S.drop (i + 1) := by rw [← List.drop_eq_getElem_cons hi, List.take_append_drop]
    have hnd : ((S.take i).map (·.id) ++ x :: (S.drop (i + 1)).map (·.id)).Nodup := by
      have h9 := congrArg ids e1
      rw [show ids (S.take i ++ S[i] :: S.drop (i + 1)) = (S.take i).map (·.id) ++ S[i].id :: (S.drop (i + 1)).map (·.id) by unfold ids; rw [List.map_append, List.map_cons], hid] at h9
      rw [← h9]
      exact hok.nodup
    obtain ⟨g1, g2, g3⟩ := List.nodup_append.1 hnd
    obtain ⟨g4, g5⟩ := List.nodup_cons.1 g2
    unfold drpS
    rw [if_pos h0]
    conv => lhs; rw [e1]
    rw [List.filter_append, List.filter_cons, if_neg (by simp [hid])]
    congr 1
    · exact List.filter_eq_self.2 fun a ha => by rw [decide_eq_true_eq]; exact fun e2 => g3 a.id (List.mem_map_of_mem (f := fun e : El => e.id) ha) x (List.mem_cons_self ..) e2
    · exact List.filter_eq_self.2 fun a ha => by rw [decide_eq_true_eq]; exact fun e2 => g4 (e2 ▸ List.mem_map_of_mem (f := fun e : El => e.id) ha)
  conv => whnf
  refine ⟨.slice A S.length c, ld (hE.at_ hb) rfl rfl, ?_⟩
  conv => whnf
  refine ⟨by omega, by omega, fun q1 hq1 => ?_⟩
  obtain rfl : q1 = i := by omega
  conv => whnf
  have hrow2 := hrow.ext hE
  refine run_append inf49 Try.underlying28 rfl (by decide) (own_nil_ _ 0 _ _) ((hrow2.take q1 (by omega)).rd cl49) (onec49 _) (by simp only [maxLen]; omega) (by omega) (Nat.zero_le _) ?_
  intro v1 W4 ho1 hg1 hat1
  rw [Nat.zero_add, List.nil_append] at ho1
  obtain ⟨B1, d1, rfl⟩ := own_form ho1
  have heg1 : Ext W2 W4 := ext_none hg1
  have hE4 := hE.tr heg1
  have hnb1 : ∀ k, (Value.slice B1 q1 d1).ownBlock = some k → w.heap.size ≤ k := fun k hk => own_fresh hE hat1 k hk
  conv => whnf
  refine ⟨.slice A S.length c, ld (hE4.at_ hb) rfl rfl, ?_⟩
  conv => whnf
  intro r hr
  obtain rfl : r = ((q1 + 1 : Nat) : Int) := by rw [hr, wrap_id (by omega) (by omega)]; rfl
  clear hr
  conv => whnf
  refine ⟨by omega, by omega, fun q2 hq2 => ?_⟩
  obtain rfl : q2 = q1 + 1 := by omega
  conv => whnf
  have hrow4 := hrow.ext hE4
  refine run_append inf49 Try.underlying28 rfl (by decide) ho1 ((hrow4.drop hc (q1 + 1) (by omega)).rd cl49) (onec49 _) (by simp only [maxLen]; omega) (by omega) (Nat.zero_le _) ?_
  intro v2 W5 ho2 hg2 hat2
  rw [← List.flatMap_append, ← hS'] at ho2
  have hE5 : Ext w W5 := grown_ext hE4 hg2 hnb1
  have hlen : q1 + (S.length - (q1 + 1)) = (drpS S x).length := by rw [hS', List.length_append, List.length_take, List.length_drop]; omega
  rw [hlen] at ho2
  obtain ⟨B2, d2, rfl⟩ := own_form ho2
  have hnb2 : ∀ k, (Value.slice B2 (drpS S x).length d2).ownBlock = some k → w.heap.size ≤ k := fun k hk => by
    rcases hat2 with h1 | h1
    · exact hnb1 k (h1.symm.trans hk)
    · rw [h1] at hk; cases hk; exact hE4.le
  have hbl := at_lt hb
  conv => whnf
  refine ⟨rb, 0, _, _, rfl, hE5.at_ hb, Nat.le_of_ble_eq_true rfl, rfl, rfl, fun W6 hW6 => ?_⟩
  conv => whnf
  rw [h0]
  refine ⟨rfl, hW6.chg (hE5.chg F) (.inl ((hF rb).2 (.inl rfl))), fun k => k = rb ∨ (Value.slice B2 (drpS S x).length d2).ownBlock = some k, ⟨_, hW6.at_, own_chg ho2 (put_chg hW6) (fun k hk e1 => by have := hnb2 k hk; omega), ?_, fun k => Iff.rfl⟩, ?_⟩
  · rw [← hlen]; omega
  · rintro k (h1 | h1)
    · exact .inl ((hF k).2 (.inl h1))
    · exact .inr (hnb2 k h1)
theorem build49K (e : El) (w : World) : (Instr.build 49 #[(0, kI e.id), (1, kI e.ref), (2, .int .i64 e.rune)]).run Try.prog w = .ok (elV e) w := build49 _ _ _ _ _ w
theorem fn17 {S : List El} (hok : SOK S) {F : Nat → Prop} {rb : Nat} {w : World} (h : RF w F rb S) (e : El) : Ret Try.prog 17 #[ptr rb, kI e.id, kI e.ref, .int .i64 e.rune] w (RInsQ w F rb (insS S e) (insE S e)) := by
  have hsame : ∀ r, insE S e = r → r ≠ 0 → insS S e = S := fun r h1 h2 => by unfold insS; rw [if_neg (by rw [h1]; exact h2)]
  have hdone : ∀ (k : Int), insE S e = k → k ≠ 0 → ∀ W', Ext w W' → RInsQ w F rb (insS S e) (insE S e) (.int .i64 k) W' := fun k h1 h2 W' hE' => by rw [hsame k h1 h2, h1]; exact RInsQ.not h hE'
  obtain ⟨A, c, hb, hrow, hown, hfew, hc, hF⟩ := h.open
  refine Ret.of_vc tab_ok Try.func17 rfl Try.ntmps17 rfl (Nat.le_of_ble_eq_true rfl) Try.call17 ?_
  conv => whnf
  intro W hW
  have hb5 := hW.at_
  have hE := hW.e
  conv => whnf
  intro W1 hW1
  have hb6 := hW1.at_
  replace hb5 := hW1.e.at_ hb5
  have hb56 := hE.le
  replace hE := hE.tr hW1.e
  clear hW hW1
  generalize hb5n : w.heap.size = b5 at hb5 hb56 ⊢
  generalize hb6n : W.heap.size = b6 at hb6 hb56 ⊢
  conv => whnf
  refine ⟨cI e.ref, rfl, lds hb6 rfl rfl, ?_⟩
  conv => whnf
  refine Run.mk' _ _ (build24_0 W1) ?_
  conv => whnf
  refine ⟨_, eq24 e.ref Idn.z, fun tb htb => ?_⟩
  conv => whnf
  refine ⟨cI e.id, rfl, lds hb5 rfl rfl, ?_⟩
  conv => whnf
  refine (fn48 e.id W1).mono ?_
  rintro _ W2 ⟨he, rfl⟩
  replace hb5 := he.at_ hb5
  replace hb6 := he.at_ hb6
  replace hE := hE.tr he
  clear he
  cases hid : okI e.id
  · conv => whnf
    intro t ht
    obtain rfl : t = true := ht.yes (by decide)
    conv => whnf
    exact hdone 1 (by unfold insE; rw [if_pos (.inl hid)]) (by decide) _ hE
  conv => whnf
  intro t ht
  obtain rfl : t = false := ht.no (by decide)
  --WAYS17
  cases tb
  · have hz : e.ref ≠ Idn.z := by simpa using htb.symm
    have hbad : (e.ref ≠ Idn.z ∧ (okI e.ref = false ∨ e.ref.t ≥ e.id.t)) → insE S e = 1 := fun h1 => by
      unfold insE
      by_cases g : okI e.id = false ∨ okR e.rune = false
      · rw [if_pos g]
      · rw [if_neg g, if_pos h1]
    conv => whnf
    refine ⟨cI e.ref, rfl, lds hb6 rfl rfl, ?_⟩
    conv => whnf
    refine (fn48 e.ref _).mono ?_
    rintro _ W3 ⟨he, rfl⟩
    replace hb5 := he.at_ hb5
    replace hb6 := he.at_ hb6
    replace hE := hE.tr he
    clear he
    cases hir : okI e.ref
    · conv => whnf
      intro t ht
      obtain rfl : t = true := ht.yes (by decide)
      conv => whnf
      exact hdone 1 (hbad ⟨hz, .inl hir⟩) (by decide) _ hE
    conv => whnf
    intro t ht
    obtain rfl : t = false := ht.no (by decide)
    conv => whnf
    refine ⟨.int .i64 e.ref.t, ld hb6 rfl rfl, ?_⟩
    conv => whnf
    refine ⟨.int .i64 e.id.t, ld hb5 rfl rfl, ?_⟩
    conv => whnf
    intro t ht
    cases t <;> simp only [VB] at ht
    case true =>
      conv => whnf
      exact hdone 1 (hbad ⟨hz, .inr ht⟩) (by decide) _ hE
    conv => whnf
    have hn1 : ¬ (e.ref ≠ Idn.z ∧ (okI e.ref = false ∨ e.ref.t ≥ e.id.t)) := fun h1 => by rcases h1.2 with h2 | h2; rw [hir] at h2; cases h2; exact ht h2
    refine (fn49 e.rune _).mono ?_
    rintro _ Wz ⟨hwz, rfl⟩
    subst hwz
    cases hru : okR e.rune
    · conv => whnf
      exact hdone 1 (by unfold insE; rw [if_pos (.inr hru)]) (by decide) _ hE
    conv => whnf
    have hstep1 : ∀ k, (if e.id ∈ ids S then 7 else if e.ref ≠ Idn.z ∧ e.ref ∉ ids S then 6 else if S.length ≥ 4096 then 5 else 0) = k → insE S e = k := fun k hk => by
      unfold insE
      rw [if_neg (by simp [hid, hru]), if_neg hn1]
      exact hk
    refine ⟨cI e.id, rfl, lds hb5 rfl rfl, ?_⟩
    conv => whnf
    refine (fn45 (h.ext hE) e.id).mono ?_
    rintro _ W4 ⟨he, rfl⟩
    replace hb5 := he.at_ hb5
    replace hb6 := he.at_ hb6
    replace hE := hE.tr he
    clear he
    conv => whnf
    intro t ht7
    cases t <;> simp only [VB] at ht7
    case true =>
      have hin : e.id ∈ ids S := Classical.byContradiction fun hn => by have := findI_neg.2 hn; omega
      conv => whnf
      exact hdone 7 (hstep1 7 (by rw [if_pos hin])) (by decide) _ hE
    have hin : e.id ∉ ids S := findI_neg.1 (by omega)
    conv => whnf
    refine ⟨cI e.ref, rfl, lds hb6 rfl rfl, ?_⟩
    conv => whnf
    refine (fn45 (h.ext hE) e.ref).mono ?_
    rintro _ W5 ⟨he, rfl⟩
    replace hb5 := he.at_ hb5
    replace hb6 := he.at_ hb6
    replace hE := hE.tr he
    clear he
    conv => whnf
    intro t ht6
    cases t <;> simp only [VB] at ht6
    case true =>
      conv => whnf
      exact hdone 6 (hstep1 6 (by rw [if_neg hin, if_pos ⟨hz, findI_neg.1 ht6⟩])) (by decide) _ hE
    have hn2 : ¬ (e.ref ≠ Idn.z ∧ e.ref ∉ ids S) := fun h1 => ht6 (findI_neg.2 h1.2)
    conv => whnf
    refine ⟨.slice A S.length c, ld (hE.at_ hb) rfl rfl, ?_⟩
    conv => whnf
    intro t ht5
    cases t <;> simp only [VB] at ht5
    case true =>
      conv => whnf
      exact hdone 5 (hstep1 5 (by rw [if_neg hin, if_neg hn2, if_pos (by omega)])) (by decide) _ hE
    have h0 : insE S e = 0 := hstep1 0 (by rw [if_neg hin, if_neg hn2, if_neg (by omega)])
    have hS' : insS S e = S ++ [e] := by unfold insS; rw [if_pos h0]
    clear hdone hsame hstep1
    conv => whnf
    refine VDraw.mk' tab_ok (Ext W5) [10, 13] (.take 0 <| .take 1 <| .take 2 <| .take 3 <| .take 4 <| .take 5 <| .take 6 <| .take 7 <| .take 8 <| .one 9 <| .one 10 <| .take 11 <| .take 12 <| .one 13 <| .done) mixed (by kernel_rfl) (by kernel_rfl) (Ext.drew _) ?_
    have hd := Ext.drew W5
    generalize W5.drew = Wb at hd
    conv => whnf
    refine ⟨.slice A S.length c, fun w' hs => hs.cell (ld (hE.at_ hb) rfl rfl), ?_⟩
    conv => whnf
    refine ⟨cI e.id, rfl, fun w' hs => lds (hs.at_ hb5) rfl rfl, ?_⟩
    conv => whnf
    refine ⟨cI e.ref, rfl, fun w' hs => lds (hs.at_ hb6) rfl rfl, ?_⟩
    conv => whnf
    refine ⟨_, fun w' => build49K e w', ?_⟩
    conv => whnf
    refine Run.mk' _ _ (slice28_1 e Wb) ?_
    have hN := New.mk' Wb (.cells (cE e).toArray 49)
    generalize Wb.alloc (.cells (cE e).toArray 49) = Wc at hN ⊢
    refine ⟨hd.tr hN.e, ?_⟩
    have hone : Row49 Wc (some ⟨Wb.heap.size, 0, none⟩) 1 [e] := Row.of_at cl49 (by decide) hN.at_ rfl rfl (by decide)
    have hEc := hE.tr (hd.tr hN.e)
    have hoc := own_ext hown hEc
    conv => whnf
    refine run_append inf49 Try.underlying28 rfl (by decide) hoc (hone.rd cl49) (onec49 _) (by simp only [maxLen]; omega) (by omega) (Nat.zero_le _) ?_
    intro v2 Wd ho2 hg2 hat2
    rw [← List.flatMap_append, ← hS'] at ho2
    have hlen : S.length + 1 = (insS S e).length := by rw [hS', List.length_append]; rfl
    rw [hlen] at ho2
    obtain ⟨B2, d2, rfl⟩ := own_form ho2
    have hcg : Chg F w Wd := (hEc.chg F).tr ((grown_chg hg2).mono fun k hk => (hF k).2 (.inr hk))
    have hrbn : (Value.slice A S.length c).ownBlock ≠ some rb := own_ne hown hb (fun cs e1 => by cases e1)
    have hbd : Wd.heap[rb]? = _ := (grown_chg hg2).at_ (hEc.at_ hb) hrbn
    have hrbn2 : (Value.slice B2 (insS S e).length d2).ownBlock ≠ some rb := own_ne ho2 hbd (fun cs e1 => by cases e1)
    conv => whnf
    refine ⟨rb, 0, _, _, rfl, hbd, Nat.le_of_ble_eq_true rfl, rfl, rfl, fun We hWe => ?_⟩
    conv => whnf
    rw [h0]
    refine ⟨rfl, hWe.chg hcg (.inl ((hF rb).2 (.inl rfl))), fun k => k = rb ∨ (Value.slice B2 (insS S e).length d2).ownBlock = some k, ⟨_, hWe.at_, own_chg ho2 (put_chg hWe) (fun k hk e1 => hrbn2 (e1 ▸ hk)), by rw [← hlen]; omega, fun k => Iff.rfl⟩, ?_⟩
    rintro k (h1 | h1)
    · exact .inl ((hF k).2 (.inl h1))
    · rcases hat2 with h2 | h2
      · exact .inl ((hF k).2 (.inr (h2.symm.trans h1)))
      · rw [h2] at h1; cases h1; exact .inr hEc.le
  · have hz : e.ref = Idn.z := by simpa using htb.symm
    conv => whnf
    have hn1 : ¬ (e.ref ≠ Idn.z ∧ (okI e.ref = false ∨ e.ref.t ≥ e.id.t)) := fun h1 => h1.1 hz
    refine (fn49 e.rune _).mono ?_
    rintro _ Wz ⟨hwz, rfl⟩
    subst hwz
    cases hru : okR e.rune
    · conv => whnf
      exact hdone 1 (by unfold insE; rw [if_pos (.inr hru)]) (by decide) _ hE
    conv => whnf
    have hstep1 : ∀ k, (if e.id ∈ ids S then 7 else if e.ref ≠ Idn.z ∧ e.ref ∉ ids S then 6 else if S.length ≥ 4096 then 5 else 0) = k → insE S e = k := fun k hk => by
      unfold insE
      rw [if_neg (by simp [hid, hru]), if_neg hn1]
      exact hk
    refine ⟨cI e.id, rfl, lds hb5 rfl rfl, ?_⟩
    conv => whnf
    refine (fn45 (h.ext hE) e.id).mono ?_
    rintro _ W4 ⟨he, rfl⟩
    replace hb5 := he.at_ hb5
    replace hb6 := he.at_ hb6
    replace hE := hE.tr he
    clear he
    conv => whnf
    intro t ht7
    cases t <;> simp only [VB] at ht7
    case true =>
      have hin : e.id ∈ ids S := Classical.byContradiction fun hn => by have := findI_neg.2 hn; omega
      conv => whnf
      exact hdone 7 (hstep1 7 (by rw [if_pos hin])) (by decide) _ hE
    have hin : e.id ∉ ids S := findI_neg.1 (by omega)
    conv => whnf
    have hn2 : ¬ (e.ref ≠ Idn.z ∧ e.ref ∉ ids S) := fun h1 => h1.1 hz
    refine ⟨.slice A S.length c, ld (hE.at_ hb) rfl rfl, ?_⟩
    conv => whnf
    intro t ht5
    cases t <;> simp only [VB] at ht5
    case true =>
      conv => whnf
      exact hdone 5 (hstep1 5 (by rw [if_neg hin, if_neg hn2, if_pos (by omega)])) (by decide) _ hE
    have h0 : insE S e = 0 := hstep1 0 (by rw [if_neg hin, if_neg hn2, if_neg (by omega)])
    have hS' : insS S e = S ++ [e] := by unfold insS; rw [if_pos h0]
    clear hdone hsame hstep1
    conv => whnf
    refine VDraw.mk' tab_ok (Ext W4) [10, 13] (.take 0 <| .take 1 <| .take 2 <| .take 3 <| .take 4 <| .take 5 <| .take 6 <| .take 7 <| .take 8 <| .one 9 <| .one 10 <| .take 11 <| .take 12 <| .one 13 <| .done) mixed (by kernel_rfl) (by kernel_rfl) (Ext.drew _) ?_
    have hd := Ext.drew W4
    generalize W4.drew = Wb at hd
    conv => whnf
    refine ⟨.slice A S.length c, fun w' hs => hs.cell (ld (hE.at_ hb) rfl rfl), ?_⟩
    conv => whnf
    refine ⟨cI e.id, rfl, fun w' hs => lds (hs.at_ hb5) rfl rfl, ?_⟩
    conv => whnf
    refine ⟨cI e.ref, rfl, fun w' hs => lds (hs.at_ hb6) rfl rfl, ?_⟩
    conv => whnf
    refine ⟨_, fun w' => build49K e w', ?_⟩
    conv => whnf
    refine Run.mk' _ _ (slice28_1 e Wb) ?_
    have hN := New.mk' Wb (.cells (cE e).toArray 49)
    generalize Wb.alloc (.cells (cE e).toArray 49) = Wc at hN ⊢
    refine ⟨hd.tr hN.e, ?_⟩
    have hone : Row49 Wc (some ⟨Wb.heap.size, 0, none⟩) 1 [e] := Row.of_at cl49 (by decide) hN.at_ rfl rfl (by decide)
    have hEc := hE.tr (hd.tr hN.e)
    have hoc := own_ext hown hEc
    conv => whnf
    refine run_append inf49 Try.underlying28 rfl (by decide) hoc (hone.rd cl49) (onec49 _) (by simp only [maxLen]; omega) (by omega) (Nat.zero_le _) ?_
    intro v2 Wd ho2 hg2 hat2
    rw [← List.flatMap_append, ← hS'] at ho2
    have hlen : S.length + 1 = (insS S e).length := by rw [hS', List.length_append]; rfl
    rw [hlen] at ho2
    obtain ⟨B2, d2, rfl⟩ := own_form ho2
    have hcg : Chg F w Wd := (hEc.chg F).tr ((grown_chg hg2).mono fun k hk => (hF k).2 (.inr hk))
    have hrbn : (Value.slice A S.length c).ownBlock ≠ some rb := own_ne hown hb (fun cs e1 => by cases e1)
    have hbd : Wd.heap[rb]? = _ := (grown_chg hg2).at_ (hEc.at_ hb) hrbn
    have hrbn2 : (Value.slice B2 (insS S e).length d2).ownBlock ≠ some rb := own_ne ho2 hbd (fun cs e1 => by cases e1)
    conv => whnf
    refine ⟨rb, 0, _, _, rfl, hbd, Nat.le_of_ble_eq_true rfl, rfl, rfl, fun We hWe => ?_⟩
    conv => whnf
    rw [h0]
    refine ⟨rfl, hWe.chg hcg (.inl ((hF rb).2 (.inl rfl))), fun k => k = rb ∨ (Value.slice B2 (insS S e).length d2).ownBlock = some k, ⟨_, hWe.at_, own_chg ho2 (put_chg hWe) (fun k hk e1 => hrbn2 (e1 ▸ hk)), by rw [← hlen]; omega, fun k => Iff.rfl⟩, ?_⟩
    rintro k (h1 | h1)
    · exact .inl ((hF k).2 (.inl h1))
    · rcases hat2 with h2 | h2
      · exact .inl ((hF k).2 (.inr (h2.symm.trans h1)))
      · rw [h2] at h1; cases h1; exact .inr hEc.le
end Go.Proofs.Ytbkmbignincilaa
