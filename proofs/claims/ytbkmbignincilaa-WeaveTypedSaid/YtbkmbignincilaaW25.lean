/- duetlaw11.WeaveTyped. -/
import Derived.Test.YtbkmbignincilaaW26
namespace Go.Proofs.Ytbkmbignincilaa
open Go Go.VC Go.RowKit
set_option linter.unusedVariables false
set_option linter.unusedSimpArgs false
set_option maxRecDepth 100000

def chE (T s : Int) (i : Nat) : El := ⟨⟨T + (i + 1), s⟩, if i = 0 then Idn.z else ⟨T + i, s⟩, 97⟩
def chain (T s : Int) (n : Nat) : List El := (List.range n).map (chE T s)
theorem chain_succ (T s : Int) (n : Nat) : chain T s (n + 1) = chain T s n ++ [chE T s n] := by simp [chain, List.range_succ]
theorem chain_len (T s : Int) (n : Nat) : (chain T s n).length = n := by simp [chain]
theorem chain_get (T s : Int) {n i : Nat} (h : i < n) : (chain T s n)[i]? = some (chE T s i) := by simp [chain, h]
theorem place_idx {l : List El} (h : (ids l).Nodup) {i : Nat} {a : El} (ha : l[i]? = some a) : placeL l a.id = some i := by
  have hi := (List.getElem?_eq_some_iff.1 ha).1
  unfold placeL
  rw [List.findIdx?_eq_some_iff_getElem]
  refine ⟨hi, by rw [(List.getElem?_eq_some_iff.1 ha).2]; simp, fun j hj => ?_⟩
  simp only [decide_eq_true_eq]
  intro e
  have := ids_inj h (List.getElem?_eq_getElem (show j < l.length by omega)) ha e
  omega
theorem typed_step {S : List El} (h : SOK S) {T s : Int} {k : Nat} {rest : List El} (hown : own S Idn.z = chain T s k ++ rest) (hle : ∀ e ∈ S, e.id.t ≤ T + k) (hT : 0 ≤ T) (hT2 : T + k + 1 ≤ 4294967295) (hs : 0 ≤ s ∧ s ≤ 15) (hlen : S.length < 4096) :
    insE S (chE T s k) = 0 ∧ own (insS S (chE T s k)) Idn.z = chain T s (k + 1) ++ rest := by
  have hni : (chE T s k).id ∉ ids S := fun hm => by
    obtain ⟨a, ha, e1⟩ := List.mem_map.1 hm
    have := hle a ha
    have e2 : a.id = (chE T s k).id := e1
    rw [e2] at this
    simp only [chE] at this
    omega
  have hok1 : okI (chE T s k).id = true := by
    show decide (1 ≤ T + ((k : Int) + 1) ∧ T + ((k : Int) + 1) ≤ 4294967295 ∧ 0 ≤ s ∧ s ≤ 15) = true
    rw [decide_eq_true_eq]
    exact ⟨by omega, by omega, hs.1, hs.2⟩
  have hlast : k ≠ 0 → (own S Idn.z)[k - 1]? = some (chE T s (k - 1)) := fun hk => by
    rw [hown, List.getElem?_append_left (by rw [chain_len]; omega)]
    exact chain_get T s (by omega)
  have hrefid : k ≠ 0 → (chE T s k).ref = (chE T s (k - 1)).id := fun hk => by
    simp only [chE, if_neg hk]
    congr 1
    omega
  have hrefin : k ≠ 0 → chE T s (k - 1) ∈ S := fun hk => (mem_root h).1 (List.mem_of_getElem? (hlast hk))
  have h0 : insE S (chE T s k) = 0 := by
    unfold insE
    rw [if_neg, if_neg, if_neg hni, if_neg, if_neg (by omega)]
    · rintro ⟨h1, h2⟩
      by_cases hk : k = 0
      · exact h1 (by simp [chE, hk])
      · rw [hrefid hk] at h2
        exact h2 (List.mem_map_of_mem (f := fun e : El => e.id) (hrefin hk))
    · rintro ⟨h1, h2⟩
      by_cases hk : k = 0
      · exact h1 (by simp [chE, hk])
      · rw [hrefid hk, h.ok _ (hrefin hk)] at h2
        rcases h2 with h2 | h2
        · cases h2
        · simp only [chE] at h2; omega
    · rw [hok1]; simp [chE]; decide
  refine ⟨h0, ?_⟩
  have hk' := h.ins (chE T s k)
  have hS : insS S (chE T s k) = S ++ [chE T s k] := by unfold insS; rw [if_pos h0]
  have hf := own_ins' h h0
  have hnd := own_ids hk' (x := Idn.z) (.inl rfl)
  have hem : chE T s k ∈ insS S (chE T s k) := by rw [hS]; simp
  have hkid : kidsOf (insS S (chE T s k)) (chE T s k).id = [] := by
    rw [hS, kids_push, if_neg (by rw [hS] at hk'; exact ref_ne hk' (by simp))]
    exact kids_gone h (okI_ne hok1) hni
  have howne : own (insS S (chE T s k)) (chE T s k).id = [] := own_nil_of hk' (.inr (List.mem_map_of_mem (f := fun e : El => e.id) hem)) hkid
  rw [hown] at hf
  rw [chain_succ, List.append_assoc, List.singleton_append]
  generalize he : chE T s k = e at *
  by_cases hk : k = 0
  · subst hk
    have hr : e.ref = Idn.z := by rw [← he]; rfl
    have hpos : posI (kidsOf S Idn.z) e.id = 0 := by
      have : ∀ y ∈ kidsOf S Idn.z, lessI e.id y = false := fun y hy => by
        obtain ⟨a, ha, rfl⟩ := List.mem_map.1 (kid_in hy)
        have h3 := hle a ha
        have h4 : e.id.t = T + 1 := by rw [← he]; simp [chE]
        simp only [lessI, decide_eq_false_iff_not]
        omega
      unfold posI
      cases hkk : kidsOf S Idn.z with
      | nil => rfl
      | cons y r => rw [List.takeWhile_cons, this y (by rw [hkk]; exact List.mem_cons_self ..)]; rfl
    have h5 : own (insS S e) Idn.z = e :: (kidsOf S Idn.z).flatMap (fun y => elOf (insS S e) y :: own (insS S e) y) := by
      rw [own_eq hk' (.inl rfl), hS, kids_push, if_pos hr, insD_new (not_kid hni), hpos, ← hS]
      simp only [List.take_zero, List.nil_append, List.drop_zero, List.flatMap_cons]
      rw [howne, elOf_of hk'.nodup hem]
      rfl
    generalize (kidsOf S Idn.z).flatMap (fun y => elOf (insS S e) y :: own (insS S e) y) = R at h5
    rw [h5] at hf hnd ⊢
    obtain ⟨h6, h7⟩ := List.nodup_cons.1 (show (e.id :: R.map (·.id)).Nodup from hnd)
    rw [List.filter_cons, if_neg (by simp), List.filter_eq_self.2 fun a ha => by rw [decide_eq_true_eq]; exact fun e1 => h6 (e1 ▸ List.mem_map_of_mem (f := fun e : El => e.id) ha)] at hf
    rw [hf]
    rfl
  · obtain ⟨a, ha⟩ : ∃ a, a = chE T s (k - 1) := ⟨_, rfl⟩
    rw [← ha] at hlast hrefid hrefin
    have haS := hrefin hk
    have har := hrefid hk
    have hkn : kidsOf S a.id = [] := by
      cases hkk : kidsOf S a.id with
      | nil => rfl
      | cons y r =>
        exfalso
        have hy : y ∈ kidsOf S a.id := by rw [hkk]; exact List.mem_cons_self ..
        obtain ⟨m1, i1, r1⟩ := elOf_in h hy
        have h3 := ref_lt h m1 r1
        have h4 := hle _ m1
        have h5 : a.id.t = T + k := by rw [ha]; simp only [chE]; omega
        omega
    have haS' : a ∈ insS S e := by rw [hS]; exact List.mem_append_left _ haS
    have hka : own (insS S e) a.id = [e] := by
      rw [own_eq hk' (.inr (List.mem_map_of_mem (f := fun e : El => e.id) haS')), hS, kids_push, if_pos har, hkn, ← hS]
      show [e.id].flatMap _ = [e]
      rw [List.flatMap_cons, howne, elOf_of hk'.nodup hem]
      rfl
    obtain ⟨P, Q, hPQ⟩ := own_infix' hk' haS'
    rw [hka] at hPQ
    have hPQ2 : own (insS S e) Idn.z = (P ++ [a]) ++ e :: Q := by rw [hPQ]; simp
    rw [hPQ2] at hf hnd ⊢
    have hnd2 : ((P ++ [a]).map (·.id) ++ e.id :: Q.map (·.id)).Nodup := by simpa [ids] using hnd
    obtain ⟨g1, g2, g3⟩ := List.nodup_append.1 hnd2
    obtain ⟨g4, g5⟩ := List.nodup_cons.1 g2
    have q1 : (P ++ [a]).filter (fun b => decide (b.id ≠ e.id)) = P ++ [a] := List.filter_eq_self.2 fun b hb => by rw [decide_eq_true_eq]; exact fun e1 => g3 b.id (List.mem_map_of_mem (f := fun e : El => e.id) hb) e.id (List.mem_cons_self ..) e1
    have q2 : Q.filter (fun b => decide (b.id ≠ e.id)) = Q := List.filter_eq_self.2 fun b hb => by rw [decide_eq_true_eq]; exact fun e1 => g4 (e1 ▸ List.mem_map_of_mem (f := fun e : El => e.id) hb)
    rw [List.filter_append, List.filter_cons, if_neg (by simp), q1, q2] at hf
    have hlenP : P.length = k - 1 := by
      have hnd0 := own_ids h (x := Idn.z) (.inl rfl)
      refine ids_inj hnd0 (a := a) (b := a) ?_ (hlast hk) rfl
      rw [hown, ← hf]
      simp
    have hs1 : P ++ [a] = chain T s k ∧ Q = rest := List.append_inj hf (by rw [chain_len]; simp; omega)
    rw [hs1.1, hs1.2]

set_option maxHeartbeats 8000000
theorem fn7 {w : World} {A : Option Addr} {n c : Nat} {zs : List Op1} (h : Row32 w A n zs) (N s : Int) (hNw : wfI N) (hsw : wfI s) : Ret Try.prog 7 #[.slice A n c, .int .i64 N, .int .i64 s] w fun v W => Ext w W ∧ v = .bool true := by
  have hl := h.len
  have hsm := h.small
  have hlive : ∀ {W : World}, Ext w W → Ret Try.prog 27 #[] W fun v W' => Ext w W' ∧ v = .bool true := fun he => live_end he
  refine Ret.of_vc tab_ok Try.func7 rfl Try.ntmps7 rfl (Nat.le_of_ble_eq_true rfl) Try.call7 ?_
  conv => whnf
  intro t ht1
  cases t <;> simp only [VB] at ht1
  case true =>
    conv => whnf
    refine (hlive (Ext.refl w)).mono ?_
    rintro _ We ⟨he, rfl⟩
    conv => whnf
    exact ⟨he, rfl⟩
  conv => whnf
  intro t ht2
  cases t <;> simp only [VB] at ht2
  case true =>
    conv => whnf
    refine (hlive (Ext.refl w)).mono ?_
    rintro _ We ⟨he, rfl⟩
    conv => whnf
    exact ⟨he, rfl⟩
  conv => whnf
  intro t ht3
  cases t <;> simp only [VB] at ht3
  case true =>
    conv => whnf
    refine (hlive (Ext.refl w)).mono ?_
    rintro _ We ⟨he, rfl⟩
    conv => whnf
    exact ⟨he, rfl⟩
  conv => whnf
  intro t ht4
  cases t <;> simp only [VB] at ht4
  case true =>
    conv => whnf
    refine (hlive (Ext.refl w)).mono ?_
    rintro _ We ⟨he, rfl⟩
    conv => whnf
    exact ⟨he, rfl⟩
  conv => whnf
  intro t ht5
  cases t <;> simp only [VB] at ht5
  case true =>
    conv => whnf
    refine (hlive (Ext.refl w)).mono ?_
    rintro _ We ⟨he, rfl⟩
    conv => whnf
    exact ⟨he, rfl⟩
  obtain ⟨M, rfl⟩ : ∃ M : Nat, N = M := ⟨N.toNat, by omega⟩
  conv => whnf
  refine (xNew (Ext.refl w)).mono ?_
  rintro _ W ⟨b, B, rfl, hx⟩
  conv => whnf
  refine VLoop.mk' tab_ok (X := Nat × List El × (Nat → Prop) × Int) (fun p => [(0, .slice A n c), (1, .int .i64 M), (2, .int .i64 s), (7, ptr b), (8, .int .i64 p.2.2.2), (9, .int .i64 p.1), (6, .bool false)])
    (fun p W => LX w W p.2.2.1 b p.2.1 ∧ p.1 ≤ n ∧ p.2.1.length ≤ p.1 ∧ 0 ≤ p.2.2.2 ∧ p.2.2.2 ≤ 4294967295 ∧ ∀ e ∈ p.2.1, e.id.t ≤ p.2.2.2) (fun p _ => n - p.1) (0, [], B, 0) ⟨rfl, rfl, rfl, rfl, rfl, rfl, rfl, trivial⟩ ⟨hx, Nat.zero_le _, Nat.le_refl _, Int.le_refl 0, (by decide : (0 : Int) ≤ 4294967295), fun e he => (by cases he)⟩ ?_
  rintro ⟨i, S, B, T⟩ j Wi ⟨hx, hin, hSi, hT0, hT1, hST⟩
  dsimp only at hx hin hSi hT0 hT1 hST
  conv => whnf
  intro t ht
  cases t <;> simp only [VB] at ht
  case true =>
    have hi : i < n := by omega
    conv => whnf
    obtain ⟨a0, hk0, hA, hcell0⟩ := h.at_ hi
    obtain ⟨o, ho⟩ : ∃ o, o = zs[i] := ⟨_, rfl⟩
    rw [← ho] at hcell0
    have hcell := hcell0.ext hx.ext
    refine VDraw.mk' tab_ok (Ext Wi) [16] (.take 0 <| .take 1 <| .take 2 <| .take 3 <| .take 4 <| .take 5 <| .take 6 <| .take 7 <| .take 8 <| .take 9 <| .take 10 <| .take 11 <| .take 12 <| .take 13 <| .take 14 <| .take 15 <| .one 16 <| .done) mixed (by kernel_rfl) (by kernel_rfl) (Ext.drew _) ?_
    have hd := Ext.drew Wi
    generalize Wi.drew = Wd at hd
    conv => whnf
    refine ⟨by omega, by omega, a0, hA, ?_⟩
    conv => whnf
    refine ⟨cI o.e.id, rfl, fun w' hs => (hcell.ext hs).sub 1 rfl, ?_⟩
    conv => whnf
    refine ⟨by omega, by omega, a0, hA, ?_⟩
    conv => whnf
    refine ⟨cI o.e.ref, rfl, fun w' hs => (hcell.ext hs).sub 3 rfl, ?_⟩
    conv => whnf
    refine ⟨by omega, by omega, a0, hA, ?_⟩
    conv => whnf
    refine ⟨.int .i64 o.e.rune, fun w' hs => (hcell.ext hs).one 5 rfl, ?_⟩
    conv => whnf
    refine (xInsert (hx.go hd) o.e).mono ?_
    rintro _ W4 ⟨rfl, hc, B', hx', _⟩
    have hS'len : (insS S o.e).length ≤ i + 1 := by
      unfold insS
      split
      · rw [List.length_append]; simp; omega
      · omega
    have hcell4 := hcell0.ext hx'.ext
    conv => whnf
    refine ⟨by omega, by omega, a0, hA, ?_⟩
    conv => whnf
    refine ⟨cI o.e.id, rfl, hcell4.sub 1 rfl, ?_⟩
    conv => whnf
    refine (fn29 o.e.id _).mono ?_
    rintro _ W5 ⟨he5, rfl⟩
    have hx5 := hx'.go he5
    have hcell5 := hcell4.ext he5
    cases hok : okI o.e.id
    · conv => whnf
      intro t ht
      obtain rfl : t = false := ht.no (by decide)
      conv => whnf
      intro r hr
      obtain rfl : r = ((i + 1 : Nat) : Int) := by rw [hr, wrap_id (by omega) (by omega)]; rfl
      clear hr
      conv => whnf
      refine ⟨(i + 1, insS S o.e, B', T), ⟨rfl, rfl, rfl, rfl, rfl, rfl, rfl, trivial⟩, ⟨hx5, by dsimp only; omega, hS'len, hT0, hT1, ?_⟩, by dsimp only; omega⟩
      have : insS S o.e = S := by
        unfold insS
        rw [if_neg]
        unfold insE
        rw [if_pos (.inl hok)]
        decide
      dsimp only
      rw [this]
      exact hST
    · have hok2 := hok
      simp only [okI, decide_eq_true_eq] at hok2
      conv => whnf
      intro t ht
      obtain rfl : t = true := ht.yes (by decide)
      conv => whnf
      refine ⟨by omega, by omega, a0, hA, ?_⟩
      conv => whnf
      refine ⟨.int .i64 o.e.id.t, (hcell5.sub (us := [.int .i64 o.e.id.t]) 1 rfl).one 0 rfl, ?_⟩
      conv => whnf
      intro T2 hT2
      dsimp only at hT2
      have hTa : T ≤ T2 ∧ o.e.id.t ≤ T2 ∧ T2 ≤ 4294967295 := by rw [hT2]; refine ⟨?_, ?_, ?_⟩ <;> split <;> omega
      clear hT2
      conv => whnf
      intro r hr
      obtain rfl : r = ((i + 1 : Nat) : Int) := by rw [hr, wrap_id (by omega) (by omega)]; rfl
      clear hr
      conv => whnf
      refine ⟨(i + 1, insS S o.e, B', T2), ⟨rfl, rfl, rfl, rfl, rfl, rfl, rfl, trivial⟩, ⟨hx5, by dsimp only; omega, hS'len, (by dsimp only; omega), hTa.2.2, fun a ha => ?_⟩, by dsimp only; omega⟩
      dsimp only at ha ⊢
      unfold insS at ha
      split at ha
      · rcases List.mem_append.1 ha with ha | ha
        · have := hST a ha; omega
        · rw [List.mem_singleton] at ha; subst ha; exact hTa.2.1
      · have := hST a ha; omega
  case false =>
  conv => whnf
  intro t htb
  cases t <;> simp only [VB] at htb
  case true =>
    conv => whnf
    refine (hlive hx.ext).mono ?_
    rintro _ We ⟨he, rfl⟩
    conv => whnf
    exact ⟨he, rfl⟩
  conv => whnf
  refine Run.mk' _ _ (build24_0 _) ?_
  conv => whnf
  intro W2 hW2
  conv => whnf
  refine ⟨Wi.heap.size, 0, _, _, rfl, hW2.at_, Nat.le_of_ble_eq_true rfl, rfl, rfl, fun W3 hW3 => ?_⟩
  have hE : Ext Wi W3 := hW3.e hW2.e (Nat.le_refl _)
  have hb10 : W3.heap[Wi.heap.size]? = some (.cells #[.int .i64 0, .int .i64 0] 24 (0, 0)) := hW3.at_
  have hbn : ¬ B Wi.heap.size := fun hf => by have := hx.line.lt hf; omega
  have hbw : w.heap.size ≤ Wi.heap.size := hx.ext.le
  replace hx := hx.go hE
  clear hW2 hW3 hE
  generalize Wi.heap.size = b10 at hb10 hbn hbw ⊢
  obtain ⟨rest, hrest⟩ : ∃ rest, rest = own S Idn.z := ⟨_, rfl⟩
  conv => whnf
  refine VLoop.mk' tab_ok (X := Nat × List El × (Nat → Prop)) (fun p => [(1, .int .i64 M), (2, .int .i64 s), (7, ptr b), (8, .int .i64 T), (10, ptr b10), (11, .int .i64 (p.1 + 1 : Nat)), (6, .bool false)])
    (fun p W => p.1 ≤ M ∧ LX w W p.2.2 b p.2.1 ∧ ¬ p.2.2 b10 ∧ p.2.1.length ≤ n + p.1 ∧ own p.2.1 Idn.z = chain T s p.1 ++ rest ∧ (∀ e ∈ p.2.1, e.id.t ≤ T + p.1) ∧
      W.heap[b10]? = some (.cells #[.int .i64 (if p.1 = 0 then Idn.z else ⟨T + p.1, s⟩ : Idn).t, .int .i64 (if p.1 = 0 then Idn.z else ⟨T + p.1, s⟩ : Idn).s] 24 (0, 0))) (fun p _ => M - p.1) (0, S, B)
    ⟨rfl, rfl, rfl, rfl, rfl, rfl, rfl, trivial⟩ ⟨Nat.zero_le _, hx, hbn, by simp only; omega, by simp [chain, hrest], by simpa using hST, hb10⟩ ?_
  clear hrest hST hx hbn hSi hin hb10 ht j
  rintro ⟨k, S2, B2⟩ j W4 ⟨hkM, hx, hbn, hlen, hown, hle, hb10⟩
  dsimp only at hkM hx hbn hlen hown hle hb10
  conv => whnf
  intro t ht
  cases t <;> simp only [VB] at ht
  case true =>
    obtain ⟨k0, kown⟩ := typed_step hx.line.ok hown hle hT0 (by omega) (by omega) (by omega)
    conv => whnf
    intro r hr
    obtain rfl : r = T + ((k : Int) + 1) := by rw [hr, wrap_id (by omega) (by omega)]; omega
    clear hr
    conv => whnf
    refine (fn30 _ s _).mono ?_
    rintro _ W5 ⟨he5, rfl⟩
    conv => whnf
    intro W6 hW6
    conv => whnf
    refine ⟨W5.heap.size, 0, _, _, rfl, hW6.at_, Nat.le_of_ble_eq_true rfl, rfl, rfl, fun W7 hW7 => ?_⟩
    have hE57 : Ext W5 W7 := hW7.e hW6.e (Nat.le_refl _)
    have hb12 : W7.heap[W5.heap.size]? = some (.cells #[.int .i64 (T + ((k : Int) + 1)), .int .i64 s] 24 (0, 0)) := hW7.at_
    have hb12n : ¬ B2 W5.heap.size := fun hf => by have := (hx.go he5).line.lt hf; omega
    have hb1210 : b10 ≠ W5.heap.size := fun e1 => by have := at_lt (he5.at_ hb10); omega
    replace hx := hx.go (he5.tr hE57)
    replace hb10 := (he5.tr hE57).at_ hb10
    clear hW6 hW7 he5 hE57
    generalize W5.heap.size = b12 at hb12 hb12n hb1210 ⊢
    conv => whnf
    refine ⟨cI (chE T s k).id, rfl, lds hb12 rfl rfl, ?_⟩
    conv => whnf
    refine ⟨cI (chE T s k).ref, rfl, lds hb10 rfl rfl, ?_⟩
    conv => whnf
    refine (xInsert hx (chE T s k)).mono ?_
    rintro _ W8 ⟨rfl, hc, B3, hx3, hB3⟩
    rw [k0]
    have hb10l := at_lt hb10
    replace hb10 := hc.at_ hb10 hbn
    replace hb12 := hc.at_ hb12 hb12n
    have hbn3 : ¬ B3 b10 := fun hf => by
      rcases hB3 _ hf with h1 | h1
      · exact hbn h1
      · omega
    conv => whnf
    intro t ht
    obtain rfl : t = false := ht.no (by decide)
    conv => whnf
    refine ⟨cI (chE T s k).id, rfl, lds hb12 rfl rfl, ?_⟩
    conv => whnf
    refine ⟨b10, 0, _, _, rfl, hb10, Nat.le_of_ble_eq_true rfl, rfl, rfl, fun W9 hW9 => ?_⟩
    conv => whnf
    intro r hr
    obtain rfl : r = ((k + 1 + 1 : Nat) : Int) := by rw [hr, wrap_id (by omega) (by omega)]; rfl
    clear hr
    conv => whnf
    have hlen3 : (insS S2 (chE T s k)).length ≤ S2.length + 1 := by unfold insS; split <;> simp
    refine ⟨(k + 1, insS S2 (chE T s k), B3), ⟨rfl, rfl, rfl, rfl, rfl, rfl, rfl, trivial⟩, ⟨by dsimp only; omega, ?_, hbn3, by dsimp only; omega, kown, fun a ha => ?_, ?_⟩, by dsimp only; omega⟩
    · exact ⟨hx3.line.chg (put_chg hW9) (fun i e1 hf => hbn3 (e1 ▸ hf)), hW9.e hx3.ext hbw, hx3.low⟩
    · dsimp only at ha ⊢
      rw [show insS S2 (chE T s k) = S2 ++ [chE T s k] by unfold insS; rw [if_pos k0]] at ha
      rcases List.mem_append.1 ha with ha | ha
      · have := hle a ha; omega
      · rw [List.mem_singleton] at ha; subst ha; simp only [chE]; omega
    · dsimp only
      rw [if_neg (by omega)]
      exact hW9.at_
  case false =>
  obtain rfl : k = M := by omega
  conv => whnf
  have hndo := own_ids hx.line.ok (x := Idn.z) (.inl rfl)
  have hplace : ∀ q : Nat, q < k → placeL (own S2 Idn.z) ⟨T + ((q : Int) + 1), s⟩ = some q := fun q hq => by
    refine place_idx (a := chE T s q) hndo ?_
    rw [hown, List.getElem?_append_left (by rw [chain_len]; exact hq)]
    exact chain_get T s hq
  intro r hr
  obtain rfl : r = T + (((0 : Nat) : Int) + 1) := by rw [hr, wrap_id (by omega) (by omega)]; omega
  clear hr
  conv => whnf
  refine (fn30 _ s _).mono ?_
  rintro _ W5 ⟨he5, rfl⟩
  replace hx := hx.go he5
  conv => whnf
  refine (wPlace hx.line ⟨T + (((0 : Nat) : Int) + 1), s⟩).mono ?_
  rintro _ W6 ⟨he6, rfl⟩
  replace hx := hx.go he6
  unfold placeV
  rw [hplace 0 (by omega)]
  conv => whnf
  refine VLoop.mk' tab_ok (X := Nat) (fun q => [(1, .int .i64 k), (2, .int .i64 s), (7, ptr b), (8, .int .i64 T), (13, .int .i64 ((0 : Nat) : Int)), (15, .int .i64 (q + 1 : Nat)), (6, .bool false)])
    (fun q W => q ≤ k ∧ LX w W B2 b S2) (fun q _ => k - q) 0 ⟨rfl, rfl, rfl, rfl, rfl, rfl, rfl, trivial⟩ ⟨Nat.zero_le _, hx⟩ ?_
  clear hx
  rintro q j2 W7 ⟨hqk, hx⟩
  conv => whnf
  intro t htq
  cases t <;> simp only [VB] at htq
  case true =>
    have hq : q < k := by omega
    conv => whnf
    intro r hr
    obtain rfl : r = T + ((q : Int) + 1) := by rw [hr, wrap_id (by omega) (by omega)]; omega
    clear hr
    conv => whnf
    refine (fn30 _ s _).mono ?_
    rintro _ W8 ⟨he8, rfl⟩
    replace hx := hx.go he8
    conv => whnf
    refine (wPlace hx.line ⟨T + ((q : Int) + 1), s⟩).mono ?_
    rintro _ W9 ⟨he9, rfl⟩
    replace hx := hx.go he9
    unfold placeV
    rw [hplace q hq]
    conv => whnf
    intro r hr
    obtain rfl : r = ((q + 1 : Nat) : Int) := by rw [hr, wrap_id (by omega) (by omega)]; omega
    clear hr
    conv => whnf
    intro r hr
    obtain rfl : r = ((q : Nat) : Int) := by rw [hr, wrap_id (by omega) (by omega)]; omega
    clear hr
    conv => whnf
    intro t ht
    obtain rfl : t = false := ht.no (by simp)
    conv => whnf
    intro r hr
    obtain rfl : r = ((q + 1 + 1 : Nat) : Int) := by rw [hr, wrap_id (by omega) (by omega)]; rfl
    clear hr
    conv => whnf
    exact ⟨q + 1, ⟨rfl, rfl, rfl, rfl, rfl, rfl, rfl, trivial⟩, ⟨by omega, hx⟩, by omega⟩
  case false =>
  conv => whnf
  intro t ht
  obtain rfl : t = true := ht.yes (by decide)
  conv => whnf
  refine (hlive hx.ext).mono ?_
  rintro _ We ⟨he, rfl⟩
  conv => whnf
  exact ⟨he, rfl⟩
end Go.Proofs.Ytbkmbignincilaa
