/- How a line's order changes. -/
import Derived.Test.YtbkmbignincilaaW13
import Derived.Test.YtbkmbignincilaaW14
namespace Go.Proofs.Ytbkmbignincilaa
open Go Go.VC Go.RowKit
set_option linter.unusedVariables false
set_option linter.unusedSimpArgs false

theorem flatMap_congr' {α β : Type} {l : List α} {f g : α → List β} (h : ∀ a ∈ l, f a = g a) : l.flatMap f = l.flatMap g := by
  induction l with
  | nil => rfl
  | cons a l ih => rw [List.flatMap_cons, List.flatMap_cons, h a (List.mem_cons_self ..), ih fun b hb => h b (List.mem_cons_of_mem _ hb)]
theorem filter_flatMap' {α β : Type} {l : List α} {f : α → List β} {p : β → Bool} : (l.flatMap f).filter p = l.flatMap fun a => (f a).filter p := by
  induction l with
  | nil => rfl
  | cons a l ih => rw [List.flatMap_cons, List.filter_append, ih, List.flatMap_cons]
theorem flatMap_filter' {α β : Type} {l : List α} {f : α → List β} {q : α → Bool} (h : ∀ a ∈ l, q a = false → f a = []) : (l.filter q).flatMap f = l.flatMap f := by
  induction l with
  | nil => rfl
  | cons a l ih =>
    have ih := ih fun b hb => h b (List.mem_cons_of_mem _ hb)
    rw [List.filter_cons, List.flatMap_cons]
    cases hq : q a
    · rw [h a (List.mem_cons_self ..) hq]; simpa using ih
    · simp only [if_true, List.flatMap_cons, ih]
theorem own_nil_of {S : List El} (h : SOK S) {x : Idn} (hx : x = Idn.z ∨ x ∈ ids S) (hk : kidsOf S x = []) : own S x = [] := by rw [own_eq h hx, hk]; rfl

/-- The same elements, the same order. -/
theorem own_congr {S T : List El} (h : SOK S) (k : SOK T) (he : ∀ e, e ∈ S ↔ e ∈ T) : ∀ (n : Nat) (x : Idn), gt S x ≤ n → (x = Idn.z ∨ x ∈ ids S) → own S x = own T x := by
  have hids : ∀ x, x ∈ ids S ↔ x ∈ ids T := fun x => by
    constructor
    · intro hx; obtain ⟨e, h1, rfl⟩ := List.mem_map.1 hx; exact List.mem_map_of_mem (f := fun e : El => e.id) ((he e).1 h1)
    · intro hx; obtain ⟨e, h1, rfl⟩ := List.mem_map.1 hx; exact List.mem_map_of_mem (f := fun e : El => e.id) ((he e).2 h1)
  have hkid : ∀ x, kidsOf S x = kidsOf T x := fun x => desc_ext (desc_kids _ _) (desc_kids _ _) fun y => by
    rw [mem_kids, mem_kids]
    exact ⟨fun ⟨e, a, b⟩ => ⟨e, (he e).1 a, b⟩, fun ⟨e, a, b⟩ => ⟨e, (he e).2 a, b⟩⟩
  intro n
  induction n using Nat.strongRecOn with
  | _ n ih =>
    intro x hn hx
    rw [own_eq h hx, own_eq k (hx.imp id (hids x).1), ← hkid x]
    refine flatMap_congr' fun y hy => ?_
    have hg := gt_kid h hx hy
    obtain ⟨m1, i1, r1⟩ := elOf_in h hy
    have e1 : elOf S y = elOf T y := by
      have := elOf_of k.nodup ((he _).1 m1)
      rw [i1] at this
      exact this.symm
    rw [e1, ih (gt S y) (by omega) y (Nat.le_refl _) (.inr (kid_in hy))]
theorem own_congr' {S T : List El} (h : SOK S) (k : SOK T) (he : ∀ e, e ∈ S ↔ e ∈ T) : own S Idn.z = own T Idn.z := own_congr h k he _ _ (Nat.le_refl _) (.inl rfl)

section
variable {S : List El} (h : SOK S)
include h
theorem kids_gone {x : Idn} (h0 : x ≠ Idn.z) (hx : x ∉ ids S) : kidsOf S x = [] := by
  cases hk : kidsOf S x with
  | nil => rfl
  | cons y r =>
    exfalso
    obtain ⟨e, he, h1, _⟩ := mem_kids.1 (show y ∈ kidsOf S x by rw [hk]; exact List.mem_cons_self ..)
    rcases h.ref e he with h2 | ⟨h2, _⟩
    · exact h0 (h1.symm.trans h2)
    · exact hx (h1 ▸ h2)
theorem elOf_push {e : El} (hk : SOK (S ++ [e])) {y : Idn} (hy : y ∈ ids S) : elOf (S ++ [e]) y = elOf S y := by
  obtain ⟨a, ha, rfl⟩ := List.mem_map.1 hy
  rw [elOf_of h.nodup ha, elOf_of hk.nodup (List.mem_append_left _ ha)]
theorem ref_ne {e : El} (he : e ∈ S) : e.ref ≠ e.id := fun e1 => by
  have := ref_lt h he rfl
  rw [e1] at this
  omega
/-- Behind an insert: but for the new element the order is as it was. -/
theorem own_ins {e : El} (h0 : insE S e = 0) (hk : SOK (S ++ [e])) : ∀ (n : Nat) (x : Idn), gt (S ++ [e]) x ≤ n → (x = Idn.z ∨ x ∈ ids S) → (own (S ++ [e]) x).filter (fun a => decide (a.id ≠ e.id)) = own S x := by
  obtain ⟨i1, i2, i3, i4, i5⟩ := insE_zero h0
  have hem : e ∈ S ++ [e] := by simp
  have hek : kidsOf (S ++ [e]) e.id = [] := by
    rw [kids_push, if_neg (ref_ne hk hem)]
    exact kids_gone h (okI_ne i1) i4
  have heo : own (S ++ [e]) e.id = [] := own_nil_of hk (.inr (List.mem_map_of_mem (f := fun e : El => e.id) hem)) hek
  have hel : elOf (S ++ [e]) e.id = e := elOf_of hk.nodup hem
  intro n
  induction n using Nat.strongRecOn with
  | _ n ih =>
    intro x hn hx
    have hx' : x = Idn.z ∨ x ∈ ids (S ++ [e]) := hx.imp id fun hm => by simp [ids] at hm ⊢; exact .inl hm
    have one : ∀ y ∈ kidsOf S x, (elOf (S ++ [e]) y :: own (S ++ [e]) y).filter (fun a => decide (a.id ≠ e.id)) = elOf S y :: own S y := fun y hy => by
      have hys := kid_in hy
      have hyk : y ∈ kidsOf (S ++ [e]) x := by
        rw [kids_push]
        split
        · exact mem_insD.2 (.inr hy)
        · exact hy
      have hg := gt_kid hk hx' hyk
      have hne : y ≠ e.id := fun e1 => i4 (e1 ▸ hys)
      rw [List.filter_cons, elOf_push h hk hys, if_pos (by rw [(elOf_in h hy).2.1]; simpa using hne), ih (gt (S ++ [e]) y) (by omega) y (Nat.le_refl _) (.inr hys)]
    rw [own_eq hk hx', own_eq h hx, filter_flatMap', kids_push]
    split
    · rw [insD_new (not_kid i4), List.flatMap_append, List.flatMap_cons, hel, heo]
      have : ([e] : List El).filter (fun a => decide (a.id ≠ e.id)) = [] := by simp
      rw [this, List.nil_append, ← List.flatMap_append, List.take_append_drop]
      exact flatMap_congr' one
    · exact flatMap_congr' one
theorem own_ins' {e : El} (h0 : insE S e = 0) : (own (insS S e) Idn.z).filter (fun a => decide (a.id ≠ e.id)) = own S Idn.z := by
  have hk := h.ins e
  rw [show insS S e = S ++ [e] by unfold insS; rw [if_pos h0]] at hk ⊢
  exact own_ins h h0 hk _ _ (Nat.le_refl _) (.inl rfl)
/-- Behind a drop: but for the dropped element the order is as it was. -/
theorem own_drp {x : Idn} (h0 : drpE S x = 0) : ∀ (n : Nat) (y : Idn), gt S y ≤ n → (y = Idn.z ∨ y ∈ ids S) → y ≠ x → own (drpS S x) y = (own S y).filter (fun a => decide (a.id ≠ x)) := by
  obtain ⟨hx, hkx⟩ := drpE_zero h0
  have hk := h.drp x
  have hS : drpS S x = S.filter (fun e => decide (e.id ≠ x)) := by unfold drpS; rw [if_pos h0]
  have hids : ∀ y, y ∈ ids S → y ≠ x → y ∈ ids (drpS S x) := fun y hy hne => by
    obtain ⟨a, ha, rfl⟩ := List.mem_map.1 hy
    rw [hS]
    exact List.mem_map_of_mem (f := fun e : El => e.id) (List.mem_filter.2 ⟨ha, by simpa using hne⟩)
  intro n
  induction n using Nat.strongRecOn with
  | _ n ih =>
    intro y hn hy hyx
    rw [own_eq hk (hy.imp id fun hm => hids y hm hyx), own_eq h hy, filter_flatMap', kids_drop h h0]
    have h1 : (kidsOf S y).flatMap (fun a => (elOf S a :: own S a).filter fun a => decide (a.id ≠ x)) = ((kidsOf S y).filter (fun z => decide (z ≠ x))).flatMap (fun a => (elOf S a :: own S a).filter fun a => decide (a.id ≠ x)) := by
      refine (flatMap_filter' fun a ha hq => ?_).symm
      have : a = x := by simpa using hq
      subst this
      rw [own_nil_of h (.inr hx) hkx, List.filter_cons, if_neg (by rw [(elOf_in h ha).2.1]; simp)]
      rfl
    rw [h1]
    refine flatMap_congr' fun a ha => ?_
    obtain ⟨ha1, ha2⟩ := List.mem_filter.1 ha
    have hax : a ≠ x := by simpa using ha2
    have hg := gt_kid h hy ha1
    obtain ⟨m1, i1, r1⟩ := elOf_in h ha1
    have he1 : elOf (drpS S x) a = elOf S a := by
      have hm : elOf S a ∈ drpS S x := by rw [hS]; exact List.mem_filter.2 ⟨m1, by rw [i1]; simpa using hax⟩
      have := elOf_of hk.nodup hm
      rw [i1] at this
      exact this
    rw [List.filter_cons, if_pos (by rw [i1]; simpa using hax), he1, ih (gt S a) (by omega) a (Nat.le_refl _) (.inr (kid_in ha1)) hax]
theorem own_drp' {x : Idn} (h0 : drpE S x = 0) : own (drpS S x) Idn.z = (own S Idn.z).filter (fun a => decide (a.id ≠ x)) := by
  obtain ⟨hx, _⟩ := drpE_zero h0
  obtain ⟨a, ha, rfl⟩ := List.mem_map.1 hx
  exact own_drp h h0 _ _ (Nat.le_refl _) (.inl rfl) (fun e => okI_ne (h.ok a ha) e.symm)
/-- Behind each element stands what is its own. -/
theorem own_infix : ∀ (n : Nat) (x : Idn), gt S x ≤ n → (x = Idn.z ∨ x ∈ ids S) → ∀ a ∈ own S x, ∃ P Q, own S x = P ++ (a :: own S a.id) ++ Q := by
  intro n
  induction n using Nat.strongRecOn with
  | _ n ih =>
    intro x hn hx a ha
    have hoe := own_eq h hx
    rw [hoe, List.mem_flatMap] at ha
    obtain ⟨y, hy, ha⟩ := ha
    have hg := gt_kid h hx hy
    obtain ⟨A, B, hAB⟩ := List.append_of_mem hy
    rw [hoe, hAB, List.flatMap_append, List.flatMap_cons]
    rcases List.mem_cons.1 ha with rfl | ha
    · rw [(elOf_in h hy).2.1]
      exact ⟨A.flatMap (fun y => elOf S y :: own S y), B.flatMap (fun y => elOf S y :: own S y), by simp⟩
    · obtain ⟨P, Q, e⟩ := ih (gt S y) (by omega) y (Nat.le_refl _) (.inr (kid_in hy)) a ha
      rw [e]
      exact ⟨A.flatMap (fun y => elOf S y :: own S y) ++ elOf S y :: P, Q ++ B.flatMap (fun y => elOf S y :: own S y), by simp⟩
theorem own_infix' {a : El} (ha : a ∈ S) : ∃ P Q, own S Idn.z = P ++ (a :: own S a.id) ++ Q := own_infix h _ _ (Nat.le_refl _) (.inl rfl) a ((mem_root h).2 ha)
/-- What an insert does to the order: the new one stands at some place; a ref that is there stands ahead of it. -/
theorem ins_at {e : El} (h0 : insE S e = 0) : ∃ i, i ≤ (own S Idn.z).length ∧ own (insS S e) Idn.z = (own S Idn.z).take i ++ e :: (own S Idn.z).drop i ∧ e.id ∉ ids (own S Idn.z) ∧ (e.ref ≠ Idn.z → ∃ j, j < i ∧ placeL (own (insS S e) Idn.z) e.ref = some j) := by
  obtain ⟨i1, i2, i3, i4, i5⟩ := insE_zero h0
  have hk := h.ins e
  have hS : insS S e = S ++ [e] := by unfold insS; rw [if_pos h0]
  have hem : e ∈ insS S e := by rw [hS]; simp
  have hmem := (mem_root hk).2 hem
  have hf := own_ins' h h0
  have hnd := own_ids hk (x := Idn.z) (.inl rfl)
  have hni : e.id ∉ ids (own S Idn.z) := fun hm => by
    obtain ⟨a, ha, e1⟩ := List.mem_map.1 hm
    exact i4 (e1 ▸ List.mem_map_of_mem (f := fun e : El => e.id) ((mem_root h).1 ha))
  have split : ∀ P Q, own (insS S e) Idn.z = P ++ e :: Q → own S Idn.z = P ++ Q := fun P Q hPQ => by
    rw [hPQ] at hf hnd
    rw [← hf, List.filter_append, List.filter_cons, if_neg (by simp)]
    have hnd2 : (P.map (·.id) ++ e.id :: Q.map (·.id)).Nodup := by simpa [ids] using hnd
    obtain ⟨h1, h2, h3⟩ := List.nodup_append.1 hnd2
    obtain ⟨h4, h5⟩ := List.nodup_cons.1 h2
    rw [List.filter_eq_self.2 fun a ha => ?_, List.filter_eq_self.2 fun a ha => ?_]
    · rw [decide_eq_true_eq]; exact fun e1 => h4 (e1 ▸ List.mem_map_of_mem (f := fun e : El => e.id) ha)
    · rw [decide_eq_true_eq]; exact fun e1 => h3 a.id (List.mem_map_of_mem (f := fun e : El => e.id) ha) e.id (List.mem_cons_self ..) e1
  by_cases hz : e.ref = Idn.z
  · obtain ⟨P, Q, hPQ⟩ := List.append_of_mem hmem
    have hs := split P Q hPQ
    refine ⟨P.length, by rw [hs]; simp, ?_, hni, fun hn => absurd hz hn⟩
    rw [hs, hPQ]
    simp
  · have hr : e.ref ∈ ids S := by rcases i3 with h1 | ⟨h1, _⟩; exact absurd h1 hz; exact h1
    obtain ⟨a, ha, hae⟩ := List.mem_map.1 hr
    have hae' : a.id = e.ref := hae
    have ha' : a ∈ insS S e := by rw [hS]; exact List.mem_append_left _ ha
    obtain ⟨P, Q, hPQ⟩ := own_infix' hk ha'
    have hea : e ∈ own (insS S e) a.id := (mem_own' hk (.inr (List.mem_map_of_mem (f := fun e : El => e.id) ha'))).2 (.kid hem hae'.symm)
    obtain ⟨P2, Q2, hPQ2⟩ := List.append_of_mem hea
    rw [hPQ2] at hPQ
    have hPQ3 : own (insS S e) Idn.z = (P ++ a :: P2) ++ e :: (Q2 ++ Q) := by rw [hPQ]; simp
    have hs := split _ _ hPQ3
    refine ⟨(P ++ a :: P2).length, by rw [hs]; simp, ?_, hni, fun _ => ⟨P.length, by simp, ?_⟩⟩
    · rw [hs, hPQ3, List.take_left, List.drop_left]
    · rw [← hae', hPQ]
      have hnd3 : (P.map (·.id) ++ a.id :: (P2 ++ e :: (Q2 ++ Q)).map (·.id)).Nodup := by
        rw [hPQ] at hnd
        simpa [ids] using hnd
      obtain ⟨h1, h2, h3⟩ := List.nodup_append.1 hnd3
      exact placeL_at (p0 := P) (e := a) ⟨P2 ++ e :: Q2 ++ Q, by simp⟩ rfl fun b hb e1 => h3 b.id (List.mem_map_of_mem (f := fun e : El => e.id) hb) a.id (List.mem_cons_self ..) e1
/-- What a drop does to the order. -/
theorem drp_at {x : Idn} (h0 : drpE S x = 0) : ∃ i, ∃ hi : i < (own S Idn.z).length, (own S Idn.z)[i].id = x ∧ own (drpS S x) Idn.z = (own S Idn.z).take i ++ (own S Idn.z).drop (i + 1) := by
  obtain ⟨hx, hkx⟩ := drpE_zero h0
  obtain ⟨a, ha, hae⟩ := List.mem_map.1 hx
  have hae' : a.id = x := hae
  obtain ⟨P, Q, hPQ⟩ := List.append_of_mem ((mem_root h).2 ha)
  have hd := own_drp' h h0
  have hnd := own_ids h (x := Idn.z) (.inl rfl)
  rw [hPQ] at hd hnd ⊢
  refine ⟨P.length, by simp, by simp [hae'], ?_⟩
  have hnd2 : (P.map (·.id) ++ a.id :: Q.map (·.id)).Nodup := by simpa [ids] using hnd
  obtain ⟨h1, h2, h3⟩ := List.nodup_append.1 hnd2
  obtain ⟨h4, h5⟩ := List.nodup_cons.1 h2
  rw [hd, List.filter_append, List.filter_cons, if_neg (by simp [hae']), List.filter_eq_self.2 fun b hb => ?_, List.filter_eq_self.2 fun b hb => ?_]
  · simp
  · rw [decide_eq_true_eq, ← hae']; exact fun e1 => h4 (e1 ▸ List.mem_map_of_mem (f := fun e : El => e.id) hb)
  · rw [decide_eq_true_eq, ← hae']; exact fun e1 => h3 b.id (List.mem_map_of_mem (f := fun e : El => e.id) hb) a.id (List.mem_cons_self ..) e1
end
end Go.Proofs.Ytbkmbignincilaa
