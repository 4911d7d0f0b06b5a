/- What stands in a line: every element, once. -/
import Derived.Test.YtbkmbignincilaaW4
namespace Go.Proofs.Ytbkmbignincilaa
open Go Go.VC Go.RowKit
set_option linter.unusedVariables false
set_option linter.unusedSimpArgs false

inductive Anc (S : List El) (x : Idn) : El → Prop
  | kid {e : El} : e ∈ S → e.ref = x → Anc S x e
  | step {e e' : El} : e ∈ S → Anc S x e' → e.ref = e'.id → Anc S x e
theorem Anc.mem {S : List El} {x : Idn} {e : El} (h : Anc S x e) : e ∈ S := by cases h <;> assumption
theorem nodup_len {α : Type} [DecidableEq α] : ∀ {l s : List α}, l.Nodup → (∀ x ∈ l, x ∈ s) → l.length ≤ s.length
  | [], s, _, _ => Nat.zero_le _
  | a :: l, s, h, hs => by
    obtain ⟨h1, h2⟩ := List.nodup_cons.1 h
    have ha := hs a (List.mem_cons_self ..)
    have := nodup_len (l := l) (s := s.erase a) h2 (fun x hx => (List.mem_erase_of_ne (fun e => h1 (by rw [← e]; exact hx))).2 (hs x (List.mem_cons_of_mem _ hx)))
    rw [List.length_erase_of_mem ha] at this
    have : 0 < s.length := List.length_pos_of_mem ha
    rw [List.length_cons]
    omega
section
variable {S : List El} (h : SOK S)
include h
theorem ref_lt {x : Idn} {e : El} (he : e ∈ S) (hr : e.ref = x) : x.t < e.id.t := by
  subst hr
  rcases h.ref e he with h1 | ⟨_, h1⟩
  · rw [h1]
    have := h.ok e he
    simp only [okI, decide_eq_true_eq] at this
    show (0 : Int) < e.id.t
    omega
  · exact h1
theorem Anc.lt {x : Idn} {e : El} (ha : Anc S x e) : x.t < e.id.t := by
  induction ha with
  | kid he hr => exact ref_lt h he hr
  | step he ha hr ih => have := ref_lt h he hr; omega
theorem Anc.lin {y1 y2 : Idn} {e : El} (h1 : Anc S y1 e) (h2 : Anc S y2 e) : y1 = y2 ∨ (∃ a, Anc S y1 a ∧ a.id = y2) ∨ (∃ a, Anc S y2 a ∧ a.id = y1) := by
  induction h1 with
  | kid he hr =>
    cases h2 with
    | kid _ hr2 => exact .inl (hr.symm.trans hr2)
    | step _ ha2 hr2 => exact .inr (.inr ⟨_, ha2, hr2.symm.trans hr⟩)
  | step he ha hr ih =>
    cases h2 with
    | kid _ hr2 => exact .inr (.inl ⟨_, ha, hr.symm.trans hr2⟩)
    | step _ ha2 hr2 =>
      have := el_of_id' h ha.mem ha2.mem (hr.symm.trans hr2)
      subst this
      exact ih ha2
where
  el_of_id' {S : List El} (h : SOK S) {a e : El} (ha : a ∈ S) (he : e ∈ S) (e1 : a.id = e.id) : a = e := by
    rw [← elOf_of h.nodup ha, ← elOf_of h.nodup he, e1]
theorem elOf_in {x y : Idn} (hy : y ∈ kidsOf S x) : elOf S y ∈ S ∧ (elOf S y).id = y ∧ (elOf S y).ref = x := by
  obtain ⟨e, he, hr, rfl⟩ := mem_kids.1 hy
  rw [elOf_of h.nodup he]
  exact ⟨he, rfl, hr⟩
theorem kid_apart {x y1 y2 : Idn} (h1 : y1 ∈ kidsOf S x) (h2 : y2 ∈ kidsOf S x) : ¬ Anc S y1 (elOf S y2) := by
  intro ha
  obtain ⟨m1, i1, r1⟩ := elOf_in h h1
  obtain ⟨m2, i2, r2⟩ := elOf_in h h2
  have ht := ref_lt h m1 r1
  rw [i1] at ht
  cases ha with
  | kid _ hr =>
    rw [r2] at hr
    rw [hr] at ht
    omega
  | step _ ha hr =>
    have := ha.lt h
    rw [← hr, r2] at this
    omega
theorem mem_own : ∀ (n : Nat) (x : Idn), gt S x ≤ n → (x = Idn.z ∨ x ∈ ids S) → ∀ e, e ∈ own S x ↔ Anc S x e := by
  intro n
  induction n using Nat.strongRecOn with
  | _ n ih =>
    intro x hn hx e
    rw [own_eq h hx, List.mem_flatMap]
    constructor
    · rintro ⟨y, hy, he⟩
      obtain ⟨m1, i1, r1⟩ := elOf_in h hy
      have hg := gt_kid h hx hy
      rcases List.mem_cons.1 he with rfl | he2
      · exact .kid m1 r1
      · have := (ih (gt S y) (by omega) y (Nat.le_refl _) (.inr (kid_in hy)) e).1 he2
        clear he2 he hn
        induction this with
        | kid he hr => exact .step he (.kid m1 r1) (by rw [hr, i1])
        | step he _ hr ih2 => exact .step he ih2 hr
    · intro ha
      have key : ∃ y, y ∈ kidsOf S x ∧ (e = elOf S y ∨ Anc S y e) := by
        clear hn
        induction ha with
        | @kid e he hr => exact ⟨e.id, mem_kids.2 ⟨e, he, hr, rfl⟩, .inl (elOf_of h.nodup he).symm⟩
        | @step e e' he ha hr ih2 =>
          obtain ⟨y, hy, h1⟩ := ih2
          refine ⟨y, hy, .inr ?_⟩
          rcases h1 with rfl | h1
          · exact .kid he (by rw [hr, (elOf_in h hy).2.1])
          · exact .step he h1 hr
      obtain ⟨y, hy, h1⟩ := key
      have hg := gt_kid h hx hy
      refine ⟨y, hy, ?_⟩
      rcases h1 with rfl | h1
      · exact List.mem_cons_self ..
      · exact List.mem_cons_of_mem _ ((ih (gt S y) (by omega) y (Nat.le_refl _) (.inr (kid_in hy)) e).2 h1)
theorem mem_own' {x : Idn} (hx : x = Idn.z ∨ x ∈ ids S) {e : El} : e ∈ own S x ↔ Anc S x e := mem_own h (gt S x) x (Nat.le_refl _) hx e
theorem own_nodup : ∀ (n : Nat) (x : Idn), gt S x ≤ n → (x = Idn.z ∨ x ∈ ids S) → (own S x).Nodup := by
  intro n
  induction n using Nat.strongRecOn with
  | _ n ih =>
    intro x hn hx
    rw [own_eq h hx]
    refine List.pairwise_flatMap.2 ⟨fun y hy => ?_, ?_⟩
    · have hg := gt_kid h hx hy
      refine List.nodup_cons.2 ⟨fun hm => ?_, ih (gt S y) (by omega) y (Nat.le_refl _) (.inr (kid_in hy))⟩
      exact kid_apart h hy hy ((mem_own' h (.inr (kid_in hy))).1 hm)
    · have hd := desc_nodup (desc_kids S x)
      have hall : (kidsOf S x).Pairwise fun a b => a ∈ kidsOf S x ∧ b ∈ kidsOf S x := by
        have : ∀ M : List Idn, (∀ a ∈ M, a ∈ kidsOf S x) → M.Pairwise fun a b => a ∈ kidsOf S x ∧ b ∈ kidsOf S x := fun M => by
          induction M with
          | nil => intro _; exact List.Pairwise.nil
          | cons a M ih => exact fun hM => List.pairwise_cons.2 ⟨fun b hb => ⟨hM a (List.mem_cons_self ..), hM b (List.mem_cons_of_mem _ hb)⟩, ih fun b hb => hM b (List.mem_cons_of_mem _ hb)⟩
        exact this _ fun _ h => h
      refine (List.Pairwise.and hd hall).imp ?_
      rintro y1 y2 ⟨hne, h1, h2⟩ a ha b hb e1
      subst e1
      rcases List.mem_cons.1 ha with rfl | ha <;> rcases List.mem_cons.1 hb with hb | hb
      · have := congrArg El.id hb
        rw [(elOf_in h h1).2.1, (elOf_in h h2).2.1] at this
        exact hne this
      · exact kid_apart h h2 h1 ((mem_own' h (.inr (kid_in h2))).1 hb)
      · rw [hb] at ha
        exact kid_apart h h1 h2 ((mem_own' h (.inr (kid_in h1))).1 ha)
      · have a1 := (mem_own' h (.inr (kid_in h1))).1 ha
        have a2 := (mem_own' h (.inr (kid_in h2))).1 hb
        rcases a1.lin h a2 with e1 | ⟨c, hc, hce⟩ | ⟨c, hc, hce⟩
        · exact hne e1
        · have e2 : c = elOf S y2 := by rw [← hce]; exact (elOf_of h.nodup hc.mem).symm
          rw [e2] at hc
          exact kid_apart h h1 h2 hc
        · have e2 : c = elOf S y1 := by rw [← hce]; exact (elOf_of h.nodup hc.mem).symm
          rw [e2] at hc
          exact kid_apart h h2 h1 hc
theorem own_nodup' {x : Idn} (hx : x = Idn.z ∨ x ∈ ids S) : (own S x).Nodup := own_nodup h (gt S x) x (Nat.le_refl _) hx
theorem own_sub {x : Idn} (hx : x = Idn.z ∨ x ∈ ids S) : ∀ e ∈ own S x, e ∈ S := fun e he => ((mem_own' h hx).1 he).mem
theorem own_len {x : Idn} (hx : x = Idn.z ∨ x ∈ ids S) : (own S x).length ≤ S.length := nodup_len (own_nodup' h hx) (own_sub h hx)
theorem own_ids {x : Idn} (hx : x = Idn.z ∨ x ∈ ids S) : (ids (own S x)).Nodup := by
  have h1 := own_nodup' h hx
  have h2 := own_sub h hx
  generalize own S x = l at h1 h2
  induction l with
  | nil => exact List.nodup_nil
  | cons a l ih =>
    obtain ⟨h3, h4⟩ := List.nodup_cons.1 h1
    refine List.nodup_cons.2 ⟨fun hm => ?_, ih h4 fun e he => h2 e (List.mem_cons_of_mem _ he)⟩
    obtain ⟨b, hb, e1⟩ := List.mem_map.1 hm
    have : b = a := Anc.lin.el_of_id' h (h2 b (List.mem_cons_of_mem _ hb)) (h2 a (List.mem_cons_self ..)) e1
    exact h3 (this ▸ hb)
theorem anc_root {e : El} (he : e ∈ S) : Anc S Idn.z e := by
  have : ∀ n : Nat, ∀ e ∈ S, e.id.t.toNat ≤ n → Anc S Idn.z e := by
    intro n
    induction n with
    | zero =>
      intro e he hn
      have := h.ok e he
      simp only [okI, decide_eq_true_eq] at this
      omega
    | succ n ih =>
      intro e he hn
      rcases h.ref e he with h1 | ⟨h1, h2⟩
      · exact .kid he h1
      · obtain ⟨a, ha, e1⟩ := List.mem_map.1 h1
        have h3 : a.id = e.ref := e1
        have h4 := h.ok a ha
        simp only [okI, decide_eq_true_eq] at h4
        exact .step he (ih a ha (by rw [← h3] at h2; omega)) h3.symm
  exact this _ e he (Nat.le_refl _)
theorem mem_root {e : El} : e ∈ own S Idn.z ↔ e ∈ S := ⟨own_sub h (.inl rfl) e, fun he => (mem_own' h (.inl rfl)).2 (anc_root h he)⟩
end
end Go.Proofs.Ytbkmbignincilaa
