/- weave.Line.Insert. -/
import Derived.Test.YtbkmbignincilaaW6
namespace Go.Proofs.Ytbkmbignincilaa
open Go Go.VC Go.RowKit
set_option linter.unusedVariables false
set_option linter.unusedSimpArgs false
set_option maxRecDepth 100000

def NodeR.upd (k : Nat) (A : Option Addr) (n c : Nat) (r : NodeR) : NodeR := if r.blk = k then { r with A := A, n := n, c := c } else r
section
variable {k : Nat} {A : Option Addr} {n c : Nat} (r : NodeR)
theorem upd_e : (r.upd k A n c).e = r.e := by unfold NodeR.upd; split <;> rfl
theorem upd_blk : (r.upd k A n c).blk = r.blk := by unfold NodeR.upd; split <;> rfl
theorem upd_ent : (r.upd k A n c).ent = r.ent := by unfold NodeR.upd; split <;> rfl
theorem upd_eq (h : r.blk = k) : r.upd k A n c = { r with A := A, n := n, c := c } := by unfold NodeR.upd; rw [if_pos h]
theorem upd_ne (h : r.blk ≠ k) : r.upd k A n c = r := by unfold NodeR.upd; rw [if_neg h]
end
theorem nodup_blk {N : List NodeR} (h : (N.map (·.blk)).Nodup) {p q : NodeR} (hp : p ∈ N) (hq : q ∈ N) (e : p.blk = q.blk) : p = q := by
  induction N with
  | nil => cases hp
  | cons a N ih =>
    obtain ⟨h1, h2⟩ := List.nodup_cons.1 h
    rcases List.mem_cons.1 hp with rfl | hp' <;> rcases List.mem_cons.1 hq with rfl | hq'
    · rfl
    · exact absurd (List.mem_map.2 ⟨q, hq', e.symm⟩) h1
    · exact absurd (List.mem_map.2 ⟨p, hp', e⟩) h1
    · exact ih h2 hp' hq'
theorem nodup_id {N : List NodeR} (h : (N.map (·.e.id)).Nodup) {p q : NodeR} (hp : p ∈ N) (hq : q ∈ N) (e : p.e.id = q.e.id) : p = q := by
  induction N with
  | nil => cases hp
  | cons a N ih =>
    obtain ⟨h1, h2⟩ := List.nodup_cons.1 h
    rcases List.mem_cons.1 hp with rfl | hp' <;> rcases List.mem_cons.1 hq with rfl | hq'
    · rfl
    · exact absurd (List.mem_map.2 ⟨q, hq', e.symm⟩) h1
    · exact absurd (List.mem_map.2 ⟨p, hp', e⟩) h1
    · exact ih h2 hp' hq'
theorem insD_new {l : List Idn} {x : Idn} (h : x ∉ l) : insD l x = l.take (posI l x) ++ x :: l.drop (posI l x) := by unfold insD; rw [if_neg h]
theorem not_kid {S : List El} {x y : Idn} (h : x ∉ ids S) : x ∉ kidsOf S y := fun hm => h (kid_in hm)
theorem rows_ne {N : List NodeR} (h : N.Pairwise fun p q => ∀ g, p.row = some g → q.row ≠ some g) {p q : NodeR} (hp : p ∈ N) (hq : q ∈ N) (hne : p ≠ q) {g : Nat} (hg : p.row = some g) : q.row ≠ some g := by
  induction N with
  | nil => cases hp
  | cons a N ih =>
    obtain ⟨h1, h2⟩ := List.pairwise_cons.1 h
    rcases List.mem_cons.1 hp with rfl | hp' <;> rcases List.mem_cons.1 hq with rfl | hq'
    · exact absurd rfl hne
    · exact h1 q hq' g hg
    · exact fun e => h1 p hp' g e hg
    · exact ih h2 hp' hq'

/-- One node's kids are another row; nothing else has changed. -/
theorem rows_upd {w : World} {N : List NodeR} (hb : (N.map (·.blk)).Nodup) (h : N.Pairwise fun p q => ∀ g, p.row = some g → q.row ≠ some g) (hlt : ∀ p ∈ N, ∀ g, p.row = some g → g < w.heap.size) {p : NodeR} (hp : p ∈ N) {A : Option Addr} {n c : Nat} (hmv : Moved w (.slice A n c) (.slice p.A p.n p.c)) :
    (N.map (NodeR.upd p.blk A n c)).Pairwise fun p q => ∀ g, p.row = some g → q.row ≠ some g := by
  have key : ∀ r ∈ N, ∀ g, (r.upd p.blk A n c).row = some g → r.row = some g ∨ (r = p ∧ w.heap.size ≤ g) := fun r hr g hg => by
    by_cases e : r.blk = p.blk
    · have := nodup_blk hb hr hp e
      subst this
      rw [upd_eq _ rfl] at hg
      rcases hmv with h1 | ⟨k, h1, h2⟩
      · exact .inl (h1.symm.trans hg)
      · have : some k = some g := h1.symm.trans hg
        cases this
        exact .inr ⟨rfl, h2⟩
    · rw [upd_ne _ e] at hg
      exact .inl hg
  rw [List.pairwise_map]
  have hd : N.Pairwise fun a b => a ≠ b := by
    have := List.nodup_iff_pairwise_ne.1 hb
    rw [List.pairwise_map] at this
    exact this.imp fun h e => h (by rw [e])
  have hall : N.Pairwise fun a b => a ∈ N ∧ b ∈ N := by
    have : ∀ M : List NodeR, (∀ a ∈ M, a ∈ N) → M.Pairwise fun a b => a ∈ N ∧ b ∈ N := fun M => by
      induction M with
      | nil => intro _; exact List.Pairwise.nil
      | cons a M ih => exact fun hM => List.pairwise_cons.2 ⟨fun b hb => ⟨hM a (List.mem_cons_self ..), hM b (List.mem_cons_of_mem _ hb)⟩, ih fun b hb => hM b (List.mem_cons_of_mem _ hb)⟩
    exact this N fun _ h => h
  refine (List.Pairwise.and h (List.Pairwise.and hd hall)).imp ?_
  rintro a b ⟨h1, h2, ha, hb'⟩ g hg hg2
  rcases key a ha g hg with h3 | ⟨rfl, h3⟩
  · rcases key b hb' g hg2 with h4 | ⟨rfl, h4⟩
    · exact h1 g h3 h4
    · have := hlt a ha g h3; omega
  · rcases key b hb' g hg2 with h4 | ⟨rfl, h4⟩
    · have := hlt b hb' g h4; omega
    · exact h2 rfl

section
variable {w W : World} {b m cl : Nat} {S : List El} {R : NodeR} {Ns : List NodeR}
theorem LineAt.row_lt (h : LineAt w b m S R Ns cl) : ∀ p ∈ R :: Ns, ∀ g, p.row = some g → g < w.heap.size := fun p hp g hg => h.foot_lt (.inr (.inr ⟨p, hp, .inr hg⟩))
theorem LineAt.blk_ne (h : LineAt w b m S R Ns cl) {p : NodeR} (hp : p ∈ R :: Ns) : b ≠ p.blk ∧ m ≠ p.blk ∧ b ≠ m ∧ ∀ q ∈ R :: Ns, ∀ g, q.row = some g → g ≠ p.blk ∧ g ≠ b ∧ g ≠ m := by
  have h1 := h.head
  have h2 := h.map
  have h3 := h.node p hp
  refine ⟨fun e => ?_, fun e => ?_, fun e => ?_, fun q hq g hg => ?_⟩
  · rw [e, h3] at h1; cases h1
  · rw [e, h3] at h2; cases h2
  · rw [e, h2] at h1; cases h1
  · obtain ⟨cs, h4⟩ := own_at (h.row q hq) hg
    refine ⟨fun e => ?_, fun e => ?_, fun e => ?_⟩
    · rw [e, h3] at h4; cases h4
    · rw [e, h1] at h4; cases h4
    · rw [e, h2] at h4; cases h4
theorem ids_root (h : LineAt w b m S R Ns cl) : ∀ p ∈ R :: Ns, p.e.id = Idn.z ∨ p.e.id ∈ ids S := fun p hp => by
  rcases List.mem_cons.1 hp with rfl | hp
  · left; rw [h.root]; rfl
  · right
    rw [← h.els]
    exact List.mem_map_of_mem (f := fun e : El => e.id) (List.mem_map_of_mem (f := fun q : NodeR => q.e) hp)
theorem LineAt.grow (h : LineAt w b m S R Ns cl) {p q : NodeR} {e : El} (hp : p ∈ R :: Ns) (hpx : p.e.id = e.ref) (h0 : insE S e = 0) {A : Option Addr} {n c : Nat}
    (hc : Chg (fun k => k = p.blk ∨ k = m ∨ p.row = some k) w W) (hnode : W.heap[p.blk]? = some (NodeR.obj { p with A := A, n := n, c := c })) (hrow : W.ownsRow 0 24 2 (.slice A n c) n ((insD (kidsOf S e.ref) e.id).flatMap cI))
    (hmv : Moved w (.slice A n c) (.slice p.A p.n p.c)) (hq : W.heap[q.blk]? = some q.obj) (hqb : w.heap.size ≤ q.blk) (hqe : q.e = e) (hqr : q.A = none ∧ q.n = 0 ∧ q.c = 0)
    (hmap : W.heap[m]? = some (.map (((R :: Ns).map NodeR.ent).toArray.push q.ent) (cl + 1))) :
    LineAt W b m (S ++ [e]) (R.upd p.blk A n c) (Ns.map (NodeR.upd p.blk A n c) ++ [q]) (cl + 1) ∧ ∀ k, Foot b m (R.upd p.blk A n c :: (Ns.map (NodeR.upd p.blk A n c) ++ [q])) k → Foot b m (R :: Ns) k ∨ w.heap.size ≤ k := by
  have hN : R.upd p.blk A n c :: (Ns.map (NodeR.upd p.blk A n c) ++ [q]) = (R :: Ns).map (NodeR.upd p.blk A n c) ++ [q] := by simp
  have hm : ∀ r, r ∈ (R :: Ns).map (NodeR.upd p.blk A n c) ++ [q] ↔ (∃ s ∈ R :: Ns, s.upd p.blk A n c = r) ∨ r = q := fun r => by rw [List.mem_append, List.mem_map, List.mem_singleton]
  obtain ⟨n1, n2, n3, n4⟩ := h.blk_ne hp
  obtain ⟨i1, i2, i3, i4, i5⟩ := insE_zero h0
  have hS : insS S e = S ++ [e] := by unfold insS; rw [if_pos h0]
  have hrn : q.row = none := by obtain ⟨h1, h2, h3⟩ := hqr; unfold NodeR.row; rw [h1]; rfl
  refine ⟨⟨by rw [← hS]; exact h.ok.ins e, by rw [List.length_append]; simp; omega, ?_, by rw [upd_e]; exact h.root, ?_, ?_, ?_, ?_, ?_, ?_⟩, ?_⟩
  · rw [List.map_append, List.map_map, List.map_singleton, hqe, ← h.els]
    congr 1
    exact List.map_congr_left fun r _ => upd_e r
  · exact hc.at_ h.head (by rintro (e1 | e1 | e1); exact n1 e1; exact n3 e1; exact (n4 p hp b e1).2.1 rfl)
  · rw [hN, hmap, List.map_append, List.map_map]
    congr 1
    have : (R :: Ns).map (NodeR.ent ∘ NodeR.upd p.blk A n c) = (R :: Ns).map NodeR.ent := List.map_congr_left fun r _ => upd_ent r
    rw [this]
    simp
  · intro r hr
    rw [hN, hm] at hr
    rcases hr with ⟨s, hs, rfl⟩ | rfl
    · by_cases e1 : s.blk = p.blk
      · have := nodup_blk h.blks hs hp e1
        subst this
        rw [upd_eq _ rfl]
        exact hnode
      · rw [upd_ne _ e1]
        refine hc.at_ (h.node s hs) ?_
        rintro (e2 | e2 | e2)
        · exact e1 e2
        · exact (h.blk_ne hs).2.1 e2.symm
        · exact ((h.blk_ne hs).2.2.2 p hp s.blk e2).1 rfl
    · exact hq
  · intro r hr
    rw [hN, hm] at hr
    rcases hr with ⟨s, hs, rfl⟩ | rfl
    · rw [upd_e, kids_push]
      by_cases e1 : s.blk = p.blk
      · have := nodup_blk h.blks hs hp e1
        subst this
        rw [upd_eq _ rfl, if_pos hpx.symm, hpx]
        exact hrow
      · rw [upd_ne _ e1, if_neg (fun e2 => e1 (by rw [nodup_id h.keys hs hp (by rw [hpx]; exact e2.symm)]))]
        refine own_chg (h.row s hs) hc fun g hg => ?_
        have hsp : s ≠ p := fun e2 => e1 (by rw [e2])
        rintro (e2 | e2 | e2)
        · exact ((h.blk_ne hp).2.2.2 s hs g hg).1 e2
        · exact ((h.blk_ne hp).2.2.2 s hs g hg).2.2 e2
        · exact rows_ne h.rows hp hs (Ne.symm hsp) e2 hg
    · have hk : kidsOf (S ++ [e]) r.e.id = [] := by
        rw [hqe, kids_push]
        have hne : e.ref ≠ e.id := fun e1 => by
          rcases i3 with h1 | ⟨_, h1⟩
          · exact okI_ne i1 (e1.symm.trans h1)
          · rw [e1] at h1; omega
        rw [if_neg hne]
        cases hk : kidsOf S e.id with
        | nil => rfl
        | cons y t =>
          obtain ⟨a, ha, h1, _⟩ := mem_kids.1 (show y ∈ kidsOf S e.id by rw [hk]; exact List.mem_cons_self ..)
          rcases h.ok.ref a ha with h2 | ⟨h2, _⟩
          · exact absurd (h1.symm.trans h2) (okI_ne i1)
          · exact absurd (h1 ▸ h2) i4
      rw [hk]
      obtain ⟨h1, h2, h3⟩ := hqr
      rw [h1, h2, h3]
      exact own_nil_ _ _ _ _
  · rw [hN, List.map_append, List.map_map, List.map_singleton]
    have : (R :: Ns).map ((fun x => x.blk) ∘ NodeR.upd p.blk A n c) = (R :: Ns).map (·.blk) := List.map_congr_left fun r _ => upd_blk r
    rw [this]
    refine List.nodup_append.2 ⟨h.blks, by simp, fun x hx y hy => ?_⟩
    rw [List.mem_singleton] at hy
    obtain ⟨s, hs, rfl⟩ := List.mem_map.1 hx
    have := at_lt (h.node s hs)
    show s.blk ≠ y
    omega
  · rw [hN]
    refine List.pairwise_append.2 ⟨rows_upd h.blks h.rows h.row_lt hp hmv, by simp, fun a ha d hd g hg => ?_⟩
    rw [List.mem_singleton] at hd
    subst hd
    rw [hrn]
    simp
  · rw [hN]
    rintro k (rfl | rfl | ⟨r, hr, hk⟩)
    · exact .inl (.inl rfl)
    · exact .inl (.inr (.inl rfl))
    · rw [hm] at hr
      rcases hr with ⟨s, hs, rfl⟩ | rfl
      · rw [upd_blk] at hk
        rcases hk with rfl | hk
        · exact .inl (.inr (.inr ⟨s, hs, .inl rfl⟩))
        · by_cases e1 : s.blk = p.blk
          · have := nodup_blk h.blks hs hp e1
            subst this
            rw [upd_eq _ rfl] at hk
            rcases hmv with h1 | ⟨g, h1, h2⟩
            · exact .inl (.inr (.inr ⟨s, hs, .inr (h1.symm.trans hk)⟩))
            · have : some g = some k := h1.symm.trans hk
              cases this
              exact .inr h2
          · rw [upd_ne _ e1] at hk
            exact .inl (.inr (.inr ⟨s, hs, .inr hk⟩))
      · rcases hk with rfl | hk
        · exact .inr hqb
        · rw [hrn] at hk; cases hk
end
end Go.Proofs.Ytbkmbignincilaa
