/- A line of elements, by plain lists: kids, what is one's own, insert, drop. -/
import Derived.Test.YtbkmbignincilaaW3
namespace Go.Proofs.Ytbkmbignincilaa
open Go Go.VC Go.RowKit
set_option linter.unusedVariables false
set_option linter.unusedSimpArgs false

structure El where
  id : Idn
  ref : Idn
  rune : Int
deriving DecidableEq
def El.z : El := ⟨Idn.z, Idn.z, 0⟩
instance : Inhabited El := ⟨El.z⟩
abbrev ids (S : List El) : List Idn := S.map (·.id)

/-! ### Lists with the greatest first -/
theorem desc_ext : ∀ {a b : List Idn}, Desc a → Desc b → (∀ x, x ∈ a ↔ x ∈ b) → a = b
  | [], [], _, _, _ => rfl
  | [], y :: b, _, _, h => by have := (h y).2 (List.mem_cons_self ..); cases this
  | x :: a, [], _, _, h => by have := (h x).1 (List.mem_cons_self ..); cases this
  | x :: a, y :: b, ha, hb, h => by
    obtain ⟨ha1, ha2⟩ := List.pairwise_cons.1 ha
    obtain ⟨hb1, hb2⟩ := List.pairwise_cons.1 hb
    have e : x = y := by
      rcases List.mem_cons.1 ((h x).1 (List.mem_cons_self ..)) with h1 | h1
      · exact h1
      · rcases List.mem_cons.1 ((h y).2 (List.mem_cons_self ..)) with h2 | h2
        · exact h2.symm
        · have h3 := ha1 y h2
          have h4 := hb1 x h1
          rw [lessI_asym h3] at h4
          cases h4
    subst e
    congr 1
    refine desc_ext ha2 hb2 fun z => ?_
    constructor
    · intro hz
      rcases List.mem_cons.1 ((h z).1 (List.mem_cons_of_mem _ hz)) with h1 | h1
      · subst h1; have := ha1 z hz; rw [lessI_irr] at this; cases this
      · exact h1
    · intro hz
      rcases List.mem_cons.1 ((h z).2 (List.mem_cons_of_mem _ hz)) with h1 | h1
      · subst h1; have := hb1 z hz; rw [lessI_irr] at this; cases this
      · exact h1
def insD (l : List Idn) (x : Idn) : List Idn := if x ∈ l then l else l.take (posI l x) ++ x :: l.drop (posI l x)
theorem takeWhile_take (p : Idn → Bool) : ∀ l : List Idn, l.take (l.takeWhile p).length = l.takeWhile p
  | [] => rfl
  | a :: l => by
    by_cases h : p a = true
    · simp [List.takeWhile_cons, h, takeWhile_take p l]
    · simp [List.takeWhile_cons, h]
theorem dropWhile_drop (p : Idn → Bool) : ∀ l : List Idn, l.drop (l.takeWhile p).length = l.dropWhile p
  | [] => rfl
  | a :: l => by
    by_cases h : p a = true
    · simp [List.takeWhile_cons, List.dropWhile_cons, h, dropWhile_drop p l]
    · simp [List.takeWhile_cons, List.dropWhile_cons, h]
theorem mem_insD {l : List Idn} {x y : Idn} : y ∈ insD l x ↔ y = x ∨ y ∈ l := by
  unfold insD
  split
  · rename_i h
    constructor
    · exact .inr
    · rintro (rfl | h1) <;> assumption
  · have e : y ∈ l ↔ y ∈ l.take (posI l x) ∨ y ∈ l.drop (posI l x) := by rw [← List.mem_append, List.take_append_drop]
    simp only [List.mem_append, List.mem_cons, e]
    constructor
    · rintro (h1 | h1 | h1)
      · exact .inr (.inl h1)
      · exact .inl h1
      · exact .inr (.inr h1)
    · rintro (h1 | h1 | h1)
      · exact .inr (.inl h1)
      · exact .inl h1
      · exact .inr (.inr h1)
theorem desc_drop {l : List Idn} (h : Desc l) (x : Idn) (hx : x ∉ l) : ∀ y ∈ l.drop (posI l x), lessI y x = true := by
  unfold posI
  rw [dropWhile_drop]
  intro y hy
  cases hd : l.dropWhile (fun y => lessI x y) with
  | nil => rw [hd] at hy; cases hy
  | cons a r =>
    have hsub : (a :: r).Sublist l := hd ▸ List.dropWhile_sublist _
    have hna : lessI x a = false := by
      have := List.head?_dropWhile_not (fun y => lessI x y) l
      rw [hd] at this
      simpa using this
    have hax : lessI a x = true := by
      rcases lessI_tot (a := a) (b := x) (fun e => by subst e; exact hx (hsub.subset (List.mem_cons_self ..))) with h1 | h1
      · exact h1
      · rw [hna] at h1; cases h1
    rw [hd] at hy
    rcases List.mem_cons.1 hy with rfl | hy
    · exact hax
    · have := (List.pairwise_cons.1 (List.Pairwise.sublist hsub h)).1 y hy
      exact lessI_tr this hax
theorem mem_tw {p : Idn → Bool} : ∀ {l : List Idn} {y : Idn}, y ∈ l.takeWhile p → p y = true
  | a :: l, y, h => by
    rw [List.takeWhile_cons] at h
    split at h
    · rename_i hp
      rcases List.mem_cons.1 h with rfl | h
      · exact hp
      · exact mem_tw h
    · cases h
theorem desc_take {l : List Idn} (x : Idn) : ∀ y ∈ l.take (posI l x), lessI x y = true := by
  unfold posI
  rw [takeWhile_take]
  intro y hy
  exact mem_tw hy
theorem desc_insD {l : List Idn} (h : Desc l) (x : Idn) : Desc (insD l x) := by
  unfold insD
  split
  · exact h
  · rename_i hx
    have h1 := desc_take (l := l) x
    have h2 := desc_drop h x hx
    have h3 : Desc (l.take (posI l x) ++ l.drop (posI l x)) := by rw [List.take_append_drop]; exact h
    obtain ⟨ha, hb, hc⟩ := List.pairwise_append.1 h3
    refine List.pairwise_append.2 ⟨ha, List.pairwise_cons.2 ⟨fun y hy => h2 y hy, hb⟩, fun a ha' b hb' => ?_⟩
    rcases List.mem_cons.1 hb' with rfl | hb'
    · exact h1 a ha'
    · exact hc a ha' b hb'

/-! ### Kids -/
def kidsOf (S : List El) (x : Idn) : List Idn := S.foldl (fun l e => if e.ref = x then insD l e.id else l) []
theorem kids_fold (x : Idn) : ∀ (S : List El) (l : List Idn), Desc l → Desc (S.foldl (fun l e => if e.ref = x then insD l e.id else l) l) ∧ ∀ y, y ∈ S.foldl (fun l e => if e.ref = x then insD l e.id else l) l ↔ y ∈ l ∨ ∃ e ∈ S, e.ref = x ∧ e.id = y
  | [], l, h => ⟨h, fun y => by simp⟩
  | e :: S, l, h => by
    rw [List.foldl_cons]
    by_cases he : e.ref = x
    · rw [if_pos he]
      obtain ⟨h1, h2⟩ := kids_fold x S _ (desc_insD h e.id)
      refine ⟨h1, fun y => ?_⟩
      rw [h2, mem_insD]
      constructor
      · rintro ((rfl | h3) | ⟨e', h3, h4⟩)
        · exact .inr ⟨e, List.mem_cons_self .., he, rfl⟩
        · exact .inl h3
        · exact .inr ⟨e', List.mem_cons_of_mem _ h3, h4⟩
      · rintro (h3 | ⟨e', h3, h4, h5⟩)
        · exact .inl (.inr h3)
        · rcases List.mem_cons.1 h3 with rfl | h3
          · exact .inl (.inl h5.symm)
          · exact .inr ⟨e', h3, h4, h5⟩
    · rw [if_neg he]
      obtain ⟨h1, h2⟩ := kids_fold x S _ h
      refine ⟨h1, fun y => ?_⟩
      rw [h2]
      constructor
      · rintro (h3 | ⟨e', h3, h4⟩)
        · exact .inl h3
        · exact .inr ⟨e', List.mem_cons_of_mem _ h3, h4⟩
      · rintro (h3 | ⟨e', h3, h4, h5⟩)
        · exact .inl h3
        · rcases List.mem_cons.1 h3 with rfl | h3
          · exact absurd h4 he
          · exact .inr ⟨e', h3, h4, h5⟩
theorem desc_kids (S : List El) (x : Idn) : Desc (kidsOf S x) := (kids_fold x S [] List.Pairwise.nil).1
theorem mem_kids {S : List El} {x y : Idn} : y ∈ kidsOf S x ↔ ∃ e ∈ S, e.ref = x ∧ e.id = y := by
  have := (kids_fold x S [] List.Pairwise.nil).2 y
  simpa [kidsOf] using this
theorem kids_push (S : List El) (e : El) (x : Idn) : kidsOf (S ++ [e]) x = if e.ref = x then insD (kidsOf S x) e.id else kidsOf S x := by
  unfold kidsOf
  rw [List.foldl_append]
  rfl
theorem desc_nodup {l : List Idn} (h : Desc l) : l.Nodup := by
  refine List.Pairwise.imp ?_ h
  intro a b hab e
  subst e
  rw [lessI_irr] at hab
  cases hab
theorem insD_len (l : List Idn) (x : Idn) : (insD l x).length ≤ l.length + 1 := by
  unfold insD
  split
  · omega
  · rw [List.length_append, List.length_cons, List.length_take, List.length_drop]; omega
theorem kids_len (S : List El) (x : Idn) : (kidsOf S x).length ≤ S.length := by
  have key : ∀ (S : List El) (l : List Idn), (S.foldl (fun l e => if e.ref = x then insD l e.id else l) l).length ≤ l.length + S.length := fun S => by
    induction S with
    | nil => intro l; simp
    | cons e S ih =>
      intro l
      rw [List.foldl_cons, List.length_cons]
      refine Nat.le_trans (ih _) ?_
      split
      · have := insD_len l e.id; omega
      · omega
  have := key S []
  simpa [kidsOf] using this

/-- What must hold of a line. -/
structure SOK (S : List El) : Prop where
  nodup : (ids S).Nodup
  ok : ∀ e ∈ S, okI e.id = true
  ref : ∀ e ∈ S, e.ref = Idn.z ∨ (e.ref ∈ ids S ∧ e.ref.t < e.id.t)
  rune : ∀ e ∈ S, okR e.rune = true

/-! ### What is one's own -/
def elOf (S : List El) (x : Idn) : El := (S.find? (fun e => e.id = x)).getD El.z
theorem elOf_of {S : List El} (h : (ids S).Nodup) {e : El} (he : e ∈ S) : elOf S e.id = e := by
  unfold elOf
  induction S with
  | nil => cases he
  | cons a S ih =>
    obtain ⟨h1, h2⟩ := List.nodup_cons.1 h
    rw [List.find?_cons]
    rcases List.mem_cons.1 he with rfl | he
    · simp
    · have hne : a.id ≠ e.id := fun e1 => h1 (List.mem_map.2 ⟨e, he, e1.symm⟩)
      simp only [hne, decide_false]
      exact ih h2 he
def ownF (S : List El) : Nat → Idn → List El
  | 0, _ => []
  | k + 1, x => (kidsOf S x).flatMap fun y => elOf S y :: ownF S k y
def own (S : List El) (x : Idn) : List El := ownF S S.length x
/-- How many are younger. -/
def gt (S : List El) (x : Idn) : Nat := (S.filter fun e => decide (x.t < e.id.t)).length
theorem kid_gt {S : List El} (h : SOK S) {x y : Idn} (hx : x = Idn.z ∨ x ∈ ids S) (hy : y ∈ kidsOf S x) : x.t < y.t := by
  obtain ⟨e, he, rfl, rfl⟩ := mem_kids.1 hy
  rcases h.ref e he with h1 | ⟨_, h1⟩
  · rw [h1]
    have := h.ok e he
    simp only [okI, decide_eq_true_eq] at this
    show (0 : Int) < e.id.t
    omega
  · exact h1
theorem filter_lt {S : List El} {p q : El → Bool} (hpq : ∀ e ∈ S, p e = true → q e = true) {e : El} (he : e ∈ S) (h1 : p e = false) (h2 : q e = true) : (S.filter p).length < (S.filter q).length := by
  have hle : ∀ (T : List El), (∀ e ∈ T, p e = true → q e = true) → (T.filter p).length ≤ (T.filter q).length := fun T => by
    induction T with
    | nil => intro _; exact Nat.le_refl _
    | cons a T ih =>
      intro h
      have := ih fun e he => h e (List.mem_cons_of_mem _ he)
      have h3 := h a (List.mem_cons_self ..)
      rw [List.filter_cons, List.filter_cons]
      cases hp : p a <;> cases hq : q a <;> simp <;> first | omega | (rw [hp, hq] at h3; simp at h3)
  induction S with
  | nil => cases he
  | cons a T ih =>
    rw [List.filter_cons, List.filter_cons]
    rcases List.mem_cons.1 he with rfl | he'
    · have := hle T fun e he => hpq e (List.mem_cons_of_mem _ he)
      simp [h1, h2]
      omega
    · have := ih (fun e he => hpq e (List.mem_cons_of_mem _ he)) he'
      have h3 := hpq a (List.mem_cons_self ..)
      cases hp : p a <;> cases hq : q a <;> simp <;> first | omega | (rw [hp, hq] at h3; simp at h3)
theorem gt_kid {S : List El} (h : SOK S) {x y : Idn} (hx : x = Idn.z ∨ x ∈ ids S) (hy : y ∈ kidsOf S x) : gt S y < gt S x := by
  have ht := kid_gt h hx hy
  obtain ⟨e, he, _, rfl⟩ := mem_kids.1 hy
  unfold gt
  refine filter_lt (fun a _ ha => ?_) he ?_ ?_
  · simp only [decide_eq_true_eq] at *; omega
  · simp
  · simpa using ht
theorem kid_in {S : List El} {x y : Idn} (hy : y ∈ kidsOf S x) : y ∈ ids S := by
  obtain ⟨e, he, _, rfl⟩ := mem_kids.1 hy
  exact List.mem_map_of_mem he
theorem ownF_stable {S : List El} (h : SOK S) : ∀ (k j : Nat) (x : Idn), (x = Idn.z ∨ x ∈ ids S) → gt S x ≤ k → gt S x ≤ j → ownF S k x = ownF S j x
  | 0, 0, x, hx, _, _ => rfl
  | 0, j + 1, x, hx, h1, _ => by
    have : kidsOf S x = [] := by
      cases hk : kidsOf S x with
      | nil => rfl
      | cons y r => have := gt_kid h hx (y := y) (by rw [hk]; exact List.mem_cons_self ..); omega
    simp [ownF, this]
  | k + 1, 0, x, hx, _, h1 => by
    have : kidsOf S x = [] := by
      cases hk : kidsOf S x with
      | nil => rfl
      | cons y r => have := gt_kid h hx (y := y) (by rw [hk]; exact List.mem_cons_self ..); omega
    simp [ownF, this]
  | k + 1, j + 1, x, hx, h1, h2 => by
    simp only [ownF]
    have hf : ∀ l : List Idn, (∀ y ∈ l, y ∈ kidsOf S x) → l.flatMap (fun y => elOf S y :: ownF S k y) = l.flatMap (fun y => elOf S y :: ownF S j y) := fun l => by
      induction l with
      | nil => intro _; rfl
      | cons y l ih =>
        intro hl
        have hy := hl y (List.mem_cons_self ..)
        have hg := gt_kid h hx hy
        rw [List.flatMap_cons, List.flatMap_cons, ownF_stable h k j y (.inr (kid_in hy)) (by omega) (by omega), ih fun z hz => hl z (List.mem_cons_of_mem _ hz)]
    exact hf _ fun _ h => h
theorem gt_le (S : List El) (x : Idn) : gt S x ≤ S.length := List.length_filter_le _ _
theorem own_eq {S : List El} (h : SOK S) {x : Idn} (hx : x = Idn.z ∨ x ∈ ids S) : own S x = (kidsOf S x).flatMap fun y => elOf S y :: own S y := by
  have h1 : own S x = ownF S (S.length + 1) x := ownF_stable h _ _ x hx (gt_le S x) (Nat.le_succ_of_le (gt_le S x))
  rw [h1]
  rfl

/-! ### Insert, drop -/
def hasS (S : List El) (x : Idn) : Bool := decide (x ∈ ids S)
def insE (S : List El) (e : El) : Int :=
  if okI e.id = false ∨ okR e.rune = false then 1
  else if e.ref ≠ Idn.z ∧ (okI e.ref = false ∨ e.ref.t ≥ e.id.t) then 1
  else if e.id ∈ ids S then 7
  else if e.ref ≠ Idn.z ∧ e.ref ∉ ids S then 6
  else if S.length ≥ 4096 then 5 else 0
def insS (S : List El) (e : El) : List El := if insE S e = 0 then S ++ [e] else S
def drpE (S : List El) (x : Idn) : Int :=
  if x ∉ ids S then 6 else if kidsOf S x ≠ [] then 8 else 0
def drpS (S : List El) (x : Idn) : List El := if drpE S x = 0 then S.filter (fun e => decide (e.id ≠ x)) else S
theorem insE_zero {S : List El} {e : El} (h : insE S e = 0) : okI e.id = true ∧ okR e.rune = true ∧ (e.ref = Idn.z ∨ (e.ref ∈ ids S ∧ e.ref.t < e.id.t)) ∧ e.id ∉ ids S ∧ S.length < 4096 := by
  unfold insE at h
  repeat' split at h
  all_goals first | (simp at h; done) | skip
  rename_i h1 h2 h3 h4 h5
  simp only [not_or, Bool.not_eq_false] at h1
  refine ⟨h1.1, h1.2, ?_, h3, by omega⟩
  by_cases hz : e.ref = Idn.z
  · exact .inl hz
  · right
    constructor
    · exact Classical.byContradiction fun hn => h4 ⟨hz, hn⟩
    · exact Int.lt_of_not_ge fun hn => h2 ⟨hz, .inr hn⟩
theorem SOK.ins {S : List El} (h : SOK S) (e : El) : SOK (insS S e) := by
  unfold insS
  split
  · rename_i h0
    obtain ⟨h1, h2, h3, h4, _⟩ := insE_zero h0
    have hm : ∀ a, a ∈ S ++ [e] ↔ a ∈ S ∨ a = e := fun a => by simp
    refine ⟨?_, fun a ha => ?_, fun a ha => ?_, fun a ha => ?_⟩
    · rw [show ids (S ++ [e]) = ids S ++ [e.id] by simp]
      refine List.nodup_append.2 ⟨h.nodup, by simp, fun a ha b hb => ?_⟩
      rw [List.mem_singleton] at hb
      subst hb
      exact fun e1 => h4 (e1 ▸ ha)
    · rcases (hm a).1 ha with ha | rfl
      · exact h.ok a ha
      · exact h1
    · rcases (hm a).1 ha with ha | rfl
      · rcases h.ref a ha with h5 | ⟨h5, h6⟩
        · exact .inl h5
        · exact .inr ⟨by simp [ids] at h5 ⊢; exact .inl h5, h6⟩
      · rcases h3 with h5 | ⟨h5, h6⟩
        · exact .inl h5
        · exact .inr ⟨by simp [ids] at h5 ⊢; exact .inl h5, h6⟩
    · rcases (hm a).1 ha with ha | rfl
      · exact h.rune a ha
      · exact h2
  · exact h
theorem drpE_zero {S : List El} {x : Idn} (h : drpE S x = 0) : x ∈ ids S ∧ kidsOf S x = [] := by
  unfold drpE at h
  repeat' split at h
  all_goals first | (simp at h; done) | skip
  rename_i h1 h2
  exact ⟨Classical.byContradiction h1, Classical.byContradiction h2⟩
theorem SOK.drp {S : List El} (h : SOK S) (x : Idn) : SOK (drpS S x) := by
  unfold drpS
  split
  · rename_i h0
    obtain ⟨h1, h2⟩ := drpE_zero h0
    have hm : ∀ a, a ∈ S.filter (fun e => decide (e.id ≠ x)) ↔ a ∈ S ∧ a.id ≠ x := fun a => by simp
    refine ⟨?_, fun a ha => h.ok a ((hm a).1 ha).1, fun a ha => ?_, fun a ha => h.rune a ((hm a).1 ha).1⟩
    · exact List.Nodup.sublist (List.filter_sublist.map _) h.nodup
    · obtain ⟨ha, hx⟩ := (hm a).1 ha
      rcases h.ref a ha with h5 | ⟨h5, h6⟩
      · exact .inl h5
      · refine .inr ⟨?_, h6⟩
        obtain ⟨b, hb, hbe⟩ := List.mem_map.1 h5
        refine List.mem_map.2 ⟨b, (hm b).2 ⟨hb, fun e1 => ?_⟩, hbe⟩
        have : a.id ∈ kidsOf S x := mem_kids.2 ⟨a, ha, by rw [← hbe, e1], rfl⟩
        rw [h2] at this
        cases this
  · exact h
theorem kids_drop {S : List El} (h : SOK S) {x : Idn} (hd : drpE S x = 0) (y : Idn) : kidsOf (drpS S x) y = (kidsOf S y).filter (fun z => decide (z ≠ x)) := by
  have hS : drpS S x = S.filter (fun e => decide (e.id ≠ x)) := by unfold drpS; rw [if_pos hd]
  rw [hS]
  refine desc_ext (desc_kids _ _) (List.Pairwise.sublist List.filter_sublist (desc_kids _ _)) fun z => ?_
  rw [mem_kids, List.mem_filter, mem_kids]
  constructor
  · rintro ⟨e, he, h1, rfl⟩
    have := (List.mem_filter.1 he)
    exact ⟨⟨e, this.1, h1, rfl⟩, this.2⟩
  · rintro ⟨⟨e, he, h1, rfl⟩, h2⟩
    exact ⟨e, List.mem_filter.2 ⟨he, h2⟩, h1, rfl⟩
end Go.Proofs.Ytbkmbignincilaa
