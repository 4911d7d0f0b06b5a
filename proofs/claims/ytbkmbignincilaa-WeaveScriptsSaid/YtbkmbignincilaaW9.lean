/- weave.Line.Drop. -/
import Derived.Test.YtbkmbignincilaaW8
namespace Go.Proofs.Ytbkmbignincilaa
open Go Go.VC Go.RowKit
set_option linter.unusedVariables false
set_option linter.unusedSimpArgs false
set_option maxRecDepth 100000

theorem posI_mem : ∀ {l : List Idn} {x : Idn}, Desc l → x ∈ l → l[posI l x]? = some x ∧ l.take (posI l x) ++ l.drop (posI l x + 1) = l.filter (fun z => decide (z ≠ x))
  | a :: l, x, h, hx => by
    obtain ⟨h1, h2⟩ := List.pairwise_cons.1 h
    rcases List.mem_cons.1 hx with rfl | hx
    · have hp : posI (x :: l) x = 0 := by unfold posI; rw [List.takeWhile_cons, lessI_irr]; rfl
      rw [hp]
      refine ⟨rfl, ?_⟩
      rw [List.filter_cons]
      simp only [ne_eq, not_true_eq_false, decide_false, Bool.false_eq_true, if_false, List.take_zero, List.nil_append, Nat.zero_add, List.drop_succ_cons, List.drop_zero]
      refine (List.filter_eq_self.2 fun y hy => ?_).symm
      rw [decide_eq_true_eq]
      intro e
      subst e
      have := h1 y hy
      rw [lessI_irr] at this
      cases this
    · have hax := h1 x hx
      have hp : posI (a :: l) x = posI l x + 1 := by unfold posI; rw [List.takeWhile_cons, hax]; rfl
      have hne : a ≠ x := fun e => by subst e; rw [lessI_irr] at hax; cases hax
      obtain ⟨h3, h4⟩ := posI_mem h2 hx
      rw [hp]
      refine ⟨by rw [List.getElem?_cons_succ]; exact h3, ?_⟩
      rw [List.filter_cons]
      simp only [hne, ne_eq, not_false_eq_true, decide_true, if_true, List.take_succ_cons, List.cons_append, List.drop_succ_cons]
      rw [h4]
theorem erase_key : ∀ {N : List NodeR} {i : Nat} {q : NodeR}, (N.map (·.e.id)).Nodup → N[i]? = some q → N.eraseIdx i = N.filter (fun r => decide (r.e.id ≠ q.e.id))
  | a :: N, 0, q, h, hi => by
    obtain ⟨h1, h2⟩ := List.nodup_cons.1 h
    simp only [List.getElem?_cons_zero, Option.some.injEq] at hi
    subst hi
    rw [List.filter_cons]
    simp only [List.eraseIdx_cons_zero, ne_eq, not_true_eq_false, decide_false, Bool.false_eq_true, if_false]
    refine (List.filter_eq_self.2 fun y hy => ?_).symm
    rw [decide_eq_true_eq]
    exact fun e => h1 (List.mem_map.2 ⟨y, hy, e⟩)
  | a :: N, i + 1, q, h, hi => by
    obtain ⟨h1, h2⟩ := List.nodup_cons.1 h
    rw [List.getElem?_cons_succ] at hi
    have hne : a.e.id ≠ q.e.id := fun e => h1 (List.mem_map.2 ⟨q, List.mem_of_getElem? hi, e.symm⟩)
    rw [List.filter_cons]
    simp only [hne, ne_eq, not_false_eq_true, decide_true, if_true, List.eraseIdx_cons_succ]
    rw [erase_key h2 hi]
theorem map_erase : ∀ (N : List NodeR) (i : Nat), (N.map NodeR.ent).eraseIdx i = (N.eraseIdx i).map NodeR.ent
  | [], i => by simp
  | a :: N, 0 => rfl
  | a :: N, i + 1 => by simp only [List.map_cons, List.eraseIdx_cons_succ, map_erase N i]
theorem erase_ent (N : List NodeR) (i : Nat) (hi : i < N.length) : ((N.map NodeR.ent).toArray.eraseIdxIfInBounds i) = ((N.eraseIdx i).map NodeR.ent).toArray := by
  apply Array.toList_inj.1
  have : i < (N.map NodeR.ent).toArray.size := by simpa using hi
  unfold Array.eraseIdxIfInBounds
  rw [dif_pos this]
  simp [map_erase]
theorem el_of_id {S : List El} (h : (ids S).Nodup) {a e : El} (ha : a ∈ S) (he : e ∈ S) (e1 : a.id = e.id) : a = e := by
  rw [← elOf_of h ha, ← elOf_of h he, e1]

section
variable {w W : World} {b m cl : Nat} {S : List El} {R : NodeR} {Ns : List NodeR}
theorem LineAt.shrink (h : LineAt w b m S R Ns cl) {p q : NodeR} (hp : p ∈ R :: Ns) (hq : q ∈ Ns) (hd : drpE S q.e.id = 0) (hpx : p.e.id = q.e.ref) {A : Option Addr} {n c : Nat}
    (hc : Chg (fun k => k = p.blk ∨ k = m ∨ p.row = some k) w W) (hnode : W.heap[p.blk]? = some (NodeR.obj { p with A := A, n := n, c := c })) (hrow : W.ownsRow 0 24 2 (.slice A n c) n ((kidsOf (drpS S q.e.id) p.e.id).flatMap cI))
    (hmv : Moved w (.slice A n c) (.slice p.A p.n p.c))
    (hmap : W.heap[m]? = some (.map ((R :: Ns.filter (fun r => decide (r.e.id ≠ q.e.id))).map NodeR.ent).toArray cl)) :
    LineAt W b m (drpS S q.e.id) (R.upd p.blk A n c) ((Ns.filter (fun r => decide (r.e.id ≠ q.e.id))).map (NodeR.upd p.blk A n c)) cl ∧ ∀ k, Foot b m (R.upd p.blk A n c :: (Ns.filter (fun r => decide (r.e.id ≠ q.e.id))).map (NodeR.upd p.blk A n c)) k → Foot b m (R :: Ns) k ∨ w.heap.size ≤ k := by
  have hqS : q.e ∈ S := by rw [← h.els]; exact List.mem_map_of_mem (f := fun r : NodeR => r.e) hq
  have hq0 : q.e.id ≠ Idn.z := okI_ne (h.ok.ok _ hqS)
  generalize hM : R :: Ns.filter (fun r => decide (r.e.id ≠ q.e.id)) = M at *
  have hN : R.upd p.blk A n c :: (Ns.filter (fun r => decide (r.e.id ≠ q.e.id))).map (NodeR.upd p.blk A n c) = M.map (NodeR.upd p.blk A n c) := by rw [← hM]; rfl
  have hsub : M.Sublist (R :: Ns) := by rw [← hM]; exact List.Sublist.cons_cons _ List.filter_sublist
  have hMx : ∀ r ∈ M, r.e.id ≠ q.e.id := fun r hr => by
    rw [← hM] at hr
    rcases List.mem_cons.1 hr with rfl | hr
    · rw [h.root]; exact fun e => hq0 e.symm
    · simpa using (List.mem_filter.1 hr).2
  have hpM : p ∈ M := by
    rw [← hM]
    rcases List.mem_cons.1 hp with rfl | hp'
    · exact List.mem_cons_self ..
    · refine List.mem_cons_of_mem _ (List.mem_filter.2 ⟨hp', ?_⟩)
      rw [decide_eq_true_eq, hpx]
      intro e1
      rcases h.ok.ref _ hqS with h1 | ⟨_, h1⟩
      · exact hq0 (e1.symm.trans h1)
      · rw [e1] at h1; omega
  have hS : drpS S q.e.id = S.filter (fun e => decide (e.id ≠ q.e.id)) := by unfold drpS; rw [if_pos hd]
  obtain ⟨n1, n2, n3, n4⟩ := h.blk_ne hp
  have hm : ∀ r, r ∈ M.map (NodeR.upd p.blk A n c) ↔ ∃ s ∈ M, s.upd p.blk A n c = r := fun r => List.mem_map
  refine ⟨⟨h.ok.drp _, ?_, ?_, by rw [upd_e]; exact h.root, ?_, ?_, ?_, ?_, ?_, ?_⟩, ?_⟩
  · rw [hS]; exact Nat.le_trans (List.length_filter_le _ _) h.few
  · rw [hS, List.map_map, ← h.els, List.filter_map]
    exact List.map_congr_left fun r _ => upd_e r
  · exact hc.at_ h.head (by rintro (e1 | e1 | e1); exact n1 e1; exact n3 e1; exact (n4 p hp b e1).2.1 rfl)
  · rw [hN, hmap, List.map_map]
    congr 3
    exact (List.map_congr_left fun r _ => upd_ent r).symm
  · intro r hr
    rw [hN, hm] at hr
    obtain ⟨s, hs, rfl⟩ := hr
    have hs' := hsub.subset hs
    by_cases e1 : s.blk = p.blk
    · have := nodup_blk h.blks hs' hp e1
      subst this
      rw [upd_eq _ rfl]
      exact hnode
    · rw [upd_ne _ e1]
      refine hc.at_ (h.node s hs') ?_
      rintro (e2 | e2 | e2)
      · exact e1 e2
      · exact (h.blk_ne hs').2.1 e2.symm
      · exact ((h.blk_ne hs').2.2.2 p hp s.blk e2).1 rfl
  · intro r hr
    rw [hN, hm] at hr
    obtain ⟨s, hs, rfl⟩ := hr
    have hs' := hsub.subset hs
    rw [upd_e]
    by_cases e1 : s.blk = p.blk
    · have := nodup_blk h.blks hs' hp e1
      subst this
      rw [upd_eq _ rfl]
      exact hrow
    · rw [upd_ne _ e1, kids_drop h.ok hd]
      have hkk : (kidsOf S s.e.id).filter (fun z => decide (z ≠ q.e.id)) = kidsOf S s.e.id := by
        refine List.filter_eq_self.2 fun y hy => ?_
        rw [decide_eq_true_eq]
        rintro rfl
        obtain ⟨a, ha, h1, h2⟩ := mem_kids.1 hy
        have := el_of_id h.ok.nodup ha hqS h2
        subst this
        exact e1 (by rw [nodup_id h.keys hs' hp (by rw [hpx]; exact h1.symm)])
      rw [hkk]
      refine own_chg (h.row s hs') hc fun g hg => ?_
      have hsp : s ≠ p := fun e2 => e1 (by rw [e2])
      rintro (e2 | e2 | e2)
      · exact ((h.blk_ne hp).2.2.2 s hs' g hg).1 e2
      · exact ((h.blk_ne hp).2.2.2 s hs' g hg).2.2 e2
      · exact rows_ne h.rows hp hs' (Ne.symm hsp) e2 hg
  · rw [hN, List.map_map]
    have : M.map ((fun x => x.blk) ∘ NodeR.upd p.blk A n c) = M.map (·.blk) := List.map_congr_left fun r _ => upd_blk r
    rw [this]
    exact List.Nodup.sublist (hsub.map _) h.blks
  · rw [hN]
    exact rows_upd (List.Nodup.sublist (hsub.map _) h.blks) (h.rows.sublist hsub) (fun s hs => h.row_lt s (hsub.subset hs)) hpM hmv
  · rw [hN]
    rintro k (rfl | rfl | ⟨r, hr, hk⟩)
    · exact .inl (.inl rfl)
    · exact .inl (.inr (.inl rfl))
    · rw [hm] at hr
      obtain ⟨s, hs, rfl⟩ := hr
      have hs' := hsub.subset hs
      rw [upd_blk] at hk
      rcases hk with rfl | hk
      · exact .inl (.inr (.inr ⟨s, hs', .inl rfl⟩))
      · by_cases e1 : s.blk = p.blk
        · have := nodup_blk h.blks hs' hp e1
          subst this
          rw [upd_eq _ rfl] at hk
          rcases hmv with h1 | ⟨g, h1, h2⟩
          · exact .inl (.inr (.inr ⟨s, hs', .inr (h1.symm.trans hk)⟩))
          · have : some g = some k := h1.symm.trans hk
            cases this
            exact .inr h2
        · rw [upd_ne _ e1] at hk
          exact .inl (.inr (.inr ⟨s, hs', .inr hk⟩))

/-- What Drop leaves behind. -/
def Drp (w : World) (b m : Nat) (S : List El) (R : NodeR) (Ns : List NodeR) (x : Idn) (v : Value) (W : World) : Prop :=
  v = .int .i64 (drpE S x) ∧ Chg (Foot b m (R :: Ns)) w W ∧ ∃ R' Ns' cl', LineAt W b m (drpS S x) R' Ns' cl' ∧ ∀ k, Foot b m (R' :: Ns') k → Foot b m (R :: Ns) k ∨ w.heap.size ≤ k
theorem Drp.not {x : Idn} {v : Value} (h : LineAt w b m S R Ns cl) (he : Ext w W) (h0 : drpE S x ≠ 0) (hv : v = .int .i64 (drpE S x)) : Drp w b m S R Ns x v W :=
  ⟨hv, he.chg _, R, Ns, cl, by unfold drpS; rw [if_neg h0]; exact h.ext he, fun k hk => .inl hk⟩
set_option maxHeartbeats 4000000
theorem fn14 (h : LineAt w b m S R Ns cl) (x : Idn) : Ret Try.prog 14 #[.pointer (some ⟨b, 0, none⟩), kI x] w (Drp w b m S R Ns x) := by
  refine Ret.of_vc tab_ok Try.func14 rfl Try.ntmps14 rfl (Nat.le_of_ble_eq_true rfl) Try.call14 ?_
  conv => whnf
  intro W hW
  have hb3 := hW.at_
  have hE := hW.e
  clear hW
  generalize hb3n : w.heap.size = b3 at hb3 ⊢
  conv => whnf
  refine ⟨cI x, rfl, lds hb3 rfl rfl, ?_⟩
  conv => whnf
  refine (fn41 (h.ext hE) x).mono ?_
  rintro _ W2 ⟨he, rfl⟩
  replace hb3 := he.at_ hb3
  replace hE := hE.tr he
  clear he
  by_cases hx : x ∈ ids S
  case neg =>
    rw [show hasS S x = false from decide_eq_false hx]
    conv => whnf
    have h6 : drpE S x = 6 := by unfold drpE; rw [if_pos hx]
    exact Drp.not h hE (by rw [h6]; decide) (by rw [h6])
  rw [show hasS S x = true from decide_eq_true hx]
  conv => whnf
  have h2 := h.ext hE
  obtain ⟨q, hq, hqx, hqp, hqe⟩ := h2.there (.inr hx)
  refine VDraw.mk' tab_ok (Ext W2) [] (.take 0 <| .take 1 <| .take 2 <| .take 3 <| .take 4 <| .take 5 <| .take 6 <| .take 7 <| .take 8 <| .take 9 <| .take 10 <| .take 11 <| .done) mixed (by kernel_rfl) (by kernel_rfl) (Ext.drew _) ?_
  have hd := Ext.drew W2
  generalize W2.drew = W3 at hd
  conv => whnf
  refine ⟨_, fun w' hs => hs.cell (ld h2.head rfl rfl), ?_⟩
  conv => whnf
  refine ⟨cI x, rfl, fun w' hs => lds (hs.at_ hb3) rfl rfl, ?_⟩
  conv => whnf
  refine ⟨_, fun w' hs => (h2.ext hs).lookup x, ?_⟩
  rw [hqp]
  conv => whnf
  refine ⟨.slice q.A q.n q.c, fun w' hs => hs.cell (ld (h2.node q hq) rfl rfl), ?_⟩
  conv => whnf
  have hqrow := h2.row q hq
  rw [hqx] at hqrow
  have hqlen : (kidsOf S x).length = q.n := (own_row cl24 (by decide) hqrow).len
  intro t ht
  cases t <;> simp only [VB] at ht
  case true =>
    conv => whnf
    have h8 : drpE S x = 8 := by
      unfold drpE
      rw [if_neg (by simpa using hx), if_pos (fun e1 => by rw [e1] at hqlen; simp at hqlen; omega)]
    exact Drp.not h (hE.tr hd) (by rw [h8]; decide) (by rw [h8])
  conv => whnf
  have hk0 : kidsOf S x = [] := List.length_eq_zero_iff.1 (by omega)
  have h0 : drpE S x = 0 := by unfold drpE; rw [if_neg (by simpa using hx), if_neg (by simpa using hk0)]
  have hx0 : x ≠ Idn.z := by
    obtain ⟨e, he, rfl⟩ := List.mem_map.1 hx
    exact okI_ne (h.ok.ok e he)
  have hqN : q ∈ Ns := by
    rcases List.mem_cons.1 hq with rfl | hq'
    · rw [h.root] at hqx; exact absurd hqx.symm hx0
    · exact hq'
  have hqS : q.e ∈ S := by rw [← h.els]; exact List.mem_map_of_mem (f := fun r : NodeR => r.e) hqN
  have hpar : q.e.ref = Idn.z ∨ q.e.ref ∈ ids S := (h.ok.ref _ hqS).imp id (·.1)
  replace h2 := h2.ext hd
  replace hb3 := hd.at_ hb3
  replace hE := hE.tr hd
  clear hd hqrow
  obtain ⟨p, hp, hpx, hpp, _⟩ := h2.there hpar
  refine VDraw.mk' tab_ok (Ext W3) [] (.take 0 <| .take 1 <| .take 2 <| .take 3 <| .take 4 <| .take 5 <| .take 6 <| .take 7 <| .take 8 <| .take 9 <| .take 10 <| .take 11 <| .take 12 <| .take 13 <| .take 14 <| .take 15 <| .done) mixed (by kernel_rfl) (by kernel_rfl) (Ext.drew _) ?_
  have hd := Ext.drew W3
  generalize W3.drew = W4 at hd
  conv => whnf
  refine ⟨_, fun w' hs => hs.cell (ld h2.head rfl rfl), ?_⟩
  conv => whnf
  refine ⟨_, fun w' hs => hs.cell (ld h2.head rfl rfl), ?_⟩
  conv => whnf
  refine ⟨cI x, rfl, fun w' hs => lds (hs.at_ hb3) rfl rfl, ?_⟩
  conv => whnf
  refine ⟨_, fun w' hs => (h2.ext hs).lookup x, ?_⟩
  rw [hqp]
  conv => whnf
  refine ⟨cI q.e.ref, rfl, fun w' hs => lds (hs.at_ (h2.node q hq)) rfl rfl, ?_⟩
  conv => whnf
  refine ⟨_, fun w' hs => (h2.ext hs).lookup q.e.ref, ?_⟩
  rw [hpp]
  conv => whnf
  replace h2 := h2.ext hd
  replace hb3 := hd.at_ hb3
  replace hE := hE.tr hd
  clear hd
  have hrow := h2.row p hp
  rw [hpx] at hrow
  have hlen : (kidsOf S q.e.ref).length = p.n := (own_row cl24 (by decide) hrow).len
  have hkl := kids_len S q.e.ref
  have hfew := h.few
  refine VDraw.mk' tab_ok (Ext W4) [5] (.take 0 <| .take 1 <| .take 2 <| .take 3 <| .take 4 <| .one 5 <| .take 6 <| .take 7 <| .take 8 <| .take 9 <| .take 10 <| .done) mixed (by kernel_rfl) (by kernel_rfl) (Ext.drew _) ?_
  have hd := Ext.drew W4
  generalize W4.drew = W5 at hd
  conv => whnf
  refine ⟨.slice p.A p.n p.c, fun w' hs => hs.cell (ld (h2.node p hp) rfl rfl), ?_⟩
  conv => whnf
  refine ⟨cI x, rfl, fun w' hs => lds (hs.at_ hb3) rfl rfl, ?_⟩
  conv => whnf
  refine (fn42 x ((own_row cl24 (by decide) hrow).ext hd) (desc_kids _ _) (by omega)).mono ?_
  rintro _ W6 ⟨he, rfl, hpos⟩
  replace he := hd.tr he
  replace hb3 := he.at_ hb3
  replace h2 := h2.ext he
  replace hE := hE.tr he
  clear he hd hrow
  conv => whnf
  have hxk : x ∈ kidsOf S q.e.ref := mem_kids.2 ⟨q.e, hqS, rfl, hqx⟩
  obtain ⟨hm1, hm2⟩ := posI_mem (desc_kids S q.e.ref) hxk
  have hplt : posI (kidsOf S q.e.ref) x < p.n := by have := (List.getElem?_eq_some_iff.1 hm1).1; omega
  have hrow := h2.row p hp
  rw [hpx] at hrow
  generalize posI (kidsOf S q.e.ref) x = ps at *
  refine ⟨.slice p.A p.n p.c, ld (h2.node p hp) rfl rfl, ?_⟩
  conv => whnf
  intro r hr
  obtain rfl : r = ((ps + 1 : Nat) : Int) := by rw [hr, wrap_id (by omega) (by omega)]; rfl
  clear hr
  conv => whnf
  refine (fn44 (i := ps) (j := ps + 1) hrow (by omega) (by omega)).mono ?_
  rintro _ W7 ⟨rfl, hown, hgr⟩
  rw [hm2] at hown
  have hgc := (grown_chg hgr).mono (U := fun k => k = p.blk ∨ k = m ∨ p.row = some k) (fun k hk => .inr (.inr hk))
  have hbn := h2.blk_ne hp
  have hnode : W7.heap[p.blk]? = some p.obj := (grown_chg hgr).at_ (h2.node p hp) (fun e1 => (hbn.2.2.2 p hp _ e1).1 rfl)
  have hhead : W7.heap[b]? = _ := (grown_chg hgr).at_ h2.head (fun e1 => (hbn.2.2.2 p hp _ e1).2.1 rfl)
  have hmap : W7.heap[m]? = _ := (grown_chg hgr).at_ h2.map (fun e1 => (hbn.2.2.2 p hp _ e1).2.2 rfl)
  have hb3g : W7.heap[b3]? = _ := (grown_chg hgr).at_ hb3 (fun e1 => by have := h.row_lt p hp _ e1; omega)
  conv => whnf
  refine ⟨p.blk, 6, _, _, rfl, hnode, Nat.le_of_ble_eq_true rfl, rfl, rfl, fun W8 hWh => ?_⟩
  have hnode2 : W8.heap[p.blk]? = some (NodeR.obj { p with A := p.A, n := ps + (p.n - (ps + 1)), c := p.c }) := hWh.at_
  replace hgc := hWh.chg hgc (.inl (.inl rfl))
  replace hhead := hWh.keep hhead hbn.1
  replace hmap := hWh.keep hmap hbn.2.1
  replace hb3g := hWh.keep hb3g (fun e1 => by have := at_lt (h.node p hp); omega)
  replace hown := own_chg hown (hWh.chg ((Ext.refl W7).chg (· = p.blk)) (.inl rfl)) (fun k hk e1 => by
    subst e1
    obtain ⟨cs, h5⟩ := own_at hown hk
    rw [hnode] at h5
    cases h5)
  clear hnode hWh hgr hrow hb3
  conv => whnf
  refine VDraw.mk' tab_ok (Ext W8) [5] (.take 0 <| .take 1 <| .take 2 <| .take 3 <| .take 4 <| .one 5 <| .done) mixed (by kernel_rfl) (by kernel_rfl) (Ext.drew _) ?_
  have hdr := Ext.drew W8
  generalize W8.drew = W9 at hdr
  conv => whnf
  refine ⟨_, fun w' hs => hs.cell (ld hhead rfl rfl), ?_⟩
  conv => whnf
  refine ⟨cI x, rfl, fun w' hs => lds (hs.at_ hb3g) rfl rfl, ?_⟩
  conv => whnf
  have hmap9 := hdr.at_ hmap
  have hdel := delete_run keyLaw24 (P := Try.prog) (mt := 74) (et := 71) (ty := 0) (kt2 := 24) Try.runUnderlying74 (k := kI x) ⟨_, _, rfl⟩ hmap9 (keys_ent _)
  obtain ⟨i, hfi, hNi⟩ := findE_some' h.keys hq
  rw [hqx] at hfi
  rw [List.toList_toArray, hfi] at hdel
  have hiN : i < (R :: Ns).length := (List.getElem?_eq_some_iff.1 hNi).1
  have hes : ((R :: Ns).map NodeR.ent).toArray.eraseIdxIfInBounds i = ((R :: Ns.filter (fun r => decide (r.e.id ≠ q.e.id))).map NodeR.ent).toArray := by
    rw [erase_ent _ _ hiN, erase_key h.keys hNi, List.filter_cons, if_pos (by rw [decide_eq_true_eq, h.root, hqx]; exact fun e1 => hx0 e1.symm)]
  simp only [hes] at hdel
  refine Run.mk' _ _ hdel ?_
  have hP := Put.mk' hmap9 (.map ((R :: Ns.filter (fun r => decide (r.e.id ≠ q.e.id))).map NodeR.ent).toArray cl)
  generalize VC.World.putObj W9 m (.map ((R :: Ns.filter (fun r => decide (r.e.id ≠ q.e.id))).map NodeR.ent).toArray cl) = W10 at hP ⊢
  have hgk := hP.chg (hgc.tr_ext hdr) (.inl (.inr (.inl rfl)))
  have hnodek := hP.keep (hdr.at_ hnode2) (Ne.symm hbn.2.1)
  have hownk := own_chg (own_ext hown hdr) (hP.chg ((Ext.refl W9).chg (· = m)) (.inl rfl)) (fun k hk e1 => by
    subst e1
    obtain ⟨cs, h5⟩ := own_at (own_ext hown hdr) hk
    rw [hmap9] at h5
    cases h5)
  have hmapk := hP.at_
  conv => whnf
  rw [← hqx] at h0
  have hkd := kids_drop h.ok h0 q.e.ref
  rw [hqx] at hkd
  rw [← hkd, ← hpx, ← hqx] at hownk
  obtain ⟨hL, hF⟩ := h2.shrink (W := W10) hp hqN h0 hpx hgk hnodek hownk (.inl (by cases p.A <;> rfl)) hmapk
  subst hqx
  refine ⟨by rw [h0], ?_, _, _, _, hL, fun k hk => (hF k hk).imp id fun h5 => Nat.le_trans hE.le h5⟩
  refine (hE.chg _).tr (hgk.mono ?_)
  rintro k (rfl | rfl | h5)
  · exact .inr (.inr ⟨p, hp, .inl rfl⟩)
  · exact .inr (.inl rfl)
  · exact .inr (.inr ⟨p, hp, .inr h5⟩)
end
end Go.Proofs.Ytbkmbignincilaa
