/- A weave.Line in memory; Len, has, New, Kids. -/
import Derived.Test.YtbkmbignincilaaW4
namespace Go.Proofs.Ytbkmbignincilaa
open Go Go.VC Go.RowKit
set_option linter.unusedVariables false
set_option linter.unusedSimpArgs false
set_option maxRecDepth 100000

theorem eq24 (a b : Idn) (xo yo : Operand) (w : World) : (do eqGuard .eql 24 xo yo (kI a) (kI b); Go.binOp .eql 24 (kI a) (kI b) : Sem Value).run Try.prog w = .ok (.bool (decide (a = b))) w := by
  have e : decide (a = b) = decide (a.t = b.t ∧ a.s = b.s) := by rw [decide_eq_decide]; cases a; cases b; simp
  rw [e]
  exact eql_agg Try.eqGuardType24 (fun w => eqIn_two (n := 9998) Try.underlying24 Try.stoodInHeld24 Try.underlying3 Try.underlying3 rfl rfl rfl rfl _ _ _ _ w) xo yo w
theorem neq24 (a b : Idn) (xo yo : Operand) (w : World) : (do eqGuard .neq 24 xo yo (kI a) (kI b); Go.binOp .neq 24 (kI a) (kI b) : Sem Value).run Try.prog w = .ok (.bool (!decide (a = b))) w := by
  have e : decide (a = b) = decide (a.t = b.t ∧ a.s = b.s) := by rw [decide_eq_decide]; cases a; cases b; simp
  rw [e]
  exact neq_agg Try.eqGuardType24 (fun w => eqIn_two (n := 9998) Try.underlying24 Try.stoodInHeld24 Try.underlying3 Try.underlying3 rfl rfl rfl rfl _ _ _ _ w) xo yo w
/-- A node in memory. -/
structure NodeR where
  e : El
  blk : Nat
  born : Nat
  A : Option Addr
  n : Nat
  c : Nat
abbrev NodeR.ent (p : NodeR) : MapEntry := { key := kI p.e.id, val := .pointer (some ⟨p.blk, 0, none⟩), born := p.born }
abbrev NodeR.obj (p : NodeR) : Obj := .cells #[.int .i64 p.e.id.t, .int .i64 p.e.id.s, .int .i64 p.e.ref.t, .int .i64 p.e.ref.s, .int .i64 p.e.rune, .slice none 0 0, .slice p.A p.n p.c] 73 (0, 0)
abbrev NodeR.row (p : NodeR) : Option Nat := (Value.slice p.A p.n p.c).ownBlock
structure LineAt (w : World) (b m : Nat) (S : List El) (R : NodeR) (Ns : List NodeR) (cl : Nat) : Prop where
  ok : SOK S
  few : S.length ≤ 4096
  els : Ns.map (·.e) = S
  root : R.e = El.z
  head : w.heap[b]? = some (.cells #[.map (some m)] 76 (0, 0))
  map : w.heap[m]? = some (.map ((R :: Ns).map NodeR.ent).toArray cl)
  node : ∀ p ∈ R :: Ns, w.heap[p.blk]? = some p.obj
  row : ∀ p ∈ R :: Ns, w.ownsRow 0 24 2 (.slice p.A p.n p.c) p.n ((kidsOf S p.e.id).flatMap cI)
  blks : ((R :: Ns).map (·.blk)).Nodup
  rows : (R :: Ns).Pairwise fun p q => ∀ g, p.row = some g → q.row ≠ some g
/-- The blocks of a line. -/
def Foot (b m : Nat) (Ns : List NodeR) (k : Nat) : Prop := k = b ∨ k = m ∨ ∃ p ∈ Ns, k = p.blk ∨ p.row = some k

theorem own_at {w : World} {base e size n : Nat} {v : Value} {xs : List Value} (h : w.ownsRow base e size v n xs) {k : Nat} (hk : v.ownBlock = some k) : ∃ cs, w.heap[k]? = some (.cells cs e (0, 0)) := by
  rcases h.2 with ⟨rfl, _⟩ | ⟨g, cap, cur, rfl, _, hg, _⟩
  · simp [Value.ownBlock] at hk
  · have : g = k := by simpa [Value.ownBlock] using hk
    subst this
    exact ⟨_, hg⟩
theorem own_chg {T : Nat → Prop} {w W : World} {base e size n : Nat} {v : Value} {xs : List Value} (h : w.ownsRow base e size v n xs) (hc : Chg T w W) (hn : ∀ k, v.ownBlock = some k → ¬ T k) : W.ownsRow base e size v n xs := by
  refine ⟨h.1, ?_⟩
  rcases h.2 with h2 | ⟨g, cap, cur, h3, h4, h5, h6⟩
  · exact .inl h2
  · exact .inr ⟨g, cap, cur, h3, h4, hc.at_ h5 (hn g (by rw [h3]; rfl)), h6⟩
section
variable {w W : World} {b m cl : Nat} {S : List El} {R : NodeR} {Ns : List NodeR}
theorem LineAt.chg {T : Nat → Prop} (h : LineAt w b m S R Ns cl) (hc : Chg T w W) (hn : ∀ k, T k → ¬ Foot b m (R :: Ns) k) : LineAt W b m S R Ns cl :=
  ⟨h.ok, h.few, h.els, h.root, hc.at_ h.head (fun t => hn _ t (.inl rfl)), hc.at_ h.map (fun t => hn _ t (.inr (.inl rfl))), fun p hp => hc.at_ (h.node p hp) (fun t => hn _ t (.inr (.inr ⟨p, hp, .inl rfl⟩))),
    fun p hp => own_chg (h.row p hp) hc (fun k hk t => hn _ t (.inr (.inr ⟨p, hp, .inr hk⟩))), h.blks, h.rows⟩
theorem LineAt.ext (h : LineAt w b m S R Ns cl) (he : Ext w W) : LineAt W b m S R Ns cl := h.chg (he.chg fun _ => False) (fun _ t => t.elim)
theorem LineAt.foot_lt (h : LineAt w b m S R Ns cl) {k : Nat} (hk : Foot b m (R :: Ns) k) : k < w.heap.size := by
  rcases hk with rfl | rfl | ⟨p, hp, rfl | hr⟩
  · exact at_lt h.head
  · exact at_lt h.map
  · exact at_lt (h.node p hp)
  · obtain ⟨cs, hg⟩ := own_at (h.row p hp) hr
    exact at_lt hg
theorem okI_ne {x : Idn} (h : okI x = true) : x ≠ Idn.z := by
  intro e
  subst e
  revert h
  decide
theorem LineAt.keys (h : LineAt w b m S R Ns cl) : ((R :: Ns).map (·.e.id)).Nodup := by
  rw [List.map_cons]
  refine List.nodup_cons.2 ⟨fun hm => ?_, ?_⟩
  · obtain ⟨p, hp, he⟩ := List.mem_map.1 hm
    have : p.e ∈ S := by rw [← h.els]; exact List.mem_map_of_mem (f := fun q : NodeR => q.e) hp
    have h1 := okI_ne (h.ok.ok _ this)
    rw [h.root] at he
    exact h1 he
  · have : Ns.map (·.e.id) = ids S := by rw [← h.els]; simp [ids]
    rw [this]
    exact h.ok.nodup
theorem LineAt.len (h : LineAt w b m S R Ns cl) : Ns.length = S.length := by rw [← h.els]; simp
end

theorem findE_none' {N : List NodeR} {x : Idn} (h : ∀ p ∈ N, p.e.id ≠ x) : findE (kI x) (N.map NodeR.ent) = none := by
  unfold findE
  have : (N.map NodeR.ent).findIdx? (fun e => @decide (kI x = e.key) (Classical.propDecidable _)) = none := by
    rw [List.findIdx?_eq_none_iff]
    intro e he
    obtain ⟨p, hp, rfl⟩ := List.mem_map.1 he
    rw [decide_eq_false_iff_not]
    intro e1
    have := K2.inj.1 e1
    exact h p hp (by cases hpe : p.e.id; cases x; simp_all)
  rw [this]
theorem findE_some' {N : List NodeR} (hn : (N.map (·.e.id)).Nodup) {p : NodeR} (hp : p ∈ N) : ∃ i, findE (kI p.e.id) (N.map NodeR.ent) = some (i, .pointer (some ⟨p.blk, 0, none⟩)) ∧ N[i]? = some p := by
  obtain ⟨i, hi⟩ := List.getElem?_of_mem hp
  have hlt := (List.getElem?_eq_some_iff.1 hi).1
  refine ⟨i, ?_, hi⟩
  have hf : (N.map NodeR.ent).findIdx? (fun e => @decide (kI p.e.id = e.key) (Classical.propDecidable _)) = some i := by
    rw [List.findIdx?_eq_some_iff_getElem]
    refine ⟨by simpa using hlt, ?_, fun j hj => ?_⟩
    · have : N[i] = p := (List.getElem?_eq_some_iff.1 hi).2
      simp [this]
    · simp only [List.getElem_map, decide_eq_true_eq]
      intro e1
      have e2 := K2.inj.1 e1
      have h3 : N[j].e.id = N[i].e.id := by
        have : N[i] = p := (List.getElem?_eq_some_iff.1 hi).2
        rw [this]
        cases hq : N[j].e.id; cases hq2 : p.e.id; simp_all
      have h4 := (List.nodup_iff_pairwise_ne.1 hn)
      have := (List.pairwise_iff_getElem.1 h4) j i (by simp; omega) (by simpa using hlt) hj
      simp at this
      exact this h3
  unfold findE
  rw [hf]
  have : N[i] = p := (List.getElem?_eq_some_iff.1 hi).2
  simp [List.getD_eq_getElem?_getD, hlt, this]

/-- What a look-up answers. -/
def ptrOf (N : List NodeR) (x : Idn) : Value := match N.find? (fun p => p.e.id = x) with | some p => .pointer (some ⟨p.blk, 0, none⟩) | none => .pointer none
theorem find_key {N : List NodeR} (hn : (N.map (·.e.id)).Nodup) {p : NodeR} (hp : p ∈ N) : N.find? (fun q => q.e.id = p.e.id) = some p := by
  induction N with
  | nil => cases hp
  | cons a N ih =>
    obtain ⟨h1, h2⟩ := List.nodup_cons.1 hn
    rw [List.find?_cons]
    rcases List.mem_cons.1 hp with rfl | hp
    · simp
    · have hne : a.e.id ≠ p.e.id := fun e1 => h1 (List.mem_map.2 ⟨p, hp, e1.symm⟩)
      simp only [hne, decide_false]
      exact ih h2 hp
section
variable {w W : World} {b m cl : Nat} {S : List El} {R : NodeR} {Ns : List NodeR}
theorem keys_ent (N : List NodeR) : ∀ e ∈ (N.map NodeR.ent).toArray.toList, ∃ a b, e.key = K2 a b := by
  intro e he
  obtain ⟨p, hp, rfl⟩ := List.mem_map.1 he
  exact ⟨_, _, rfl⟩
theorem LineAt.lookup (h : LineAt w b m S R Ns cl) (x : Idn) : (Instr.lookup 74 (.map (some m)) (kI x) false).run Try.prog w = .ok (ptrOf (R :: Ns) x) w := by
  rw [lookup_run (k := kI x) keyLaw24 (mt := 74) (et := 71) Try.runUnderlying74 Try.zeroValue71 ⟨_, _, rfl⟩ h.map (keys_ent _) false]
  unfold ptrOf
  cases hf : (R :: Ns).find? (fun p => p.e.id = x) with
  | none =>
    rw [List.find?_eq_none] at hf
    have := findE_none' (N := R :: Ns) (x := x) (fun p hp e => hf p hp (by simpa using e))
    rw [List.toList_toArray, this]
    rfl
  | some p =>
    have hp := List.mem_of_find?_eq_some hf
    have hx : p.e.id = x := by have := List.find?_some hf; simpa using this
    subst hx
    obtain ⟨i, hi, _⟩ := findE_some' h.keys hp
    rw [List.toList_toArray, hi]
    rfl
theorem LineAt.there (h : LineAt w b m S R Ns cl) {x : Idn} (hx : x = Idn.z ∨ x ∈ ids S) : ∃ p ∈ R :: Ns, p.e.id = x ∧ ptrOf (R :: Ns) x = .pointer (some ⟨p.blk, 0, none⟩) ∧ p.e = (if x = Idn.z then El.z else elOf S x) := by
  have key : ∀ p ∈ R :: Ns, p.e.id = x → ptrOf (R :: Ns) x = .pointer (some ⟨p.blk, 0, none⟩) := fun p hp e => by
    subst e
    unfold ptrOf
    rw [find_key h.keys hp]
  rcases hx with rfl | hx
  · have : R.e.id = Idn.z := by rw [h.root]; rfl
    exact ⟨R, List.mem_cons_self .., this, key R (List.mem_cons_self ..) this, by rw [if_pos rfl]; exact h.root⟩
  · obtain ⟨e, he, rfl⟩ := List.mem_map.1 hx
    have he2 := he
    rw [← h.els] at he
    obtain ⟨p, hp, rfl⟩ := List.mem_map.1 he
    refine ⟨p, List.mem_cons_of_mem _ hp, rfl, key p (List.mem_cons_of_mem _ hp) rfl, ?_⟩
    rw [if_neg (okI_ne (h.ok.ok _ he2)), elOf_of h.ok.nodup he2]
theorem LineAt.gone (h : LineAt w b m S R Ns cl) {x : Idn} (h0 : x ≠ Idn.z) (hx : x ∉ ids S) : ptrOf (R :: Ns) x = .pointer none := by
  unfold ptrOf
  cases hf : (R :: Ns).find? (fun p => p.e.id = x) with
  | none => rfl
  | some p =>
    have hp := List.mem_of_find?_eq_some hf
    have hpx : p.e.id = x := by have := List.find?_some hf; simpa using this
    rcases List.mem_cons.1 hp with rfl | hp
    · rw [h.root] at hpx
      exact absurd hpx.symm h0
    · refine absurd ?_ hx
      rw [← hpx, ← h.els]
      exact List.mem_map_of_mem (f := fun e : El => e.id) (List.mem_map_of_mem (f := fun q : NodeR => q.e) hp)

theorem fn26 (h : LineAt w b m S R Ns cl) : Ret Try.prog 26 #[.pointer (some ⟨b, 0, none⟩)] w fun v W => w = W ∧ v = .int .i64 (S.length : Nat) := by
  refine Ret.of_vc tab_ok Try.func26 rfl Try.ntmps26 rfl (Nat.le_of_ble_eq_true rfl) Try.call26 ?_
  conv => whnf
  refine ⟨_, ld h.head rfl rfl, ?_⟩
  conv => whnf
  refine Run.mk' _ _ (maplen_run Try.runUnderlying74 h.map) ?_
  conv => whnf
  intro r hr
  conv => whnf
  refine ⟨rfl, ?_⟩
  have := h.few
  have hl := h.len
  have e : r = (S.length : Nat) := by rw [hr, List.size_toArray, List.length_map, List.length_cons, hl, wrap_id (by omega) (by omega)]; omega
  rw [e]
theorem fn26n (w : World) : Ret Try.prog 26 #[.pointer none] w fun v W => w = W ∧ v = .int .i64 0 := by
  refine Ret.of_vc tab_ok Try.func26 rfl Try.ntmps26 rfl (Nat.le_of_ble_eq_true rfl) Try.call26 ?_
  conv => whnf
  exact ⟨rfl, rfl⟩
theorem fn41 (h : LineAt w b m S R Ns cl) (x : Idn) : Ret Try.prog 41 #[.pointer (some ⟨b, 0, none⟩), kI x] w fun v W => Ext w W ∧ v = .bool (hasS S x) := by
  refine Ret.of_vc tab_ok Try.func41 rfl Try.ntmps41 rfl (Nat.le_of_ble_eq_true rfl) Try.call41 ?_
  conv => whnf
  intro W hW
  conv => whnf
  refine VDraw.mk' tab_ok (Ext W) [] (.take 0 <| .take 1 <| .take 2 <| .take 3 <| .take 4 <| .take 5 <| .take 6 <| .take 7 <| .take 8 <| .take 9 <| .take 10 <| .take 11 <| .take 12 <| .done) mixed (by kernel_rfl) (by kernel_rfl) (Ext.drew _) ?_
  have hd := Ext.drew W
  have hb := hW.at_
  have hE := hW.e
  generalize W.drew = W2 at hd
  conv => whnf
  refine ⟨cI x, rfl, fun w' hs => lds (hs.at_ hb) rfl rfl, ?_⟩
  conv => whnf
  refine ⟨_, fun w' => build24_0 w', ?_⟩
  conv => whnf
  refine ⟨_, neq24 x Idn.z, fun t ht => ?_⟩
  by_cases hx : x = Idn.z
  · have e : hasS S x = false := by
      simp only [hasS, decide_eq_false_iff_not]
      intro hm
      obtain ⟨e, he, h1⟩ := List.mem_map.1 hm
      exact okI_ne (h.ok.ok e he) (h1.trans hx)
    rw [decide_eq_true hx] at ht
    rw [e]
    subst ht
    conv => whnf
    exact ⟨hE.tr hd, rfl⟩
  · rw [decide_eq_false hx] at ht
    subst ht
    conv => whnf
    refine ⟨_, fun w' hs => hs.cell (hE.cell (ld h.head rfl rfl)), ?_⟩
    conv => whnf
    refine ⟨cI x, rfl, fun w' hs => lds (hs.at_ hb) rfl rfl, ?_⟩
    conv => whnf
    refine ⟨_, fun w' hs => (h.ext (hE.tr hs)).lookup x, ?_⟩
    by_cases hm : x ∈ ids S
    · obtain ⟨p, hp, _, hptr, _⟩ := h.there (.inr hm)
      rw [hptr, show hasS S x = true from decide_eq_true hm]
      conv => whnf
      exact ⟨hE.tr hd, rfl⟩
    · rw [h.gone hx hm, show hasS S x = false from decide_eq_false hm]
      conv => whnf
      exact ⟨hE.tr hd, rfl⟩
end
end Go.Proofs.Ytbkmbignincilaa
