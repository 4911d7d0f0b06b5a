/- weave.Line.own's closure: the walk. -/
import Derived.Test.YtbkmbignincilaaW10
namespace Go.Proofs.Ytbkmbignincilaa
open Go Go.VC Go.RowKit
set_option linter.unusedVariables false
set_option linter.unusedSimpArgs false
set_option maxRecDepth 100000

/-- What an iterator leaves behind. -/
def Iter (J D : SInv) (pre all : List El) (F : Nat → Prop) (w : World) (W : World) : Prop :=
  ∃ F', Chg F w W ∧ (∀ k, F' k → F k ∨ w.heap.size ≤ k) ∧ (J (pre ++ all) F' W ∨ ∃ pre', pre' <+: pre ++ all ∧ D pre' F' W)
section
variable {b m cl : Nat} {S : List El} {R : NodeR} {Ns : List NodeR}
set_option maxHeartbeats 4000000
theorem fn64 : ∀ (N : Nat) (x : Idn), gt S x ≤ N → (x = Idn.z ∨ x ∈ ids S) → ∀ {P : List El → Prop} {l : Nat} {J D : SInv}, YI P l J D → ∀ {pre : List El} {F : Nat → Prop} {w : World} {b2 b3 : Nat}, LineAt w b m S R Ns cl → (∀ k, Foot b m (R :: Ns) k → ¬ F k) → J pre F w → (∀ q, q <+: pre ++ own S x → P q) →
    w.heap[b2]? = some (.cells #[.pointer (some ⟨b, 0, none⟩)] 25 (0, 0)) → w.heap[b3]? = some (.cells #[.int .i64 x.t, .int .i64 x.s] 24 (0, 0)) → ¬ F b2 → ¬ F b3 →
    Ret Try.prog 64 #[yV l, .pointer (some ⟨b2, 0, none⟩), .pointer (some ⟨b3, 0, none⟩)] w fun v W => v = .tuple #[] ∧ Iter J D pre (own S x) F w W := by
  intro N
  induction N using Nat.strongRecOn with
  | _ N ih =>
    intro x hN hx P l J D Y pre F w b2 b3 h hfoot hJ hP hb2 hb3 hF2 hF3
    refine Ret.of_vcm tab_ok Try.func64 rfl Try.ntmps64 rfl (Nat.le_of_ble_eq_true rfl) Try.call64 ?_
    conv => whnf
    intro W hW
    have hbt := hW.at_
    have hE := hW.e
    have hbtF : ¬ F w.heap.size := fun hf => by have := Y.lowJ hJ _ hf; omega
    generalize hbte : w.heap.size = bt at hbt hbtF ⊢
    clear hW
    conv => whnf
    refine VDraw.mk' tab_ok (Ext W) [] (.take 0 <| .take 1 <| .take 2 <| .take 3 <| .take 4 <| .take 5 <| .take 6 <| .take 7 <| .take 8 <| .take 9 <| .take 10 <| .done) mixed (by kernel_rfl) (by kernel_rfl) (Ext.drew _) ?_
    have hd := Ext.drew W
    generalize W.drew = W1 at hd
    conv => whnf
    refine ⟨_, fun w' hs => hs.cell (hE.cell (ld hb2 rfl rfl)), ?_⟩
    conv => whnf
    refine ⟨_, fun w' hs => hs.cell (hE.cell (ld h.head rfl rfl)), ?_⟩
    conv => whnf
    refine ⟨cI x, rfl, fun w' hs => lds (hs.at_ (hE.at_ hb3)) rfl rfl, ?_⟩
    conv => whnf
    refine ⟨_, fun w' hs => (h.ext (hE.tr hs)).lookup x, ?_⟩
    obtain ⟨p, hp, hpx, hptr, _⟩ := h.there hx
    rw [hptr]
    conv => whnf
    refine ⟨.slice p.A p.n p.c, fun w' hs => hs.cell (hE.cell (ld (h.node p hp) rfl rfl)), ?_⟩
    conv => whnf
    replace hE := hE.tr hd
    replace hbt := hd.at_ hbt
    clear hd
    have hrow := h.row p hp
    rw [hpx] at hrow
    have hlen : (kidsOf S x).length = p.n := (own_row cl24 (by decide) hrow).len
    have hfew := h.few
    have hkl := kids_len S x
    let g : Idn → List El := fun y => elOf S y :: own S y
    refine VLoopM.mk' tab_ok (X := Nat × (Nat → Prop) × List Nat) (fun q => [(1, .pointer (some ⟨b2, 0, none⟩)), (2, .pointer (some ⟨b3, 0, none⟩)), (3, .pointer (some ⟨bt, 0, none⟩)), (15, .slice p.A p.n p.c), (16, .int .i64 p.n), (17, .int .i64 q.1)])
      (fun q => q.2.2.map VC.mark)
      (fun q W => q.1 ≤ p.n ∧ Chg F w W ∧ (∀ k, q.2.1 k → F k ∨ w.heap.size ≤ k) ∧ J (pre ++ ((kidsOf S x).take q.1).flatMap g) q.2.1 W ∧ W.heap[bt]? = some (.cells #[yV l] 107 (0, 0)) ∧ ¬ q.2.1 bt ∧
        (∀ d ∈ q.2.2, W.heap[d]? = some (.deferred (some [])) ∧ ¬ q.2.1 d ∧ w.heap.size ≤ d) ∧ q.2.2.Nodup) (fun q _ => p.n - q.1) (0, F, [])
      ⟨rfl, rfl, rfl, rfl, rfl, rfl, trivial⟩ rfl ⟨Nat.zero_le _, hE.chg _, fun k hk => .inl hk, by simpa using Y.stabJ hJ (hE.chg fun _ => False) (fun k hk => hk.elim), hbt, hbtF, fun d hd => (by cases hd), List.nodup_nil⟩ ?_
    rintro ⟨k, Fk, ds⟩ j Wk ⟨hkn, hc, hFk, hJk, hbk, hbF, hds, hnd⟩
    dsimp only at hkn hc hFk hJk hbk hbF hds hnd
    conv => whnf
    intro t ht
    cases t <;> simp only [VB] at ht
    case false =>
      conv => whnf
      obtain rfl : k = p.n := by omega
      refine leave_marks ds Wk hnd (fun d hd => (hds d hd).1) fun W' hcw => ?_
      conv => whnf
      refine ⟨rfl, Fk, chg_new hc hcw (fun i hi => .inr (hds i hi).2.2), hFk, .inl ?_⟩
      have e1 : ((kidsOf S x).take p.n).flatMap g = own S x := by rw [List.take_of_length_le (by omega), own_eq h.ok hx]
      rw [e1] at hJk
      exact Y.stabJ hJk hcw (fun i hi => (hds i hi).2.1)
    case true =>
      have hk : k < p.n := by omega
      have hL := h.chg hc (fun i hi hf => hfoot i hf hi)
      obtain ⟨a, hk', hA, hcell⟩ := (own_row cl24 (by decide) (h.row p hp)).at_ hk
      obtain ⟨y, hy⟩ : ∃ y, y = (kidsOf S x)[k] := ⟨_, rfl⟩
      have hcell2 : Cells Wk (a.add (k * 2)) (cI y) := by
        have h1 := (own_row cl24 (by decide) (hL.row p hp)).at_ hk
        obtain ⟨a2, hk2, hA2, hcell2⟩ := h1
        rw [hA] at hA2
        cases hA2
        rw [hy]
        have e2 : kidsOf S p.e.id = kidsOf S x := by rw [hpx]
        simp only [e2] at hcell2
        exact hcell2
      clear hcell hk'
      have hyk : y ∈ kidsOf S x := by rw [hy]; exact List.getElem_mem _
      have hys := kid_in hyk
      have hgt := gt_kid h.ok hx hyk
      conv => whnf
      refine ⟨by omega, by omega, a, hA, ?_⟩
      conv => whnf
      refine ⟨cI y, rfl, hcell2, ?_⟩
      conv => whnf
      intro Wa hWa
      conv => whnf
      refine ⟨Wk.heap.size, 0, _, _, rfl, hWa.at_, Nat.le_of_ble_eq_true rfl, rfl, rfl, fun Wb hWb => ?_⟩
      have hEb : Ext Wk Wb := hWb.e hWa.e (Nat.le_refl _)
      have hb5 : Wb.heap[Wk.heap.size]? = some (.cells #[.int .i64 y.t, .int .i64 y.s] 24 (0, 0)) := hWb.at_
      have hb5F : ¬ Fk Wk.heap.size := fun hf => by have := Y.lowJ hJk _ hf; omega
      generalize hb5e : Wk.heap.size = b5 at hb5 hb5F ⊢
      replace hJk := Y.stabJ hJk (hEb.chg fun _ => False) (fun i hi => hi.elim)
      replace hbk := hEb.at_ hbk
      replace hds : ∀ d ∈ ds, Wb.heap[d]? = some (.deferred (some [])) ∧ ¬ Fk d ∧ w.heap.size ≤ d := fun d hd => ⟨hEb.at_ (hds d hd).1, (hds d hd).2⟩
      have hb5w : w.heap.size ≤ b5 := by rw [← hb5e]; exact hc.size
      replace hc := hc.tr_ext hEb
      replace hL := hL.ext hEb
      clear hcell2 hWa hWb hEb hb5e Wa
      have hk2 := hc.at_ hb2 hF2
      have hk3 := hc.at_ hb3 hF3
      conv => whnf
      have nold : ∀ i, i < w.heap.size → ¬ F i → ¬ Fk i := fun i hi hn hf => by
        rcases hFk i hf with h1 | h1
        · exact hn h1
        · omega
      have nb2 := nold b2 (at_lt hb2) hF2
      have nfoot : ∀ i, Fk i → ¬ Foot b m (R :: Ns) i := fun i hi hf => nold i (h.foot_lt hf) (hfoot i hf) hi
      have hown : own S x = ((kidsOf S x).take k).flatMap g ++ (elOf S y :: own S y) ++ ((kidsOf S x).drop (k + 1)).flatMap g := by
        rw [own_eq h.ok hx]
        have e2 : kidsOf S x = (kidsOf S x).take k ++ y :: (kidsOf S x).drop (k + 1) := by
          rw [hy, ← List.drop_eq_getElem_cons, List.take_append_drop]
        conv => lhs; rw [e2]
        rw [List.flatMap_append, List.flatMap_cons]
        simp [g]
      refine VDraw.mk' tab_ok (Chg Fk Wb) [] (.take 0 <| .take 1 <| .take 2 <| .take 3 <| .take 4 <| .take 5 <| .take 6 <| .take 7 <| .take 8 <| .take 9 <| .one 10 <| .take 11 <| .done) mixed (by kernel_rfl) (by kernel_rfl) ((Ext.drew _).chg _) ?_
      have hd := Ext.drew Wb
      generalize Wb.drew = Wc at hd
      conv => whnf
      refine ⟨yV l, fun w' hs => hs.cell (ld hbk rfl rfl) hbF, ?_⟩
      conv => whnf
      refine ⟨_, fun w' hs => hs.cell (ld hk2 rfl rfl) nb2, ?_⟩
      conv => whnf
      refine ⟨_, fun w' hs => hs.cell (ld hL.head rfl rfl) (fun hf => nfoot _ hf (.inl rfl)), ?_⟩
      conv => whnf
      refine ⟨cI y, rfl, fun w' hs => lds (hs.at_ hb5 hb5F) rfl rfl, ?_⟩
      conv => whnf
      refine ⟨_, fun w' hs => (hL.chg hs nfoot).lookup y, ?_⟩
      obtain ⟨q, hq, hqy, hqp, hqe⟩ := hL.there (.inr hys)
      have hy0 : y ≠ Idn.z := by
        obtain ⟨e, he, rfl⟩ := List.mem_map.1 hys
        exact okI_ne (h.ok.ok e he)
      rw [if_neg hy0] at hqe
      rw [hqp]
      conv => whnf
      refine ⟨cE q.e, rfl, fun w' hs => lds (hs.at_ (hL.node q hq) (fun hf => nfoot _ hf (.inr (.inr ⟨q, hq, .inl rfl⟩)))) rfl rfl, ?_⟩
      conv => whnf
      replace hJk := Y.stabJ hJk (hd.chg fun _ => False) (fun i hi => hi.elim)
      refine (Y.step q.e (hP _ (by rw [hqe, hown]; exact ⟨own S y ++ ((kidsOf S x).drop (k + 1)).flatMap g, by simp⟩)) hJk).mono ?_
      rintro v Wd ⟨F', hcd, hF', hv⟩
      have hbd : Chg Fk Wb Wd := (hd.chg _).tr hcd
      refine ⟨hbd, ?_⟩
      -- behind the yield
      have hcw : Chg F w Wd := chg_new hc hbd hFk
      have hF'w : ∀ i, F' i → F i ∨ w.heap.size ≤ i := fun i hi => by
        rcases hF' i hi with h1 | h1
        · exact hFk i h1
        · exact .inr (Nat.le_trans (Nat.le_trans hc.size hd.le) h1)
      have nbd : ∀ i, i < Wb.heap.size → ¬ Fk i → ¬ F' i := fun i hi hn hf => by
        rcases hF' i hf with h1 | h1
        · exact hn h1
        · have := hd.le; omega
      have hbk' := hbd.at_ hbk hbF
      have hbF' := nbd bt (at_lt hbk) hbF
      have hb5' := hbd.at_ hb5 hb5F
      have hb5F' := nbd b5 (at_lt hb5) hb5F
      have hds' : ∀ d ∈ ds, Wd.heap[d]? = some (.deferred (some [])) ∧ ¬ F' d ∧ w.heap.size ≤ d := fun d hd => ⟨hbd.at_ (hds d hd).1 (hds d hd).2.1, nbd d (at_lt (hds d hd).1) (hds d hd).2.1, (hds d hd).2.2⟩
      have hLd := hL.chg hbd nfoot
      rw [hqe] at hv
      clear hJk hbk hbF hb5 hb5F hds hcd hF' nb2 nfoot nold nbd hL hk2 hk3 hbd hd hFk
      have hG2 : ((kidsOf S x).take (k + 1)).flatMap g = ((kidsOf S x).take k).flatMap g ++ (elOf S y :: own S y) := by
        rw [List.take_succ_eq_append_getElem (by omega), ← hy, List.flatMap_append]
        simp [g]
      generalize ((kidsOf S x).take k).flatMap g = G at *
      rcases hv with ⟨rfl, hv⟩ | ⟨rfl, hv⟩
      case inr =>
        conv => whnf
        refine leave_marks ds Wd hnd (fun d hd => (hds' d hd).1) fun W' hcw' => ?_
        conv => whnf
        refine ⟨rfl, F', chg_new hcw hcw' (fun i hi => .inr (hds' i hi).2.2), hF'w, .inr ⟨_, ?_, Y.stabD hv hcw' (fun i hi => (hds' i hi).2.1)⟩⟩
        rw [hown]
        exact ⟨own S y ++ ((kidsOf S x).drop (k + 1)).flatMap g, by simp⟩
      case inl =>
        conv => whnf
        refine ⟨_, ld (hcw.at_ hb2 hF2) rfl rfl, ?_⟩
        conv => whnf
        refine ⟨cI y, rfl, lds hb5' rfl rfl, ?_⟩
        conv => whnf
        refine (fn50 b y Wd).mono ?_
        rintro _ We ⟨hEe, c2, c3, rfl, hc2, hc3, hc2n, hc3n⟩
        have hlow := Y.lowJ hv
        replace hv := Y.stabJ hv (hEe.chg fun _ => False) (fun i hi => hi.elim)
        conv => whnf
        refine VRange.mk' (gf := 64) (lb := [.pointer (some ⟨c2, 0, none⟩), .pointer (some ⟨c3, 0, none⟩)]) rfl Try.call64 ?_
        intro fn tmps Wf hT hEf hszf hdf hLf
        replace hv := Y.stabJ hv (hEf.chg fun _ => False) (fun i hi => hi.elim)
        have hEdf := hEe.tr hEf
        have hle := hEe.le
        have hbtl := at_lt hbk'
        have hc2l := at_lt hc2
        have hc3l := at_lt hc3
        have hwl := hcw.size
        generalize hLn : We.heap.size + 1 = L at hLf ⊢
        generalize hDn : We.heap.size = Dm at *
        have hI := Y.inner hLf hT rfl (by kernel_rfl) (by kernel_rfl) (show L ≠ bt by omega) (show L ≠ Dm by omega) (show bt ≠ Dm by omega) (by
          intro e jf wq Q hbq hLq hyq
          conv => whnf
          intro W1 hW1
          conv => whnf
          refine ⟨wq.heap.size, 0, _, _, rfl, hW1.at_, Nat.le_of_ble_eq_true rfl, rfl, rfl, fun W2 hW2 => ?_⟩
          have hE2 : Ext wq W2 := hW2.e hW1.e (Nat.le_refl _)
          have hb6 : W2.heap[wq.heap.size]? = some (.cells (cE e).toArray 49 (0, 0)) := hW2.at_
          have hb6L : wq.heap.size ≠ L := by have := at_lt hLq; omega
          generalize wq.heap.size = b6 at hb6 hb6L ⊢
          conv => whnf
          refine ⟨rfl, hE2.at_ hLq, fun w2 hp2 => ?_⟩
          have hb6' := hp2.keep hb6 hb6L
          have hbq' := hp2.keep (hE2.at_ hbq) (show bt ≠ L by omega)
          conv => whnf
          refine ⟨yV l, ld hbq' rfl rfl, ?_⟩
          conv => whnf
          refine ⟨cE e, rfl, lds hb6' rfl rfl, ?_⟩
          conv => whnf
          refine (hyq W2 w2 w2 hE2 hp2 (Ext.refl _)).mono ?_
          rintro v W3 ⟨hr3, hv3⟩
          rcases hv3 with ⟨rfl, hq3⟩ | ⟨rfl, hq3⟩
          · conv => whnf
            exact ⟨hr3, hq3⟩
          · conv => whnf
            exact ⟨hr3, hq3⟩)
        refine (ih (gt S y) (by omega) y (Nat.le_refl _) (.inr hys) hI (pre := pre ++ G ++ [elOf S y]) (F := fun i => F' i ∨ i = L ∨ i = bt ∨ i = Dm) (w := Wf) (b2 := c2) (b3 := c3) (hLd.ext hEdf) ?_
          ⟨F', hv, hLf, hEdf.at_ hbk', hdf, fun hf => ?_, hbF', fun hf => ?_, fun _ => Iff.rfl⟩ (fun q hq => hP q (hq.trans (by rw [hown]; exact ⟨((kidsOf S x).drop (k + 1)).flatMap g, by simp⟩))) (hEf.at_ hc2) (hEf.at_ hc3) ?_ ?_).mono ?_
        · rintro i hi (h1 | h1 | h1 | h1)
          · have h2 := h.foot_lt hi
            rcases hF'w i h1 with h3 | h3
            · exact hfoot i hi h3
            · omega
          all_goals (have h2 := h.foot_lt hi; omega)
        · have := hlow _ hf; omega
        · have := hlow _ hf; omega
        · rintro (h1 | h1 | h1 | h1)
          · have := hlow _ h1; omega
          all_goals omega
        · rintro (h1 | h1 | h1 | h1)
          · have := hlow _ h1; omega
          all_goals omega
        rintro v Wg ⟨rfl, F2', hcg, hF2', hres⟩
        have hds2 : ∀ d ∈ ds, d < Wd.heap.size ∧ d ≠ bt := fun d hd => ⟨at_lt (hds' d hd).1, fun e1 => by
          have := (hds' d hd).1
          rw [e1, hbk'] at this
          cases this⟩
        have hdsg : ∀ d ∈ ds, Wg.heap[d]? = some (.deferred (some [])) ∧ w.heap.size ≤ d := fun d hd => by
          obtain ⟨h1, h2⟩ := hds2 d hd
          refine ⟨hcg.at_ (hEdf.at_ (hds' d hd).1) ?_, (hds' d hd).2.2⟩
          rintro (h3 | h3 | h3 | h3)
          · exact (hds' d hd).2.1 h3
          all_goals omega
        have hDs : Dm ∉ ds := fun hm => by have := (hds2 Dm hm).1; omega
        have hcwg : Chg F w Wg := chg_new (hcw.tr_ext hEdf) hcg (fun i hi => by
          rcases hi with h1 | h1 | h1 | h1
          · exact hF'w i h1
          all_goals (right; omega))
        have hF3w : ∀ (F3 : Nat → Prop), (∀ i, F2' i ↔ F3 i ∨ i = L ∨ i = bt ∨ i = Dm) → ∀ i, F3 i → (F' i ∨ i = L ∨ i = bt ∨ i = Dm) ∨ Wf.heap.size ≤ i := fun F3 hfo i hi => hF2' i ((hfo i).2 (.inl hi))
        have hF3n : ∀ (F3 : Nat → Prop), (∀ i, F2' i ↔ F3 i ∨ i = L ∨ i = bt ∨ i = Dm) → ∀ i, F3 i → F i ∨ w.heap.size ≤ i := fun F3 hfo i hi => by
          rcases hF3w F3 hfo i hi with (h1 | h1 | h1 | h1) | h1
          · exact hF'w i h1
          all_goals (right; omega)
        have hF3d : ∀ (F3 : Nat → Prop), (∀ i, F2' i ↔ F3 i ∨ i = L ∨ i = bt ∨ i = Dm) → ∀ d ∈ ds, ¬ F3 d := fun F3 hfo d hd hf => by
          obtain ⟨h1, h2⟩ := hds2 d hd
          rcases hF3w F3 hfo d hf with (h3 | h3 | h3 | h3) | h3
          · exact (hds' d hd).2.1 h3
          all_goals omega
        rcases hres with ⟨F3, hi⟩ | ⟨pre', hpre, F3, hi⟩
        · refine ⟨.ready, none, hi.rec_, by simp, fun W4 hp4 => ?_⟩
          have hpc := put_chg hp4
          have hn3 := hF3n F3 hi.foot
          have hnd3 := hF3d F3 hi.foot
          have hcw4 : Chg F w W4 := chg_new hcwg hpc (fun i hi => .inr (by omega))
          conv => whnf
          intro r hr
          obtain rfl : r = ((k + 1 : Nat) : Int) := by rw [hr, wrap_id (by omega) (by omega)]; rfl
          clear hr
          conv => whnf
          refine ⟨(k + 1, F3, Dm :: ds), ⟨rfl, rfl, rfl, rfl, rfl, rfl, trivial⟩, rfl, ⟨by dsimp only; omega, hcw4, hn3, ?_, hpc.at_ hi.box (by omega), hi.nB, fun d hd => ?_, List.nodup_cons.2 ⟨hDs, hnd⟩⟩, by dsimp only; omega⟩
          · dsimp only
            rw [hG2]
            have := Y.stabJ hi.j hpc (fun i e1 hf => hi.nL (e1 ▸ hf))
            simpa using this
          · dsimp only at hd ⊢
            rcases List.mem_cons.1 hd with rfl | hd
            · exact ⟨hpc.at_ hi.dfr (by omega), hi.nD, by omega⟩
            · exact ⟨hpc.at_ (hdsg d hd).1 (by have := hds2 d hd; omega), hnd3 d hd, (hdsg d hd).2⟩
        · refine ⟨.done, some .ret, hi.rec_, by simp, fun W4 hp4 => ?_⟩
          have hpc := put_chg hp4
          have hn3 := hF3n F3 hi.foot
          have hnd3 := hF3d F3 hi.foot
          have hcw4 : Chg F w W4 := chg_new hcwg hpc (fun i hi => .inr (by omega))
          conv => whnf
          refine leave_marks (Dm :: ds) W4 (List.nodup_cons.2 ⟨hDs, hnd⟩) (fun d hd => ?_) fun W' hcw' => ?_
          · rcases List.mem_cons.1 hd with rfl | hd
            · exact hpc.at_ hi.dfr (by omega)
            · exact hpc.at_ (hdsg d hd).1 (by have := hds2 d hd; omega)
          · conv => whnf
            refine ⟨rfl, F3, chg_new hcw4 hcw' (fun i hi2 => ?_), hn3, .inr ⟨pre', ?_, ?_⟩⟩
            · rcases List.mem_cons.1 hi2 with rfl | hi2
              · right; omega
              · exact .inr (hdsg i hi2).2
            · refine hpre.trans ?_
              rw [hown]
              exact ⟨((kidsOf S x).drop (k + 1)).flatMap g, by simp⟩
            · refine Y.stabD (Y.stabD hi.j hpc (fun i e1 hf => hi.nL (e1 ▸ hf))) hcw' (fun i hi2 hf => ?_)
              rcases List.mem_cons.1 hi2 with rfl | hi2
              · exact hi.nD hf
              · exact hnd3 i hi2 hf
end
end Go.Proofs.Ytbkmbignincilaa
