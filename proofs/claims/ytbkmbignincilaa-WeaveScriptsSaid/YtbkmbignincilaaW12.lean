/- slices.Collect of an iterator over a line: Elements. -/
import Derived.Test.YtbkmbignincilaaW11
namespace Go.Proofs.Ytbkmbignincilaa
open Go Go.VC Go.RowKit
set_option linter.unusedVariables false
set_option linter.unusedSimpArgs false
set_option maxRecDepth 100000

theorem inf49 : (Try.prog.info? 49).map (fun i => (i.zero, i.size, i.bytes)) = some (some (.agg #[.int .i64 0, .int .i64 0, .int .i64 0, .int .i64 0, .int .i64 0, .slice none 0 0]), 6, 64) := by kernel_rfl
theorem cl49 : ∀ z : El, (cE z).length = 6 := fun _ => rfl
theorem onec49 (zs : List El) : ∀ u ∈ zs.flatMap cE, u.oneCell' = true := by
  intro u hu
  obtain ⟨z, _, hu⟩ := List.mem_flatMap.1 hu
  simp only [cE, List.mem_cons, List.not_mem_nil, or_false] at hu
  rcases hu with rfl | rfl | rfl | rfl | rfl | rfl <;> rfl
abbrev Row49 := Row cE 6
theorem slice28_1 (e : El) (w : World) : (Instr.buildSlice 28 1 #[(0, elV e)]).run Try.prog w = .ok (.slice (some ⟨w.heap.size, 0, none⟩) 1 1) (w.alloc (.cells (cE e).toArray 49)) := by kernel_rfl

theorem own_ne {w : World} {base e size n : Nat} {v : Value} {xs : List Value} (h : w.ownsRow base e size v n xs) {k : Nat} {o : Obj} (ho : w.heap[k]? = some o) (hn : ∀ cs, o ≠ .cells cs e (0, 0)) : v.ownBlock ≠ some k := fun hk => by
  obtain ⟨cs, h2⟩ := own_at h hk
  rw [ho] at h2
  injection h2 with h2
  exact hn cs h2
/-- The state of AppendSeq's yield. -/
structure CoJ (L bx : Nat) (o : Obj) (pre : List El) (F : Nat → Prop) (W : World) (v : Value) : Prop where
  rec_ : W.heap[L]? = some o
  box : W.heap[bx]? = some (.cells #[v] 28 (0, 0))
  own : W.ownsRow bx 49 6 v pre.length (pre.flatMap cE)
  few : pre.length ≤ 4096
  foot : ∀ k, F k ↔ k = L ∨ k = bx ∨ v.ownBlock = some k
theorem YI.collect {fn : FuncId} {tmps : Array Value} {asg body : Code} {f : Fr} {L bx Dm : Nat} {W0 : World} (hL0 : W0.heap[L]? = some (lrec fn tmps #[7] asg body Dm .ready none)) (ht : TRel 13 f tmps) (hf : f 2 = .pointer (some ⟨bx, 0, none⟩))
    (hs1 : simpleC asg = true) (hs2 : simpleC body = true) (hLB : L ≠ bx)
    (hcode : ∀ (e : El) (j : Fr) (w : World) (Q : Value → World → Prop) (v : Value) (pre : List El), w.heap[L]? = some (lrec fn tmps #[7] asg body Dm .ready none) → w.heap[bx]? = some (.cells #[v] 28 (0, 0)) → w.ownsRow bx 49 6 v pre.length (pre.flatMap cE) → pre.length ≤ 4096 →
      (∀ v' W W', Chg (fun k => k = L ∨ k = bx ∨ v.ownBlock = some k) w W → W.heap[L]? = some (lrec fn tmps #[7] asg body Dm .busy none) → W.heap[bx]? = some (.cells #[v'] 28 (0, 0)) → W.ownsRow bx 49 6 v' (pre ++ [e]).length ((pre ++ [e]).flatMap cE) → Moved w v' v →
        Put W L (lrec fn tmps #[7] asg body Dm .ready none) W' → Q (.bool true) W') →
      vc Try.prog tab 13 asg [(7, elV e), (2, .pointer (some ⟨bx, 0, none⟩))] j w (fun e' env' j' w' => e' = .normal ∧ w'.heap[L]? = some (lrec fn tmps #[7] asg body Dm .ready none) ∧
        ∀ w2, Put w' L (lrec fn tmps #[7] asg body Dm .busy none) w2 → vc Try.prog tab 13 body env' j' w2 (roundK L (lrec fn tmps #[7] asg body Dm) Q))) :
    YI (fun q => q.length ≤ 4096) L (fun pre F W => ∃ v, CoJ L bx (lrec fn tmps #[7] asg body Dm .ready none) pre F W v) (fun _ _ _ => False) := by
  refine ⟨?_, fun h => h.elim, ?_, fun h => h.elim, ?_⟩
  · rintro pre F T w W ⟨v, h⟩ hc hT
    have nT : ∀ k, F k → ¬ T k := fun k hf t => hT k t hf
    exact ⟨v, hc.at_ h.rec_ (nT _ ((h.foot _).2 (.inl rfl))), hc.at_ h.box (nT _ ((h.foot _).2 (.inr (.inl rfl)))), own_chg h.own hc (fun k hk => nT k ((h.foot k).2 (.inr (.inr hk)))), h.few, h.foot⟩
  · rintro pre F w ⟨v, h⟩ k hk
    rcases (h.foot k).1 hk with rfl | rfl | h1
    · exact at_lt h.rec_
    · exact at_lt h.box
    · obtain ⟨cs, h2⟩ := own_at h.own h1
      exact at_lt h2
  · rintro pre F w e hP ⟨v, h⟩
    refine YCall.round' tab_ok (n := 13) h.rec_ ht (by decide) hs1 hs2 [(7, elV e), (2, .pointer (some ⟨bx, 0, none⟩))] ⟨rfl, hf, trivial⟩ fun j => ?_
    refine hcode e j w _ v pre h.rec_ h.box h.own h.few fun v' W W' hc hr hb hown hmv hp => ?_
    have hpc := put_chg hp
    have hFc : Chg F w W' := (hc.mono fun k hk => (h.foot k).2 hk).tr (hpc.mono fun k e1 => (h.foot k).2 (.inl e1))
    refine ⟨fun k => k = L ∨ k = bx ∨ v'.ownBlock = some k, hFc, ?_, .inl ⟨rfl, v', hp.at_, hpc.at_ hb (Ne.symm hLB), own_chg hown hpc (fun k hk e1 => ?_), hP, fun k => Iff.rfl⟩⟩
    · rintro k (h1 | h1 | h1)
      · exact .inl ((h.foot k).2 (.inl h1))
      · exact .inl ((h.foot k).2 (.inr (.inl h1)))
      · rcases hmv with h2 | ⟨g, h2, h3⟩
        · exact .inl ((h.foot k).2 (.inr (.inr (h2.symm.trans h1))))
        · rw [h2] at h1; cases h1; exact .inr h3
    · subst e1
      obtain ⟨cs, h2⟩ := own_at hown hk
      rw [hr] at h2
      cases h2
section
variable {b m cl : Nat} {S : List El} {R : NodeR} {Ns : List NodeR}
set_option maxHeartbeats 4000000
theorem fn65 {w : World} (h : LineAt w b m S R Ns cl) {x : Idn} (hx : x = Idn.z ∨ x ∈ ids S) {c2 c3 : Nat} (hc2 : w.heap[c2]? = some (.cells #[.pointer (some ⟨b, 0, none⟩)] 25 (0, 0))) (hc3 : w.heap[c3]? = some (.cells #[.int .i64 x.t, .int .i64 x.s] 24 (0, 0)))
    (hlen : (own S x).length ≤ 4096) :
    Ret Try.prog 65 #[.slice none 0 0, .func (.func 64) #[] #[.pointer (some ⟨c2, 0, none⟩), .pointer (some ⟨c3, 0, none⟩)]] w fun v W => Ext w W ∧ ∃ A c, v = .slice A (own S x).length c ∧ Row49 W A (own S x).length (own S x) ∧ ∀ a, A = some a → w.heap.size ≤ a.block := by
  refine Ret.of_vcm tab_ok Try.func65 rfl Try.ntmps65 rfl (Nat.le_of_ble_eq_true rfl) Try.call65 ?_
  conv => whnf
  intro W hW
  have hbx := hW.at_
  have hE := hW.e
  generalize hbn : w.heap.size = bx at hbx ⊢
  clear hW
  conv => whnf
  refine VRange.mk' (gf := 64) (lb := [.pointer (some ⟨c2, 0, none⟩), .pointer (some ⟨c3, 0, none⟩)]) rfl Try.call64 ?_
  intro fn tmps Wf hT hEf hszf hdf hLf
  have hbl := at_lt hbx
  have hwl := hE.le
  have hEwf := hE.tr hEf
  have hc2l := at_lt hc2
  have hc3l := at_lt hc3
  generalize hLn : W.heap.size + 1 = L at hLf ⊢
  generalize hDn : W.heap.size = Dm at *
  have hI := YI.collect hLf hT rfl (by kernel_rfl) (by kernel_rfl) (show L ≠ bx by omega) (by
    intro e jf wq Q v pre hLq hbq hown hfew hq
    conv => whnf
    intro W1 hW1
    conv => whnf
    refine ⟨wq.heap.size, 0, _, _, rfl, hW1.at_, Nat.le_of_ble_eq_true rfl, rfl, rfl, fun W2 hW2 => ?_⟩
    have hE2 : Ext wq W2 := hW2.e hW1.e (Nat.le_refl _)
    have hb6 : W2.heap[wq.heap.size]? = some (.cells (cE e).toArray 49 (0, 0)) := hW2.at_
    have hb6L : wq.heap.size ≠ L := by have := at_lt hLq; omega
    generalize wq.heap.size = b6 at hb6 hb6L ⊢
    conv => whnf
    refine ⟨rfl, hE2.at_ hLq, fun w2 hp2 => ?_⟩
    have hb6' := hp2.keep hb6 hb6L
    have hbq' := hp2.keep (hE2.at_ hbq) (show bx ≠ L by omega)
    have hLb : w2.heap[L]? = _ := hp2.at_
    have hcq : Chg (fun k => k = L ∨ k = bx ∨ v.ownBlock = some k) wq w2 := hp2.chg (hE2.chg _) (.inl (.inl rfl))
    have hown2 : w2.ownsRow bx 49 6 v pre.length (pre.flatMap cE) := own_chg (own_ext hown hE2) (put_chg hp2) (fun k hk e1 => by
      subst e1
      obtain ⟨cs, h2⟩ := own_at hown hk
      rw [hLq] at h2
      cases h2)
    have hvL : v.ownBlock ≠ some L := own_ne hown hLq (fun cs e1 => by cases e1)
    have hvb : v.ownBlock ≠ some bx := own_ne hown hbq (fun cs e1 => by cases e1)
    conv => whnf
    refine ⟨v, ld hbq' rfl rfl, ?_⟩
    conv => whnf
    refine ⟨cE e, rfl, lds hb6' rfl rfl, ?_⟩
    conv => whnf
    refine Run.mk' _ _ (slice28_1 e w2) ?_
    have hN := New.mk' w2 (.cells (cE e).toArray 49)
    generalize w2.alloc (.cells (cE e).toArray 49) = w3 at hN ⊢
    have hE3 := hN.e
    have hone : Row49 w3 (some ⟨w2.heap.size, 0, none⟩) 1 [e] := Row.of_at cl49 (by decide) hN.at_ rfl rfl (by decide)
    generalize w2.heap.size = b8 at hone ⊢
    clear hN
    conv => whnf
    have hown3 := own_ext hown2 hE3
    refine run_append inf49 Try.underlying28 rfl (by decide) hown3 (hone.rd cl49) (onec49 [e]) (by simp only [maxLen]; omega) (by omega) (by have := at_lt hbq; have := hcq.size; have := hE3.le; omega) ?_
    intro v' w4 hown4 hgr hat
    have hcg := grown_chg hgr
    have hL4 := hcg.at_ (hE3.at_ hLb) hvL
    have hb4 := hcg.at_ (hE3.at_ hbq') hvb
    have hc4 : Chg (fun k => k = L ∨ k = bx ∨ v.ownBlock = some k) wq w4 := (hcq.tr_ext hE3).tr (hcg.mono fun k hk => .inr (.inr hk))
    have hmv : Moved wq v' v := by
      rcases hat with h1 | h1
      · exact .inl h1
      · exact .inr ⟨_, h1, Nat.le_trans hcq.size hE3.le⟩
    conv => whnf
    refine ⟨bx, 0, _, _, rfl, hb4, Nat.le_of_ble_eq_true rfl, ?_, ?_, fun w5 hp5 => ?_⟩
    · obtain ⟨A, c, rfl⟩ := own_form hown4
      rfl
    · obtain ⟨A, c, rfl⟩ := own_form hown4
      rfl
    have hs5 : w5.heap[bx]? = some (.cells #[v'] 28 (0, 0)) := by
      obtain ⟨A, c, rfl⟩ := own_form hown4
      exact hp5.at_
    conv => whnf
    have hL5 := hp5.keep hL4 (show L ≠ bx by omega)
    refine ⟨hL5, fun W' hp' => hq v' w5 W' (hp5.chg hc4 (.inl (.inr (.inl rfl)))) hL5 hs5 ?_ hmv hp'⟩
    have := own_chg hown4 (put_chg hp5) (fun k hk e1 => by
      subst e1
      obtain ⟨cs, h2⟩ := own_at hown4 hk
      rw [hb4] at h2
      cases h2)
    rw [List.length_append, List.flatMap_append]
    exact this)
  refine (fn64 (S := S) (gt S x) x (Nat.le_refl _) hx hI (pre := []) (F := fun k => k = L ∨ k = bx ∨ (none : Option Nat) = some k) (w := Wf) (b2 := c2) (b3 := c3) (h.ext hEwf) ?_
    ⟨.slice none 0 0, hLf, hEf.at_ hbx, own_nil_ _ _ _ _, by decide, fun _ => Iff.rfl⟩ (fun q hq => Nat.le_trans hq.length_le (by simpa using hlen)) (hEwf.at_ hc2) (hEwf.at_ hc3) ?_ ?_).mono ?_
  · rintro i hi (h1 | h1 | h1)
    · have h2 := h.foot_lt hi; omega
    · have h2 := h.foot_lt hi; omega
    · cases h1
  · rintro (h1 | h1 | h1)
    · omega
    · omega
    · cases h1
  · rintro (h1 | h1 | h1)
    · omega
    · omega
    · cases h1
  · rintro v Wg ⟨rfl, F2, hcg, hF2, hres⟩
    rcases hres with ⟨v', hi⟩ | ⟨_, _, hi⟩
    case inr => exact hi.elim
    refine ⟨.ready, none, hi.rec_, by simp, fun W4 hp4 => ?_⟩
    have hew : Ext w W4 := by
      have h1 : Chg (fun _ => False) w Wg := chg_new (hEwf.chg _) hcg (fun i hi => by
        right
        rcases hi with h1 | h1 | h1
        · omega
        · omega
        · cases h1)
      have h2 : Chg (fun _ => False) w W4 := chg_new h1 (put_chg hp4) (fun i hi => .inr (by omega))
      exact ⟨h2.os, h2.tape, h2.output, h2.size, fun k hk => h2.block k hk (fun t => t)⟩
    have hb4 := hp4.keep hi.box (show bx ≠ L by omega)
    have hown4 := own_chg hi.own (put_chg hp4) (fun k hk e1 => by
      subst e1
      obtain ⟨cs, h2⟩ := own_at hi.own hk
      rw [hi.rec_] at h2
      cases h2)
    have hd4 : W4.heap[Dm]? = some (.deferred (some [])) := hp4.keep (hcg.at_ hdf (by rintro (h1 | h1 | h1); omega; omega; cases h1)) (by omega)
    conv => whnf
    refine ⟨v', ld hb4 rfl rfl, ?_⟩
    conv => whnf
    refine ⟨Dm, rfl, hd4, fun W5 hp5 => ?_⟩
    conv => whnf
    have hown5 := own_chg hown4 (put_chg hp5) (fun k hk e1 => by
      subst e1
      obtain ⟨cs, h2⟩ := own_at hown4 hk
      rw [hd4] at h2
      cases h2)
    refine ⟨hp5.e hew (by omega), ?_⟩
    rw [List.nil_append] at hown5
    obtain ⟨A, c, rfl⟩ := own_form hown5
    exact ⟨A, c, rfl, own_row cl49 (by decide) hown5, fun a e => own_ge hown5 a e⟩
end
end Go.Proofs.Ytbkmbignincilaa
