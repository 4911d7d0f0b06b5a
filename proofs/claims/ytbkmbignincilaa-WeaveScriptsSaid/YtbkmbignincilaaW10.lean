/- weave.Line.own, its closure: an iterator over what is one's own. -/
import Derived.Test.YtbkmbignincilaaW9
import Derived.Test.YtbkmbignincilaaRng
namespace Go.Proofs.Ytbkmbignincilaa
open Go Go.VC Go.RowKit
set_option linter.unusedVariables false
set_option linter.unusedSimpArgs false
set_option maxRecDepth 100000

theorem fn50 (b : Nat) (x : Idn) (w : World) : Ret Try.prog 50 #[.pointer (some ⟨b, 0, none⟩), kI x] w fun v W => Ext w W ∧ ∃ b2 b3, v = .func (.func 64) #[] #[.pointer (some ⟨b2, 0, none⟩), .pointer (some ⟨b3, 0, none⟩)] ∧
    W.heap[b2]? = some (.cells #[.pointer (some ⟨b, 0, none⟩)] 25 (0, 0)) ∧ W.heap[b3]? = some (.cells #[.int .i64 x.t, .int .i64 x.s] 24 (0, 0)) ∧ w.heap.size ≤ b2 ∧ w.heap.size ≤ b3 := by
  refine Ret.of_vc tab_ok Try.func50 rfl Try.ntmps50 rfl (Nat.le_of_ble_eq_true rfl) Try.call50 ?_
  conv => whnf
  intro W hW
  conv => whnf
  intro W1 hW1
  conv => whnf
  have := hW.e.le
  exact ⟨hW.e.tr hW1.e, _, _, rfl, hW1.e.at_ hW.at_, hW1.at_, Nat.le_refl _, this⟩

abbrev elV (e : El) : Value := .agg #[.int .i64 e.id.t, .int .i64 e.id.s, .int .i64 e.ref.t, .int .i64 e.ref.s, .int .i64 e.rune, .slice none 0 0]
abbrev cE (e : El) : List Value := [.int .i64 e.id.t, .int .i64 e.id.s, .int .i64 e.ref.t, .int .i64 e.ref.s, .int .i64 e.rune, .slice none 0 0]
abbrev SInv := List El → (Nat → Prop) → World → Prop
/-- What a yield is to its iterator: J while it wants more, D when it has had enough; the blocks F are its own. -/
structure YI (P : List El → Prop) (l : Nat) (J D : SInv) : Prop where
  stabJ : ∀ {pre : List El} {F T : Nat → Prop} {w W : World}, J pre F w → Chg T w W → (∀ k, T k → ¬ F k) → J pre F W
  stabD : ∀ {pre : List El} {F T : Nat → Prop} {w W : World}, D pre F w → Chg T w W → (∀ k, T k → ¬ F k) → D pre F W
  lowJ : ∀ {pre : List El} {F : Nat → Prop} {w : World}, J pre F w → ∀ k, F k → k < w.heap.size
  lowD : ∀ {pre : List El} {F : Nat → Prop} {w : World}, D pre F w → ∀ k, F k → k < w.heap.size
  step : ∀ {pre : List El} {F : Nat → Prop} {w : World} (e : El), P (pre ++ [e]) → J pre F w → YCall Try.prog l #[elV e] w fun v W => ∃ F', Chg F w W ∧ (∀ k, F' k → F k ∨ w.heap.size ≤ k) ∧ ((v = .bool true ∧ J (pre ++ [e]) F' W) ∨ (v = .bool false ∧ D (pre ++ [e]) F' W))
theorem chg_new {F G : Nat → Prop} {a b c : World} (h : Chg F a b) (k : Chg G b c) (hG : ∀ i, G i → F i ∨ a.heap.size ≤ i) : Chg F a c :=
  ⟨k.os.trans h.os, k.tape.trans h.tape, k.output.trans h.output, Nat.le_trans h.size k.size, fun i hi hF => (k.block i (Nat.lt_of_lt_of_le hi h.size) (fun g => by rcases hG i g with h1 | h1; exact hF h1; omega)).trans (h.block i hi hF)⟩
theorem put_chg {w W : World} {b : Nat} {o : Obj} (hp : Put w b o W) : Chg (· = b) w W := hp.chg ((Ext.refl w).chg _) (.inl rfl)

abbrev yV (l : Nat) : Value := .func (.yield l) #[] #[]
/-- The state of an inner range's yield: the outer one's, the record, the box that holds the outer yield, the mark. -/
structure InJ (J : SInv) (l L bt D : Nat) (o : Obj) (pre : List El) (F2 : Nat → Prop) (W : World) (F : Nat → Prop) : Prop where
  j : J pre F W
  rec_ : W.heap[L]? = some o
  box : W.heap[bt]? = some (.cells #[yV l] 107 (0, 0))
  dfr : W.heap[D]? = some (.deferred (some []))
  nL : ¬ F L
  nB : ¬ F bt
  nD : ¬ F D
  foot : ∀ k, F2 k ↔ F k ∨ k = L ∨ k = bt ∨ k = D
theorem YI.inner {P : List El → Prop} {l : Nat} {J D : SInv} (Y : YI P l J D) {fn : FuncId} {tmps : Array Value} {asg body : Code} {f : Fr} {L bt Dm : Nat} {W0 : World} (hL0 : W0.heap[L]? = some (lrec fn tmps #[36] asg body Dm .ready none)) (ht : TRel 42 f tmps) (hf : f 3 = .pointer (some ⟨bt, 0, none⟩))
    (hs1 : simpleC asg = true) (hs2 : simpleC body = true) (hLB : L ≠ bt) (hLD : L ≠ Dm) (hBD : bt ≠ Dm)
    (hcode : ∀ (e : El) (j : Fr) (w : World) (Q : Value → World → Prop), w.heap[bt]? = some (.cells #[yV l] 107 (0, 0)) → w.heap[L]? = some (lrec fn tmps #[36] asg body Dm .ready none) →
      (∀ w1 w2 w3, Ext w w1 → Put w1 L (lrec fn tmps #[36] asg body Dm .busy none) w2 → Ext w2 w3 → YCall Try.prog l #[elV e] w3 fun v W => W.heap[L]? = some (lrec fn tmps #[36] asg body Dm .busy none) ∧
        ((v = .bool true ∧ ∀ W', Put W L (lrec fn tmps #[36] asg body Dm .ready none) W' → Q (.bool true) W') ∨ (v = .bool false ∧ ∀ W', Put W L (lrec fn tmps #[36] asg body Dm .done (some .ret)) W' → Q (.bool false) W'))) →
      vc Try.prog tab 42 asg [(36, elV e), (3, .pointer (some ⟨bt, 0, none⟩))] j w (fun e' env' j' w' => e' = .normal ∧ w'.heap[L]? = some (lrec fn tmps #[36] asg body Dm .ready none) ∧
        ∀ w2, Put w' L (lrec fn tmps #[36] asg body Dm .busy none) w2 → vc Try.prog tab 42 body env' j' w2 (roundK L (lrec fn tmps #[36] asg body Dm) Q))) :
    YI P L (fun pre F2 W => ∃ F, InJ J l L bt Dm (lrec fn tmps #[36] asg body Dm .ready none) pre F2 W F) (fun pre F2 W => ∃ F, InJ D l L bt Dm (lrec fn tmps #[36] asg body Dm .done (some .ret)) pre F2 W F) := by
  have nf : ∀ {T F2 F : Nat → Prop}, (∀ k, F2 k ↔ F k ∨ k = L ∨ k = bt ∨ k = Dm) → (∀ k, T k → ¬ F2 k) → (∀ k, T k → ¬ F k) ∧ ¬ T L ∧ ¬ T bt ∧ ¬ T Dm := fun hfo hT =>
    ⟨fun k t hf => hT k t ((hfo k).2 (.inl hf)), fun t => hT _ t ((hfo _).2 (.inr (.inl rfl))), fun t => hT _ t ((hfo _).2 (.inr (.inr (.inl rfl)))), fun t => hT _ t ((hfo _).2 (.inr (.inr (.inr rfl))))⟩
  refine ⟨?_, ?_, ?_, ?_, ?_⟩
  · rintro pre F2 T w W ⟨F, h⟩ hc hT
    obtain ⟨h1, h2, h3, h4⟩ := nf h.foot hT
    exact ⟨F, Y.stabJ h.j hc h1, hc.at_ h.rec_ h2, hc.at_ h.box h3, hc.at_ h.dfr h4, h.nL, h.nB, h.nD, h.foot⟩
  · rintro pre F2 T w W ⟨F, h⟩ hc hT
    obtain ⟨h1, h2, h3, h4⟩ := nf h.foot hT
    exact ⟨F, Y.stabD h.j hc h1, hc.at_ h.rec_ h2, hc.at_ h.box h3, hc.at_ h.dfr h4, h.nL, h.nB, h.nD, h.foot⟩
  · rintro pre F2 w ⟨F, h⟩ k hk
    rcases (h.foot k).1 hk with h1 | rfl | rfl | rfl
    · exact Y.lowJ h.j k h1
    · exact at_lt h.rec_
    · exact at_lt h.box
    · exact at_lt h.dfr
  · rintro pre F2 w ⟨F, h⟩ k hk
    rcases (h.foot k).1 hk with h1 | rfl | rfl | rfl
    · exact Y.lowD h.j k h1
    · exact at_lt h.rec_
    · exact at_lt h.box
    · exact at_lt h.dfr
  · rintro pre F2 w e hP ⟨F, h⟩
    refine YCall.round' tab_ok (n := 42) h.rec_ ht (by decide) hs1 hs2 [(36, elV e), (3, .pointer (some ⟨bt, 0, none⟩))] ⟨rfl, hf, trivial⟩ fun j => ?_
    refine hcode e j w _ h.box h.rec_ fun w1 w2 w3 he1 hp1 he2 => ?_
    have hc3 : Chg (· = L) w w3 := (hp1.chg (S := (· = L)) (he1.chg _) (.inl rfl)).tr_ext he2
    have hj3 := Y.stabJ h.j hc3 (fun k e1 hF => h.nL (e1 ▸ hF))
    have hr3 : w3.heap[L]? = _ := he2.at_ hp1.at_
    have hb3 := hc3.at_ h.box (Ne.symm hLB)
    have hd3 := hc3.at_ h.dfr (Ne.symm hLD)
    refine (Y.step e hP hj3).mono ?_
    rintro v W ⟨F', hc, hF', hv⟩
    have hrW : W.heap[L]? = _ := hc.at_ hr3 h.nL
    have hbW := hc.at_ hb3 h.nB
    have hdW := hc.at_ hd3 h.nD
    have old : ∀ k, k < w3.heap.size → ¬ F k → ¬ F' k := fun k hk hn hf => by
      rcases hF' k hf with h1 | h1
      · exact hn h1
      · omega
    have nL' := old L (at_lt hr3) h.nL
    have nB' := old bt (at_lt hb3) h.nB
    have nD' := old Dm (at_lt hd3) h.nD
    have key : ∀ (o : Obj) (W' : World), Put W L o W' → Chg F2 w W' ∧ ∀ k, (F' k ∨ k = L ∨ k = bt ∨ k = Dm) → F2 k ∨ w.heap.size ≤ k := fun o W' hp => by
      refine ⟨?_, ?_⟩
      · have h1 : Chg F2 w w3 := hc3.mono fun k e1 => (h.foot k).2 (.inr (.inl e1))
        have h2 : Chg F2 w W := h1.tr (hc.mono fun k hk => (h.foot k).2 (.inl hk))
        exact hp.chg h2 (.inl ((h.foot L).2 (.inr (.inl rfl))))
      · rintro k (h1 | h1)
        · rcases hF' k h1 with h2 | h2
          · exact .inl ((h.foot k).2 (.inl h2))
          · exact .inr (Nat.le_trans hc3.size h2)
        · exact .inl ((h.foot k).2 (.inr h1))
    refine ⟨hrW, ?_⟩
    rcases hv with ⟨rfl, hv⟩ | ⟨rfl, hv⟩
    · refine .inl ⟨rfl, fun W' hp => ?_⟩
      obtain ⟨k1, k2⟩ := key _ W' hp
      have hpc := put_chg hp
      exact ⟨_, k1, k2, .inl ⟨rfl, F', Y.stabJ hv hpc (fun k e1 hf => nL' (e1 ▸ hf)), hp.at_, hpc.at_ hbW (Ne.symm hLB), hpc.at_ hdW (Ne.symm hLD), nL', nB', nD', fun k => Iff.rfl⟩⟩
    · refine .inr ⟨rfl, fun W' hp => ?_⟩
      obtain ⟨k1, k2⟩ := key _ W' hp
      have hpc := put_chg hp
      exact ⟨_, k1, k2, .inr ⟨rfl, F', Y.stabD hv hpc (fun k e1 hf => nL' (e1 ▸ hf)), hp.at_, hpc.at_ hbW (Ne.symm hLB), hpc.at_ hdW (Ne.symm hLD), nL', nB', nD', fun k => Iff.rfl⟩⟩
theorem leave_marks {R : World → Prop} : ∀ (ds : List Nat) (W : World), ds.Nodup → (∀ d ∈ ds, W.heap[d]? = some (.deferred (some []))) → (∀ W', Chg (fun k => k ∈ ds) W W' → R W') → leaveK R (ds.map VC.mark) W
  | [], W, _, _, h => h W ((Ext.refl W).chg _)
  | d :: ds, W, hn, hd, h => by
    obtain ⟨h1, h2⟩ := List.nodup_cons.1 hn
    refine ⟨d, rfl, hd d (List.mem_cons_self ..), fun w' hp => leave_marks ds w' h2 (fun k hk => hp.keep (hd k (List.mem_cons_of_mem _ hk)) (fun e => h1 (e ▸ hk))) fun W' hc => h W' ?_⟩
    exact ((put_chg hp).mono fun k e => e ▸ List.mem_cons_self ..).tr (hc.mono fun k hk => List.mem_cons_of_mem _ hk)
end Go.Proofs.Ytbkmbignincilaa
