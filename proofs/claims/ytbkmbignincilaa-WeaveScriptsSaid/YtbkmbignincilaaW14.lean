/- Elements, Place. -/
import Derived.Test.YtbkmbignincilaaW12
import Derived.Test.YtbkmbignincilaaW13
namespace Go.Proofs.Ytbkmbignincilaa
open Go Go.VC Go.RowKit
set_option linter.unusedVariables false
set_option linter.unusedSimpArgs false
set_option maxRecDepth 100000

section
variable {b m cl : Nat} {S : List El} {R : NodeR} {Ns : List NodeR}
theorem fn52 {w : World} (h : LineAt w b m S R Ns cl) {x : Idn} (hx : x = Idn.z ∨ x ∈ ids S) {c2 c3 : Nat} (hc2 : w.heap[c2]? = some (.cells #[.pointer (some ⟨b, 0, none⟩)] 25 (0, 0))) (hc3 : w.heap[c3]? = some (.cells #[.int .i64 x.t, .int .i64 x.s] 24 (0, 0)))
    (hlen : (own S x).length ≤ 4096) :
    Ret Try.prog 52 #[.func (.func 64) #[] #[.pointer (some ⟨c2, 0, none⟩), .pointer (some ⟨c3, 0, none⟩)]] w fun v W => Ext w W ∧ ∃ A c, v = .slice A (own S x).length c ∧ Row49 W A (own S x).length (own S x) ∧ ∀ a, A = some a → w.heap.size ≤ a.block := by
  refine Ret.of_vc tab_ok Try.func52 rfl Try.ntmps52 rfl (Nat.le_of_ble_eq_true rfl) Try.call52 ?_
  conv => whnf
  refine (fn65 h hx hc2 hc3 hlen).mono ?_
  rintro _ W ⟨he, A, c, rfl, hr, hfr⟩
  conv => whnf
  exact ⟨he, A, c, rfl, hr, hfr⟩
theorem fn21 {w : World} (h : LineAt w b m S R Ns cl) : Ret Try.prog 21 #[.pointer (some ⟨b, 0, none⟩)] w fun v W => Ext w W ∧ ∃ A c, v = .slice A (own S Idn.z).length c ∧ Row49 W A (own S Idn.z).length (own S Idn.z) ∧ ∀ a, A = some a → w.heap.size ≤ a.block := by
  have hlen : (own S Idn.z).length ≤ 4096 := Nat.le_trans (own_len h.ok (.inl rfl)) h.few
  refine Ret.of_vc tab_ok Try.func21 rfl Try.ntmps21 rfl (Nat.le_of_ble_eq_true rfl) Try.call21 ?_
  conv => whnf
  refine Run.mk' _ _ (build24_0 w) ?_
  conv => whnf
  refine (fn50 b Idn.z w).mono ?_
  rintro _ W1 ⟨he1, c2, c3, rfl, hc2, hc3, _, _⟩
  conv => whnf
  refine (fn52 (h.ext he1) (.inl rfl) hc2 hc3 hlen).mono ?_
  rintro _ W ⟨he, A, c, rfl, hr, hfr⟩
  conv => whnf
  exact ⟨he1.tr he, A, c, rfl, hr, fun a e => Nat.le_trans he1.le (hfr a e)⟩
theorem fn21n (w : World) : Ret Try.prog 21 #[.pointer none] w fun v W => w = W ∧ v = .slice none 0 0 := by
  refine Ret.of_vc tab_ok Try.func21 rfl Try.ntmps21 rfl (Nat.le_of_ble_eq_true rfl) Try.call21 ?_
  conv => whnf
  exact ⟨rfl, rfl⟩
end

/-- The place of an element. -/
def placeL (l : List El) (x : Idn) : Option Nat := l.findIdx? fun e => decide (e.id = x)
def placeV (l : List El) (x : Idn) : Value := match placeL l x with | some i => .tuple #[.int .i64 (i : Nat), .bool true] | none => .tuple #[.int .i64 0, .bool false]
structure PlB (L b3 b4 b5 b6 : Nat) (o : Obj) (x : Idn) (F : Nat → Prop) (W : World) : Prop where
  rec_ : W.heap[L]? = some o
  x3 : W.heap[b3]? = some (.cells #[.int .i64 x.t, .int .i64 x.s] 24 (0, 0))
  foot : ∀ k, F k ↔ k = L ∨ k = b3 ∨ k = b4 ∨ k = b5 ∨ k = b6
structure PlJ (L b3 b4 b5 b6 : Nat) (o : Obj) (x : Idn) (pre : List El) (F : Nat → Prop) (W : World) : Prop extends PlB L b3 b4 b5 b6 o x F W where
  x4 : W.heap[b4]? = some (.cells #[.int .i64 0] 3 (0, 0))
  x5 : W.heap[b5]? = some (.cells #[.bool false] 4 (0, 0))
  x6 : W.heap[b6]? = some (.cells #[.int .i64 (pre.length : Nat)] 3 (0, 0))
  none_ : ∀ e ∈ pre, e.id ≠ x
  few : pre.length ≤ 4096
structure PlD (L b3 b4 b5 b6 : Nat) (o : Obj) (x : Idn) (pre : List El) (F : Nat → Prop) (W : World) : Prop extends PlB L b3 b4 b5 b6 o x F W where
  out : ∃ p0 e, pre = p0 ++ [e] ∧ e.id = x ∧ (∀ a ∈ p0, a.id ≠ x) ∧ W.heap[b4]? = some (.cells #[.int .i64 (p0.length : Nat)] 3 (0, 0)) ∧ W.heap[b5]? = some (.cells #[.bool true] 4 (0, 0)) ∧ (∃ u, W.heap[b6]? = some (.cells #[u] 3 (0, 0)))
theorem YI.place {fn : FuncId} {tmps : Array Value} {asg body : Code} {f : Fr} {L b3 b4 b5 b6 Dm : Nat} {x : Idn} {W0 : World} (hL0 : W0.heap[L]? = some (lrec fn tmps #[13] asg body Dm .ready none)) (ht : TRel 21 f tmps)
    (hf3 : f 3 = .pointer (some ⟨b3, 0, none⟩)) (hf4 : f 4 = .pointer (some ⟨b4, 0, none⟩)) (hf5 : f 5 = .pointer (some ⟨b5, 0, none⟩)) (hf6 : f 6 = .pointer (some ⟨b6, 0, none⟩))
    (hs1 : simpleC asg = true) (hs2 : simpleC body = true) (hne : L ≠ b3 ∧ L ≠ b4 ∧ L ≠ b5 ∧ L ≠ b6 ∧ b3 ≠ b4 ∧ b3 ≠ b5 ∧ b3 ≠ b6 ∧ b4 ≠ b5 ∧ b4 ≠ b6 ∧ b5 ≠ b6)
    (hcode : ∀ (e : El) (j : Fr) (w : World) (Q : Value → World → Prop) (n : Nat), n ≤ 4096 → w.heap[L]? = some (lrec fn tmps #[13] asg body Dm .ready none) → w.heap[b3]? = some (.cells #[.int .i64 x.t, .int .i64 x.s] 24 (0, 0)) →
      w.heap[b4]? = some (.cells #[.int .i64 0] 3 (0, 0)) → w.heap[b5]? = some (.cells #[.bool false] 4 (0, 0)) → w.heap[b6]? = some (.cells #[.int .i64 (n : Nat)] 3 (0, 0)) →
      (∀ w1 w2, Ext w w1 → Put w1 L (lrec fn tmps #[13] asg body Dm .busy none) w2 → (e.id ≠ x → ∀ W W', Put w2 b6 (.cells #[.int .i64 ((n + 1 : Nat) : Int)] 3 (0, 0)) W → Put W L (lrec fn tmps #[13] asg body Dm .ready none) W' → Q (.bool true) W') ∧
        (e.id = x → ∀ W1 W W', Put w2 b4 (.cells #[.int .i64 (n : Nat)] 3 (0, 0)) W1 → Put W1 b5 (.cells #[.bool true] 4 (0, 0)) W → Put W L (lrec fn tmps #[13] asg body Dm .done (some .ret)) W' → Q (.bool false) W')) →
      vc Try.prog tab 21 asg [(13, elV e), (3, .pointer (some ⟨b3, 0, none⟩)), (4, .pointer (some ⟨b4, 0, none⟩)), (5, .pointer (some ⟨b5, 0, none⟩)), (6, .pointer (some ⟨b6, 0, none⟩))] j w (fun e' env' j' w' => e' = .normal ∧ w'.heap[L]? = some (lrec fn tmps #[13] asg body Dm .ready none) ∧
        ∀ w2, Put w' L (lrec fn tmps #[13] asg body Dm .busy none) w2 → vc Try.prog tab 21 body env' j' w2 (roundK L (lrec fn tmps #[13] asg body Dm) Q))) :
    YI (fun q => q.length ≤ 4096) L (PlJ L b3 b4 b5 b6 (lrec fn tmps #[13] asg body Dm .ready none) x) (PlD L b3 b4 b5 b6 (lrec fn tmps #[13] asg body Dm .done (some .ret)) x) := by
  obtain ⟨n1, n2, n3, n4, n5, n6, n7, n8, n9, n10⟩ := hne
  have nT : ∀ {F T : Nat → Prop}, (∀ k, F k ↔ k = L ∨ k = b3 ∨ k = b4 ∨ k = b5 ∨ k = b6) → (∀ k, T k → ¬ F k) → ¬ T L ∧ ¬ T b3 ∧ ¬ T b4 ∧ ¬ T b5 ∧ ¬ T b6 := fun hfo hT =>
    ⟨fun t => hT _ t ((hfo _).2 (.inl rfl)), fun t => hT _ t ((hfo _).2 (.inr (.inl rfl))), fun t => hT _ t ((hfo _).2 (.inr (.inr (.inl rfl)))), fun t => hT _ t ((hfo _).2 (.inr (.inr (.inr (.inl rfl))))), fun t => hT _ t ((hfo _).2 (.inr (.inr (.inr (.inr rfl)))))⟩
  refine ⟨?_, ?_, ?_, ?_, ?_⟩
  · rintro pre F T w W h hc hT
    obtain ⟨t1, t2, t3, t4, t5⟩ := nT h.foot hT
    exact ⟨⟨hc.at_ h.rec_ t1, hc.at_ h.x3 t2, h.foot⟩, hc.at_ h.x4 t3, hc.at_ h.x5 t4, hc.at_ h.x6 t5, h.none_, h.few⟩
  · rintro pre F T w W h hc hT
    obtain ⟨t1, t2, t3, t4, t5⟩ := nT h.foot hT
    obtain ⟨p0, e, h1, h2, h3, h4, h5, u, h6⟩ := h.out
    exact ⟨⟨hc.at_ h.rec_ t1, hc.at_ h.x3 t2, h.foot⟩, p0, e, h1, h2, h3, hc.at_ h4 t3, hc.at_ h5 t4, u, hc.at_ h6 t5⟩
  · rintro pre F w h k hk
    rcases (h.foot k).1 hk with rfl | rfl | rfl | rfl | rfl
    · exact at_lt h.rec_
    · exact at_lt h.x3
    · exact at_lt h.x4
    · exact at_lt h.x5
    · exact at_lt h.x6
  · rintro pre F w h k hk
    obtain ⟨p0, e, h1, h2, h3, h4, h5, u, h6⟩ := h.out
    rcases (h.foot k).1 hk with rfl | rfl | rfl | rfl | rfl
    · exact at_lt h.rec_
    · exact at_lt h.x3
    · exact at_lt h4
    · exact at_lt h5
    · exact at_lt h6
  · rintro pre F w e hP h
    refine YCall.round' tab_ok (n := 21) h.rec_ ht (by decide) hs1 hs2 [(13, elV e), (3, .pointer (some ⟨b3, 0, none⟩)), (4, .pointer (some ⟨b4, 0, none⟩)), (5, .pointer (some ⟨b5, 0, none⟩)), (6, .pointer (some ⟨b6, 0, none⟩))] ⟨rfl, hf3, hf4, hf5, hf6, trivial⟩ fun j => ?_
    refine hcode e j w _ pre.length h.few h.rec_ h.x3 h.x4 h.x5 h.x6 fun w1 w2 he1 hp1 => ⟨fun hex W W' hp2 hp3 => ?_, fun hex W1 W W' hp2 hp3 hp4 => ?_⟩
    · have k3 := hp3.keep (hp2.keep (hp1.keep (he1.at_ h.x3) (Ne.symm n1)) n7) (Ne.symm n1)
      have k4 := hp3.keep (hp2.keep (hp1.keep (he1.at_ h.x4) (Ne.symm n2)) n9) (Ne.symm n2)
      have k5 := hp3.keep (hp2.keep (hp1.keep (he1.at_ h.x5) (Ne.symm n3)) n10) (Ne.symm n3)
      have k6 := hp3.keep hp2.at_ (Ne.symm n4)
      have hc : Chg F w W' := hp3.chg (hp2.chg (hp1.chg (he1.chg F) (.inl ((h.foot _).2 (.inl rfl)))) (.inl ((h.foot _).2 (.inr (.inr (.inr (.inr rfl))))))) (.inl ((h.foot _).2 (.inl rfl)))
      refine ⟨F, hc, fun k hk => .inl hk, .inl ⟨rfl, ⟨hp3.at_, k3, h.foot⟩, k4, k5, by rw [List.length_append]; exact k6, fun a ha => ?_, hP⟩⟩
      rcases List.mem_append.1 ha with ha | ha
      · exact h.none_ a ha
      · rw [List.mem_singleton] at ha; subst ha; exact hex
    · have k3 := hp4.keep (hp3.keep (hp2.keep (hp1.keep (he1.at_ h.x3) (Ne.symm n1)) n5) n6) (Ne.symm n1)
      have k4 := hp4.keep (hp3.keep hp2.at_ n8) (Ne.symm n2)
      have k5 := hp4.keep hp3.at_ (Ne.symm n3)
      have k6 := hp4.keep (hp3.keep (hp2.keep (hp1.keep (he1.at_ h.x6) (Ne.symm n4)) (Ne.symm n9)) (Ne.symm n10)) (Ne.symm n4)
      have hc : Chg F w W' := hp4.chg (hp3.chg (hp2.chg (hp1.chg (he1.chg F) (.inl ((h.foot _).2 (.inl rfl)))) (.inl ((h.foot _).2 (.inr (.inr (.inl rfl)))))) (.inl ((h.foot _).2 (.inr (.inr (.inr (.inl rfl))))))) (.inl ((h.foot _).2 (.inl rfl)))
      exact ⟨F, hc, fun k hk => .inl hk, .inr ⟨rfl, ⟨hp4.at_, k3, h.foot⟩, pre, e, rfl, hex, h.none_, k4, k5, _, k6⟩⟩
theorem placeL_none {l : List El} {x : Idn} (h : ∀ e ∈ l, e.id ≠ x) : placeL l x = none := by
  unfold placeL
  rw [List.findIdx?_eq_none_iff]
  exact fun e he => by rw [decide_eq_false_iff_not]; exact h e he
theorem placeL_at {l p0 : List El} {e : El} {x : Idn} (hp : p0 ++ [e] <+: l) (he : e.id = x) (h : ∀ a ∈ p0, a.id ≠ x) : placeL l x = some p0.length := by
  obtain ⟨t, rfl⟩ := hp
  unfold placeL
  rw [List.append_assoc, List.findIdx?_append, List.findIdx?_eq_none_iff.2 (fun a ha => by rw [decide_eq_false_iff_not]; exact h a ha)]
  simp [List.findIdx?_cons, he]
section
variable {b m cl : Nat} {S : List El} {R : NodeR} {Ns : List NodeR}
set_option maxHeartbeats 4000000
theorem fn18 {w : World} (h : LineAt w b m S R Ns cl) (x : Idn) : Ret Try.prog 18 #[.pointer (some ⟨b, 0, none⟩), kI x] w fun v W => Ext w W ∧ v = placeV (own S Idn.z) x := by
  have hlen : (own S Idn.z).length ≤ 4096 := Nat.le_trans (own_len h.ok (.inl rfl)) h.few
  refine Ret.of_vcm tab_ok Try.func18 rfl Try.ntmps18 rfl (Nat.le_of_ble_eq_true rfl) Try.call18 ?_
  conv => whnf
  intro W3 hW3
  conv => whnf
  intro W4 hW4
  conv => whnf
  intro W5 hW5
  conv => whnf
  intro W6 hW6
  conv => whnf
  refine ⟨W5.heap.size, 0, _, _, rfl, hW6.at_, Nat.le_of_ble_eq_true rfl, rfl, rfl, fun W7 hW7 => ?_⟩
  have hE57 : Ext W5 W7 := hW7.e hW6.e (Nat.le_refl _)
  have x3 := hE57.at_ (hW5.e.at_ (hW4.e.at_ hW3.at_))
  have x4 := hE57.at_ (hW5.e.at_ hW4.at_)
  have x5 := hE57.at_ hW5.at_
  have x6 : W7.heap[W5.heap.size]? = some (.cells #[.int .i64 ((0 : Nat) : Int)] 3 (0, 0)) := hW7.at_
  have hE := hW3.e.tr (hW4.e.tr (hW5.e.tr hE57))
  have s3 := hW3.size
  have s4 := hW4.size
  have s5 := hW5.size
  have l6 := at_lt x6
  generalize hb3 : w.heap.size = b3 at *
  generalize hb4 : W3.heap.size = b4 at *
  generalize hb5 : W4.heap.size = b5 at *
  generalize hb6 : W5.heap.size = b6 at *
  clear hW3 hW4 hW5 hW6 hW7 hE57
  conv => whnf
  refine Run.mk' _ _ (build24_0 W7) ?_
  conv => whnf
  refine (fn50 b Idn.z W7).mono ?_
  rintro _ W8 ⟨he8, c2, c3, rfl, hc2, hc3, hc2n, hc3n⟩
  conv => whnf
  refine VRange.mk' (gf := 64) (lb := [.pointer (some ⟨c2, 0, none⟩), .pointer (some ⟨c3, 0, none⟩)]) rfl Try.call64 ?_
  intro fn tmps Wf hT hEf hszf hdf hLf
  have hle8 := he8.le
  have hEwf := hE.tr (he8.tr hEf)
  have hE7f := he8.tr hEf
  have hc2l := at_lt hc2
  have hc3l := at_lt hc3
  generalize hLn : W8.heap.size + 1 = L at hLf ⊢
  generalize hDn : W8.heap.size = Dm at *
  have hI := YI.place (x := x) hLf hT rfl rfl rfl rfl (by kernel_rfl) (by kernel_rfl) (show L ≠ b3 ∧ L ≠ b4 ∧ L ≠ b5 ∧ L ≠ b6 ∧ b3 ≠ b4 ∧ b3 ≠ b5 ∧ b3 ≠ b6 ∧ b4 ≠ b5 ∧ b4 ≠ b6 ∧ b5 ≠ b6 by omega) (by
    intro e jf wq Q n hn hLq h3q h4q h5q h6q hq
    conv => whnf
    intro V1 hV1
    conv => whnf
    refine ⟨wq.heap.size, 0, _, _, rfl, hV1.at_, Nat.le_of_ble_eq_true rfl, rfl, rfl, fun V2 hV2 => ?_⟩
    have hE2 : Ext wq V2 := hV2.e hV1.e (Nat.le_refl _)
    have hb7 : V2.heap[wq.heap.size]? = some (.cells (cE e).toArray 49 (0, 0)) := hV2.at_
    have hb7L : wq.heap.size ≠ L := by have := at_lt hLq; omega
    generalize wq.heap.size = b7 at hb7 hb7L ⊢
    conv => whnf
    refine ⟨rfl, hE2.at_ hLq, fun w2 hp2 => ?_⟩
    have hb7' := hp2.keep hb7 hb7L
    have h3' := hp2.keep (hE2.at_ h3q) (show b3 ≠ L by omega)
    have h4' := hp2.keep (hE2.at_ h4q) (show b4 ≠ L by omega)
    have h5' := hp2.keep (hE2.at_ h5q) (show b5 ≠ L by omega)
    have h6' := hp2.keep (hE2.at_ h6q) (show b6 ≠ L by omega)
    have hL2 := hp2.at_
    obtain ⟨hqa, hqb⟩ := hq V2 w2 hE2 hp2
    conv => whnf
    refine ⟨cI e.id, rfl, lds hb7' rfl rfl, ?_⟩
    conv => whnf
    refine ⟨cI x, rfl, lds h3' rfl rfl, ?_⟩
    conv => whnf
    refine ⟨_, eq24 e.id x, fun t ht => ?_⟩
    cases t
    · have hex : e.id ≠ x := by simpa using ht
      conv => whnf
      refine ⟨.int .i64 (n : Nat), ld h6' rfl rfl, ?_⟩
      conv => whnf
      intro r hr
      obtain rfl : r = ((n + 1 : Nat) : Int) := by rw [hr, wrap_id (by omega) (by omega)]; rfl
      clear hr
      conv => whnf
      refine ⟨b6, 0, _, _, rfl, h6', Nat.le_of_ble_eq_true rfl, rfl, rfl, fun W hW => ?_⟩
      conv => whnf
      exact ⟨hW.keep hL2 (show L ≠ b6 by omega), fun W' hp => hqa hex W W' hW hp⟩
    · have hex : e.id = x := by simpa using ht
      conv => whnf
      refine ⟨.int .i64 (n : Nat), ld h6' rfl rfl, ?_⟩
      conv => whnf
      refine ⟨b4, 0, _, _, rfl, h4', Nat.le_of_ble_eq_true rfl, rfl, rfl, fun W1 hW1 => ?_⟩
      conv => whnf
      refine ⟨b5, 0, _, _, rfl, hW1.keep h5' (show b5 ≠ b4 by omega), Nat.le_of_ble_eq_true rfl, rfl, rfl, fun W hW => ?_⟩
      conv => whnf
      exact ⟨hW.keep (hW1.keep hL2 (show L ≠ b4 by omega)) (show L ≠ b5 by omega), fun W' hp => hqb hex W1 W W' hW1 hW hp⟩)
  refine (fn64 (S := S) (gt S Idn.z) Idn.z (Nat.le_refl _) (.inl rfl) hI (pre := []) (F := fun k => k = L ∨ k = b3 ∨ k = b4 ∨ k = b5 ∨ k = b6) (w := Wf) (b2 := c2) (b3 := c3) (h.ext hEwf) ?_
    ⟨⟨hLf, hE7f.at_ x3, fun _ => Iff.rfl⟩, hE7f.at_ x4, hE7f.at_ x5, hE7f.at_ x6, fun e he => (by cases he), by decide⟩ (fun q hq => Nat.le_trans hq.length_le (by simpa using hlen)) (hEf.at_ hc2) (hEf.at_ hc3) ?_ ?_).mono ?_
  · rintro i hi hF
    have h2 := h.foot_lt hi
    omega
  · intro hF; omega
  · intro hF; omega
  · rintro v Wg ⟨rfl, F2, hcg, hF2, hres⟩
    have hext : ∀ W4, Chg (fun k => k = L ∨ k = b3 ∨ k = b4 ∨ k = b5 ∨ k = b6 ∨ k = Dm) Wg W4 → Ext w W4 := fun W4 hc4 => by
      have h1 : Chg (fun _ => False) w Wg := chg_new (hEwf.chg _) hcg (fun i hi => by right; omega)
      have h2 : Chg (fun _ => False) w W4 := chg_new h1 hc4 (fun i hi => by right; omega)
      exact ⟨h2.os, h2.tape, h2.output, h2.size, fun k hk => h2.block k hk (fun t => t)⟩
    have hdg : Wg.heap[Dm]? = some (.deferred (some [])) := hcg.at_ hdf (by intro hF; omega)
    rcases hres with hi | ⟨pre', hpre, hi⟩
    · refine ⟨.ready, none, hi.rec_, by simp, fun W9 hp9 => ?_⟩
      have y4 := hp9.keep hi.x4 (show b4 ≠ L by omega)
      have y5 := hp9.keep hi.x5 (show b5 ≠ L by omega)
      have yd := hp9.keep hdg (show Dm ≠ L by omega)
      conv => whnf
      refine ⟨b4, 0, _, _, rfl, y4, Nat.le_of_ble_eq_true rfl, rfl, rfl, fun Wa hpa => ?_⟩
      have z4 : Wa.heap[b4]? = some (.cells #[.int .i64 0] 3 (0, 0)) := hpa.at_
      conv => whnf
      refine ⟨b5, 0, _, _, rfl, hpa.keep y5 (show b5 ≠ b4 by omega), Nat.le_of_ble_eq_true rfl, rfl, rfl, fun Wb hpb => ?_⟩
      have z5 : Wb.heap[b5]? = some (.cells #[.bool false] 4 (0, 0)) := hpb.at_
      replace z4 := hpb.keep z4 (show b4 ≠ b5 by omega)
      conv => whnf
      refine ⟨Dm, rfl, hpb.keep (hpa.keep yd (show Dm ≠ b4 by omega)) (show Dm ≠ b5 by omega), fun Wc hpc => ?_⟩
      conv => whnf
      refine ⟨_, ld (hpc.keep z4 (show b4 ≠ Dm by omega)) rfl rfl, ?_⟩
      conv => whnf
      refine ⟨_, ld (hpc.keep z5 (show b5 ≠ Dm by omega)) rfl rfl, ?_⟩
      refine ⟨hext Wc (hpc.chg (hpb.chg (hpa.chg (hp9.chg ((Ext.refl Wg).chg _) (.inl (.inl rfl))) (.inl (by simp))) (.inl (by simp))) (.inl (by simp))), ?_⟩
      rw [placeV, placeL_none (by simpa using hi.none_)]
      rfl
    · refine ⟨.done, some .ret, hi.rec_, by simp, fun W9 hp9 => ?_⟩
      obtain ⟨p0, e, h1, h2, h3, h4, h5, u, h6⟩ := hi.out
      have y4 := hp9.keep h4 (show b4 ≠ L by omega)
      have y5 := hp9.keep h5 (show b5 ≠ L by omega)
      have yd := hp9.keep hdg (show Dm ≠ L by omega)
      conv => whnf
      refine ⟨Dm, rfl, yd, fun Wc hpc => ?_⟩
      conv => whnf
      refine ⟨_, ld (hpc.keep y4 (show b4 ≠ Dm by omega)) rfl rfl, ?_⟩
      conv => whnf
      refine ⟨_, ld (hpc.keep y5 (show b5 ≠ Dm by omega)) rfl rfl, ?_⟩
      refine ⟨hext Wc (hpc.chg (hp9.chg ((Ext.refl Wg).chg _) (.inl (.inl rfl))) (.inl (by simp))), ?_⟩
      rw [placeV, placeL_at (p0 := p0) (e := e) (by rw [← h1]; simpa using hpre) h2 h3]
      rfl
end
end Go.Proofs.Ytbkmbignincilaa
