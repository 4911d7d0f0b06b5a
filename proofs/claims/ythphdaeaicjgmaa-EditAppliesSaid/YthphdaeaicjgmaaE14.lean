/- edit.ways: a map that is written in any order. (Printed by tools/gen28.py.) -/
import Derived.Test.YthphdaeaicjgmaaE13
namespace Go.Proofs.Ythphdaeaicjgmaa
open Go Go.VC Go.RowKit
set_option linter.unusedVariables false
set_option linter.unusedSimpArgs false
set_option maxRecDepth 100000

theorem build33 (a b : Int) (w : World) : (Instr.build 33 #[(0, .int .i64 a), (1, .int .i64 b)]).run Try.prog w = .ok (K2 a b) w := by kernel_rfl
theorem build33_1 (a : Int) (w : World) : (Instr.build 33 #[(0, .int .i64 a)]).run Try.prog w = .ok (K2 a 0) w := by kernel_rfl
theorem keyLaw33 : KeyLaw Try.prog 33 (fun v => ∃ a b, v = K2 a b) := keyLaw_two Try.underlying33 (by kernel_rfl) Try.underlying3 Try.underlying3 (by kernel_rfl) (by kernel_rfl) rfl rfl
theorem fn41 (c : Int) (w : World) (h0 : 0 ≤ c) (h1 : c ≤ 1000) : Ret Try.prog 41 #[.int .i32 c] w fun v W => Ext w W ∧ v = K2 2 c := by
  refine Ret.of_vc tab_ok Try.func41 rfl Try.ntmps41 rfl (Nat.le_of_ble_eq_true rfl) Try.call41 ?_
  conv => whnf
  intro W hW
  conv => whnf
  intro r hr
  rw [wrap_id (by omega) (by omega)] at hr
  subst hr
  conv => whnf
  refine Run.mk' _ _ (build33 2 r _) ?_
  conv => whnf
  refine ⟨_, 0, _, _, rfl, hW.at_, Nat.le_of_ble_eq_true rfl, rfl, rfl, fun W2 hW2 => ?_⟩
  conv => whnf
  refine ⟨[.int .i64 2, .int .i64 r], rfl, lds hW2.at_ rfl rfl, ?_⟩
  exact ⟨hW2.e hW.e (Nat.le_refl _), rfl⟩
theorem fn42 (c : Int) (w : World) (h0 : 0 ≤ c) (h1 : c ≤ 1000) : Ret Try.prog 42 #[.int .i32 c] w fun v W => Ext w W ∧ v = K2 3 c := by
  refine Ret.of_vc tab_ok Try.func42 rfl Try.ntmps42 rfl (Nat.le_of_ble_eq_true rfl) Try.call42 ?_
  conv => whnf
  intro W hW
  conv => whnf
  intro r hr
  rw [wrap_id (by omega) (by omega)] at hr
  subst hr
  conv => whnf
  refine Run.mk' _ _ (build33 3 r _) ?_
  conv => whnf
  refine ⟨_, 0, _, _, rfl, hW.at_, Nat.le_of_ble_eq_true rfl, rfl, rfl, fun W2 hW2 => ?_⟩
  conv => whnf
  refine ⟨[.int .i64 3, .int .i64 r], rfl, lds hW2.at_ rfl rfl, ?_⟩
  exact ⟨hW2.e hW.e (Nat.le_refl _), rfl⟩
def fv (f : Nat) : Value := .func (.func f) #[] #[]
def ins : List (Nat × (Int × Int) × Nat) := [(3, (2, 97), 43), (6, (2, 101), 44), (9, (2, 98), 45), (12, (2, 102), 46), (15, (2, 104), 47), (18, (2, 100), 48), (21, (2, 107), 49), (24, (2, 117), 50), (27, (2, 119), 51), (30, (2, 121), 52), (33, (2, 116), 53), (36, (3, 98), 54), (39, (3, 102), 55), (42, (3, 100), 56), (45, (3, 127), 51), (47, (7, 0), 45), (49, (6, 0), 46), (51, (8, 0), 43), (53, (9, 0), 44), (55, (10, 0), 48)]
def vvL : List Value := [undef, fv 41, K2 2 97, undef, fv 41, K2 2 101, undef, fv 41, K2 2 98, undef, fv 41, K2 2 102, undef, fv 41, K2 2 104, undef, fv 41, K2 2 100, undef, fv 41, K2 2 107, undef, fv 41, K2 2 117, undef, fv 41, K2 2 119, undef, fv 41, K2 2 121, undef, fv 41, K2 2 116, undef, fv 42, K2 3 98, undef, fv 42, K2 3 102, undef, fv 42, K2 3 100, undef, fv 42, K2 3 127, undef, K2 7 0, undef, K2 6 0, undef, K2 8 0, undef, K2 9 0, undef, K2 10 0, undef, undef, undef]
def dd (i : Nat) : Nat := if i < 46 then (if i % 3 = 1 then 4 + 2 * (i / 3) else 5 + 2 * (i / 3)) else 34 + (i - 46) / 2
def svI : List Nat := [1, 2, 4, 5, 7, 8, 10, 11, 13, 14, 16, 17, 19, 20, 22, 23, 25, 26, 28, 29, 31, 32, 34, 35, 37, 38, 40, 41, 43, 44, 46, 48, 50, 52, 54]
theorem dd_inj : ∀ x ∈ svI, ∀ y ∈ svI, dd x = dd y → x = y := by decide
theorem dd_not : ∀ x ∈ svI, dd x ≠ 0 ∧ dd x ≠ 1 ∧ dd x ≠ 2 ∧ dd x ≠ 3 ∧ dd x ≠ 39 := by decide
theorem sv_not : ∀ x ∈ svI, x ≠ 0 ∧ x ≠ 56 ∧ x ≠ 57 ∧ ∀ y ∈ ins, y.1 ≠ x := by decide
theorem ins_not : ∀ x ∈ ins, x.1 ≠ 0 ∧ x.1 ≠ 56 ∧ x.1 ≠ 57 ∧ x.1 ∉ svI := by decide
theorem ins_one : ∀ x ∈ ins, ∀ y ∈ ins, (x.1 = y.1 ∨ x.2.1 = y.2.1) → x = y := by decide
theorem putF_ne {l : Fr} {d k : Nat} {v : Value} (h : d ≠ k) : putF l d v k = l k := by
  unfold putF
  cases hb : Nat.beq d k
  · rfl
  · exact absurd (Nat.eq_of_beq_eq_true hb) h
theorem putF_eq (l : Fr) (d : Nat) (v : Value) : putF l d v d = v := by unfold putF; rw [Nat.beq_refl]; rfl
theorem setB_ne {L : Nat → Bool} {i k : Nat} (h : i ≠ k) : setB L i k = L k := by
  unfold setB
  cases hb : Nat.beq i k
  · rfl
  · exact absurd (Nat.eq_of_beq_eq_true hb) h
theorem setB_eq (L : Nat → Bool) (i : Nat) : setB L i i = true := by unfold setB; rw [Nat.beq_refl]; rfl
theorem setB_or {L : Nat → Bool} {i k : Nat} (h : setB L i k = true) : i = k ∨ L k = true := by
  by_cases e : i = k
  · exact .inl e
  · rw [setB_ne e] at h; exact .inr h

def Filled (L : Nat → Bool) (es : List MapEntry) : Prop := (∀ e ∈ es, ∃ a b, e.key = K2 a b) ∧ ∀ a b, (∃ x ∈ ins, L x.1 = true ∧ x.2.1 = (a, b) ∧ (findE (K2 a b) es).map (·.2) = some (fv x.2.2)) ∨ ((∀ x ∈ ins, L x.1 = true → x.2.1 ≠ (a, b)) ∧ findE (K2 a b) es = none)
structure WI (w0 : World) (L : Nat → Bool) (l : Fr) (w : World) : Prop where
  ext : Ext w0 w
  f1 : l 1 = fv 41
  f2 : l 2 = fv 42
  vals : ∀ i ∈ svI, L i = true → l (dd i) = vvL.getD i undef
  map : L 0 = true → ∃ m es cl, l 3 = .map (some m) ∧ w0.heap.size ≤ m ∧ w.heap[m]? = some (.map es cl) ∧ Filled L es.toList
  c56 : L 56 = true → l 39 = l 3
  c57 : L 57 = true → l 0 = l 3

theorem Filled.set {L : Nat → Bool} {es : List MapEntry} {i : Nat} (h : Filled L es) (hi : ∀ x ∈ ins, i ≠ x.1) : Filled (setB L i) es := by
  refine ⟨h.1, fun a b => ?_⟩
  rcases h.2 a b with ⟨x, hx, h1, h2⟩ | ⟨h1, h2⟩
  · exact .inl ⟨x, hx, by rw [setB_ne (hi x hx)]; exact h1, h2⟩
  · exact .inr ⟨fun x hx hl => h1 x hx (by rw [setB_ne (hi x hx)] at hl; exact hl), h2⟩
theorem findE_push_eq {k : Value} {es : List MapEntry} {e : MapEntry} (h : findE k es = none) (he : k = e.key) : (findE k (es ++ [e])).map (·.2) = some e.val := by
  unfold findE at *
  rw [List.findIdx?_append]
  cases hf : es.findIdx? (fun e => @decide (k = e.key) (Classical.propDecidable _)) with
  | some i => rw [hf] at h; cases h
  | none =>
    have : List.findIdx? (fun e => @decide (k = e.key) (Classical.propDecidable _)) [e] = some 0 := by simp [List.findIdx?_cons, he]
    rw [this]
    simp
theorem findE_push_ne {k : Value} {es : List MapEntry} {e : MapEntry} (he : k ≠ e.key) : (findE k (es ++ [e])) = findE k es := by
  unfold findE at *
  rw [List.findIdx?_append]
  cases hf : es.findIdx? (fun e => @decide (k = e.key) (Classical.propDecidable _)) with
  | some i =>
    have hi := (List.findIdx?_eq_some_iff_getElem.1 hf).1
    simp [hi, List.getElem?_append_left hi]
  | none =>
    have : List.findIdx? (fun e => @decide (k = e.key) (Classical.propDecidable _)) [e] = none := by simp [List.findIdx?_cons, he]
    rw [this]
    simp
theorem Filled.ins {L : Nat → Bool} {es : List MapEntry} {x : Nat × (Int × Int) × Nat} {c : Nat} (h : Filled L es) (hx : x ∈ ins) (hL : L x.1 = false) :
    findE (K2 x.2.1.1 x.2.1.2) es = none ∧ Filled (setB L x.1) (es ++ [{ key := K2 x.2.1.1 x.2.1.2, val := fv x.2.2, born := c }]) := by
  have hn : findE (K2 x.2.1.1 x.2.1.2) es = none := by
    rcases h.2 x.2.1.1 x.2.1.2 with ⟨y, hy, h1, h2, _⟩ | ⟨_, h2⟩
    · have := ins_one y hy x hx (.inr h2)
      subst this
      rw [hL] at h1
      cases h1
    · exact h2
  refine ⟨hn, fun e he => ?_, fun a b => ?_⟩
  · rcases List.mem_append.1 he with he | he
    · exact h.1 e he
    · rcases List.mem_cons.1 he with rfl | he
      · exact ⟨_, _, rfl⟩
      · cases he
  · by_cases hk : K2 a b = K2 x.2.1.1 x.2.1.2
    · refine .inl ⟨x, hx, setB_eq _ _, ?_, ?_⟩
      · obtain ⟨rfl, rfl⟩ := K2.inj.1 hk; rfl
      · rw [hk]
        exact findE_push_eq hn rfl
    · rw [findE_push_ne (by exact hk)]
      rcases h.2 a b with ⟨y, hy, h1, h2⟩ | ⟨h1, h2⟩
      · refine .inl ⟨y, hy, ?_, h2⟩
        by_cases e : x.1 = y.1
        · rw [e]; exact setB_eq _ _
        · rw [setB_ne e]; exact h1
      · refine .inr ⟨fun y hy hl he => ?_, h2⟩
        rcases setB_or hl with e | e
        · have := ins_one y hy x hx (.inl e.symm)
          subst this
          exact hk (by rw [he])
        · exact h1 y hy e he
section
variable {w0 w : World} {L : Nat → Bool} {l : Fr}
theorem WI.ex {W : World} (h : WI w0 L l w) (he : Ext w W) : WI w0 L l W :=
  ⟨h.ext.tr he, h.f1, h.f2, h.vals, fun h0 => by obtain ⟨m, es, cl, h1, h2, h3, h4⟩ := h.map h0; exact ⟨m, es, cl, h1, h2, he.at_ h3, h4⟩, h.c56, h.c57⟩
theorem WI.sv (h : WI w0 L l w) {i : Nat} (hi : i ∈ svI) : WI w0 (setB L i) (putF l (dd i) (vvL.getD i undef)) w := by
  obtain ⟨n0, n1, n2, n3, n39⟩ := dd_not i hi
  obtain ⟨m0, m56, m57, mi⟩ := sv_not i hi
  refine ⟨h.ext, by rw [putF_ne n1]; exact h.f1, by rw [putF_ne n2]; exact h.f2, fun k hk hl => ?_, fun h0 => ?_, fun h0 => ?_, fun h0 => ?_⟩
  · by_cases e : i = k
    · subst e; exact putF_eq _ _ _
    · rw [putF_ne (fun e2 => e (dd_inj i hi k hk e2))]
      rw [setB_ne e] at hl
      exact h.vals k hk hl
  · rw [setB_ne m0] at h0
    obtain ⟨m, es, cl, h1, h2, h3, h4⟩ := h.map h0
    exact ⟨m, es, cl, by rw [putF_ne n3]; exact h1, h2, h3, h4.set (fun x hx => Ne.symm (mi x hx))⟩
  · rw [setB_ne m56] at h0
    rw [putF_ne n39, putF_ne n3]; exact h.c56 h0
  · rw [setB_ne m57] at h0
    rw [putF_ne n0, putF_ne n3]; exact h.c57 h0
theorem WI.in_ (h : WI w0 L l w) {x : Nat × (Int × Int) × Nat} (hx : x ∈ ins) (hL : L x.1 = false) (h0 : L 0 = true) {m : Nat} (hm : l 3 = .map (some m)) :
    RunU Try.prog (Instr.mapUpdate 64 (.map (some m)) (K2 x.2.1.1 x.2.1.2) (fv x.2.2)) w (fun W => WI w0 (setB L x.1) l W) := by
  obtain ⟨m', es, cl, h1, h2, h3, h4⟩ := h.map h0
  rw [hm] at h1
  injection h1 with h1
  injection h1 with h1
  subst h1
  obtain ⟨hn, hf⟩ := h4.ins (c := cl) hx hL
  refine RunU.mk' _ (update_new keyLaw33 Try.runUnderlying64 ⟨_, _, rfl⟩ h3 h4.1 hn) ?_
  have hp := Put.mk' h3 (.map (es.push { key := K2 x.2.1.1 x.2.1.2, val := fv x.2.2, born := cl }) (cl + 1))
  obtain ⟨i0, i56, i57, isv⟩ := ins_not x hx
  refine ⟨hp.e h.ext h2, h.f1, h.f2, fun k hk hl => h.vals k hk ?_, fun _ => ⟨m, _, _, hm, h2, hp.at_, by simpa using hf⟩, fun hl => h.c56 ?_, fun hl => h.c57 ?_⟩
  · rw [setB_ne (fun e => isv (by rw [e]; exact hk))] at hl; exact hl
  · rw [setB_ne i56] at hl; exact hl
  · rw [setB_ne i57] at hl; exact hl
theorem WI.mk0 (h : WI w0 L l w) (h0 : L 0 = false) (hins : ∀ x ∈ ins, L x.1 = false) (h56 : L 56 = false) (h57 : L 57 = false) {W : World} (hW : New w (.map #[] 0) W) : WI w0 (setB L 0) (putF l 3 (.map (some w.heap.size))) W := by
  refine ⟨h.ext.tr hW.e, by rw [putF_ne (by decide)]; exact h.f1, by rw [putF_ne (by decide)]; exact h.f2, fun k hk hl => ?_, fun _ => ⟨_, _, _, putF_eq _ _ _, h.ext.le, hW.at_, ?_⟩, fun hl => ?_, fun hl => ?_⟩
  · rw [putF_ne (fun e => (dd_not k hk).2.2.2.1 e.symm)]
    rw [setB_ne (fun e => (sv_not k hk).1 e.symm)] at hl
    exact h.vals k hk hl
  · refine ⟨fun e he => by simp at he, fun a b => .inr ⟨fun x hx hl => ?_, rfl⟩⟩
    rw [setB_ne (fun e => (ins_not x hx).1 e.symm), hins x hx] at hl
    cases hl
  · rw [setB_ne (by decide), h56] at hl; cases hl
  · rw [setB_ne (by decide), h57] at hl; cases hl
theorem WI.m56 (h : WI w0 L l w) (h57 : L 57 = false) : WI w0 (setB L 56) (putF l 39 (l 3)) w := by
  refine ⟨h.ext, by rw [putF_ne (by decide)]; exact h.f1, by rw [putF_ne (by decide)]; exact h.f2, fun k hk hl => ?_, fun h0 => ?_, fun _ => ?_, fun hl => ?_⟩
  · rw [putF_ne (fun e => (dd_not k hk).2.2.2.2 e.symm)]
    rw [setB_ne (fun e => (sv_not k hk).2.1 e.symm)] at hl
    exact h.vals k hk hl
  · rw [setB_ne (by decide)] at h0
    obtain ⟨m, es, cl, h1, h2, h3, h4⟩ := h.map h0
    exact ⟨m, es, cl, by rw [putF_ne (by decide)]; exact h1, h2, h3, h4.set (fun x hx => Ne.symm (ins_not x hx).2.1)⟩
  · rw [putF_eq, putF_ne (by decide)]
  · rw [setB_ne (by decide), h57] at hl; cases hl
theorem WI.m57 (h : WI w0 L l w) : WI w0 (setB L 57) (putF l 0 (l 3)) w := by
  refine ⟨h.ext, by rw [putF_ne (by decide)]; exact h.f1, by rw [putF_ne (by decide)]; exact h.f2, fun k hk hl => ?_, fun h0 => ?_, fun hl => ?_, fun hl => ?_⟩
  · rw [putF_ne (fun e => (dd_not k hk).1 e.symm)]
    rw [setB_ne (fun e => (sv_not k hk).2.2.1 e.symm)] at hl
    exact h.vals k hk hl
  · rw [setB_ne (by decide)] at h0
    obtain ⟨m, es, cl, h1, h2, h3, h4⟩ := h.map h0
    exact ⟨m, es, cl, by rw [putF_ne (by decide)]; exact h1, h2, h3, h4.set (fun x hx => Ne.symm (ins_not x hx).2.2.1)⟩
  · rw [setB_ne (by decide)] at hl
    rw [putF_ne (by decide), putF_ne (by decide)]; exact h.c56 hl
  · rw [putF_eq, putF_ne (by decide)]
end

/-- What ways has for a key. -/
def wayOf (a b : Int) : Option Nat := (ins.find? (fun x => decide (x.2.1 = (a, b)))).map (·.2.2)
set_option maxHeartbeats 8000000
theorem fn28 (w : World) : Ret Try.prog 28 #[] w fun v W => Ext w W ∧ ∃ m es cl, v = .map (some m) ∧ W.heap[m]? = some (.map es cl) ∧ (∀ e ∈ es.toList, ∃ a b, e.key = K2 a b) ∧ ∀ a b, (findE (K2 a b) es.toList).map (·.2) = (wayOf a b).map fv := by
  refine Ret.of_vc tab_ok Try.func28 rfl Try.ntmps28 rfl (Nat.le_of_ble_eq_true rfl) Try.call28 ?_
  conv => whnf
  refine VDraw.inv tab_ok (fun L l W => WI w L l W ∧ (L 0 = false → ∀ x ∈ ins, L x.1 = false) ∧ (L 56 = true → L 0 = true) ∧ (L 57 = true → L 56 = true)) mixed (by kernel_rfl) ⟨⟨Ext.drew w, rfl, rfl, fun i _ h => (by cases h), fun h => (by cases h), fun h => (by cases h), fun h => (by cases h)⟩, fun _ _ _ => rfl, fun h => (by cases h), fun h => (by cases h)⟩ ?_ ?_
  · intro i o ho L l W ⟨hI, hA, hB, hC⟩ hi hdep
    have hA' : ∀ {k : Nat}, (k ≠ 0) → (∀ x ∈ ins, k ≠ x.1) → (setB L k 0 = false → ∀ x ∈ ins, setB L k x.1 = false) := fun {k} h0 h1 hl x hx => by
      rw [setB_ne h0] at hl
      rw [setB_ne (h1 x hx)]
      exact hA hl x hx
    rcases i with _ | i
    · obtain rfl := Option.some.inj ho
      refine ⟨rfl, [], trivial, ?_⟩
      conv => whnf
      intro W2 hW2
      have h56 : L 56 = false := by cases h : L 56 with | false => rfl | true => (rw [hB h] at hi; cases hi)
      have h57 : L 57 = false := by cases h : L 57 with | false => rfl | true => (rw [hC h] at h56; cases h56)
      exact ⟨rfl, hI.mk0 hi (hA hi) h56 h57 hW2, fun h => (by cases h), fun h => rfl, fun h => (by rw [setB_ne (by decide)] at h ⊢; exact hC h)⟩
    rcases i with _ | i
    · obtain rfl := Option.some.inj ho
      refine ⟨rfl, [(1, fv 41)], ⟨hI.f1, trivial⟩, ?_⟩
      conv => whnf
      exact ⟨rfl, hI.sv (i := 1) (by decide), hA' (by decide) (by decide), fun h => (by rw [setB_ne (by decide)] at h ⊢; exact hB h), fun h => (by rw [setB_ne (by decide)] at h ⊢; exact hC h)⟩
    rcases i with _ | i
    · obtain rfl := Option.some.inj ho
      refine ⟨rfl, [(4, fv 41)], ⟨hI.vals 1 (by decide) (hdep ⟨1, .data⟩ (by simp) rfl), trivial⟩, ?_⟩
      conv => whnf
      refine (fn41 97 W (by decide) (by decide)).mono ?_
      rintro _ W2 ⟨hE, rfl⟩
      exact ⟨rfl, (hI.ex hE).sv (i := 2) (by decide), hA' (by decide) (by decide), fun h => (by rw [setB_ne (by decide)] at h ⊢; exact hB h), fun h => (by rw [setB_ne (by decide)] at h ⊢; exact hC h)⟩
    rcases i with _ | i
    · obtain rfl := Option.some.inj ho
      have h0 := hdep ⟨0, .data⟩ (by simp) rfl
      obtain ⟨m, es, cl, h1, _⟩ := hI.map h0
      refine ⟨rfl, [(3, .map (some m)), (5, K2 2 97)], ⟨h1, hI.vals 2 (by decide) (hdep ⟨2, .data⟩ (by simp) rfl), trivial⟩, ?_⟩
      conv => whnf
      obtain ⟨W2, hr, hW2⟩ := (hI.in_ (x := (3, (2, 97), 43)) (by decide) hi h0 h1).out
      refine RunU.mk' _ hr ⟨hW2, fun h => ?_, fun h => (by rw [setB_ne (by decide)] at h ⊢; exact hB h), fun h => (by rw [setB_ne (by decide)] at h ⊢; exact hC h)⟩
      rw [setB_ne (by decide), h0] at h
      cases h
    rcases i with _ | i
    · obtain rfl := Option.some.inj ho
      refine ⟨rfl, [(1, fv 41)], ⟨hI.f1, trivial⟩, ?_⟩
      conv => whnf
      exact ⟨rfl, hI.sv (i := 4) (by decide), hA' (by decide) (by decide), fun h => (by rw [setB_ne (by decide)] at h ⊢; exact hB h), fun h => (by rw [setB_ne (by decide)] at h ⊢; exact hC h)⟩
    rcases i with _ | i
    · obtain rfl := Option.some.inj ho
      refine ⟨rfl, [(6, fv 41)], ⟨hI.vals 4 (by decide) (hdep ⟨4, .data⟩ (by simp) rfl), trivial⟩, ?_⟩
      conv => whnf
      refine (fn41 101 W (by decide) (by decide)).mono ?_
      rintro _ W2 ⟨hE, rfl⟩
      exact ⟨rfl, (hI.ex hE).sv (i := 5) (by decide), hA' (by decide) (by decide), fun h => (by rw [setB_ne (by decide)] at h ⊢; exact hB h), fun h => (by rw [setB_ne (by decide)] at h ⊢; exact hC h)⟩
    rcases i with _ | i
    · obtain rfl := Option.some.inj ho
      have h0 := hdep ⟨0, .data⟩ (by simp) rfl
      obtain ⟨m, es, cl, h1, _⟩ := hI.map h0
      refine ⟨rfl, [(3, .map (some m)), (7, K2 2 101)], ⟨h1, hI.vals 5 (by decide) (hdep ⟨5, .data⟩ (by simp) rfl), trivial⟩, ?_⟩
      conv => whnf
      obtain ⟨W2, hr, hW2⟩ := (hI.in_ (x := (6, (2, 101), 44)) (by decide) hi h0 h1).out
      refine RunU.mk' _ hr ⟨hW2, fun h => ?_, fun h => (by rw [setB_ne (by decide)] at h ⊢; exact hB h), fun h => (by rw [setB_ne (by decide)] at h ⊢; exact hC h)⟩
      rw [setB_ne (by decide), h0] at h
      cases h
    rcases i with _ | i
    · obtain rfl := Option.some.inj ho
      refine ⟨rfl, [(1, fv 41)], ⟨hI.f1, trivial⟩, ?_⟩
      conv => whnf
      exact ⟨rfl, hI.sv (i := 7) (by decide), hA' (by decide) (by decide), fun h => (by rw [setB_ne (by decide)] at h ⊢; exact hB h), fun h => (by rw [setB_ne (by decide)] at h ⊢; exact hC h)⟩
    rcases i with _ | i
    · obtain rfl := Option.some.inj ho
      refine ⟨rfl, [(8, fv 41)], ⟨hI.vals 7 (by decide) (hdep ⟨7, .data⟩ (by simp) rfl), trivial⟩, ?_⟩
      conv => whnf
      refine (fn41 98 W (by decide) (by decide)).mono ?_
      rintro _ W2 ⟨hE, rfl⟩
      exact ⟨rfl, (hI.ex hE).sv (i := 8) (by decide), hA' (by decide) (by decide), fun h => (by rw [setB_ne (by decide)] at h ⊢; exact hB h), fun h => (by rw [setB_ne (by decide)] at h ⊢; exact hC h)⟩
    rcases i with _ | i
    · obtain rfl := Option.some.inj ho
      have h0 := hdep ⟨0, .data⟩ (by simp) rfl
      obtain ⟨m, es, cl, h1, _⟩ := hI.map h0
      refine ⟨rfl, [(3, .map (some m)), (9, K2 2 98)], ⟨h1, hI.vals 8 (by decide) (hdep ⟨8, .data⟩ (by simp) rfl), trivial⟩, ?_⟩
      conv => whnf
      obtain ⟨W2, hr, hW2⟩ := (hI.in_ (x := (9, (2, 98), 45)) (by decide) hi h0 h1).out
      refine RunU.mk' _ hr ⟨hW2, fun h => ?_, fun h => (by rw [setB_ne (by decide)] at h ⊢; exact hB h), fun h => (by rw [setB_ne (by decide)] at h ⊢; exact hC h)⟩
      rw [setB_ne (by decide), h0] at h
      cases h
    rcases i with _ | i
    · obtain rfl := Option.some.inj ho
      refine ⟨rfl, [(1, fv 41)], ⟨hI.f1, trivial⟩, ?_⟩
      conv => whnf
      exact ⟨rfl, hI.sv (i := 10) (by decide), hA' (by decide) (by decide), fun h => (by rw [setB_ne (by decide)] at h ⊢; exact hB h), fun h => (by rw [setB_ne (by decide)] at h ⊢; exact hC h)⟩
    rcases i with _ | i
    · obtain rfl := Option.some.inj ho
      refine ⟨rfl, [(10, fv 41)], ⟨hI.vals 10 (by decide) (hdep ⟨10, .data⟩ (by simp) rfl), trivial⟩, ?_⟩
      conv => whnf
      refine (fn41 102 W (by decide) (by decide)).mono ?_
      rintro _ W2 ⟨hE, rfl⟩
      exact ⟨rfl, (hI.ex hE).sv (i := 11) (by decide), hA' (by decide) (by decide), fun h => (by rw [setB_ne (by decide)] at h ⊢; exact hB h), fun h => (by rw [setB_ne (by decide)] at h ⊢; exact hC h)⟩
    rcases i with _ | i
    · obtain rfl := Option.some.inj ho
      have h0 := hdep ⟨0, .data⟩ (by simp) rfl
      obtain ⟨m, es, cl, h1, _⟩ := hI.map h0
      refine ⟨rfl, [(3, .map (some m)), (11, K2 2 102)], ⟨h1, hI.vals 11 (by decide) (hdep ⟨11, .data⟩ (by simp) rfl), trivial⟩, ?_⟩
      conv => whnf
      obtain ⟨W2, hr, hW2⟩ := (hI.in_ (x := (12, (2, 102), 46)) (by decide) hi h0 h1).out
      refine RunU.mk' _ hr ⟨hW2, fun h => ?_, fun h => (by rw [setB_ne (by decide)] at h ⊢; exact hB h), fun h => (by rw [setB_ne (by decide)] at h ⊢; exact hC h)⟩
      rw [setB_ne (by decide), h0] at h
      cases h
    rcases i with _ | i
    · obtain rfl := Option.some.inj ho
      refine ⟨rfl, [(1, fv 41)], ⟨hI.f1, trivial⟩, ?_⟩
      conv => whnf
      exact ⟨rfl, hI.sv (i := 13) (by decide), hA' (by decide) (by decide), fun h => (by rw [setB_ne (by decide)] at h ⊢; exact hB h), fun h => (by rw [setB_ne (by decide)] at h ⊢; exact hC h)⟩
    rcases i with _ | i
    · obtain rfl := Option.some.inj ho
      refine ⟨rfl, [(12, fv 41)], ⟨hI.vals 13 (by decide) (hdep ⟨13, .data⟩ (by simp) rfl), trivial⟩, ?_⟩
      conv => whnf
      refine (fn41 104 W (by decide) (by decide)).mono ?_
      rintro _ W2 ⟨hE, rfl⟩
      exact ⟨rfl, (hI.ex hE).sv (i := 14) (by decide), hA' (by decide) (by decide), fun h => (by rw [setB_ne (by decide)] at h ⊢; exact hB h), fun h => (by rw [setB_ne (by decide)] at h ⊢; exact hC h)⟩
    rcases i with _ | i
    · obtain rfl := Option.some.inj ho
      have h0 := hdep ⟨0, .data⟩ (by simp) rfl
      obtain ⟨m, es, cl, h1, _⟩ := hI.map h0
      refine ⟨rfl, [(3, .map (some m)), (13, K2 2 104)], ⟨h1, hI.vals 14 (by decide) (hdep ⟨14, .data⟩ (by simp) rfl), trivial⟩, ?_⟩
      conv => whnf
      obtain ⟨W2, hr, hW2⟩ := (hI.in_ (x := (15, (2, 104), 47)) (by decide) hi h0 h1).out
      refine RunU.mk' _ hr ⟨hW2, fun h => ?_, fun h => (by rw [setB_ne (by decide)] at h ⊢; exact hB h), fun h => (by rw [setB_ne (by decide)] at h ⊢; exact hC h)⟩
      rw [setB_ne (by decide), h0] at h
      cases h
    rcases i with _ | i
    · obtain rfl := Option.some.inj ho
      refine ⟨rfl, [(1, fv 41)], ⟨hI.f1, trivial⟩, ?_⟩
      conv => whnf
      exact ⟨rfl, hI.sv (i := 16) (by decide), hA' (by decide) (by decide), fun h => (by rw [setB_ne (by decide)] at h ⊢; exact hB h), fun h => (by rw [setB_ne (by decide)] at h ⊢; exact hC h)⟩
    rcases i with _ | i
    · obtain rfl := Option.some.inj ho
      refine ⟨rfl, [(14, fv 41)], ⟨hI.vals 16 (by decide) (hdep ⟨16, .data⟩ (by simp) rfl), trivial⟩, ?_⟩
      conv => whnf
      refine (fn41 100 W (by decide) (by decide)).mono ?_
      rintro _ W2 ⟨hE, rfl⟩
      exact ⟨rfl, (hI.ex hE).sv (i := 17) (by decide), hA' (by decide) (by decide), fun h => (by rw [setB_ne (by decide)] at h ⊢; exact hB h), fun h => (by rw [setB_ne (by decide)] at h ⊢; exact hC h)⟩
    rcases i with _ | i
    · obtain rfl := Option.some.inj ho
      have h0 := hdep ⟨0, .data⟩ (by simp) rfl
      obtain ⟨m, es, cl, h1, _⟩ := hI.map h0
      refine ⟨rfl, [(3, .map (some m)), (15, K2 2 100)], ⟨h1, hI.vals 17 (by decide) (hdep ⟨17, .data⟩ (by simp) rfl), trivial⟩, ?_⟩
      conv => whnf
      obtain ⟨W2, hr, hW2⟩ := (hI.in_ (x := (18, (2, 100), 48)) (by decide) hi h0 h1).out
      refine RunU.mk' _ hr ⟨hW2, fun h => ?_, fun h => (by rw [setB_ne (by decide)] at h ⊢; exact hB h), fun h => (by rw [setB_ne (by decide)] at h ⊢; exact hC h)⟩
      rw [setB_ne (by decide), h0] at h
      cases h
    rcases i with _ | i
    · obtain rfl := Option.some.inj ho
      refine ⟨rfl, [(1, fv 41)], ⟨hI.f1, trivial⟩, ?_⟩
      conv => whnf
      exact ⟨rfl, hI.sv (i := 19) (by decide), hA' (by decide) (by decide), fun h => (by rw [setB_ne (by decide)] at h ⊢; exact hB h), fun h => (by rw [setB_ne (by decide)] at h ⊢; exact hC h)⟩
    rcases i with _ | i
    · obtain rfl := Option.some.inj ho
      refine ⟨rfl, [(16, fv 41)], ⟨hI.vals 19 (by decide) (hdep ⟨19, .data⟩ (by simp) rfl), trivial⟩, ?_⟩
      conv => whnf
      refine (fn41 107 W (by decide) (by decide)).mono ?_
      rintro _ W2 ⟨hE, rfl⟩
      exact ⟨rfl, (hI.ex hE).sv (i := 20) (by decide), hA' (by decide) (by decide), fun h => (by rw [setB_ne (by decide)] at h ⊢; exact hB h), fun h => (by rw [setB_ne (by decide)] at h ⊢; exact hC h)⟩
    rcases i with _ | i
    · obtain rfl := Option.some.inj ho
      have h0 := hdep ⟨0, .data⟩ (by simp) rfl
      obtain ⟨m, es, cl, h1, _⟩ := hI.map h0
      refine ⟨rfl, [(3, .map (some m)), (17, K2 2 107)], ⟨h1, hI.vals 20 (by decide) (hdep ⟨20, .data⟩ (by simp) rfl), trivial⟩, ?_⟩
      conv => whnf
      obtain ⟨W2, hr, hW2⟩ := (hI.in_ (x := (21, (2, 107), 49)) (by decide) hi h0 h1).out
      refine RunU.mk' _ hr ⟨hW2, fun h => ?_, fun h => (by rw [setB_ne (by decide)] at h ⊢; exact hB h), fun h => (by rw [setB_ne (by decide)] at h ⊢; exact hC h)⟩
      rw [setB_ne (by decide), h0] at h
      cases h
    rcases i with _ | i
    · obtain rfl := Option.some.inj ho
      refine ⟨rfl, [(1, fv 41)], ⟨hI.f1, trivial⟩, ?_⟩
      conv => whnf
      exact ⟨rfl, hI.sv (i := 22) (by decide), hA' (by decide) (by decide), fun h => (by rw [setB_ne (by decide)] at h ⊢; exact hB h), fun h => (by rw [setB_ne (by decide)] at h ⊢; exact hC h)⟩
    rcases i with _ | i
    · obtain rfl := Option.some.inj ho
      refine ⟨rfl, [(18, fv 41)], ⟨hI.vals 22 (by decide) (hdep ⟨22, .data⟩ (by simp) rfl), trivial⟩, ?_⟩
      conv => whnf
      refine (fn41 117 W (by decide) (by decide)).mono ?_
      rintro _ W2 ⟨hE, rfl⟩
      exact ⟨rfl, (hI.ex hE).sv (i := 23) (by decide), hA' (by decide) (by decide), fun h => (by rw [setB_ne (by decide)] at h ⊢; exact hB h), fun h => (by rw [setB_ne (by decide)] at h ⊢; exact hC h)⟩
    rcases i with _ | i
    · obtain rfl := Option.some.inj ho
      have h0 := hdep ⟨0, .data⟩ (by simp) rfl
      obtain ⟨m, es, cl, h1, _⟩ := hI.map h0
      refine ⟨rfl, [(3, .map (some m)), (19, K2 2 117)], ⟨h1, hI.vals 23 (by decide) (hdep ⟨23, .data⟩ (by simp) rfl), trivial⟩, ?_⟩
      conv => whnf
      obtain ⟨W2, hr, hW2⟩ := (hI.in_ (x := (24, (2, 117), 50)) (by decide) hi h0 h1).out
      refine RunU.mk' _ hr ⟨hW2, fun h => ?_, fun h => (by rw [setB_ne (by decide)] at h ⊢; exact hB h), fun h => (by rw [setB_ne (by decide)] at h ⊢; exact hC h)⟩
      rw [setB_ne (by decide), h0] at h
      cases h
    rcases i with _ | i
    · obtain rfl := Option.some.inj ho
      refine ⟨rfl, [(1, fv 41)], ⟨hI.f1, trivial⟩, ?_⟩
      conv => whnf
      exact ⟨rfl, hI.sv (i := 25) (by decide), hA' (by decide) (by decide), fun h => (by rw [setB_ne (by decide)] at h ⊢; exact hB h), fun h => (by rw [setB_ne (by decide)] at h ⊢; exact hC h)⟩
    rcases i with _ | i
    · obtain rfl := Option.some.inj ho
      refine ⟨rfl, [(20, fv 41)], ⟨hI.vals 25 (by decide) (hdep ⟨25, .data⟩ (by simp) rfl), trivial⟩, ?_⟩
      conv => whnf
      refine (fn41 119 W (by decide) (by decide)).mono ?_
      rintro _ W2 ⟨hE, rfl⟩
      exact ⟨rfl, (hI.ex hE).sv (i := 26) (by decide), hA' (by decide) (by decide), fun h => (by rw [setB_ne (by decide)] at h ⊢; exact hB h), fun h => (by rw [setB_ne (by decide)] at h ⊢; exact hC h)⟩
    rcases i with _ | i
    · obtain rfl := Option.some.inj ho
      have h0 := hdep ⟨0, .data⟩ (by simp) rfl
      obtain ⟨m, es, cl, h1, _⟩ := hI.map h0
      refine ⟨rfl, [(3, .map (some m)), (21, K2 2 119)], ⟨h1, hI.vals 26 (by decide) (hdep ⟨26, .data⟩ (by simp) rfl), trivial⟩, ?_⟩
      conv => whnf
      obtain ⟨W2, hr, hW2⟩ := (hI.in_ (x := (27, (2, 119), 51)) (by decide) hi h0 h1).out
      refine RunU.mk' _ hr ⟨hW2, fun h => ?_, fun h => (by rw [setB_ne (by decide)] at h ⊢; exact hB h), fun h => (by rw [setB_ne (by decide)] at h ⊢; exact hC h)⟩
      rw [setB_ne (by decide), h0] at h
      cases h
    rcases i with _ | i
    · obtain rfl := Option.some.inj ho
      refine ⟨rfl, [(1, fv 41)], ⟨hI.f1, trivial⟩, ?_⟩
      conv => whnf
      exact ⟨rfl, hI.sv (i := 28) (by decide), hA' (by decide) (by decide), fun h => (by rw [setB_ne (by decide)] at h ⊢; exact hB h), fun h => (by rw [setB_ne (by decide)] at h ⊢; exact hC h)⟩
    rcases i with _ | i
    · obtain rfl := Option.some.inj ho
      refine ⟨rfl, [(22, fv 41)], ⟨hI.vals 28 (by decide) (hdep ⟨28, .data⟩ (by simp) rfl), trivial⟩, ?_⟩
      conv => whnf
      refine (fn41 121 W (by decide) (by decide)).mono ?_
      rintro _ W2 ⟨hE, rfl⟩
      exact ⟨rfl, (hI.ex hE).sv (i := 29) (by decide), hA' (by decide) (by decide), fun h => (by rw [setB_ne (by decide)] at h ⊢; exact hB h), fun h => (by rw [setB_ne (by decide)] at h ⊢; exact hC h)⟩
    rcases i with _ | i
    · obtain rfl := Option.some.inj ho
      have h0 := hdep ⟨0, .data⟩ (by simp) rfl
      obtain ⟨m, es, cl, h1, _⟩ := hI.map h0
      refine ⟨rfl, [(3, .map (some m)), (23, K2 2 121)], ⟨h1, hI.vals 29 (by decide) (hdep ⟨29, .data⟩ (by simp) rfl), trivial⟩, ?_⟩
      conv => whnf
      obtain ⟨W2, hr, hW2⟩ := (hI.in_ (x := (30, (2, 121), 52)) (by decide) hi h0 h1).out
      refine RunU.mk' _ hr ⟨hW2, fun h => ?_, fun h => (by rw [setB_ne (by decide)] at h ⊢; exact hB h), fun h => (by rw [setB_ne (by decide)] at h ⊢; exact hC h)⟩
      rw [setB_ne (by decide), h0] at h
      cases h
    rcases i with _ | i
    · obtain rfl := Option.some.inj ho
      refine ⟨rfl, [(1, fv 41)], ⟨hI.f1, trivial⟩, ?_⟩
      conv => whnf
      exact ⟨rfl, hI.sv (i := 31) (by decide), hA' (by decide) (by decide), fun h => (by rw [setB_ne (by decide)] at h ⊢; exact hB h), fun h => (by rw [setB_ne (by decide)] at h ⊢; exact hC h)⟩
    rcases i with _ | i
    · obtain rfl := Option.some.inj ho
      refine ⟨rfl, [(24, fv 41)], ⟨hI.vals 31 (by decide) (hdep ⟨31, .data⟩ (by simp) rfl), trivial⟩, ?_⟩
      conv => whnf
      refine (fn41 116 W (by decide) (by decide)).mono ?_
      rintro _ W2 ⟨hE, rfl⟩
      exact ⟨rfl, (hI.ex hE).sv (i := 32) (by decide), hA' (by decide) (by decide), fun h => (by rw [setB_ne (by decide)] at h ⊢; exact hB h), fun h => (by rw [setB_ne (by decide)] at h ⊢; exact hC h)⟩
    rcases i with _ | i
    · obtain rfl := Option.some.inj ho
      have h0 := hdep ⟨0, .data⟩ (by simp) rfl
      obtain ⟨m, es, cl, h1, _⟩ := hI.map h0
      refine ⟨rfl, [(3, .map (some m)), (25, K2 2 116)], ⟨h1, hI.vals 32 (by decide) (hdep ⟨32, .data⟩ (by simp) rfl), trivial⟩, ?_⟩
      conv => whnf
      obtain ⟨W2, hr, hW2⟩ := (hI.in_ (x := (33, (2, 116), 53)) (by decide) hi h0 h1).out
      refine RunU.mk' _ hr ⟨hW2, fun h => ?_, fun h => (by rw [setB_ne (by decide)] at h ⊢; exact hB h), fun h => (by rw [setB_ne (by decide)] at h ⊢; exact hC h)⟩
      rw [setB_ne (by decide), h0] at h
      cases h
    rcases i with _ | i
    · obtain rfl := Option.some.inj ho
      refine ⟨rfl, [(2, fv 42)], ⟨hI.f2, trivial⟩, ?_⟩
      conv => whnf
      exact ⟨rfl, hI.sv (i := 34) (by decide), hA' (by decide) (by decide), fun h => (by rw [setB_ne (by decide)] at h ⊢; exact hB h), fun h => (by rw [setB_ne (by decide)] at h ⊢; exact hC h)⟩
    rcases i with _ | i
    · obtain rfl := Option.some.inj ho
      refine ⟨rfl, [(26, fv 42)], ⟨hI.vals 34 (by decide) (hdep ⟨34, .data⟩ (by simp) rfl), trivial⟩, ?_⟩
      conv => whnf
      refine (fn42 98 W (by decide) (by decide)).mono ?_
      rintro _ W2 ⟨hE, rfl⟩
      exact ⟨rfl, (hI.ex hE).sv (i := 35) (by decide), hA' (by decide) (by decide), fun h => (by rw [setB_ne (by decide)] at h ⊢; exact hB h), fun h => (by rw [setB_ne (by decide)] at h ⊢; exact hC h)⟩
    rcases i with _ | i
    · obtain rfl := Option.some.inj ho
      have h0 := hdep ⟨0, .data⟩ (by simp) rfl
      obtain ⟨m, es, cl, h1, _⟩ := hI.map h0
      refine ⟨rfl, [(3, .map (some m)), (27, K2 3 98)], ⟨h1, hI.vals 35 (by decide) (hdep ⟨35, .data⟩ (by simp) rfl), trivial⟩, ?_⟩
      conv => whnf
      obtain ⟨W2, hr, hW2⟩ := (hI.in_ (x := (36, (3, 98), 54)) (by decide) hi h0 h1).out
      refine RunU.mk' _ hr ⟨hW2, fun h => ?_, fun h => (by rw [setB_ne (by decide)] at h ⊢; exact hB h), fun h => (by rw [setB_ne (by decide)] at h ⊢; exact hC h)⟩
      rw [setB_ne (by decide), h0] at h
      cases h
    rcases i with _ | i
    · obtain rfl := Option.some.inj ho
      refine ⟨rfl, [(2, fv 42)], ⟨hI.f2, trivial⟩, ?_⟩
      conv => whnf
      exact ⟨rfl, hI.sv (i := 37) (by decide), hA' (by decide) (by decide), fun h => (by rw [setB_ne (by decide)] at h ⊢; exact hB h), fun h => (by rw [setB_ne (by decide)] at h ⊢; exact hC h)⟩
    rcases i with _ | i
    · obtain rfl := Option.some.inj ho
      refine ⟨rfl, [(28, fv 42)], ⟨hI.vals 37 (by decide) (hdep ⟨37, .data⟩ (by simp) rfl), trivial⟩, ?_⟩
      conv => whnf
      refine (fn42 102 W (by decide) (by decide)).mono ?_
      rintro _ W2 ⟨hE, rfl⟩
      exact ⟨rfl, (hI.ex hE).sv (i := 38) (by decide), hA' (by decide) (by decide), fun h => (by rw [setB_ne (by decide)] at h ⊢; exact hB h), fun h => (by rw [setB_ne (by decide)] at h ⊢; exact hC h)⟩
    rcases i with _ | i
    · obtain rfl := Option.some.inj ho
      have h0 := hdep ⟨0, .data⟩ (by simp) rfl
      obtain ⟨m, es, cl, h1, _⟩ := hI.map h0
      refine ⟨rfl, [(3, .map (some m)), (29, K2 3 102)], ⟨h1, hI.vals 38 (by decide) (hdep ⟨38, .data⟩ (by simp) rfl), trivial⟩, ?_⟩
      conv => whnf
      obtain ⟨W2, hr, hW2⟩ := (hI.in_ (x := (39, (3, 102), 55)) (by decide) hi h0 h1).out
      refine RunU.mk' _ hr ⟨hW2, fun h => ?_, fun h => (by rw [setB_ne (by decide)] at h ⊢; exact hB h), fun h => (by rw [setB_ne (by decide)] at h ⊢; exact hC h)⟩
      rw [setB_ne (by decide), h0] at h
      cases h
    rcases i with _ | i
    · obtain rfl := Option.some.inj ho
      refine ⟨rfl, [(2, fv 42)], ⟨hI.f2, trivial⟩, ?_⟩
      conv => whnf
      exact ⟨rfl, hI.sv (i := 40) (by decide), hA' (by decide) (by decide), fun h => (by rw [setB_ne (by decide)] at h ⊢; exact hB h), fun h => (by rw [setB_ne (by decide)] at h ⊢; exact hC h)⟩
    rcases i with _ | i
    · obtain rfl := Option.some.inj ho
      refine ⟨rfl, [(30, fv 42)], ⟨hI.vals 40 (by decide) (hdep ⟨40, .data⟩ (by simp) rfl), trivial⟩, ?_⟩
      conv => whnf
      refine (fn42 100 W (by decide) (by decide)).mono ?_
      rintro _ W2 ⟨hE, rfl⟩
      exact ⟨rfl, (hI.ex hE).sv (i := 41) (by decide), hA' (by decide) (by decide), fun h => (by rw [setB_ne (by decide)] at h ⊢; exact hB h), fun h => (by rw [setB_ne (by decide)] at h ⊢; exact hC h)⟩
    rcases i with _ | i
    · obtain rfl := Option.some.inj ho
      have h0 := hdep ⟨0, .data⟩ (by simp) rfl
      obtain ⟨m, es, cl, h1, _⟩ := hI.map h0
      refine ⟨rfl, [(3, .map (some m)), (31, K2 3 100)], ⟨h1, hI.vals 41 (by decide) (hdep ⟨41, .data⟩ (by simp) rfl), trivial⟩, ?_⟩
      conv => whnf
      obtain ⟨W2, hr, hW2⟩ := (hI.in_ (x := (42, (3, 100), 56)) (by decide) hi h0 h1).out
      refine RunU.mk' _ hr ⟨hW2, fun h => ?_, fun h => (by rw [setB_ne (by decide)] at h ⊢; exact hB h), fun h => (by rw [setB_ne (by decide)] at h ⊢; exact hC h)⟩
      rw [setB_ne (by decide), h0] at h
      cases h
    rcases i with _ | i
    · obtain rfl := Option.some.inj ho
      refine ⟨rfl, [(2, fv 42)], ⟨hI.f2, trivial⟩, ?_⟩
      conv => whnf
      exact ⟨rfl, hI.sv (i := 43) (by decide), hA' (by decide) (by decide), fun h => (by rw [setB_ne (by decide)] at h ⊢; exact hB h), fun h => (by rw [setB_ne (by decide)] at h ⊢; exact hC h)⟩
    rcases i with _ | i
    · obtain rfl := Option.some.inj ho
      refine ⟨rfl, [(32, fv 42)], ⟨hI.vals 43 (by decide) (hdep ⟨43, .data⟩ (by simp) rfl), trivial⟩, ?_⟩
      conv => whnf
      refine (fn42 127 W (by decide) (by decide)).mono ?_
      rintro _ W2 ⟨hE, rfl⟩
      exact ⟨rfl, (hI.ex hE).sv (i := 44) (by decide), hA' (by decide) (by decide), fun h => (by rw [setB_ne (by decide)] at h ⊢; exact hB h), fun h => (by rw [setB_ne (by decide)] at h ⊢; exact hC h)⟩
    rcases i with _ | i
    · obtain rfl := Option.some.inj ho
      have h0 := hdep ⟨0, .data⟩ (by simp) rfl
      obtain ⟨m, es, cl, h1, _⟩ := hI.map h0
      refine ⟨rfl, [(3, .map (some m)), (33, K2 3 127)], ⟨h1, hI.vals 44 (by decide) (hdep ⟨44, .data⟩ (by simp) rfl), trivial⟩, ?_⟩
      conv => whnf
      obtain ⟨W2, hr, hW2⟩ := (hI.in_ (x := (45, (3, 127), 51)) (by decide) hi h0 h1).out
      refine RunU.mk' _ hr ⟨hW2, fun h => ?_, fun h => (by rw [setB_ne (by decide)] at h ⊢; exact hB h), fun h => (by rw [setB_ne (by decide)] at h ⊢; exact hC h)⟩
      rw [setB_ne (by decide), h0] at h
      cases h
    rcases i with _ | i
    · obtain rfl := Option.some.inj ho
      refine ⟨rfl, [], trivial, ?_⟩
      conv => whnf
      exact Run.mk' _ _ (build33_1 7 _) ⟨rfl, hI.sv (i := 46) (by decide), hA' (by decide) (by decide), fun h => (by rw [setB_ne (by decide)] at h ⊢; exact hB h), fun h => (by rw [setB_ne (by decide)] at h ⊢; exact hC h)⟩
    rcases i with _ | i
    · obtain rfl := Option.some.inj ho
      have h0 := hdep ⟨0, .data⟩ (by simp) rfl
      obtain ⟨m, es, cl, h1, _⟩ := hI.map h0
      refine ⟨rfl, [(3, .map (some m)), (34, K2 7 0)], ⟨h1, hI.vals 46 (by decide) (hdep ⟨46, .data⟩ (by simp) rfl), trivial⟩, ?_⟩
      conv => whnf
      obtain ⟨W2, hr, hW2⟩ := (hI.in_ (x := (47, (7, 0), 45)) (by decide) hi h0 h1).out
      refine RunU.mk' _ hr ⟨hW2, fun h => ?_, fun h => (by rw [setB_ne (by decide)] at h ⊢; exact hB h), fun h => (by rw [setB_ne (by decide)] at h ⊢; exact hC h)⟩
      rw [setB_ne (by decide), h0] at h
      cases h
    rcases i with _ | i
    · obtain rfl := Option.some.inj ho
      refine ⟨rfl, [], trivial, ?_⟩
      conv => whnf
      exact Run.mk' _ _ (build33_1 6 _) ⟨rfl, hI.sv (i := 48) (by decide), hA' (by decide) (by decide), fun h => (by rw [setB_ne (by decide)] at h ⊢; exact hB h), fun h => (by rw [setB_ne (by decide)] at h ⊢; exact hC h)⟩
    rcases i with _ | i
    · obtain rfl := Option.some.inj ho
      have h0 := hdep ⟨0, .data⟩ (by simp) rfl
      obtain ⟨m, es, cl, h1, _⟩ := hI.map h0
      refine ⟨rfl, [(3, .map (some m)), (35, K2 6 0)], ⟨h1, hI.vals 48 (by decide) (hdep ⟨48, .data⟩ (by simp) rfl), trivial⟩, ?_⟩
      conv => whnf
      obtain ⟨W2, hr, hW2⟩ := (hI.in_ (x := (49, (6, 0), 46)) (by decide) hi h0 h1).out
      refine RunU.mk' _ hr ⟨hW2, fun h => ?_, fun h => (by rw [setB_ne (by decide)] at h ⊢; exact hB h), fun h => (by rw [setB_ne (by decide)] at h ⊢; exact hC h)⟩
      rw [setB_ne (by decide), h0] at h
      cases h
    rcases i with _ | i
    · obtain rfl := Option.some.inj ho
      refine ⟨rfl, [], trivial, ?_⟩
      conv => whnf
      exact Run.mk' _ _ (build33_1 8 _) ⟨rfl, hI.sv (i := 50) (by decide), hA' (by decide) (by decide), fun h => (by rw [setB_ne (by decide)] at h ⊢; exact hB h), fun h => (by rw [setB_ne (by decide)] at h ⊢; exact hC h)⟩
    rcases i with _ | i
    · obtain rfl := Option.some.inj ho
      have h0 := hdep ⟨0, .data⟩ (by simp) rfl
      obtain ⟨m, es, cl, h1, _⟩ := hI.map h0
      refine ⟨rfl, [(3, .map (some m)), (36, K2 8 0)], ⟨h1, hI.vals 50 (by decide) (hdep ⟨50, .data⟩ (by simp) rfl), trivial⟩, ?_⟩
      conv => whnf
      obtain ⟨W2, hr, hW2⟩ := (hI.in_ (x := (51, (8, 0), 43)) (by decide) hi h0 h1).out
      refine RunU.mk' _ hr ⟨hW2, fun h => ?_, fun h => (by rw [setB_ne (by decide)] at h ⊢; exact hB h), fun h => (by rw [setB_ne (by decide)] at h ⊢; exact hC h)⟩
      rw [setB_ne (by decide), h0] at h
      cases h
    rcases i with _ | i
    · obtain rfl := Option.some.inj ho
      refine ⟨rfl, [], trivial, ?_⟩
      conv => whnf
      exact Run.mk' _ _ (build33_1 9 _) ⟨rfl, hI.sv (i := 52) (by decide), hA' (by decide) (by decide), fun h => (by rw [setB_ne (by decide)] at h ⊢; exact hB h), fun h => (by rw [setB_ne (by decide)] at h ⊢; exact hC h)⟩
    rcases i with _ | i
    · obtain rfl := Option.some.inj ho
      have h0 := hdep ⟨0, .data⟩ (by simp) rfl
      obtain ⟨m, es, cl, h1, _⟩ := hI.map h0
      refine ⟨rfl, [(3, .map (some m)), (37, K2 9 0)], ⟨h1, hI.vals 52 (by decide) (hdep ⟨52, .data⟩ (by simp) rfl), trivial⟩, ?_⟩
      conv => whnf
      obtain ⟨W2, hr, hW2⟩ := (hI.in_ (x := (53, (9, 0), 44)) (by decide) hi h0 h1).out
      refine RunU.mk' _ hr ⟨hW2, fun h => ?_, fun h => (by rw [setB_ne (by decide)] at h ⊢; exact hB h), fun h => (by rw [setB_ne (by decide)] at h ⊢; exact hC h)⟩
      rw [setB_ne (by decide), h0] at h
      cases h
    rcases i with _ | i
    · obtain rfl := Option.some.inj ho
      refine ⟨rfl, [], trivial, ?_⟩
      conv => whnf
      exact Run.mk' _ _ (build33_1 10 _) ⟨rfl, hI.sv (i := 54) (by decide), hA' (by decide) (by decide), fun h => (by rw [setB_ne (by decide)] at h ⊢; exact hB h), fun h => (by rw [setB_ne (by decide)] at h ⊢; exact hC h)⟩
    rcases i with _ | i
    · obtain rfl := Option.some.inj ho
      have h0 := hdep ⟨0, .data⟩ (by simp) rfl
      obtain ⟨m, es, cl, h1, _⟩ := hI.map h0
      refine ⟨rfl, [(3, .map (some m)), (38, K2 10 0)], ⟨h1, hI.vals 54 (by decide) (hdep ⟨54, .data⟩ (by simp) rfl), trivial⟩, ?_⟩
      conv => whnf
      obtain ⟨W2, hr, hW2⟩ := (hI.in_ (x := (55, (10, 0), 48)) (by decide) hi h0 h1).out
      refine RunU.mk' _ hr ⟨hW2, fun h => ?_, fun h => (by rw [setB_ne (by decide)] at h ⊢; exact hB h), fun h => (by rw [setB_ne (by decide)] at h ⊢; exact hC h)⟩
      rw [setB_ne (by decide), h0] at h
      cases h
    rcases i with _ | i
    · obtain rfl := Option.some.inj ho
      have h0 := hdep ⟨0, .data⟩ (by simp) rfl
      obtain ⟨m, es, cl, h1, _⟩ := hI.map h0
      refine ⟨rfl, [(3, .map (some m))], ⟨h1, trivial⟩, ?_⟩
      conv => whnf
      have h57 : L 57 = false := by cases h : L 57 with | false => rfl | true => (rw [hC h] at hi; cases hi)
      refine ⟨rfl, h1 ▸ hI.m56 h57, fun h => ?_, fun h => by rw [setB_ne (by decide)]; exact h0, fun h => (by rw [setB_ne (by decide), h57] at h; cases h)⟩
      rw [setB_ne (by decide)] at h
      intro x hx
      rw [setB_ne (fun e => (ins_not x hx).2.1 e.symm)]
      exact hA h x hx
    rcases i with _ | i
    · obtain rfl := Option.some.inj ho
      have h56 := hdep ⟨56, .data⟩ (by simp) rfl
      obtain ⟨m, es, cl, h1, _⟩ := hI.map (hB h56)
      refine ⟨rfl, [(39, .map (some m))], ⟨(hI.c56 h56).trans h1, trivial⟩, ?_⟩
      conv => whnf
      refine ⟨rfl, h1 ▸ hI.m57, fun h => ?_, fun h => (by rw [setB_ne (by decide)] at h ⊢; exact hB h), fun h => (by rw [setB_ne (by decide)]; exact h56)⟩
      rw [setB_ne (by decide)] at h
      intro x hx
      rw [setB_ne (fun e => (ins_not x hx).2.2.1 e.symm)]
      exact hA h x hx
    cases ho
  · rintro L l W hl ⟨hI, _⟩
    obtain ⟨m, es, cl, h1, h2, h3, h4, h5⟩ := hI.map (hl 0 (by decide))
    refine ⟨[(0, .map (some m))], ⟨(hI.c57 (hl 57 (by decide))).trans h1, trivial⟩, ?_⟩
    conv => whnf
    refine ⟨hI.ext, m, es, cl, rfl, h3, h4, fun a b => ?_⟩
    have hi : ∀ x ∈ ins, L x.1 = true := fun x hx => hl x.1 (by
      have : ∀ x ∈ ins, x.1 < 58 := by decide
      exact this x hx)
    rcases h5 a b with ⟨x, hx, _, h7, h8⟩ | ⟨h7, h8⟩
    · rw [h8]
      have hw : wayOf a b = some x.2.2 := by
        unfold wayOf
        cases hf : ins.find? (fun x => decide (x.2.1 = (a, b))) with
        | none =>
          have := List.find?_eq_none.1 hf x hx
          simp [h7] at this
        | some y =>
          have hy := List.mem_of_find?_eq_some hf
          have hp := List.find?_some hf
          simp only [decide_eq_true_eq] at hp
          have := ins_one y hy x hx (.inr (hp.trans h7.symm))
          rw [this]; rfl
      rw [hw]; rfl
    · rw [h8]
      have hw : wayOf a b = none := by
        unfold wayOf
        cases hf : ins.find? (fun x => decide (x.2.1 = (a, b))) with
        | none => rfl
        | some y =>
          have hy := List.mem_of_find?_eq_some hf
          have hp := List.find?_some hf
          simp only [decide_eq_true_eq] at hp
          exact absurd hp (h7 y hy (hi y hy))
      rw [hw]; rfl
end Go.Proofs.Ythphdaeaicjgmaa
