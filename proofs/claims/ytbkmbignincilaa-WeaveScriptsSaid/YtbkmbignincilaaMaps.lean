/- Maps whose keys are structs of whole numbers: what a look-up, an update, a delete, len do, by plain lists of entries. No program in it. -/
import Derived.Test.YtbkmbignincilaaMem
namespace Go.VC
open Go.RowKit
set_option linter.unusedVariables false
set_option linter.unusedSimpArgs false

/-- What is asked of a key's type: which values are keys, that '==' tells whether two are one. -/
structure KeyLaw (P : Program) (kt : TypeId) (isKey : Value → Prop) : Prop where
  check : ∀ e k w, isKey k → (Instr.checkKey e 10000 kt k).run P w = .ok () w
  same : ∀ k k' w, isKey k → isKey k' → ∃ b : Bool, (b = true ↔ k = k') ∧ (Op.equal kt k k').run P w = .ok b w
  und : ∃ fs, ∀ w, (underlying kt).run P w = .ok (.struct fs) w
  bits : ∀ k, isKey k → Instr.sameBits 10000 k k = true

/-- The place of a key's entry. -/
noncomputable def findE (k : Value) (es : List MapEntry) : Option (Nat × Value) :=
  open Classical in
  match es.findIdx? (fun e => decide (k = e.key)) with
  | some i => some (i, (es.getD i default).val)
  | none => none

section
variable {P : Program} {kt : TypeId} {isKey : Value → Prop}

theorem findAsking_run (L : KeyLaw P kt isKey) {k : Value} (hk : isKey k) : ∀ (es : List MapEntry) (i : Nat) (w : World), (∀ e ∈ es, isKey e.key) →
    (Instr.findAsking kt k es i).run P w = .ok ((findE k es).map fun p => (p.1 + i, p.2)) w := by
  intro es
  induction es with
  | nil => intro i w _; rfl
  | cons e es ih =>
    intro i w h
    obtain ⟨b, hb, hr⟩ := L.same k e.key w hk (h e (List.mem_cons_self ..))
    have ih' := ih (i + 1) w (fun e he => h e (List.mem_cons_of_mem _ he))
    simp only [Instr.findAsking, Sem.run_bind, hr, Result.andThen_ok]
    cases b
    · have hne : ¬ k = e.key := fun e' => by have := hb.2 e'; cases this
      simp only [Bool.false_eq_true, if_false, ih']
      unfold findE
      rw [List.findIdx?_cons]
      simp only [hne, decide_false, Bool.false_eq_true, if_false]
      cases List.findIdx? _ es with
      | none => rfl
      | some m => simp [Nat.add_comm, Nat.add_left_comm]
    · have he : k = e.key := hb.1 rfl
      simp only [if_true, Sem.run_pure]
      unfold findE
      rw [List.findIdx?_cons]
      simp [he]

theorem findKey_run (L : KeyLaw P kt isKey) {k : Value} (hk : isKey k) (es : List MapEntry) (w : World) (h : ∀ e ∈ es, isKey e.key) :
    (Instr.findKey kt k es).run P w = .ok (findE k es) w := by
  obtain ⟨fs, hu⟩ := L.und
  have e0 : (findE k es).map (fun p => (p.1 + 0, p.2)) = findE k es := by cases findE k es <;> rfl
  cases es with
  | nil =>
    simp only [Instr.findKey, Sem.run_bind, hu, Result.andThen_ok, Instr.findNow, Sem.run_pure]
    rfl
  | cons e es =>
    simp only [Instr.findKey, Sem.run_bind, hu, Result.andThen_ok, Instr.findNow, Instr.sameNow]
    rw [findAsking_run L hk _ 0 w h, e0]

theorem getObj_run {w : World} {r : Nat} {es : Array MapEntry} {cl : Nat} (h : w.heap[r]? = some (.map es cl)) : (getObj r).run P w = .ok (.map es cl) w := by
  simp [getObj, Sem.run, h]
theorem setObj_run {w : World} {r : Nat} {es : Array MapEntry} {cl : Nat} (h : w.heap[r]? = some (.map es cl)) (o : Obj) : (setObj r o).run P w = .ok () (World.putObj w r o) := by
  simp [setObj, Sem.run, h, World.putObj]

/-- m[k], with and without ok. -/
theorem lookup_run (L : KeyLaw P kt isKey) {mt et : TypeId} {z : Value} (hm : ∀ w, (underlying mt).run P w = .ok (.map kt et) w) (hz : ∀ w, (zeroValue et).run P w = .ok z w)
    {k : Value} (hk : isKey k) {w : World} {r : Nat} {es : Array MapEntry} {cl : Nat} (h : w.heap[r]? = some (.map es cl)) (hall : ∀ e ∈ es.toList, isKey e.key) (ok : Bool) :
    (Instr.lookup mt (.map (some r)) k ok).run P w = .ok (match findE k es.toList with | some p => if ok then .tuple #[p.2, .bool true] else p.2 | none => if ok then .tuple #[z, .bool false] else z) w := by
  simp only [Instr.lookup, Sem.run_bind, hm, Result.andThen_ok, getObj_run h, Sem.run_pure, L.check _ _ _ hk, findKey_run L hk _ w hall]
  cases findE k es.toList with
  | none => simp [Sem.run_bind, hz, Result.andThen, Sem.run]
  | some p => simp [Sem.run]

/-- m[k] = x, k new. -/
theorem update_new (L : KeyLaw P kt isKey) {mt et : TypeId} (hm : ∀ w, (underlying mt).run P w = .ok (.map kt et) w)
    {k x : Value} (hk : isKey k) {w : World} {r : Nat} {es : Array MapEntry} {cl : Nat} (h : w.heap[r]? = some (.map es cl)) (hall : ∀ e ∈ es.toList, isKey e.key) (hf : findE k es.toList = none) :
    (Instr.mapUpdate mt (.map (some r)) k x).run P w = .ok () (World.putObj w r (.map (es.push { key := k, val := x, born := cl }) (cl + 1))) := by
  simp only [Instr.mapUpdate, Sem.run_bind, hm, Result.andThen_ok, getObj_run h, L.check _ _ _ hk, findKey_run L hk _ w hall, hf, setObj_run h]

/-- m[k] = x, k there already. -/
theorem update_old (L : KeyLaw P kt isKey) {mt et : TypeId} (hm : ∀ w, (underlying mt).run P w = .ok (.map kt et) w)
    {k x v : Value} {i : Nat} (hk : isKey k) {w : World} {r : Nat} {es : Array MapEntry} {cl : Nat} (h : w.heap[r]? = some (.map es cl)) (hall : ∀ e ∈ es.toList, isKey e.key) (hf : findE k es.toList = some (i, v))
    (hi : (es[i]?).map (·.key) = some k) :
    (Instr.mapUpdate mt (.map (some r)) k x).run P w = .ok () (World.putObj w r (.map (es.modify i fun e => { e with key := k, val := x }) cl)) := by
  have hs : (Instr.keyThatStays k k).run P w = .ok k w := by simp [Instr.keyThatStays, L.bits k hk, Sem.run]
  simp only [Instr.mapUpdate, Sem.run_bind, hm, Result.andThen_ok, getObj_run h, L.check _ _ _ hk, findKey_run L hk _ w hall, hf, hi, Option.getD_some, hs, setObj_run h]

/-- delete(m, k). -/
theorem delete_run (L : KeyLaw P kt isKey) {mt et ty kt2 : TypeId} (hm : ∀ w, (underlying mt).run P w = .ok (.map kt et) w)
    {k : Value} (hk : isKey k) {w : World} {r : Nat} {es : Array MapEntry} {cl : Nat} (h : w.heap[r]? = some (.map es cl)) (hall : ∀ e ∈ es.toList, isKey e.key) :
    (Builtin.delete_ #[mt, kt2] ty #[.map (some r), k]).run P w = .ok (.tuple #[]) (World.putObj w r (.map (match findE k es.toList with | some p => es.eraseIdxIfInBounds p.1 | none => es) cl)) := by
  have h0 : (#[mt, kt2] : Array TypeId)[0]? = some mt := rfl
  have h1 : (#[Value.map (some r), k] : Array Value)[0]? = some (.map (some r)) := rfl
  have h2 : (#[Value.map (some r), k] : Array Value)[1]? = some k := rfl
  simp only [Builtin.delete_, h0, h1, h2, Sem.run_bind, hm, Result.andThen_ok, getObj_run h, L.check _ _ _ hk, findKey_run L hk _ w hall]
  cases findE k es.toList with
  | none => simp only [setObj_run h, Result.andThen_ok, Sem.run_pure, Sem.run_bind]
  | some p => simp only [setObj_run h, Result.andThen_ok, Sem.run_pure, Sem.run_bind]

/-- len(m). -/
theorem maplen_run {mt kt et ty : TypeId} (hm : ∀ w, (underlying mt).run P w = .ok (.map kt et) w) {w : World} {r : Nat} {es : Array MapEntry} {cl : Nat} (h : w.heap[r]? = some (.map es cl)) :
    (Builtin.len_ #[mt] ty #[.map (some r)]).run P w = .ok (.int .i64 es.size) w := by
  have h0 : (#[mt] : Array TypeId)[0]? = some mt := rfl
  have h1 : (#[Value.map (some r)] : Array Value)[0]? = some (.map (some r)) := rfl
  simp only [Builtin.len_, h0, h1, Sem.run_bind, hm, Result.andThen_ok, getObj_run h, Sem.run_pure, goInt]

/-- A key of two whole numbers. -/
def K2 (a b : Int) : Value := .agg #[.int .i64 a, .int .i64 b]
theorem K2.inj {a b c d : Int} : K2 a b = K2 c d ↔ a = c ∧ b = d := by
  simp [K2]
theorem keyLaw_two {t : TypeId} {f1 f2 : Field} (hu : P.underlying t = some (.struct #[f1, f2])) (hs : P.stoodInHeld t = false)
    (h1 : P.underlying f1.type = some (.int .i64)) (h2 : P.underlying f2.type = some (.int .i64)) (hn1 : (f1.name == "_") = false) (hn2 : (f2.name == "_") = false) (ho1 : f1.offset = 0) (ho2 : f2.offset = 1) :
    KeyLaw P t (fun v => ∃ a b, v = K2 a b) := by
  have hn1' : f1.name ≠ "_" := by simpa using hn1
  have hn2' : f2.name ≠ "_" := by simpa using hn2
  refine ⟨?_, ?_, ⟨#[f1, f2], fun w => run_underlying hu w⟩, ?_⟩
  · rintro e _ w ⟨a, b, rfl⟩
    have p1 : (part f1.type #[.int .i64 a, .int .i64 b] f1.offset).run P w = .ok (.int .i64 a) w := by
      simp [part, isAgg, Sem.run_bind, run_underlying h1, ho1]
    have p2 : (part f2.type #[.int .i64 a, .int .i64 b] f2.offset).run P w = .ok (.int .i64 b) w := by
      simp [part, isAgg, Sem.run_bind, run_underlying h2, ho2]
    have c1 : ∀ n, (Instr.checkKey e (n + 1) f1.type (.int .i64 a)).run P w = .ok () w := fun n => by
      simp [Instr.checkKey, Sem.run_bind, run_underlying h1]
    have c2 : ∀ n, (Instr.checkKey e (n + 1) f2.type (.int .i64 b)).run P w = .ok () w := fun n => by
      simp [Instr.checkKey, Sem.run_bind, run_underlying h2]
    have key : ∀ n, (Instr.checkKey e (n + 2) t (K2 a b)).run P w = .ok () w := fun n => by
      show (Instr.checkKey e ((n + 1) + 1) t (K2 a b)).run P w = .ok () w
      rw [Instr.checkKey]
      simp only [K2, Sem.run_bind, run_underlying hu, Result.andThen_ok]
      rw [← Array.forIn_toList]
      simp only [List.forIn_cons, List.forIn_nil, hn1', hn2', ne_eq, not_false_eq_true, if_true, Sem.run_bind, p1, p2, c1, c2, Result.andThen_ok, Sem.run_pure, bind_assoc, pure_bind, map_eq_pure_bind]
    exact key 9998
  · rintro _ _ w ⟨a, b, rfl⟩ ⟨c, d, rfl⟩
    refine ⟨decide (a = c ∧ b = d), by rw [K2.inj]; simp, ?_⟩
    exact eqIn_two (n := 9998) hu hs h1 h2 hn1 hn2 ho1 ho2 a b c d w
  · rintro _ ⟨a, b, rfl⟩
    have key : ∀ n, Instr.sameBits (n + 1) (K2 a b) (K2 a b) = true := fun n => by
      cases n <;> simp [Instr.sameBits, K2]
    exact key 9999
end

/-! ### Ranging over a map of at most one entry -/
section
variable {P : Program}
theorem range_run {mt kt et : TypeId} (hm : ∀ w, (underlying mt).run P w = .ok (.map kt et) w) {w : World} {r : Nat} {es : Array MapEntry} {cl : Nat} (h : w.heap[r]? = some (.map es cl)) :
    (Instr.range mt (.map (some r))).run P w = .ok (.pointer (some ⟨w.heap.size, 0, none⟩)) (w.alloc (.mapIter (some r) cl #[] cl)) := by
  simp only [Instr.range, Sem.run_bind, hm, Result.andThen_ok, getObj_run h, Sem.run_pure, newObj, Sem.run]
  rfl
theorem getIter_run {w : World} {it : Nat} {m : Option Nat} {since : Nat} {seen : Array Nat} {st : Nat} (h : w.heap[it]? = some (.mapIter m since seen st)) : (getObj it).run P w = .ok (.mapIter m since seen st) w := by
  simp [getObj, Sem.run, h]
theorem setIter_run {w : World} {it : Nat} {m : Option Nat} {since : Nat} {seen : Array Nat} {st : Nat} (h : w.heap[it]? = some (.mapIter m since seen st)) (o : Obj) : (setObj it o).run P w = .ok () (World.putObj w it o) := by
  simp [setObj, Sem.run, h, World.putObj]
theorem next_one {w : World} {it r since st cl ty : Nat} {e : MapEntry} (hi : w.heap[it]? = some (.mapIter (some r) since #[] st)) (hr : w.heap[r]? = some (.map #[e] cl)) (hb : e.born < since) :
    (Instr.next (.pointer (some ⟨it, 0, none⟩)) false ty).run P w = .ok (.tuple #[.bool true, e.key, e.val]) (World.putObj w it (.mapIter (some r) since #[e.born] cl)) := by
  have h1 : (#[e].filter fun x => decide (x.born < since)) = #[e] := by simp [hb]
  have h2 : (#[e].filter fun x => decide (x.born ≥ since)) = #[] := by simp [Nat.not_le.2 hb]
  have h3 : ¬ since ≤ e.born := by omega
  simp [Instr.next, Sem.run_bind, getIter_run hi, getObj_run hr, h1, h2, h3, choose, Sem.run, Question.forced, setIter_run hi, hb]
theorem next_end0 {w : World} {it r since st cl ty : Nat} {seen : Array Nat} (hi : w.heap[it]? = some (.mapIter (some r) since seen st)) (hr : w.heap[r]? = some (.map #[] cl)) :
    (Instr.next (.pointer (some ⟨it, 0, none⟩)) false ty).run P w = .ok (.tuple #[.bool false]) w := by
  simp [Instr.next, Sem.run_bind, getIter_run hi, getObj_run hr, choose, Sem.run, Question.forced]
theorem next_end1 {w : World} {it r since st cl ty : Nat} {e : MapEntry} (hi : w.heap[it]? = some (.mapIter (some r) since #[e.born] st)) (hr : w.heap[r]? = some (.map #[e] cl)) (hb : e.born < st) :
    (Instr.next (.pointer (some ⟨it, 0, none⟩)) false ty).run P w = .ok (.tuple #[.bool false]) w := by
  have h3 : ¬ st ≤ e.born := by omega
  simp [Instr.next, Sem.run_bind, getIter_run hi, getObj_run hr, choose, Sem.run, Question.forced, h3]
theorem entry_one {w : World} {it r since cl : Nat} {e : MapEntry} (hi : w.heap[it]? = some (.mapIter (some r) since #[e.born] cl)) (hr : w.heap[r]? = some (.map #[e] cl)) :
    (Instr.entry (.pointer (some ⟨it, 0, none⟩))).run P w = .ok (.tuple #[e.key, e.val]) w := by
  simp [Instr.entry, Sem.run_bind, getIter_run hi, getObj_run hr, Sem.run]
/-- A block that is no row of cells is written: no cell is touched. -/
theorem Put.no_cell {w W : World} {r : Nat} {o0 o : Obj} (hp : Put w r o W) (hr : w.heap[r]? = some o0) (hn : ∀ c e f, o0 ≠ .cells c e f) {p : Addr} {v : Value} (hc : w.cell? p = some v) : W.cell? p = some v := by
  have hne : p.block ≠ r := by
    intro e
    rw [World.cell?, e, hr] at hc
    cases o0 <;> first | exact hn _ _ _ rfl | cases hc
  rw [World.cell?, hp.ne _ hne]
  exact hc
theorem Put.no_ints {w W : World} {r : Nat} {o0 o : Obj} (hp : Put w r o W) (hr : w.heap[r]? = some o0) (hn : ∀ c e f, o0 ≠ .cells c e f) {A : Option Addr} {n : Nat} {xs : List Int} (h : Ints w A n xs) : Ints W A n xs :=
  ⟨h.len, h.small, fun i x hx => by obtain ⟨a, e, hc⟩ := h.get i x hx; exact ⟨a, e, hp.no_cell hr hn hc⟩⟩
end
end Go.VC
