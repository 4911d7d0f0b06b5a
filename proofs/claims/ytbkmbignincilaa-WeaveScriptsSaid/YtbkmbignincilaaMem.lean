/- Words for memory, of this session's making, beside VC: a world that has only grown; a slice that reads as a list; small laws. No program in it. -/
import Derived.Test.YtbkmbignincilaaVC
import Derived.Deep.Draws
import Derived.Laws.OwnMore
import Derived.Maps.AppendAt
import Derived.IntWalk
namespace Go.VC
open Go.RowKit
set_option linter.unusedVariables false
set_option linter.unusedSimpArgs false

/-! ### A world that has only grown -/
/-- Nothing that was there has changed. -/
abbrev Ext (w w' : World) : Prop := Below w.heap.size w w'
theorem Ext.refl (w : World) : Ext w w := Below.refl _ _
theorem Ext.tr {a b c : World} (h : Ext a b) (k : Ext b c) : Ext a c :=
  ⟨k.os.trans h.os, k.tape.trans h.tape, k.output.trans h.output, Nat.le_trans h.size k.size, fun i hi => (k.block i (Nat.lt_of_lt_of_le hi h.size)).trans (h.block i hi)⟩
theorem Ext.drew (w : World) : Ext w w.drew := ⟨rfl, rfl, rfl, Nat.le_refl _, fun _ _ => rfl⟩
theorem Ext.alloc (w : World) (o : Obj) : Ext w (w.alloc o) := (Below.refl _ _).alloc (Nat.le_refl _) o
theorem Ext.then_alloc {a b : World} (h : Ext a b) (o : Obj) : Ext a (b.alloc o) := h.tr (Ext.alloc b o)
theorem Ext.then_drew {a b : World} (h : Ext a b) : Ext a b.drew := h.tr (Ext.drew b)
theorem Ext.at_ {w w' : World} (h : Ext w w') {b : Nat} {o : Obj} (hb : w.heap[b]? = some o) : w'.heap[b]? = some o := by
  have hlt : b < w.heap.size := by
    rcases Nat.lt_or_ge b w.heap.size with h1 | h1
    · exact h1
    · rw [Array.getElem?_eq_none h1] at hb; cases hb
  rw [h.block b hlt, hb]
theorem Ext.cell {w w' : World} (h : Ext w w') {p : Addr} {v : Value} (hc : w.cell? p = some v) : w'.cell? p = some v :=
  (Below.cell h (World.block_lt_of_cell? w p hc)).trans hc
theorem Ext.putObj {w w' : World} (h : Ext w w') {b : Nat} (hb : w.heap.size ≤ b) (o : Obj) : Ext w (World.putObj w' b o) := by
  refine ⟨h.os, h.tape, h.output, by simpa [World.putObj] using h.size, fun k hk => ?_⟩
  rw [← h.block k hk]
  simp only [World.putObj]
  exact Array.getElem?_setIfInBounds_ne (by omega)
theorem Ext.le {w w' : World} (h : Ext w w') : w.heap.size ≤ w'.heap.size := h.size

theorem at_lt {w : World} {b : Nat} {o : Obj} (hb : w.heap[b]? = some o) : b < w.heap.size := by
  rcases Nat.lt_or_ge b w.heap.size with h1 | h1
  · exact h1
  · rw [Array.getElem?_eq_none h1] at hb; cases hb
theorem at_alloc (w : World) (o : Obj) : (w.alloc o).heap[w.heap.size]? = some o := by show (w.heap.push o)[w.heap.size]? = some o; simp
theorem at_alloc_old {w : World} {b : Nat} {o o' : Obj} (hb : w.heap[b]? = some o) : (w.alloc o').heap[b]? = some o := (Ext.alloc w o').at_ hb
theorem at_putObj {w : World} {b : Nat} {o : Obj} (o' : Obj) (hb : w.heap[b]? = some o) : (World.putObj w b o').heap[b]? = some o' := by
  have := at_lt hb
  simp [World.putObj, this]
theorem at_putObj_ne {w : World} {b b' : Nat} {o : Obj} (o' : Obj) (hb : w.heap[b]? = some o) (hne : b' ≠ b) : (World.putObj w b' o').heap[b]? = some o := by
  simp only [World.putObj]
  rw [Array.getElem?_setIfInBounds_ne hne]
  exact hb
theorem size_putObj (w : World) (b : Nat) (o : Obj) : (World.putObj w b o).heap.size = w.heap.size := by simp [World.putObj]
theorem size_alloc (w : World) (o : Obj) : (w.alloc o).heap.size = w.heap.size + 1 := by simp
theorem cell_of_at {w : World} {b off : Nat} {cs : Array Value} {e : Nat} {f : Nat × Nat} (hb : w.heap[b]? = some (.cells cs e f)) : w.cell? ⟨b, off, none⟩ = cs[off]? := by
  simp [World.cell?, hb]
theorem add_plain_ (b o k : Nat) : (⟨b, o, none⟩ : Addr).add k = ⟨b, o + k, none⟩ := by unfold Addr.add; split <;> simp_all
theorem cells_of_at {w : World} {b off : Nat} {cs : Array Value} {e : Nat} {f : Nat × Nat} {vs : List Value} (hb : w.heap[b]? = some (.cells cs e f)) (h : (cs.toList.drop off).take vs.length = vs) : Cells w ⟨b, off, none⟩ vs := by
  intro i hi
  rw [add_plain_, cell_of_at hb]
  have h2 : ((cs.toList.drop off).take vs.length)[i]? = vs[i]? := by rw [h]
  rw [List.getElem?_take_of_lt hi, List.getElem?_drop] at h2
  rw [← Array.getElem?_toList, h2, List.getElem?_eq_getElem hi]
  simp [List.getElem?_eq_getElem hi]

/-- A cell of a block that is known whole. -/
theorem ld {w : World} {b off : Nat} {cs : Array Value} {e : Nat} {f : Nat × Nat} {ad : Addr} {v : Value} (hb : w.heap[b]? = some (.cells cs e f)) (ha : ad = ⟨b, off, none⟩) (hc : cs[off]? = some v) : w.cell? ad = some v := by
  rw [ha, cell_of_at hb, hc]
/-- Cells of such a block. -/
theorem lds {w : World} {b off : Nat} {cs : Array Value} {e : Nat} {f : Nat × Nat} {ad : Addr} {vs : List Value} (hb : w.heap[b]? = some (.cells cs e f)) (ha : ad = ⟨b, off, none⟩) (hc : (cs.toList.drop off).take vs.length = vs) : Cells w ad vs := by
  rw [ha]; exact cells_of_at hb hc
theorem New.e {w W : World} {o : Obj} (h : New w o W) : Ext w W := h.ext
theorem Put.e {w0 w W : World} {b : Nat} {o : Obj} (h : Put w b o W) (he : Ext w0 w) (hb : w0.heap.size ≤ b) : Ext w0 W :=
  ⟨h.os.trans he.os, h.tape.trans he.tape, h.output.trans he.output, by rw [h.size]; exact he.size, fun k hk => (h.ne k (by omega)).trans (he.block k hk)⟩
theorem Put.keep {w W : World} {b b' : Nat} {o o' : Obj} (h : Put w b o W) (hb : w.heap[b']? = some o') (hne : b' ≠ b) : W.heap[b']? = some o' := (h.ne b' hne).trans hb

/-! ### A slice that reads as a list -/
/-- The slice of n elements at A (size cells each) reads as the cells xs. -/
def Rd (w : World) (size : Nat) (A : Option Addr) (n : Nat) (xs : List Value) : Prop :=
  xs.length = n * size ∧ ∀ i u, xs[i]? = some u → ∃ a, A = some a ∧ w.cell? (a.add i) = some u
theorem Rd.ext {w w' : World} {size n : Nat} {A : Option Addr} {xs : List Value} (h : Rd w size A n xs) (he : Ext w w') : Rd w' size A n xs :=
  ⟨h.1, fun i u hu => by obtain ⟨a, e, hc⟩ := h.2 i u hu; exact ⟨a, e, he.cell hc⟩⟩
theorem Rd.nil (w : World) (size : Nat) (A : Option Addr) : Rd w size A 0 [] := ⟨by simp, fun i u h => by simp at h⟩
theorem Rd.get {w : World} {A : Option Addr} {n : Nat} {xs : List Value} (h : Rd w 1 A n xs) {i : Nat} (hi : i < n) : ∃ a u, A = some a ∧ xs[i]? = some u ∧ w.cell? (a.add i) = some u := by
  have hl : i < xs.length := by have := h.1; omega
  obtain ⟨a, e, hc⟩ := h.2 i _ (List.getElem?_eq_getElem hl)
  exact ⟨a, _, e, List.getElem?_eq_getElem hl, hc⟩

/-- Whole numbers as values. -/
def ints (xs : List Int) : List Value := xs.map (.int .i64)
/-- A slice of whole numbers. -/
structure Ints (w : World) (A : Option Addr) (n : Nat) (xs : List Int) : Prop where
  len : xs.length = n
  small : n ≤ 9223372036854775807
  get : ∀ i x, xs[i]? = some x → ∃ a, A = some a ∧ w.cell? (a.add i) = some (.int .i64 x)
theorem Ints.ext {w w' : World} {n : Nat} {A : Option Addr} {xs : List Int} (h : Ints w A n xs) (he : Ext w w') : Ints w' A n xs :=
  ⟨h.len, h.small, fun i u hu => by obtain ⟨a, e, hc⟩ := h.get i u hu; exact ⟨a, e, he.cell hc⟩⟩
theorem Ints.nil (w : World) (A : Option Addr) : Ints w A 0 [] := ⟨rfl, by omega, fun i u h => by simp at h⟩
/-- The element at k: for an index and a load. -/
theorem Ints.at_ {w : World} {A : Option Addr} {n : Nat} {xs : List Int} (h : Ints w A n xs) {k : Nat} (hk : k < n) : ∃ a, A = some a ∧ w.cell? (a.add k) = some (.int .i64 (xs.getD k 0)) := by
  have hl : k < xs.length := by have := h.len; omega
  obtain ⟨a, e, hc⟩ := h.get k _ (List.getElem?_eq_getElem hl)
  exact ⟨a, e, by rw [hc]; simp [List.getElem?_eq_getElem hl]⟩
theorem Ints.rd {w : World} {A : Option Addr} {n : Nat} {xs : List Int} (h : Ints w A n xs) : Rd w 1 A n (ints xs) :=
  ⟨by simp [ints, h.len], fun i u hu => by
    simp only [ints, List.getElem?_map, Option.map_eq_some_iff] at hu
    obtain ⟨x, hx, rfl⟩ := hu
    exact h.get i x hx⟩

theorem wrap_id {r : Int} (h0 : -9223372036854775808 ≤ r) (h1 : r ≤ 9223372036854775807) : IntKind.i64.wrap r = r := IntWalk.i64_in _ (by omega)
theorem wrap_nat {k n : Nat} (h : k < n) (hn : n ≤ 9223372036854775807) : IntKind.i64.wrap ((k : Int) + 1) = ((k + 1 : Nat) : Int) := by rw [wrap_id (by omega) (by omega)]; rfl

theorem vbool {t : Bool} {p : Prop} [Decidable p] (h : VB t p) : t = decide p := by cases t <;> simp [VB] at h <;> simp [h]

/-! ### append -/
theorem own_rd {w : World} {base : Nat} {e : TypeId} {size n c : Nat} {A : Option Addr} {xs : List Value} (h : w.ownsRow base e size (.slice A n c) n xs) : Rd w size A n xs := by
  refine ⟨h.1, fun i u hu => ?_⟩
  rcases h.2 with ⟨hv, rfl⟩ | ⟨g, cap, cur, hv, _, hh, _, _, hcs, ht⟩
  · have := h.1
    simp at this
    subst this
    simp at hu
  · injection hv with hA _ _
    subst hA
    refine ⟨_, rfl, ?_⟩
    rw [add_plain_, cell_of_at hh, ← Array.getElem?_toList]
    have hi : i < xs.length := (List.getElem?_eq_some_iff.1 hu).1
    have h3 : (cur.toList.take (n * size))[i]? = some u := by rw [ht]; exact hu
    rw [List.getElem?_take_of_lt (by rw [← h.1]; exact hi)] at h3
    simpa using h3

theorem own_form {w : World} {base : Nat} {e : TypeId} {size n : Nat} {v : Value} {xs : List Value} (h : w.ownsRow base e size v n xs) : ∃ A c, v = .slice A n c := by
  rcases h.2 with ⟨rfl, rfl⟩ | ⟨g, cap, cur, rfl, _⟩
  · exact ⟨none, 0, rfl⟩
  · exact ⟨_, _, rfl⟩

theorem own_ext {w w' : World} {base : Nat} {e : TypeId} {size n : Nat} {v : Value} {xs : List Value} (h : w.ownsRow base e size v n xs) (he : Ext w w') : w'.ownsRow base e size v n xs := by
  rcases h with ⟨h1, h2⟩
  refine ⟨h1, ?_⟩
  rcases h2 with h2 | ⟨g, cap, cur, h3, h4, h5, h6⟩
  · exact .inl h2
  · exact .inr ⟨g, cap, cur, h3, h4, he.at_ h5, h6⟩
theorem own_nil_ (w : World) (base e size : Nat) : w.ownsRow base e size (.slice none 0 0) 0 [] := ⟨by simp, .inl ⟨rfl, rfl⟩⟩
/-- A new row. -/
theorem own_new (w : World) (e size n : Nat) (xs : List Value) (hl : xs.length = n * size) (hn : n ≤ maxLen) : (w.alloc (.cells xs.toArray e)).ownsRow w.heap.size e size (.slice (some ⟨w.heap.size, 0, none⟩) n n) n xs :=
  ⟨hl, .inr ⟨w.heap.size, n, xs.toArray, rfl, Nat.le_refl _, at_alloc w _, Nat.le_refl _, hn, by simp [hl], by rw [← hl]; simp⟩⟩

/-- 'append(s, x...)', s a row of the call's own (nil too). -/
theorem append_own {P : Program} (w : World) (base : Nat) (t ty e : TypeId) (i : TypeInfo) (z : Value) (size bytes : Nat) (ht : P.underlying t = some (.slice e)) (hi : P.info? e = some i) (hz : i.zero = some z)
    (hsize : i.size = size) (hby : i.bytes = bytes) (hzs : z.cells.size = size) (hsz : 0 < size)
    (v : Value) (n : Nat) (xs : List Value) (hown : w.ownsRow base e size v n xs)
    (A : Option Addr) (m c : Nat) (news : List Value) (hr : Rd w size A m news) (h1 : ∀ u ∈ news, u.oneCell' = true)
    (h63 : n + m ≤ maxLen) (hbytes : (n + m) * bytes ≤ 140737488355328) (hbase : base ≤ w.heap.size) :
    ∃ v' w', (Builtin.append_ #[t, t] ty #[v, .slice A m c]).run P w = .ok v' w' ∧ w'.ownsRow base e size v' (n + m) (xs ++ news) ∧ w.grownBy w' v.ownBlock ∧
      (v'.ownBlock = v.ownBlock ∨ v'.ownBlock = some w.heap.size) := by
  have hget : ∀ a, A = some a → ∀ j u, news[j]? = some u → w.cell? (a.add j) = some u := fun a ha j u hu => by
    obtain ⟨a', e, hc⟩ := hr.2 j u hu
    rw [ha] at e; cases e; exact hc
  cases A with
  | none =>
    have hn : news = [] := by
      cases news with
      | nil => rfl
      | cons u us => obtain ⟨a, e, _⟩ := hr.2 0 u rfl; cases e
    subst hn
    have hm : m = 0 := by have h := hr.1; simp at h; rcases Nat.mul_eq_zero.1 h.symm with h | h <;> omega
    subst hm
    have hrun : (Builtin.append_ #[t, t] ty #[v, .slice none 0 c]).run P w = .ok v w := by
      rcases hown.2 with ⟨rfl, rfl⟩ | ⟨g, cap, cur, rfl, _, _, hnc, _⟩
      · simp [Builtin.append_, run_underlying ht, sizeOf, typeInfo, hi, Builtin.lenOf, Builtin.firstCells]
      · simp [Builtin.append_, run_underlying ht, sizeOf, typeInfo, hi, Builtin.lenOf, Builtin.firstCells, hnc, storeCells]
    exact ⟨v, w, hrun, by simpa using hown, World.grownBy.refl w _, .inl rfl⟩
  | some a =>
    obtain ⟨v', w', hrun, h2, h3, _, h5⟩ := run_append_own_at (P := P) w base t ty e i z size bytes ht hi hz hsize hby hzs hsz v n xs hown a m c news hr.1 (hget a rfl) h1 h63 hbytes hbase
    exact ⟨v', w', hrun, h2, h3, h5⟩

theorem grown_ext {w0 w w' : World} (h : Ext w0 w) {row : Option Nat} (hg : w.grownBy w' row) (hr : ∀ k, row = some k → w0.heap.size ≤ k) : Ext w0 w' :=
  h.grown hg h.size hr
theorem own_base_le {w : World} {base : Nat} {e : TypeId} {size n : Nat} {v : Value} {xs : List Value} (h : w.ownsRow base e size v n xs) (k : Nat) (hk : v.ownBlock = some k) : base ≤ k := by
  rcases h.2 with ⟨rfl, _⟩ | ⟨g, cap, cur, rfl, hb, _⟩
  · simp [Value.ownBlock] at hk
  · have : g = k := by simpa [Value.ownBlock] using hk
    omega

/-! ### '==' of structs -/
theorem eql_agg {P : Program} {t : TypeId} {xs ys : Array Value} {r : Bool} (hg : P.eqGuardType P.depth t = false) (h : ∀ w, (Op.equalIn 10000 t (.agg xs) (.agg ys)).run P w = .ok r w) (xo yo : Operand) (w : World) :
    (do eqGuard .eql t xo yo (.agg xs) (.agg ys); Go.binOp .eql t (.agg xs) (.agg ys) : Sem Value).run P w = .ok (.bool r) w := by
  have h1 : (eqGuard .eql t xo yo (.agg xs) (.agg ys)).run P w = .ok () w := by
    simp [eqGuard, Sem.run_bind, program, Sem.run, hg]
  have h2 : Go.binOp .eql t (.agg xs) (.agg ys) = (do pure (.bool (← Op.equal t (.agg xs) (.agg ys)))) := rfl
  have h3 : (Op.equal t (.agg xs) (.agg ys)).run P w = .ok r w := h w
  rw [Sem.run_bind, h1, h2]
  simp only [Result.andThen_ok, Sem.run_bind, h3, Sem.run_pure]
theorem neq_agg {P : Program} {t : TypeId} {xs ys : Array Value} {r : Bool} (hg : P.eqGuardType P.depth t = false) (h : ∀ w, (Op.equalIn 10000 t (.agg xs) (.agg ys)).run P w = .ok r w) (xo yo : Operand) (w : World) :
    (do eqGuard .neq t xo yo (.agg xs) (.agg ys); Go.binOp .neq t (.agg xs) (.agg ys) : Sem Value).run P w = .ok (.bool (!r)) w := by
  have h1 : (eqGuard .neq t xo yo (.agg xs) (.agg ys)).run P w = .ok () w := by
    simp [eqGuard, Sem.run_bind, program, Sem.run, hg]
  have h2 : Go.binOp .neq t (.agg xs) (.agg ys) = (do pure (.bool (!(← Op.equal t (.agg xs) (.agg ys))))) := rfl
  have h3 : (Op.equal t (.agg xs) (.agg ys)).run P w = .ok r w := h w
  rw [Sem.run_bind, h1, h2]
  simp only [Result.andThen_ok, Sem.run_bind, h3, Sem.run_pure]
/-- Two whole numbers. -/
theorem eqIn_two {P : Program} {t : TypeId} {f1 f2 : Field} {k1 k2 : IntKind} (hu : P.underlying t = some (.struct #[f1, f2])) (hs : P.stoodInHeld t = false)
    (h1 : P.underlying f1.type = some (.int k1)) (h2 : P.underlying f2.type = some (.int k2)) (hn1 : (f1.name == "_") = false) (hn2 : (f2.name == "_") = false) (ho1 : f1.offset = 0) (ho2 : f2.offset = 1)
    (n : Nat) (a b c d : Int) (w : World) : (Op.equalIn (n + 2) t (.agg #[.int k1 a, .int k2 b]) (.agg #[.int k1 c, .int k2 d])).run P w = .ok (decide (a = c ∧ b = d)) w := by
  have hf : P.fieldsOf t = #[f1, f2] := by simp [Program.fieldsOf, hu]
  rw [run_equalIn_struct (P := P) w (n + 1) t _ _ (by rw [hf]; exact hu) hs, hf]
  have hn1' : f1.name ≠ "_" := by simpa using hn1
  have hn2' : f2.name ≠ "_" := by simpa using hn2
  have p1 : ∀ x y, (part f1.type #[.int k1 x, .int k2 y] f1.offset).run P w = .ok (.int k1 x) w := fun x y => by
    simp [part, isAgg, Sem.run_bind, run_underlying h1, ho1]
  have p2 : ∀ x y, (part f2.type #[.int k1 x, .int k2 y] f2.offset).run P w = .ok (.int k2 y) w := fun x y => by
    simp [part, isAgg, Sem.run_bind, run_underlying h2, ho2]
  have e1 : (Op.equalIn (n + 1) f1.type (.int k1 a) (.int k1 c)).run P w = .ok (a == c) w := by
    simp [Op.equalIn, Sem.run_bind, run_underlying h1]
  have e2 : (Op.equalIn (n + 1) f2.type (.int k2 b) (.int k2 d)).run P w = .ok (b == d) w := by
    simp [Op.equalIn, Sem.run_bind, run_underlying h2]
  simp only [Op.eqFields, if_pos hn1', if_pos hn2', Sem.run_bind, p1, p2, e1, Result.andThen_ok]
  by_cases h3 : a = c
  · by_cases h4 : b = d
    · simp [h3, h4, Sem.run_bind, p2, e2]
      subst h3 h4
      simp [Sem.run_bind, p2, e2, Result.andThen]
    · simp [h3, h4, Sem.run_bind, p2, e2]
  · simp [h3]

/-! ### append, for a walk -/
theorem run_append {P : Program} {w : World} {base : Nat} {t ty e : TypeId} {z : Value} {size bytes : Nat} (hinfo : (P.info? e).map (fun i => (i.zero, i.size, i.bytes)) = some (some z, size, bytes)) (ht : P.underlying t = some (.slice e))
    (hzs : z.cells.size = size) (hsz : 0 < size)
    {v : Value} {n : Nat} {xs : List Value} (hown : w.ownsRow base e size v n xs)
    {A : Option Addr} {m c : Nat} {news : List Value} (hr : Rd w size A m news) (h1 : ∀ u ∈ news, u.oneCell' = true)
    (h63 : n + m ≤ maxLen) (hbytes : (n + m) * bytes ≤ 140737488355328) (hbase : base ≤ w.heap.size) {K : Value → World → Prop}
    (k : ∀ v' w', w'.ownsRow base e size v' (n + m) (xs ++ news) → w.grownBy w' v.ownBlock → (v'.ownBlock = v.ownBlock ∨ v'.ownBlock = some w.heap.size) → K v' w') :
    Run P (Builtin.append_ #[t, t] ty #[v, .slice A m c]) w K := by
  cases hi : P.info? e with
  | none => rw [hi] at hinfo; cases hinfo
  | some i =>
    rw [hi] at hinfo
    simp only [Option.map_some, Option.some.injEq, Prod.mk.injEq] at hinfo
    obtain ⟨h2, h3, h4⟩ := hinfo
    obtain ⟨v', w', hrun, h5, h6, h7⟩ := append_own (P := P) w base t ty e i z size bytes ht hi h2 h3 h4 hzs hsz v n xs hown A m c news hr h1 h63 hbytes hbase
    exact Run.mk' _ _ hrun (k _ _ h5 h6 h7)

theorem one_ints (xs : List Int) : ∀ u ∈ ints xs, u.oneCell' = true := by
  intro u hu
  simp only [ints, List.mem_map] at hu
  obtain ⟨x, _, rfl⟩ := hu
  rfl
/-- An owned row of whole numbers, read. -/
theorem own_ints {w : World} {base e n c : Nat} {A : Option Addr} {xs : List Int} (h : w.ownsRow base e 1 (.slice A n c) n (ints xs)) : Ints w A n xs := by
  have hl : xs.length = n := by have := h.1; simpa [ints] using this
  have hs : n ≤ 9223372036854775807 := by
    rcases h.2 with ⟨_, rfl⟩ | ⟨_, _, _, _, _, _, h4, h5, _⟩
    · omega
    · simp only [maxLen] at h5; omega
  refine ⟨hl, hs, fun i x hx => (own_rd h).2 i _ ?_⟩
  simp [ints, hx]
theorem ext_row {w0 w w' : World} {v : Value} {base e size n : Nat} {xs : List Value} (h : Ext w0 w) (hg : w.grownBy w' v.ownBlock) (hown : w.ownsRow base e size v n xs) (hb : w0.heap.size ≤ base) : Ext w0 w' :=
  grown_ext h hg fun k hk => Nat.le_trans hb (own_base_le hown k hk)
theorem Ints.put {w W : World} {A : Option Addr} {n b : Nat} {xs : List Int} {o : Obj} (h : Ints w A n xs) (hp : Put w b o W) (hne : ∀ a, A = some a → a.block ≠ b) : Ints W A n xs :=
  ⟨h.len, h.small, fun i x hx => by
    obtain ⟨a, e, hc⟩ := h.get i x hx
    refine ⟨a, e, ?_⟩
    have hb : (a.add i).block = a.block := by unfold Addr.add; split <;> rfl
    rw [World.cell?, hb, hp.ne _ (hne a e), ← hb]
    exact hc⟩
theorem own_ge {w : World} {base e size n c : Nat} {A : Option Addr} {xs : List Value} (h : w.ownsRow base e size (.slice A n c) n xs) : ∀ a, A = some a → base ≤ a.block := by
  rintro a rfl
  exact own_base_le h a.block rfl
/-- A map's block is written: no cell is touched. -/
theorem Put.map_cell {w W : World} {r : Nat} {es : Array MapEntry} {cl : Nat} {o : Obj} (hp : Put w r o W) (hr : w.heap[r]? = some (.map es cl)) {p : Addr} {v : Value} (hc : w.cell? p = some v) : W.cell? p = some v := by
  have hne : p.block ≠ r := by
    intro e
    rw [World.cell?, e, hr] at hc
    cases hc
  rw [World.cell?, hp.ne _ hne]
  exact hc
theorem Put.map_ints {w W : World} {r : Nat} {es : Array MapEntry} {cl : Nat} {o : Obj} (hp : Put w r o W) (hr : w.heap[r]? = some (.map es cl)) {A : Option Addr} {n : Nat} {xs : List Int} (h : Ints w A n xs) : Ints W A n xs :=
  ⟨h.len, h.small, fun i x hx => by obtain ⟨a, e, hc⟩ := h.get i x hx; exact ⟨a, e, hp.map_cell hr hc⟩⟩
/-- Only some blocks of those that were there have changed. -/
structure Chg (S : Nat → Prop) (w W : World) : Prop where
  os : W.os = w.os
  tape : W.tape = w.tape
  output : W.output = w.output
  size : w.heap.size ≤ W.heap.size
  block : ∀ k, k < w.heap.size → ¬ S k → W.heap[k]? = w.heap[k]?
theorem Ext.chg {w W : World} (h : Ext w W) (S : Nat → Prop) : Chg S w W := ⟨h.os, h.tape, h.output, h.size, fun k hk _ => h.block k hk⟩
theorem Put.chg {w0 w W : World} {b : Nat} {o : Obj} (hp : Put w b o W) {S : Nat → Prop} (h : Chg S w0 w) (hb : S b ∨ w0.heap.size ≤ b) : Chg S w0 W :=
  ⟨hp.os.trans h.os, hp.tape.trans h.tape, hp.output.trans h.output, by rw [hp.size]; exact h.size, fun k hk hS => by
    rw [hp.ne k (fun e => by subst e; rcases hb with hb | hb; exact hS hb; omega)]
    exact h.block k hk hS⟩
theorem Chg.tr {S : Nat → Prop} {a b c : World} (h : Chg S a b) (k : Chg S b c) : Chg S a c :=
  ⟨k.os.trans h.os, k.tape.trans h.tape, k.output.trans h.output, Nat.le_trans h.size k.size, fun i hi hS => (k.block i (Nat.lt_of_lt_of_le hi h.size) hS).trans (h.block i hi hS)⟩
theorem Chg.tr_ext {S : Nat → Prop} {a b c : World} (h : Chg S a b) (k : Ext b c) : Chg S a c := h.tr (k.chg S)
theorem Chg.ext_new {S : Nat → Prop} {a b c : World} (h : Ext a b) (k : Chg S b c) (hS : ∀ i, S i → a.heap.size ≤ i) : Ext a c :=
  ⟨k.os.trans h.os, k.tape.trans h.tape, k.output.trans h.output, Nat.le_trans h.size k.size, fun i hi => (k.block i (Nat.lt_of_lt_of_le hi h.size) (fun e => by have := hS i e; omega)).trans (h.block i hi)⟩
theorem Chg.at_ {S : Nat → Prop} {w W : World} (h : Chg S w W) {b : Nat} {o : Obj} (hb : w.heap[b]? = some o) (hn : ¬ S b) : W.heap[b]? = some o := by
  rw [h.block b (at_lt hb) hn, hb]
theorem Chg.cell {S : Nat → Prop} {w W : World} (h : Chg S w W) {p : Addr} {v : Value} (hc : w.cell? p = some v) (hn : ¬ S p.block) : W.cell? p = some v := by
  rw [World.cell?, h.block _ (World.block_lt_of_cell? w p hc) hn]
  exact hc
theorem Ints.chg {S : Nat → Prop} {w W : World} {A : Option Addr} {n : Nat} {xs : List Int} (h : Ints w A n xs) (hc : Chg S w W) (hne : ∀ a, A = some a → ¬ S a.block) : Ints W A n xs :=
  ⟨h.len, h.small, fun i x hx => by
    obtain ⟨a, e, hcl⟩ := h.get i x hx
    refine ⟨a, e, hc.cell hcl ?_⟩
    have hb : (a.add i).block = a.block := by unfold Addr.add; split <;> rfl
    rw [hb]; exact hne a e⟩

/-! ### '==' of structs, field by field -/
section
variable {P : Program} {d : Nat} {xs ys : Array Value} {f : Field} {fs : List Field} {a b : Value} {p q : Prop} [Decidable p] [Decidable q] {w : World}
theorem eqF_nil : (Op.eqFields d xs ys []).run P w = .ok true w := by simp [Op.eqFields]
theorem eqF_cons (hn : (f.name == "_") = false) (ha : (part f.type xs f.offset).run P w = .ok a w) (hb : (part f.type ys f.offset).run P w = .ok b w)
    (he : (Op.equalIn d f.type a b).run P w = .ok (decide p) w) (hr : (Op.eqFields d xs ys fs).run P w = .ok (decide q) w) : (Op.eqFields d xs ys (f :: fs)).run P w = .ok (decide (p ∧ q)) w := by
  have hn' : f.name ≠ "_" := by simpa using hn
  simp only [Op.eqFields, if_pos hn', Sem.run_bind, ha, hb, he, Result.andThen_ok]
  by_cases h : p
  · simp [h, hr]
  · simp [h]
theorem eqF_one (hn : (f.name == "_") = false) (ha : (part f.type xs f.offset).run P w = .ok a w) (hb : (part f.type ys f.offset).run P w = .ok b w)
    (he : (Op.equalIn d f.type a b).run P w = .ok (decide p) w) : (Op.eqFields d xs ys [f]).run P w = .ok (decide p) w := by
  have hn' : f.name ≠ "_" := by simpa using hn
  simp only [Op.eqFields, if_pos hn', Sem.run_bind, ha, hb, he, Result.andThen_ok]
  by_cases h : p
  · simp [h]
  · simp [h]
theorem eqF_struct {t : TypeId} {fs : Array Field} {r : Bool} (hu : P.underlying t = some (.struct fs)) (hs : P.stoodInHeld t = false) (h : (Op.eqFields d xs ys fs.toList).run P w = .ok r w) : (Op.equalIn (d + 1) t (.agg xs) (.agg ys)).run P w = .ok r w := by
  have hf : P.fieldsOf t = fs := by simp [Program.fieldsOf, hu]
  rw [run_equalIn_struct (P := P) w d t _ _ (by rw [hf]; exact hu) hs, hf]
  exact h
theorem eqI_int {t : TypeId} {k : IntKind} (h : P.underlying t = some (.int k)) (n : Nat) (a b : Int) (w : World) : (Op.equalIn (n + 1) t (.int k a) (.int k b)).run P w = .ok (decide (a = b)) w := by
  simp [Op.equalIn, Sem.run_bind, run_underlying h]
  rfl
theorem part_one {t : TypeId} {k : IntKind} (h : P.underlying t = some (.int k)) {cs : Array Value} {off : Nat} {v : Value} (hc : cs[off]? = some v) (w : World) : (part t cs off).run P w = .ok v w := by
  simp [part, isAgg, Sem.run_bind, run_underlying h, hc]
theorem part_struct {t : TypeId} {fs : Array Field} {n : Nat} (h : P.underlying t = some (.struct fs)) (hs : ∀ w, (sizeOf t).run P w = .ok n w) {cs ds : Array Value} {off : Nat} (hc : cs.extract off (off + n) = ds) (w : World) : (part t cs off).run P w = .ok (.agg ds) w := by
  simp [part, isAgg, Sem.run_bind, run_underlying h, hs, hc]
end
/-- What a row's frame tells of a slice of numbers that came in. -/
theorem Ints.of_row {w : World} {a : Option Addr} {len cap : Nat} {zs : List Int}
    (h : (a = none ∧ len = 0 ∧ cap = 0 ∧ zs = []) ∨ ∃ x, a = some x ∧ len ≤ cap ∧ cap ≤ maxLen ∧ zs.length = cap ∧ (∀ i, i < zs.length → w.cell? (x.add i) = some (.int .i64 (zs.getD i 0))) ∧ ∀ n ∈ zs, (Lit.int .i64 n).wf = true) :
    Ints w a len (zs.take len) ∧ ∀ n ∈ zs, (Lit.int .i64 n).wf = true := by
  rcases h with ⟨rfl, rfl, _, rfl⟩ | ⟨x, rfl, hl, hm, hz, hc, hw⟩
  · exact ⟨Ints.nil _ _, fun n hn => by cases hn⟩
  · refine ⟨⟨by simp; omega, by simp only [maxLen] at hm; omega, fun i y hi => ⟨x, rfl, ?_⟩⟩, hw⟩
    have hlt : i < len := by
      have := (List.getElem?_eq_some_iff.1 hi).1
      simp at this
      omega
    rw [List.getElem?_take_of_lt hlt] at hi
    rw [hc i (by omega)]
    simp [hi]
end Go.VC
