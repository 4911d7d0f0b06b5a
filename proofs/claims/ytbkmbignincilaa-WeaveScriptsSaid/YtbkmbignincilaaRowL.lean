/- Rows of elements of several cells: reading, taking, dropping; append of zeros, copy, append where there is room, clear. No program in it. -/
import Derived.Test.YtbkmbignincilaaMaps
import Derived.DataElems
import Derived.Lib.AppendZeros
namespace Go.VC
open Go.RowKit
set_option linter.unusedVariables false
set_option linter.unusedSimpArgs false

theorem add_add (a : Addr) (m n : Nat) : (a.add m).add n = a.add (m + n) := by
  unfold Addr.add
  by_cases h : m = 0
  · simp [h]
  · by_cases h2 : n = 0
    · simp [h, h2]
    · have : m + n ≠ 0 := by omega
      simp [h, h2, this, Nat.add_assoc]
theorem add_block (a : Addr) (n : Nat) : (a.add n).block = a.block := by unfold Addr.add; split <;> rfl
theorem Cells.ext {w W : World} {a : Addr} {vs : List Value} (h : Cells w a vs) (he : Ext w W) : Cells W a vs := fun i hi => he.cell (h i hi)
theorem Cells.chg {S : Nat → Prop} {w W : World} {a : Addr} {vs : List Value} (h : Cells w a vs) (he : Chg S w W) (hn : ¬ S a.block) : Cells W a vs := fun i hi => he.cell (h i hi) (by rw [add_block]; exact hn)
theorem Cells.sub {w : World} {a : Addr} {vs us : List Value} (off : Nat) (h : Cells w a vs) (hs : (vs.drop off).take us.length = us) : Cells w (a.add off) us := by
  intro i hi
  have h2 : ((vs.drop off).take us.length)[i]? = us[i]? := by rw [hs]
  rw [List.getElem?_take_of_lt hi, List.getElem?_drop, List.getElem?_eq_getElem hi] at h2
  have hlt : off + i < vs.length := (List.getElem?_eq_some_iff.1 h2).1
  rw [add_add, h _ hlt]
  simp [h2, List.getElem?_eq_getElem hi]
theorem Cells.one {w : World} {a : Addr} {vs : List Value} {v : Value} (off : Nat) (h : Cells w a vs) (hv : vs[off]? = some v) : w.cell? (a.add off) = some v := by
  have hlt := (List.getElem?_eq_some_iff.1 hv).1
  rw [h _ hlt]
  simp [hv]

/-! ### Lists of elements as lists of cells -/
section flat
variable {α : Type} {cf : α → List Value} {size : Nat}
theorem flat_len (hcf : ∀ z, (cf z).length = size) : ∀ zs : List α, (zs.flatMap cf).length = zs.length * size
  | [] => by simp
  | z :: zs => by rw [List.flatMap_cons, List.length_append, hcf, flat_len hcf zs, List.length_cons, Nat.add_mul]; omega
theorem flat_take (hcf : ∀ z, (cf z).length = size) : ∀ (k : Nat) (zs : List α), (zs.flatMap cf).take (k * size) = (zs.take k).flatMap cf
  | 0, zs => by simp
  | k + 1, [] => by simp
  | k + 1, z :: zs => by
    rw [List.flatMap_cons, List.take_succ_cons, List.flatMap_cons, Nat.add_mul, Nat.one_mul, Nat.add_comm, List.take_append, hcf, Nat.add_sub_cancel_left, flat_take hcf k zs, List.take_of_length_le (l := cf z) (by rw [hcf]; omega)]
theorem flat_drop (hcf : ∀ z, (cf z).length = size) : ∀ (k : Nat) (zs : List α), (zs.flatMap cf).drop (k * size) = (zs.drop k).flatMap cf
  | 0, zs => by simp
  | k + 1, [] => by simp
  | k + 1, z :: zs => by
    rw [List.flatMap_cons, List.drop_succ_cons, Nat.add_mul, Nat.one_mul, Nat.add_comm, List.drop_append, hcf, Nat.add_sub_cancel_left, flat_drop hcf k zs, List.drop_of_length_le (l := cf z) (by rw [hcf]; omega), List.nil_append]
theorem flat_get (hcf : ∀ z, (cf z).length = size) {zs : List α} {k j : Nat} {z : α} (hz : zs[k]? = some z) (hj : j < size) : (zs.flatMap cf)[k * size + j]? = (cf z)[j]? := by
  rw [← List.getElem?_drop, flat_drop hcf]
  have hlt := (List.getElem?_eq_some_iff.1 hz).1
  rw [List.drop_eq_getElem_cons hlt, List.flatMap_cons, List.getElem?_append_left (by rw [hcf]; exact hj)]
  have := (List.getElem?_eq_some_iff.1 hz).2
  rw [this]
theorem flat_inv (hcf : ∀ z, (cf z).length = size) {zs : List α} {i : Nat} {u : Value} (h : (zs.flatMap cf)[i]? = some u) : ∃ k j z, i = k * size + j ∧ j < size ∧ zs[k]? = some z ∧ (cf z)[j]? = some u := by
  have hlt := (List.getElem?_eq_some_iff.1 h).1
  rw [flat_len hcf] at hlt
  have hs : 0 < size := by
    rcases Nat.eq_zero_or_pos size with h0 | h0
    · subst h0; omega
    · exact h0
  have hk : i / size < zs.length := (Nat.div_lt_iff_lt_mul hs).2 hlt
  have hj := Nat.mod_lt i hs
  have e : i = i / size * size + i % size := by rw [Nat.mul_comm]; exact (Nat.div_add_mod i size).symm
  refine ⟨i / size, i % size, zs[i / size], e, hj, List.getElem?_eq_getElem hk, ?_⟩
  rw [← flat_get hcf (List.getElem?_eq_getElem hk) hj, ← e]
  exact h
end flat

/-- The slice of n elements at A (size cells each) reads as zs. -/
structure Row {α : Type} (cf : α → List Value) (size : Nat) (w : World) (A : Option Addr) (n : Nat) (zs : List α) : Prop where
  len : zs.length = n
  small : n ≤ 9223372036854775807
  get : ∀ i z, zs[i]? = some z → ∃ a, A = some a ∧ Cells w (a.add (i * size)) (cf z)
section row
variable {α : Type} {cf : α → List Value} {size : Nat} {w W : World} {A : Option Addr} {n : Nat} {zs : List α}
theorem Row.ext (h : Row cf size w A n zs) (he : Ext w W) : Row cf size W A n zs :=
  ⟨h.len, h.small, fun i u hu => by obtain ⟨a, e, hc⟩ := h.get i u hu; exact ⟨a, e, hc.ext he⟩⟩
theorem Row.nil (w : World) (A : Option Addr) : Row cf size w A 0 [] := ⟨rfl, by omega, fun i u h => by simp at h⟩
theorem Row.chg {S : Nat → Prop} (h : Row cf size w A n zs) (hc : Chg S w W) (hne : ∀ a, A = some a → ¬ S a.block) : Row cf size W A n zs :=
  ⟨h.len, h.small, fun i x hx => by
    obtain ⟨a, e, hcl⟩ := h.get i x hx
    exact ⟨a, e, hcl.chg hc (by rw [add_block]; exact hne a e)⟩⟩
theorem Row.put {b : Nat} {o : Obj} (h : Row cf size w A n zs) (hp : Put w b o W) (hne : ∀ a, A = some a → a.block ≠ b) : Row cf size W A n zs :=
  h.chg (hp.chg ((Ext.refl w).chg (· = b)) (.inl rfl)) hne
theorem Row.put_other {b : Nat} {o0 o : Obj} (h : Row cf size w A n zs) (hp : Put w b o W) (hb : w.heap[b]? = some o0) (hn : ∀ c e f, o0 ≠ .cells c e f) : Row cf size W A n zs :=
  ⟨h.len, h.small, fun i u hu => by obtain ⟨a, e, hc⟩ := h.get i u hu; exact ⟨a, e, fun j hj => hp.no_cell hb hn (hc j hj)⟩⟩
theorem Row.at_ (h : Row cf size w A n zs) {k : Nat} (hk : k < n) : ∃ a, ∃ hk' : k < zs.length, A = some a ∧ Cells w (a.add (k * size)) (cf zs[k]) := by
  have hl : k < zs.length := by have := h.len; omega
  obtain ⟨a, e, hc⟩ := h.get k _ (List.getElem?_eq_getElem hl)
  exact ⟨a, hl, e, hc⟩
theorem Row.take (h : Row cf size w A n zs) (k : Nat) (hk : k ≤ n) : Row cf size w A k (zs.take k) := by
  have hl := h.len
  refine ⟨by rw [List.length_take]; omega, by have := h.small; omega, fun i x hx => ?_⟩
  rw [List.getElem?_take] at hx
  split at hx
  · exact h.get _ _ hx
  · cases hx
theorem Row.drop {c : Nat} (h : Row cf size w A n zs) (hc : n ≤ c) (k : Nat) (hk : k ≤ n) : Row cf size w (if c = k then A else A.map (·.add (k * size))) (n - k) (zs.drop k) := by
  have hl := h.len
  refine ⟨by rw [List.length_drop]; omega, by have := h.small; omega, fun i x hx => ?_⟩
  rw [List.getElem?_drop] at hx
  obtain ⟨a, rfl, hcl⟩ := h.get _ _ hx
  have : k + i < zs.length := (List.getElem?_eq_some_iff.1 hx).1
  rw [if_neg (by omega)]
  refine ⟨_, rfl, ?_⟩
  rw [add_add, ← Nat.add_mul]
  exact hcl
theorem Row.rd (hcf : ∀ z, (cf z).length = size) (h : Row cf size w A n zs) : Rd w size A n (zs.flatMap cf) :=
  ⟨by rw [flat_len hcf, h.len], fun i u hu => by
    obtain ⟨k, j, z, rfl, hj, hz, hu⟩ := flat_inv hcf hu
    obtain ⟨a, rfl, hc⟩ := h.get k z hz
    refine ⟨a, rfl, ?_⟩
    rw [← add_add]
    exact hc.one j hu⟩
theorem Row.of_rd (hcf : ∀ z, (cf z).length = size) (hs : 0 < size) (h : Rd w size A n (zs.flatMap cf)) (hn : n ≤ 9223372036854775807) : Row cf size w A n zs := by
  have hl : zs.length = n := by
    have := h.1
    rw [flat_len hcf] at this
    exact Nat.eq_of_mul_eq_mul_right hs this
  refine ⟨hl, hn, fun i z hz => ?_⟩
  have hget : ∀ j, j < (cf z).length → ∃ a, A = some a ∧ w.cell? (a.add (i * size + j)) = some ((cf z).getD j undef) := fun j hj =>
    h.2 (i * size + j) _ (by rw [flat_get hcf hz (by rw [← hcf z]; exact hj), List.getElem?_eq_getElem hj]; simp [List.getElem?_eq_getElem hj])
  obtain ⟨a, ha, _⟩ := hget 0 (by rw [hcf]; exact hs)
  refine ⟨a, ha, fun j hj => ?_⟩
  obtain ⟨a', ha', hc⟩ := hget j hj
  rw [ha] at ha'
  cases ha'
  rw [add_add]
  exact hc
theorem own_row {base e c : Nat} (hcf : ∀ z, (cf z).length = size) (hs : 0 < size) (h : w.ownsRow base e size (.slice A n c) n (zs.flatMap cf)) : Row cf size w A n zs := by
  refine Row.of_rd hcf hs (own_rd h) ?_
  rcases h.2 with ⟨h1, h2⟩ | ⟨_, _, _, h1, _, _, h4, h5, _⟩
  · injection h1 with _ h3 _; omega
  · simp only [maxLen] at h5; omega
theorem Row.of_at {g o : Nat} {cs : Array Value} {e : Nat} (hcf : ∀ z, (cf z).length = size) (hs : 0 < size) (h : w.heap[g]? = some (.cells cs e (0, 0))) (hx : (cs.toList.drop o).take (n * size) = zs.flatMap cf) (hl : zs.length = n) (hn : n ≤ 9223372036854775807) : Row cf size w (some ⟨g, o, none⟩) n zs := by
  refine Row.of_rd hcf hs ⟨by rw [flat_len hcf, hl], fun i u hu => ⟨_, rfl, ?_⟩⟩ hn
  rw [add_plain_, cell_of_at h]
  have hlt : i < n * size := by have := (List.getElem?_eq_some_iff.1 hu).1; rw [flat_len hcf, hl] at this; exact this
  rw [← hx, List.getElem?_take, if_pos hlt, List.getElem?_drop] at hu
  simpa using hu
end row

/-! ### Operations -/
theorem setL_list : ∀ (vs l : List Value) (o : Nat), o + vs.length ≤ l.length → setL l o vs = l.take o ++ vs ++ l.drop (o + vs.length)
  | [], l, o, _ => by simp [setL]
  | v :: vs, l, o, h => by
    simp only [List.length_cons] at h
    rw [setL, setL_list vs (l.set o v) (o + 1) (by rw [List.length_set]; omega)]
    rw [List.take_set, List.drop_set_of_lt (by omega)]
    rw [show o + 1 + vs.length = o + (v :: vs).length by simp; omega]
    congr 1
    have : (l.take (o + 1)).set o v = l.take o ++ [v] := by
      rw [List.take_succ_eq_append_getElem (by omega), List.set_append_right _ _ (by simp; omega)]
      simp [List.length_take, Nat.min_eq_left (show o ≤ l.length by omega)]
    rw [this]
    simp
theorem splice_list (cs : Array Value) (o : Nat) (vs : List Value) (h : o + vs.length ≤ cs.size) : (splice cs o vs).toList = cs.toList.take o ++ vs ++ cs.toList.drop (o + vs.length) := by
  simp only [splice]
  exact setL_list vs cs.toList o (by simpa using h)
theorem splice_size (cs : Array Value) (o : Nat) (vs : List Value) (h : o + vs.length ≤ cs.size) : (splice cs o vs).size = cs.size := by
  rw [← Array.length_toList, splice_list cs o vs h]
  simp; omega
theorem grownBy_ext {w W : World} (h : Ext w W) (row : Option Nat) : w.grownBy W row :=
  ⟨h.os, h.tape, h.output, h.size, fun k hk _ => h.block k hk⟩
theorem grownBy_put {w W W' : World} {row : Option Nat} {g : Nat} {o : Obj} (h : w.grownBy W row) (hp : Put W g o W') (hg : row = some g ∨ w.heap.size ≤ g) : w.grownBy W' row :=
  ⟨hp.os.trans h.os, hp.tape.trans h.tape, hp.output.trans h.output, by rw [hp.size]; exact h.size, fun k hk hr => by
    rw [hp.ne k (fun e => by subst e; rcases hg with hg | hg; exact hr hg.symm; omega)]
    exact h.block k hk hr⟩
/-- What a slice's own block is: kept, or new. -/
def Moved (w : World) (u v : Value) : Prop := u.ownBlock = v.ownBlock ∨ ∃ k, u.ownBlock = some k ∧ w.heap.size ≤ k

section ops
variable {P : Program} {t e : TypeId} {z : Value} {size bytes : Nat}
theorem zero_flat {α : Type} {cf : α → List Value} {z0 : α} (hz : z.cells.toList = cf z0) (hcf : ∀ z, (cf z).length = size) (hs : 0 < size) (n : Nat) : (Builtin.zeroCells z.cells n).toList = (List.replicate n z0).flatMap cf := by
  have hsz : z.cells.size = size := by rw [← Array.length_toList, hz, hcf]
  apply List.ext_getElem?
  intro i
  rcases Nat.lt_or_ge i (n * size) with hi | hi
  · have hk : i / size < n := (Nat.div_lt_iff_lt_mul hs).2 hi
    have hj := Nat.mod_lt i hs
    have e : i = i / size * size + i % size := by rw [Nat.mul_comm]; exact (Nat.div_add_mod i size).symm
    have h1 : ((List.replicate n z0).flatMap cf)[i]? = (cf z0)[i % size]? := by
      conv => lhs; rw [e]
      exact flat_get hcf (by rw [List.getElem?_replicate, if_pos hk]) hj
    rw [h1, ← hz]
    simp only [Builtin.zeroCells, hsz, Array.toList_map, List.getElem?_map, Array.toList_range, List.getElem?_range hi, Option.map_some]
    rw [List.getElem?_eq_getElem (by rw [Array.length_toList, hsz]; exact hj)]
    simp [hsz, hj]
  · rw [List.getElem?_eq_none (l := (List.replicate n z0).flatMap cf) (by rw [flat_len hcf, List.length_replicate]; exact hi), List.getElem?_eq_none (by simp only [Builtin.zeroCells, hsz, Array.toList_map, List.length_map, Array.toList_range, List.length_range]; exact hi)]
theorem first_rd {w : World} {A : Option Addr} {k sLen sCap : Nat} {xs : List Value} (hr : Rd w size A k xs) : (Builtin.firstCells size k (.slice A sLen sCap)).run P w = .ok xs.toArray w := by
  cases A with
  | none =>
    have hx : xs = [] := by
      cases xs with
      | nil => rfl
      | cons x xs => obtain ⟨a, e, _⟩ := hr.2 0 x rfl; cases e
    subst hx
    simp [Builtin.firstCells]
  | some a =>
    refine run_firstCells_some (P := P) w size k a sLen sCap xs hr.1 ?_
    intro j v hj
    obtain ⟨a', e, hc⟩ := hr.2 j v hj
    cases e
    exact hc
/-- copy into a row. -/
theorem copy_row (hinfo : (P.info? e).map (fun i => (i.zero, i.size, i.bytes)) = some (some z, size, bytes)) (ht : P.underlying t = some (.slice e))
    (w : World) (ty : TypeId) {g o dLen dCap sLen sCap k ce : Nat} {cs : Array Value} {A : Option Addr} {xs : List Value} (hg : w.heap[g]? = some (.cells cs ce (0, 0)))
    (h : Rd w size A k xs) (hone : xs.all one = true) (hk : k = min sLen dLen) (hfit : o + xs.length ≤ cs.size) :
    (Builtin.copy_ #[t, t] ty #[.slice (some ⟨g, o, none⟩) dLen dCap, .slice A sLen sCap]).run P w = .ok (goInt k) (World.putObj w g (.cells (splice cs o xs) ce (0, 0))) := by
  cases hi : P.info? e with
  | none => rw [hi] at hinfo; cases hinfo
  | some inf =>
    rw [hi] at hinfo
    simp only [Option.map_some, Option.some.injEq, Prod.mk.injEq] at hinfo
    obtain ⟨hz, hs, hb⟩ := hinfo
    have hst := storeCells_run (P := P) g ce xs w cs o 0 hg (by omega) hone
    simp [Builtin.copy_, run_underlying ht, Builtin.lenOf, sizeOf, typeInfo, hi, hs, ← hk, first_rd h, hst]
/-- append where there is room. -/
theorem append_row (hinfo : (P.info? e).map (fun i => (i.zero, i.size, i.bytes)) = some (some z, size, bytes)) (ht : P.underlying t = some (.slice e))
    (w : World) (ty : TypeId) {g i c k sc ce : Nat} {cs : Array Value} {A : Option Addr} {xs : List Value} (hg : w.heap[g]? = some (.cells cs ce (0, 0)))
    (h : Rd w size A k xs) (hone : xs.all one = true) (hroom : i + k ≤ c) (hfit : i * size + xs.length ≤ cs.size) :
    (Builtin.append_ #[t, t] ty #[.slice (some ⟨g, 0, none⟩) i c, .slice A k sc]).run P w = .ok (.slice (some ⟨g, 0, none⟩) (i + k) c) (World.putObj w g (.cells (splice cs (i * size) xs) ce (0, 0))) := by
  cases hi : P.info? e with
  | none => rw [hi] at hinfo; cases hinfo
  | some inf =>
    rw [hi] at hinfo
    simp only [Option.map_some, Option.some.injEq, Prod.mk.injEq] at hinfo
    obtain ⟨hz, hs, hb⟩ := hinfo
    have hst := storeCells_run (P := P) g ce xs w cs (i * size) 0 hg (by omega) hone
    simp only [Nat.add_zero] at hst
    simp [Builtin.append_, run_underlying ht, Builtin.lenOf, sizeOf, typeInfo, hi, hs, hroom, first_rd h, add_plain_, hst]
/-- clear. -/
theorem clear_row {α : Type} {cf : α → List Value} {z0 : α} (hzc : z.cells.toList = cf z0) (hcf : ∀ z, (cf z).length = size) (hs0 : 0 < size) (hone : ∀ k, ((List.replicate k z0).flatMap cf).all one = true)
    (hinfo : (P.info? e).map (fun i => (i.zero, i.size, i.bytes)) = some (some z, size, bytes)) (ht : P.underlying t = some (.slice e))
    (w : World) (ty : TypeId) {g o k c ce : Nat} {cs : Array Value} (hg : w.heap[g]? = some (.cells cs ce (0, 0))) (hfit : o + k * size ≤ cs.size) :
    ∃ W, (Builtin.clear_ #[t] ty #[.slice (some ⟨g, o, none⟩) k c]).run P w = .ok (.tuple #[]) W ∧ Put w g (.cells (splice cs o ((List.replicate k z0).flatMap cf)) ce (0, 0)) W := by
  cases k with
  | zero =>
    refine ⟨w, by simp [Builtin.clear_, run_underlying ht], ⟨rfl, rfl, rfl, rfl, ?_, fun _ _ => rfl⟩⟩
    simp only [List.replicate_zero, List.flatMap_nil, splice_nil]
    exact hg
  | succ k =>
    have hst := storeCells_run (P := P) g ce _ w cs o 0 hg (by rw [flat_len hcf, List.length_replicate]; omega) (hone (k + 1))
    cases hi : P.info? e with
    | none => rw [hi] at hinfo; cases hinfo
    | some inf =>
      rw [hi] at hinfo
      simp only [Option.map_some, Option.some.injEq, Prod.mk.injEq] at hinfo
      obtain ⟨hz, hs, hb⟩ := hinfo
      refine ⟨_, ?_, Put.mk' hg _⟩
      simp only [Nat.add_zero] at hst
      simp [Builtin.clear_, run_underlying ht, zeroValue, typeInfo, hi, hz, zero_flat hzc hcf hs0, hst]
/-- append of a number of zeros, where there is no room. -/
theorem append_zeros {α : Type} {cf : α → List Value} {z0 : α} (hzc : z.cells.toList = cf z0) (hcf : ∀ z, (cf z).length = size) (hs0 : 0 < size)
    (hinfo : (P.info? e).map (fun i => (i.zero, i.size, i.bytes)) = some (some z, size, bytes)) (ht : P.underlying t = some (.slice e)) {ti : TypeId} (hti : P.underlying ti = some (.int .i64))
    (w : World) (ty : TypeId) {A : Option Addr} {i k cap : Nat} {xs : List α} (h : Row cf size w A i xs) (hcap : cap < i + k) (hk : 0 < k) (hsm : (i + k) * bytes ≤ 140737488355328) (hlen : i + k ≤ maxLen) :
    ∃ c', (Builtin.append_ #[t, ti] ty #[.slice A i cap, .int .i64 k]).run P w = .ok (.slice (some ⟨w.heap.size, 0, none⟩) (i + k) c') (w.drew.alloc (.cells ((xs ++ List.replicate (c' - i) z0).flatMap cf).toArray e)) ∧ i + k ≤ c' ∧ c' ≤ maxLen := by
  have hl := h.len
  refine ⟨grownCap w (i + k) cap e, ?_, grownCap_ge w _ _ _, grownCap_le_maxLen w _ _ _ hlen⟩
  have hge := grownCap_ge w (i + k) cap e
  cases hi : P.info? e with
  | none => rw [hi] at hinfo; cases hinfo
  | some inf =>
    rw [hi] at hinfo
    simp only [Option.map_some, Option.some.injEq, Prod.mk.injEq] at hinfo
    obtain ⟨hz, hs, hb⟩ := hinfo
    simp only [maxLen] at hlen
    have hn : ¬ (i + k ≤ cap) := by omega
    have hw : IntKind.i64.wrap (k : Int) = k := by rw [IntKind.wrap_i64]; omega
    have hneg : ¬ ((k : Int) < 0) := by omega
    have h48n : k * bytes ≤ 140737488355328 := Nat.le_trans (Nat.mul_le_mul_right _ (by omega)) hsm
    have h48i : ¬ (281474976710656 < (k : Int) * (bytes : Int)) := by rw [← Int.natCast_mul]; omega
    have h63' : ¬ (9223372036854775807 < ((i : Int) + (k : Int))) := by omega
    have h48' : ¬ (281474976710656 < Builtin.nextslicecap (i + k) cap * bytes) := by have := growslice_fits (bytes := bytes) hcap hsm; omega
    have hk0 : k ≠ 0 := by omega
    have hs1 : size ≠ 0 := by omega
    have hks : ¬ (k * size = 0) := Nat.mul_ne_zero hk0 hs1
    have hfo : (Builtin.firstCells size i (.slice A i cap)).run P w.drew = .ok (xs.flatMap cf).toArray w.drew := first_rd ((h.ext (Ext.drew w)).rd hcf)
    have hzf : ∀ n, Builtin.zeroCells z.cells n = ((List.replicate n z0).flatMap cf).toArray := fun n => by apply Array.toList_inj.1; rw [zero_flat hzc hcf hs0]
    have e1 : ((xs ++ List.replicate (grownCap w (i + k) cap e - i) z0).flatMap cf).toArray = (xs.flatMap cf).toArray ++ ((List.replicate k z0).flatMap cf).toArray ++ ((List.replicate (grownCap w (i + k) cap e - (i + k)) z0).flatMap cf).toArray := by
      rw [show grownCap w (i + k) cap e - i = k + (grownCap w (i + k) cap e - (i + k)) by omega, ← List.replicate_append_replicate, List.flatMap_append, List.flatMap_append]
      simp
    rw [e1]
    simp [Builtin.append_, run_underlying ht, run_underlying hti, sizeOf, typeInfo, zeroValue, hi, hz, hs, hb, asInt, asIntOf, hw, hneg, hks, hn, h48i, h63', h48', Question.forced, hfo, newRow, grownCap, hzf]
end ops
end Go.VC
