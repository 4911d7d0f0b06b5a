/- edit.Do. -/
import Derived.Test.YthphdaeaicjgmaaE14
namespace Go.Proofs.Ythphdaeaicjgmaa
open Go Go.VC Go.RowKit
set_option linter.unusedVariables false
set_option linter.unusedSimpArgs false
set_option maxRecDepth 100000

/-! A world cut off at a place. -/
def trunc (w : World) (b : Nat) : World := { w with heap := w.heap.extract 0 b }
theorem trunc_size {w : World} {b : Nat} (h : b ≤ w.heap.size) : (trunc w b).heap.size = b := by simp [trunc]; omega
theorem trunc_at {w : World} {b k : Nat} (h : k < b) : (trunc w b).heap[k]? = w.heap[k]? := by
  simp only [trunc, Array.getElem?_extract]
  by_cases hk : k < w.heap.size
  · rw [if_pos (by omega)]
    simp
  · rw [if_neg (by omega), Array.getElem?_eq_none (by omega)]
theorem trunc_ext {w : World} {b : Nat} (h : b ≤ w.heap.size) : Ext (trunc w b) w :=
  ⟨rfl, rfl, rfl, by rw [trunc_size h]; exact h, fun k hk => by rw [trunc_size h] at hk; rw [trunc_at hk]⟩
theorem trunc_of {w0 w : World} {b : Nat} (h : Ext w0 w) (hb : w0.heap.size ≤ b) (hw : b ≤ w.heap.size) : Ext w0 (trunc w b) :=
  ⟨h.os, h.tape, h.output, by rw [trunc_size hw]; exact hb, fun k hk => by rw [trunc_at (by omega)]; exact h.block k hk⟩

def wayG (f : Nat) (s : St) : St :=
  match f with
  | 43 => s.home | 44 => s.end' | 45 => s.left | 46 => s.right | 47 => s.rub | 48 => s.del | 49 => s.killOn | 50 => s.killBack
  | 51 => s.killWord | 52 => s.yank | 53 => s.swap | 54 => s.wback | 55 => s.won | 56 => s.killNext | _ => s
theorem wayG_ok {a b : Int} {f : Nat} (h : wayOf a b = some f) : Way f (wayG f) := by
  have h1 : ∃ x ∈ ins, x.2.2 = f := by
    unfold wayOf at h
    cases hf : ins.find? (fun x => decide (x.2.1 = (a, b))) with
    | none => rw [hf] at h; cases h
    | some x => rw [hf] at h; injection h with h; exact ⟨x, List.mem_of_find?_eq_some hf, h⟩
  obtain ⟨x, hx, rfl⟩ := h1
  have h2 : ∀ x ∈ ins, x.2.2 ∈ [43, 44, 45, 46, 47, 48, 49, 50, 51, 52, 53, 54, 55, 56] := by decide
  have h3 := h2 x hx
  simp only [List.mem_cons, List.not_mem_nil, or_false] at h3
  rcases h3 with h | h | h | h | h | h | h | h | h | h | h | h | h | h <;> rw [h]
  · exact fn43
  · exact fn44
  · exact fn45
  · exact fn46
  · exact fn47
  · exact fn48
  · exact fn49
  · exact fn50
  · exact fn51
  · exact fn52
  · exact fn53
  · exact fn54
  · exact fn55
  · exact fn56

/-- What a key does. -/
def runeIn (kind rune : Int) : Int := if kind = 1 ∨ kind = 2 ∨ kind = 3 then rune else 0
def doS (s : St) (kind rune : Int) : St :=
  if kind = 1 then (s.put rune).1
  else match wayOf kind (runeIn kind rune) with
    | some f => wayG f s
    | none => s
def st0 (xs : List Int) (at_ : Int) (ks : List Int) : St := ⟨xs, heldV xs.length at_, ks, []⟩

theorem build29 (A B : Option Addr) (n c m d : Nat) (a : Int) (w : World) : (Instr.build 29 #[(0, .slice A n c), (1, .int .i64 a), (2, .slice B m d)]).run Try.prog w = .ok (.agg #[.slice A n c, .int .i64 a, .slice B m d]) w := by kernel_rfl
theorem build60 (A B : Option Addr) (n c m d : Nat) (a : Int) (w : World) : (Instr.build 60 #[(0, .agg #[.slice A n c, .int .i64 a, .slice B m d])]).run Try.prog w = .ok (.agg #[.slice A n c, .int .i64 a, .slice B m d, .slice none 0 0]) w := by kernel_rfl

/-- What Do hands back. -/
structure Done (w : World) (base : Nat) (s : St) (L K T : Value) : Prop where
  line : w.ownsRow base 3 1 L s.line.length (ints s.line)
  kill : w.ownsRow base 3 1 K s.kill.length (ints s.kill)
  acts : w.ownsRow base 73 3 T s.acts.length (acells s.acts)
  le : s.at_ ≤ s.line.length
theorem Done.ext {w W : World} {base : Nat} {s : St} {L K T : Value} (h : Done w base s L K T) (he : Ext w W) : Done W base s L K T :=
  ⟨own_ext h.line he, own_ext h.kill he, own_ext h.acts he, h.le⟩

set_option maxHeartbeats 8000000
theorem fn12 (w : World) (A KA : Option Addr) (n c kn kc : Nat) (xs ks : List Int) (at_ kind rune : Int) (h : Ints w A n xs) (hk : Ints w KA kn ks) (hn : n ≤ 3000) (hkn : kn ≤ 3000) :
    Ret Try.prog 12 #[.agg #[.slice A n c, .int .i64 at_, .slice KA kn kc], .agg #[.int .i64 kind, .int .i64 rune]] w fun v W => Ext w W ∧ ∃ L K T, v = .tuple #[.agg #[L, .int .i64 (doS (st0 xs at_ ks) kind rune).at_, K], T] ∧ Done W w.heap.size (doS (st0 xs at_ ks) kind rune) L K T := by
  have hl := h.len
  have hkl := hk.len
  refine Ret.of_vc tab_ok Try.func12 rfl Try.ntmps12 rfl (Nat.le_of_ble_eq_true rfl) Try.call12 ?_
  conv => whnf
  intro W1 hW1
  conv => whnf
  intro W2 hW2
  conv => whnf
  intro W3 hW3
  have e1 := hW1.e
  have e2 := hW2.e
  have e3 := hW3.e
  have h2 := (e2.tr e3).at_ hW1.at_
  have h3 := e3.at_ hW2.at_
  have h4 := hW3.at_
  have z1 := hW1.size
  have z2 := hW2.size
  have z3 := hW3.size
  have hE3 : Ext w W3 := (e1.tr e2).tr e3
  clear hW1 hW2 hW3 e1 e2 e3
  generalize hb2 : w.heap.size = b2 at h2 z1 ⊢
  generalize hb3 : W1.heap.size = b3 at h3 z1 z2 ⊢
  generalize hb4 : W2.heap.size = b4 at h4 z2 z3 ⊢
  generalize hbase : W3.heap.size = base at z3
  conv => whnf
  refine VDraw.mk' tab_ok (Ext W3) [] (.take 0 <| .take 1 <| .take 3 <| .take 4 <| .take 5 <| .take 6 <| .take 8 <| .take 9 <| .one 2 <| .one 7 <| .one 10 <| .one 11 <| .one 12 <| .one 13 <| .take 14 <| .done) mixed (by kernel_rfl) (by kernel_rfl) (Ext.drew _) ?_
  conv => whnf
  refine ⟨_, fun w' hs => ld (hs.at_ h2) rfl rfl, ?_⟩
  conv => whnf
  refine ⟨_, fun w' hs => ld (hs.at_ h2) rfl rfl, ?_⟩
  conv => whnf
  refine ⟨_, fun w' hs => ld (hs.at_ h2) rfl rfl, ?_⟩
  conv => whnf
  refine ⟨_, fun w' hs => ld (hs.at_ h2) rfl rfl, ?_⟩
  conv => whnf
  have hd := Ext.drew W3
  refine (fn25 _ A n c xs (h.ext (hE3.tr hd)) (by omega)).mono ?_
  rintro _ W4 ⟨A4, c4, rfl, he4, hown4, _⟩
  replace hown4 : W4.ownsRow base 3 1 _ n (ints xs) := own_weak hown4 (by rw [← hbase]; exact hd.le)
  replace he4 := hd.tr he4
  conv => whnf
  refine ⟨he4, ?_⟩
  conv => whnf
  refine (fn26 _ _ _ _ _).mono ?_
  rintro _ _ ⟨rfl, rfl⟩
  have e0 : (heldV n at_ : Nat) = (st0 xs at_ ks).at_ := by simp only [st0, hl]
  rw [e0]
  conv => whnf
  refine ⟨he4, ?_⟩
  conv => whnf
  refine (fn25 _ KA kn kc ks (hk.ext (hE3.tr he4)) (by omega)).mono ?_
  rintro _ W5 ⟨A5, c5, rfl, he5, hown5, _⟩
  have hap : ∀ k, (Value.slice A4 n c4).ownBlock = some k → (Value.slice A5 kn c5).ownBlock ≠ some k := fun k hk hk2 => by
    have i1 := (hown4.lt _ hk).2
    have i2 := (own_elem hown5 hk2).1
    omega
  replace hown5 : W5.ownsRow base 3 1 _ kn (ints ks) := own_weak hown5 (by rw [← hbase]; exact he4.le)
  replace hown4 := own_ext hown4 he5
  replace he5 := he4.tr he5
  conv => whnf
  refine ⟨he5, ?_⟩
  conv => whnf
  refine Run.mk' _ _ (build29 _ _ _ _ _ _ _ _) ?_
  conv => whnf
  refine ⟨he5, ?_⟩
  conv => whnf
  refine Run.mk' _ _ (build60 _ _ _ _ _ _ _ _) ?_
  conv => whnf
  refine ⟨he5, ?_⟩
  conv => whnf
  intro W6 hW6
  have he6 := he5.tr hW6.e
  have he6X := he6
  have hbb : base ≤ W5.heap.size := by rw [← hbase]; exact he5.le
  have hwk : WorkAt W6 W5.heap.size base (st0 xs at_ ks) (.slice A4 n c4) (.slice A5 kn c5) (.slice none 0 0) :=
    ⟨hW6.at_, by rw [← hl] at hown4 ⊢; exact own_ext hown4 hW6.e, by rw [← hkl] at hown5 ⊢; exact own_ext hown5 hW6.e, own_nil_ _ _ _ _, hap, by simp only [st0, heldV]; omega, by simp only [st0]; omega, by rw [hW6.size]; omega⟩
  clear hW6 he5 he4 hown4 hown5 hap e0
  generalize W5.heap.size = b at hwk hbb ⊢
  have hs0 : (st0 xs at_ ks).line.length ≤ 3000 ∧ (st0 xs at_ ks).kill.length ≤ 3000 ∧ (st0 xs at_ ks).acts.length ≤ 3000 := by
    simp only [st0, List.length_nil]; omega
  have h3' := he6.at_ h3
  have h4' := he6.at_ h4
  have hE6 := hE3.tr he6
  clear he6 h2 h3 h4 hd hE3 hbase
  generalize hs : st0 xs at_ ks = s at hwk hs0 ⊢
  generalize (Value.slice A4 n c4) = L at hwk ⊢
  generalize (Value.slice A5 kn c5) = K at hwk ⊢
  conv => whnf
  refine ⟨he6X, ?_⟩
  clear he6X
  conv => whnf
  refine ⟨_, ld h3' rfl rfl, ?_⟩
  conv => whnf
  have hcut : Ext w (trunc W6 base) := trunc_of hE6 (by omega) hwk.old
  -- BEGIN PRINTED
  intro t ht
  cases t <;> simp only [VB] at ht <;> (conv => whnf)
  case false =>
    obtain ⟨rr, hrr, hkey⟩ : ∃ rr, rr = runeIn kind rune ∧ W6.heap[b3]? = some (.cells #[.int .i64 kind, .int .i64 rr] 33 (0, 0)) := ⟨rune, by unfold runeIn; rw [if_pos (by omega)], h3'⟩
    have h4c := h4'
    have hEC := hE6
    refine ⟨_, ld hkey rfl rfl, ?_⟩
    conv => whnf
    intro t ht4
    obtain rfl : t = true := ht4.yes (by omega)
    conv => whnf
    refine ⟨_, ld hkey rfl rfl, ?_⟩
    conv => whnf
    refine (fn27 rr hwk (trunc_ext hwk.old) (by rw [trunc_size hwk.old]; exact Nat.le_refl _) hbb (by omega)).mono ?_
    rintro v W8 ⟨rfl, hE8, L', T', h8⟩
    have hdo : doS s kind rune = (s.put rr).1 := by unfold doS; rw [if_pos (by omega)]; congr 2; rw [hrr]; unfold runeIn; rw [if_pos (by omega)]
    rw [hdo]
    generalize (s.put rr).1 = s' at h8 ⊢
    conv => whnf
    have h4e : W8.heap[b4]? = _ := hE8.at_ (by rw [trunc_at (by omega)]; exact h4c)
    obtain ⟨LA, lc, rfl⟩ := own_form h8.line
    obtain ⟨KA', kc', rfl⟩ := own_form h8.kill
    refine VDraw.mk' tab_ok (fun V => V.heap[b]? = W8.heap[b]?) [] (.take 0 <| .take 1 <| .take 2 <| .take 3 <| .take 4 <| .take 5 <| .take 6 <| .take 7 <| .one 8 <| .take 9 <| .done) mixed (by kernel_rfl) (by kernel_rfl) rfl ?_
    conv => whnf
    refine ⟨[.slice LA s'.line.length lc, .int .i64 s'.at_, .slice KA' s'.kill.length kc'], rfl, fun w' hs => lds (hs.trans h8.cell) rfl rfl, ?_⟩
    conv => whnf
    refine ⟨_, fun w' hs => ld (hs.trans h8.cell) rfl rfl, ?_⟩
    conv => whnf
    refine ⟨b4, 0, _, _, rfl, (Ext.drew W8).at_ h4e, Nat.le_of_ble_eq_true rfl, rfl, rfl, fun W9 hW9 => ?_⟩
    conv => whnf
    refine ⟨hW9.ne b (by omega), ?_⟩
    conv => whnf
    refine ⟨[.slice LA s'.line.length lc, .int .i64 s'.at_, .slice KA' s'.kill.length kc'], rfl, lds hW9.at_ rfl rfl, ?_⟩
    have hE9 : Ext w W9 := hW9.e (((hcut.tr hE8).tr (Ext.drew W8))) (by omega)
    refine ⟨hE9, _, _, _, rfl, ?_⟩
    have hd8 := h8.ext (Ext.drew W8)
    have h4f := (Ext.drew W8).at_ h4e
    exact ⟨own_weak (own_put hd8.line hW9 h4f (by decide)) (by omega), own_weak (own_put hd8.kill hW9 h4f (by decide)) (by omega), own_weak (own_put hd8.acts hW9 h4f (by decide)) (by omega), hd8.le⟩
  refine ⟨_, ld h3' rfl rfl, ?_⟩
  conv => whnf
  intro t ht2
  cases t <;> simp only [VB] at ht2 <;> (conv => whnf)
  case false =>
    obtain ⟨rr, hrr, hkey⟩ : ∃ rr, rr = runeIn kind rune ∧ W6.heap[b3]? = some (.cells #[.int .i64 kind, .int .i64 rr] 33 (0, 0)) := ⟨rune, by unfold runeIn; rw [if_pos (by omega)], h3'⟩
    have h4c := h4'
    have hEC := hE6
    refine ⟨_, ld hkey rfl rfl, ?_⟩
    conv => whnf
    intro t ht4
    obtain rfl : t = false := ht4.no (by omega)
    conv => whnf
    refine VDraw.mk' tab_ok (fun V => V.heap[b3]? = W6.heap[b3]?) [] (.take 1 <| .one 0 <| .one 2 <| .take 3 <| .take 4 <| .take 5 <| .take 6 <| .take 7 <| .done) mixed (by kernel_rfl) (by kernel_rfl) rfl ?_
    conv => whnf
    refine ⟨[.int .i64 kind, .int .i64 rr], rfl, fun w' hs => lds (hs.trans hkey) rfl rfl, ?_⟩
    conv => whnf
    have hd := Ext.drew W6
    refine (fn28 W6.drew).mono ?_
    rintro _ W7 ⟨hE7, m, es, cl, rfl, hm, hkeys, hfind⟩
    replace hE7 := hd.tr hE7
    replace hwk := hwk.ext hE7
    replace h4c := hE7.at_ h4c
    replace hcut : Ext w (trunc W7 base) := trunc_of (hEC.tr hE7) (by omega) hwk.old
    conv => whnf
    refine ⟨hE7.block b3 (at_lt hkey), ?_⟩
    conv => whnf
    refine Run.mk' _ _ (lookup_run (k := K2 kind rr) keyLaw33 Try.runUnderlying64 Try.zeroValue62 ⟨_, _, rfl⟩ hm hkeys true) ?_
    have hf := hfind kind rr
    generalize findE (K2 kind rr) es.toList = q at hf ⊢
    cases hw : wayOf kind rr with
    | none =>
      rw [hw] at hf
      cases q with
      | some q => cases hf
      | none =>
        conv => whnf
        refine ⟨hE7.block b3 (at_lt hkey), ?_⟩
        conv => whnf
        have hdo : doS s kind rune = s := by unfold doS; rw [if_neg (by omega), ← hrr, hw]
        rw [hdo]
        have h8 := hwk
        have hE8 := trunc_ext hwk.old
        generalize s = s' at h8 ⊢
        have h4e : W7.heap[b4]? = _ := hE8.at_ (by rw [trunc_at (by omega)]; exact h4c)
        obtain ⟨LA, lc, rfl⟩ := own_form h8.line
        obtain ⟨KA', kc', rfl⟩ := own_form h8.kill
        refine VDraw.mk' tab_ok (fun V => V.heap[b]? = W7.heap[b]?) [] (.take 0 <| .take 1 <| .take 2 <| .take 3 <| .take 4 <| .take 5 <| .take 6 <| .take 7 <| .one 8 <| .take 9 <| .done) mixed (by kernel_rfl) (by kernel_rfl) rfl ?_
        conv => whnf
        refine ⟨[.slice LA s'.line.length lc, .int .i64 s'.at_, .slice KA' s'.kill.length kc'], rfl, fun w' hs => lds (hs.trans h8.cell) rfl rfl, ?_⟩
        conv => whnf
        refine ⟨_, fun w' hs => ld (hs.trans h8.cell) rfl rfl, ?_⟩
        conv => whnf
        refine ⟨b4, 0, _, _, rfl, (Ext.drew W7).at_ h4e, Nat.le_of_ble_eq_true rfl, rfl, rfl, fun W9 hW9 => ?_⟩
        conv => whnf
        refine ⟨hW9.ne b (by omega), ?_⟩
        conv => whnf
        refine ⟨[.slice LA s'.line.length lc, .int .i64 s'.at_, .slice KA' s'.kill.length kc'], rfl, lds hW9.at_ rfl rfl, ?_⟩
        have hE9 : Ext w W9 := hW9.e (((hcut.tr hE8).tr (Ext.drew W7))) (by omega)
        refine ⟨hE9, _, _, _, rfl, ?_⟩
        have hd8 := h8.ext (Ext.drew W7)
        have h4f := (Ext.drew W7).at_ h4e
        exact ⟨own_weak (own_put hd8.line hW9 h4f (by decide)) (by omega), own_weak (own_put hd8.kill hW9 h4f (by decide)) (by omega), own_weak (own_put hd8.acts hW9 h4f (by decide)) (by omega), hd8.le⟩
    | some f =>
      rw [hw] at hf
      cases q with
      | none => cases hf
      | some q =>
        obtain ⟨qi, qv⟩ := q
        simp only [Option.map_some, Option.some.injEq] at hf
        subst hf
        conv => whnf
        refine ⟨hE7.block b3 (at_lt hkey), ?_⟩
        conv => whnf
        have hdo : doS s kind rune = wayG f s := by unfold doS; rw [if_neg (by omega), ← hrr, hw]
        rw [hdo]
        refine (wayG_ok hw _ _ b base s _ _ _ hwk (trunc_ext hwk.old) (by rw [trunc_size hwk.old]; exact Nat.le_refl _) hbb hs0.1 hs0.2.1 hs0.2.2).mono ?_
        rintro v W8 ⟨hE8, L', K', T', h8⟩
        generalize wayG f s = s' at h8 ⊢
        conv => whnf
        have h4e : W8.heap[b4]? = _ := hE8.at_ (by rw [trunc_at (by omega)]; exact h4c)
        obtain ⟨LA, lc, rfl⟩ := own_form h8.line
        obtain ⟨KA', kc', rfl⟩ := own_form h8.kill
        refine VDraw.mk' tab_ok (fun V => V.heap[b]? = W8.heap[b]?) [] (.take 0 <| .take 1 <| .take 2 <| .take 3 <| .take 4 <| .take 5 <| .take 6 <| .take 7 <| .one 8 <| .take 9 <| .done) mixed (by kernel_rfl) (by kernel_rfl) rfl ?_
        conv => whnf
        refine ⟨[.slice LA s'.line.length lc, .int .i64 s'.at_, .slice KA' s'.kill.length kc'], rfl, fun w' hs => lds (hs.trans h8.cell) rfl rfl, ?_⟩
        conv => whnf
        refine ⟨_, fun w' hs => ld (hs.trans h8.cell) rfl rfl, ?_⟩
        conv => whnf
        refine ⟨b4, 0, _, _, rfl, (Ext.drew W8).at_ h4e, Nat.le_of_ble_eq_true rfl, rfl, rfl, fun W9 hW9 => ?_⟩
        conv => whnf
        refine ⟨hW9.ne b (by omega), ?_⟩
        conv => whnf
        refine ⟨[.slice LA s'.line.length lc, .int .i64 s'.at_, .slice KA' s'.kill.length kc'], rfl, lds hW9.at_ rfl rfl, ?_⟩
        have hE9 : Ext w W9 := hW9.e (((hcut.tr hE8).tr (Ext.drew W8))) (by omega)
        refine ⟨hE9, _, _, _, rfl, ?_⟩
        have hd8 := h8.ext (Ext.drew W8)
        have h4f := (Ext.drew W8).at_ h4e
        exact ⟨own_weak (own_put hd8.line hW9 h4f (by decide)) (by omega), own_weak (own_put hd8.kill hW9 h4f (by decide)) (by omega), own_weak (own_put hd8.acts hW9 h4f (by decide)) (by omega), hd8.le⟩
  refine ⟨_, ld h3' rfl rfl, ?_⟩
  conv => whnf
  intro t ht3
  cases t <;> simp only [VB] at ht3 <;> (conv => whnf)
  case false =>
    obtain ⟨rr, hrr, hkey⟩ : ∃ rr, rr = runeIn kind rune ∧ W6.heap[b3]? = some (.cells #[.int .i64 kind, .int .i64 rr] 33 (0, 0)) := ⟨rune, by unfold runeIn; rw [if_pos (by omega)], h3'⟩
    have h4c := h4'
    have hEC := hE6
    refine ⟨_, ld hkey rfl rfl, ?_⟩
    conv => whnf
    intro t ht4
    obtain rfl : t = false := ht4.no (by omega)
    conv => whnf
    refine VDraw.mk' tab_ok (fun V => V.heap[b3]? = W6.heap[b3]?) [] (.take 1 <| .one 0 <| .one 2 <| .take 3 <| .take 4 <| .take 5 <| .take 6 <| .take 7 <| .done) mixed (by kernel_rfl) (by kernel_rfl) rfl ?_
    conv => whnf
    refine ⟨[.int .i64 kind, .int .i64 rr], rfl, fun w' hs => lds (hs.trans hkey) rfl rfl, ?_⟩
    conv => whnf
    have hd := Ext.drew W6
    refine (fn28 W6.drew).mono ?_
    rintro _ W7 ⟨hE7, m, es, cl, rfl, hm, hkeys, hfind⟩
    replace hE7 := hd.tr hE7
    replace hwk := hwk.ext hE7
    replace h4c := hE7.at_ h4c
    replace hcut : Ext w (trunc W7 base) := trunc_of (hEC.tr hE7) (by omega) hwk.old
    conv => whnf
    refine ⟨hE7.block b3 (at_lt hkey), ?_⟩
    conv => whnf
    refine Run.mk' _ _ (lookup_run (k := K2 kind rr) keyLaw33 Try.runUnderlying64 Try.zeroValue62 ⟨_, _, rfl⟩ hm hkeys true) ?_
    have hf := hfind kind rr
    generalize findE (K2 kind rr) es.toList = q at hf ⊢
    cases hw : wayOf kind rr with
    | none =>
      rw [hw] at hf
      cases q with
      | some q => cases hf
      | none =>
        conv => whnf
        refine ⟨hE7.block b3 (at_lt hkey), ?_⟩
        conv => whnf
        have hdo : doS s kind rune = s := by unfold doS; rw [if_neg (by omega), ← hrr, hw]
        rw [hdo]
        have h8 := hwk
        have hE8 := trunc_ext hwk.old
        generalize s = s' at h8 ⊢
        have h4e : W7.heap[b4]? = _ := hE8.at_ (by rw [trunc_at (by omega)]; exact h4c)
        obtain ⟨LA, lc, rfl⟩ := own_form h8.line
        obtain ⟨KA', kc', rfl⟩ := own_form h8.kill
        refine VDraw.mk' tab_ok (fun V => V.heap[b]? = W7.heap[b]?) [] (.take 0 <| .take 1 <| .take 2 <| .take 3 <| .take 4 <| .take 5 <| .take 6 <| .take 7 <| .one 8 <| .take 9 <| .done) mixed (by kernel_rfl) (by kernel_rfl) rfl ?_
        conv => whnf
        refine ⟨[.slice LA s'.line.length lc, .int .i64 s'.at_, .slice KA' s'.kill.length kc'], rfl, fun w' hs => lds (hs.trans h8.cell) rfl rfl, ?_⟩
        conv => whnf
        refine ⟨_, fun w' hs => ld (hs.trans h8.cell) rfl rfl, ?_⟩
        conv => whnf
        refine ⟨b4, 0, _, _, rfl, (Ext.drew W7).at_ h4e, Nat.le_of_ble_eq_true rfl, rfl, rfl, fun W9 hW9 => ?_⟩
        conv => whnf
        refine ⟨hW9.ne b (by omega), ?_⟩
        conv => whnf
        refine ⟨[.slice LA s'.line.length lc, .int .i64 s'.at_, .slice KA' s'.kill.length kc'], rfl, lds hW9.at_ rfl rfl, ?_⟩
        have hE9 : Ext w W9 := hW9.e (((hcut.tr hE8).tr (Ext.drew W7))) (by omega)
        refine ⟨hE9, _, _, _, rfl, ?_⟩
        have hd8 := h8.ext (Ext.drew W7)
        have h4f := (Ext.drew W7).at_ h4e
        exact ⟨own_weak (own_put hd8.line hW9 h4f (by decide)) (by omega), own_weak (own_put hd8.kill hW9 h4f (by decide)) (by omega), own_weak (own_put hd8.acts hW9 h4f (by decide)) (by omega), hd8.le⟩
    | some f =>
      rw [hw] at hf
      cases q with
      | none => cases hf
      | some q =>
        obtain ⟨qi, qv⟩ := q
        simp only [Option.map_some, Option.some.injEq] at hf
        subst hf
        conv => whnf
        refine ⟨hE7.block b3 (at_lt hkey), ?_⟩
        conv => whnf
        have hdo : doS s kind rune = wayG f s := by unfold doS; rw [if_neg (by omega), ← hrr, hw]
        rw [hdo]
        refine (wayG_ok hw _ _ b base s _ _ _ hwk (trunc_ext hwk.old) (by rw [trunc_size hwk.old]; exact Nat.le_refl _) hbb hs0.1 hs0.2.1 hs0.2.2).mono ?_
        rintro v W8 ⟨hE8, L', K', T', h8⟩
        generalize wayG f s = s' at h8 ⊢
        conv => whnf
        have h4e : W8.heap[b4]? = _ := hE8.at_ (by rw [trunc_at (by omega)]; exact h4c)
        obtain ⟨LA, lc, rfl⟩ := own_form h8.line
        obtain ⟨KA', kc', rfl⟩ := own_form h8.kill
        refine VDraw.mk' tab_ok (fun V => V.heap[b]? = W8.heap[b]?) [] (.take 0 <| .take 1 <| .take 2 <| .take 3 <| .take 4 <| .take 5 <| .take 6 <| .take 7 <| .one 8 <| .take 9 <| .done) mixed (by kernel_rfl) (by kernel_rfl) rfl ?_
        conv => whnf
        refine ⟨[.slice LA s'.line.length lc, .int .i64 s'.at_, .slice KA' s'.kill.length kc'], rfl, fun w' hs => lds (hs.trans h8.cell) rfl rfl, ?_⟩
        conv => whnf
        refine ⟨_, fun w' hs => ld (hs.trans h8.cell) rfl rfl, ?_⟩
        conv => whnf
        refine ⟨b4, 0, _, _, rfl, (Ext.drew W8).at_ h4e, Nat.le_of_ble_eq_true rfl, rfl, rfl, fun W9 hW9 => ?_⟩
        conv => whnf
        refine ⟨hW9.ne b (by omega), ?_⟩
        conv => whnf
        refine ⟨[.slice LA s'.line.length lc, .int .i64 s'.at_, .slice KA' s'.kill.length kc'], rfl, lds hW9.at_ rfl rfl, ?_⟩
        have hE9 : Ext w W9 := hW9.e (((hcut.tr hE8).tr (Ext.drew W8))) (by omega)
        refine ⟨hE9, _, _, _, rfl, ?_⟩
        have hd8 := h8.ext (Ext.drew W8)
        have h4f := (Ext.drew W8).at_ h4e
        exact ⟨own_weak (own_put hd8.line hW9 h4f (by decide)) (by omega), own_weak (own_put hd8.kill hW9 h4f (by decide)) (by omega), own_weak (own_put hd8.acts hW9 h4f (by decide)) (by omega), hd8.le⟩
  refine ⟨b3, 1, _, _, rfl, h3', Nat.le_of_ble_eq_true rfl, rfl, rfl, fun WS hWS => ?_⟩
  have hb3l : b3 ≠ b := by omega
  obtain ⟨rr, hrr, hkey⟩ : ∃ rr, rr = runeIn kind rune ∧ WS.heap[b3]? = some (.cells #[.int .i64 kind, .int .i64 rr] 33 (0, 0)) := ⟨0, by unfold runeIn; rw [if_neg (by omega)], hWS.at_⟩
  have h4c := hWS.keep h4' (by omega)
  have hEC := hWS.e hE6 (by omega)
  have hwk0 := hwk
  replace hwk : WorkAt WS b base s L K (.slice none 0 0) := ⟨hWS.keep hwk0.cell (by omega), own_put hwk0.line hWS h3' (by decide), own_put hwk0.kill hWS h3' (by decide), own_put hwk0.acts hWS h3' (by decide), hwk0.apart, hwk0.le, hwk0.few, by rw [hWS.size]; exact hwk0.old⟩
  clear hwk0
  conv => whnf
  refine ⟨_, ld hkey rfl rfl, ?_⟩
  conv => whnf
  intro t ht4
  obtain rfl : t = false := ht4.no (by omega)
  conv => whnf
  refine VDraw.mk' tab_ok (fun V => V.heap[b3]? = WS.heap[b3]?) [] (.take 1 <| .one 0 <| .one 2 <| .take 3 <| .take 4 <| .take 5 <| .take 6 <| .take 7 <| .done) mixed (by kernel_rfl) (by kernel_rfl) rfl ?_
  conv => whnf
  refine ⟨[.int .i64 kind, .int .i64 rr], rfl, fun w' hs => lds (hs.trans hkey) rfl rfl, ?_⟩
  conv => whnf
  have hd := Ext.drew WS
  refine (fn28 WS.drew).mono ?_
  rintro _ W7 ⟨hE7, m, es, cl, rfl, hm, hkeys, hfind⟩
  replace hE7 := hd.tr hE7
  replace hwk := hwk.ext hE7
  replace h4c := hE7.at_ h4c
  replace hcut : Ext w (trunc W7 base) := trunc_of (hEC.tr hE7) (by omega) hwk.old
  conv => whnf
  refine ⟨hE7.block b3 (at_lt hkey), ?_⟩
  conv => whnf
  refine Run.mk' _ _ (lookup_run (k := K2 kind rr) keyLaw33 Try.runUnderlying64 Try.zeroValue62 ⟨_, _, rfl⟩ hm hkeys true) ?_
  have hf := hfind kind rr
  generalize findE (K2 kind rr) es.toList = q at hf ⊢
  cases hw : wayOf kind rr with
  | none =>
    rw [hw] at hf
    cases q with
    | some q => cases hf
    | none =>
      conv => whnf
      refine ⟨hE7.block b3 (at_lt hkey), ?_⟩
      conv => whnf
      have hdo : doS s kind rune = s := by unfold doS; rw [if_neg (by omega), ← hrr, hw]
      rw [hdo]
      have h8 := hwk
      have hE8 := trunc_ext hwk.old
      generalize s = s' at h8 ⊢
      have h4e : W7.heap[b4]? = _ := hE8.at_ (by rw [trunc_at (by omega)]; exact h4c)
      obtain ⟨LA, lc, rfl⟩ := own_form h8.line
      obtain ⟨KA', kc', rfl⟩ := own_form h8.kill
      refine VDraw.mk' tab_ok (fun V => V.heap[b]? = W7.heap[b]?) [] (.take 0 <| .take 1 <| .take 2 <| .take 3 <| .take 4 <| .take 5 <| .take 6 <| .take 7 <| .one 8 <| .take 9 <| .done) mixed (by kernel_rfl) (by kernel_rfl) rfl ?_
      conv => whnf
      refine ⟨[.slice LA s'.line.length lc, .int .i64 s'.at_, .slice KA' s'.kill.length kc'], rfl, fun w' hs => lds (hs.trans h8.cell) rfl rfl, ?_⟩
      conv => whnf
      refine ⟨_, fun w' hs => ld (hs.trans h8.cell) rfl rfl, ?_⟩
      conv => whnf
      refine ⟨b4, 0, _, _, rfl, (Ext.drew W7).at_ h4e, Nat.le_of_ble_eq_true rfl, rfl, rfl, fun W9 hW9 => ?_⟩
      conv => whnf
      refine ⟨hW9.ne b (by omega), ?_⟩
      conv => whnf
      refine ⟨[.slice LA s'.line.length lc, .int .i64 s'.at_, .slice KA' s'.kill.length kc'], rfl, lds hW9.at_ rfl rfl, ?_⟩
      have hE9 : Ext w W9 := hW9.e (((hcut.tr hE8).tr (Ext.drew W7))) (by omega)
      refine ⟨hE9, _, _, _, rfl, ?_⟩
      have hd8 := h8.ext (Ext.drew W7)
      have h4f := (Ext.drew W7).at_ h4e
      exact ⟨own_weak (own_put hd8.line hW9 h4f (by decide)) (by omega), own_weak (own_put hd8.kill hW9 h4f (by decide)) (by omega), own_weak (own_put hd8.acts hW9 h4f (by decide)) (by omega), hd8.le⟩
  | some f =>
    rw [hw] at hf
    cases q with
    | none => cases hf
    | some q =>
      obtain ⟨qi, qv⟩ := q
      simp only [Option.map_some, Option.some.injEq] at hf
      subst hf
      conv => whnf
      refine ⟨hE7.block b3 (at_lt hkey), ?_⟩
      conv => whnf
      have hdo : doS s kind rune = wayG f s := by unfold doS; rw [if_neg (by omega), ← hrr, hw]
      rw [hdo]
      refine (wayG_ok hw _ _ b base s _ _ _ hwk (trunc_ext hwk.old) (by rw [trunc_size hwk.old]; exact Nat.le_refl _) hbb hs0.1 hs0.2.1 hs0.2.2).mono ?_
      rintro v W8 ⟨hE8, L', K', T', h8⟩
      generalize wayG f s = s' at h8 ⊢
      conv => whnf
      have h4e : W8.heap[b4]? = _ := hE8.at_ (by rw [trunc_at (by omega)]; exact h4c)
      obtain ⟨LA, lc, rfl⟩ := own_form h8.line
      obtain ⟨KA', kc', rfl⟩ := own_form h8.kill
      refine VDraw.mk' tab_ok (fun V => V.heap[b]? = W8.heap[b]?) [] (.take 0 <| .take 1 <| .take 2 <| .take 3 <| .take 4 <| .take 5 <| .take 6 <| .take 7 <| .one 8 <| .take 9 <| .done) mixed (by kernel_rfl) (by kernel_rfl) rfl ?_
      conv => whnf
      refine ⟨[.slice LA s'.line.length lc, .int .i64 s'.at_, .slice KA' s'.kill.length kc'], rfl, fun w' hs => lds (hs.trans h8.cell) rfl rfl, ?_⟩
      conv => whnf
      refine ⟨_, fun w' hs => ld (hs.trans h8.cell) rfl rfl, ?_⟩
      conv => whnf
      refine ⟨b4, 0, _, _, rfl, (Ext.drew W8).at_ h4e, Nat.le_of_ble_eq_true rfl, rfl, rfl, fun W9 hW9 => ?_⟩
      conv => whnf
      refine ⟨hW9.ne b (by omega), ?_⟩
      conv => whnf
      refine ⟨[.slice LA s'.line.length lc, .int .i64 s'.at_, .slice KA' s'.kill.length kc'], rfl, lds hW9.at_ rfl rfl, ?_⟩
      have hE9 : Ext w W9 := hW9.e (((hcut.tr hE8).tr (Ext.drew W8))) (by omega)
      refine ⟨hE9, _, _, _, rfl, ?_⟩
      have hd8 := h8.ext (Ext.drew W8)
      have h4f := (Ext.drew W8).at_ h4e
      exact ⟨own_weak (own_put hd8.line hW9 h4f (by decide)) (by omega), own_weak (own_put hd8.kill hW9 h4f (by decide)) (by omega), own_weak (own_put hd8.acts hW9 h4f (by decide)) (by omega), hd8.le⟩
end Go.Proofs.Ythphdaeaicjgmaa
