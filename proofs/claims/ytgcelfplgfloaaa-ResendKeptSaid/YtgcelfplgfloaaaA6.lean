/- The store of messages: New, Get, Len, Keep. -/
import Derived.Test.YtgcelfplgfloaaaA5
namespace Go.Proofs.Ytgcelfplgfloaaa
open Go Go.VC
set_option linter.unusedVariables false
set_option linter.unusedSimpArgs false
set_option maxRecDepth 100000

/-- An entry of a store. -/
structure Ent where
  m : MsgV
  A : Option Addr
  c : Nat
  born : Nat
def Ent.val (x : Ent) : Value := .agg (x.m.cells x.A x.m.know.length x.c).toArray
def Ent.e (x : Ent) : MapEntry := ⟨K2 x.m.site x.m.seq, x.val, x.born⟩
structure StoreAt (w : World) (b r : Nat) (S R : Int) (l : List Ent) (cl : Nat) : Prop where
  head : w.heap[b]? = some (.cells #[.int .i64 S, .int .i64 R, .map (some r)] 80 (0, 0))
  map : w.heap[r]? = some (.map (l.map Ent.e).toArray cl)
  know : ∀ x ∈ l, Ints w x.A x.m.know.length x.m.know
  few : ∀ x ∈ l, x.m.know.length ≤ 16
  young : ∀ x ∈ l, x.born < cl
theorem StoreAt.ext {w W : World} {b r cl : Nat} {S R : Int} {l : List Ent} (h : StoreAt w b r S R l cl) (he : Ext w W) : StoreAt W b r S R l cl :=
  ⟨he.at_ h.head, he.at_ h.map, fun x hx => (h.know x hx).ext he, h.few, h.young⟩
def getL (l : List Ent) (s q : Int) : Option Ent := l.find? (fun x => decide (x.m.site = s ∧ x.m.seq = q))
theorem findE_getL (l : List Ent) (s q : Int) : (getL l s q = none → findE (K2 s q) (l.map Ent.e) = none) ∧ (∀ x, getL l s q = some x → ∃ i, findE (K2 s q) (l.map Ent.e) = some (i, x.val)) := by
  have hp : ∀ x : Ent, (@decide (K2 s q = x.e.key) (Classical.propDecidable _)) = decide (x.m.site = s ∧ x.m.seq = q) := fun x => by
    have : (K2 s q = x.e.key) ↔ (x.m.site = s ∧ x.m.seq = q) := by
      show K2 s q = K2 x.m.site x.m.seq ↔ _
      rw [K2.inj]; constructor <;> rintro ⟨h1, h2⟩ <;> exact ⟨h1.symm, h2.symm⟩
    simp only [this]
  constructor
  · intro h
    unfold findE
    have : (l.map Ent.e).findIdx? (fun e => @decide (K2 s q = e.key) (Classical.propDecidable _)) = none := by
      rw [List.findIdx?_eq_none_iff]
      intro e he
      obtain ⟨x, hx, rfl⟩ := List.mem_map.1 he
      rw [hp]
      have := List.find?_eq_none.1 h x hx
      simpa using this
    simp only [this]
  · intro x h
    unfold findE
    induction l with
    | nil => cases h
    | cons y l ih =>
      simp only [List.map_cons, List.findIdx?_cons, hp]
      simp only [getL, List.find?_cons] at h
      cases hy : decide (y.m.site = s ∧ y.m.seq = q)
      · rw [hy] at h
        simp only at h
        obtain ⟨i, hi⟩ := ih h
        simp only [Bool.false_eq_true, if_false]
        cases hf : (l.map Ent.e).findIdx? (fun e => @decide (K2 s q = e.key) (Classical.propDecidable _)) with
        | none => simp [hf] at hi
        | some k =>
          simp only [hf] at hi
          refine ⟨k + 1, ?_⟩
          simp only [Option.map_some, List.getD_cons_succ]
          injection hi with hi
          injection hi with h1 h2
          rw [h2]
      · rw [hy] at h
        simp only [Option.some.injEq] at h
        subst h
        exact ⟨0, by simp [Ent.e]⟩
theorem keys_ent (l : List Ent) : ∀ e ∈ (l.map Ent.e).toArray.toList, ∃ a b, e.key = K2 a b := by
  intro e he
  simp only [List.mem_map] at he
  obtain ⟨x, _, rfl⟩ := he
  exact ⟨_, _, rfl⟩
theorem klaw : KeyLaw Try.prog 32 (fun v => ∃ a b, v = K2 a b) := keyLaw_two Try.underlying32 Try.stoodInHeld32 Try.underlying3 Try.underlying3 rfl rfl rfl rfl
def zeroM : MsgV := ⟨0, 0, [], 0, 0, 0, 0, 0, 0, 0⟩
/-- What a store answers. -/
def getR (l : List Ent) (s q : Int) : MsgV × Bool := match getL l s q with | some x => (x.m, true) | none => (zeroM, false)
theorem store_lookup {w : World} {b r cl : Nat} {S R : Int} {l : List Ent} (h : StoreAt w b r S R l cl) (s q : Int) :
    ∃ A c, (∀ W, Ext w W → (Instr.lookup 78 (.map (some r)) (K2 s q) true).run Try.prog W = .ok (.tuple #[.agg ((getR l s q).1.cells A (getR l s q).1.know.length c).toArray, .bool (getR l s q).2]) W) ∧
      Ints w A (getR l s q).1.know.length (getR l s q).1.know ∧ (getR l s q).1.know.length ≤ 16 := by
  have hrun := fun W (he : Ext w W) => lookup_run klaw (P := Try.prog) (mt := 78) (et := 41) Try.runUnderlying78 Try.zeroValue41 ⟨s, q, rfl⟩ (he.at_ h.map) (keys_ent l) true
  unfold getR
  cases hg : getL l s q with
  | none =>
    have hf := (findE_getL l s q).1 hg
    exact ⟨none, 0, fun W he => by rw [hrun W he]; simp only [hf]; rfl, Ints.nil _ _, by decide⟩
  | some x =>
    obtain ⟨i, hf⟩ := (findE_getL l s q).2 x hg
    have hx : x ∈ l := List.mem_of_find?_eq_some hg
    exact ⟨x.A, x.c, fun W he => by rw [hrun W he]; simp only [hf]; rfl, h.know x hx, h.few x hx⟩

theorem build80 (S R : Int) (r : Nat) (w : World) : (Instr.build 80 #[(0, .int .i64 S), (1, .int .i64 R), (2, .map (some r))]).run Try.prog w = .ok (.agg #[.int .i64 S, .int .i64 R, .map (some r)]) w := by kernel_rfl
theorem fn15 (S R : Int) (w : World) : Ret Try.prog 15 #[.int .i64 S, .int .i64 R] w fun v W => Ext w W ∧
    if 1 ≤ S ∧ S ≤ 16 ∧ 1 ≤ R ∧ R ≤ 100000 then ∃ b r, w.heap.size ≤ b ∧ w.heap.size ≤ r ∧ v = .tuple #[.pointer (some ⟨b, 0, none⟩), .int .i64 0] ∧ StoreAt W b r S R [] 0 else v = .tuple #[.pointer none, .int .i64 1] := by
  refine Ret.of_vc tab_ok Try.func15 rfl Try.ntmps15 rfl (Nat.le_of_ble_eq_true rfl) Try.call15 ?_
  conv => whnf
  intro t ht
  cases t <;> simp only [VB] at ht <;> (conv => whnf)
  case true => exact ⟨Ext.refl _, by rw [if_neg (by omega)]⟩
  intro t ht2
  cases t <;> simp only [VB] at ht2 <;> (conv => whnf)
  case true => exact ⟨Ext.refl _, by rw [if_neg (by omega)]⟩
  intro t ht3
  cases t <;> simp only [VB] at ht3 <;> (conv => whnf)
  case true => exact ⟨Ext.refl _, by rw [if_neg (by omega)]⟩
  intro t ht4
  cases t <;> simp only [VB] at ht4 <;> (conv => whnf)
  case true => exact ⟨Ext.refl _, by rw [if_neg (by omega)]⟩
  intro W1 hW1
  conv => whnf
  refine Run.mk' _ _ (build80 S R _ _) ?_
  conv => whnf
  intro W2 hW2
  conv => whnf
  refine ⟨hW1.e.tr hW2.e, ?_⟩
  rw [if_pos (by omega)]
  exact ⟨_, _, hW1.e.le, Nat.le_refl _, rfl, hW2.at_, hW2.e.at_ hW1.at_, fun x hx => (by cases hx), fun x hx => (by cases hx), fun x hx => (by cases hx)⟩

set_option maxHeartbeats 1000000
theorem fn16 {b r cl : Nat} {S R : Int} {l : List Ent} (s q : Int) (w : World) (h : StoreAt w b r S R l cl) :
    Ret Try.prog 16 #[.pointer (some ⟨b, 0, none⟩), K2 s q] w fun v W => Ext w W ∧ ∃ A c, v = .tuple #[.agg ((getR l s q).1.cells A (getR l s q).1.know.length c).toArray, .bool (getR l s q).2] ∧
      Ints W A (getR l s q).1.know.length (getR l s q).1.know ∧ ∀ a, A = some a → w.heap.size ≤ a.block := by
  refine Ret.of_vc tab_ok Try.func16 rfl Try.ntmps16 rfl (Nat.le_of_ble_eq_true rfl) Try.call16 ?_
  obtain ⟨A, c, hlook, hin, hsm⟩ := store_lookup h s q
  generalize (getR l s q).1 = m at hlook hin hsm
  generalize (getR l s q).2 = fd at hlook
  unfold K2
  conv => whnf
  intro W1 hW1
  conv => whnf
  intro W2 hW2
  have hb3 := hW2.e.at_ hW1.at_
  have hb4 := hW2.at_
  have hE := hW1.e.tr hW2.e
  have h4 : w.heap.size ≤ W1.heap.size := hW1.e.le
  generalize hx3 : w.heap.size = b3 at hb3
  generalize W1.heap.size = b4 at hb4 h4
  conv => whnf
  refine VDraw.mk' tab_ok (Ext W2) [10] (.take 0 <| .take 1 <| .take 2 <| .take 3 <| .take 4 <| .take 5 <| .take 6 <| .take 7 <| .take 8 <| .one 9 <| .one 10 <| .take 11 <| .done) mixed (by kernel_rfl) (by kernel_rfl) (Ext.drew _) ?_
  have he0 := Ext.drew W2
  generalize W2.drew = W at he0
  conv => whnf
  refine ⟨_, fun w' hs => hs.cell (ld (hE.at_ h.head) rfl rfl), ?_⟩
  conv => whnf
  refine ⟨[.int .i64 s, .int .i64 q], rfl, fun w' hs => lds (hs.at_ hb3) rfl rfl, ?_⟩
  conv => whnf
  refine ⟨_, fun w' hs => hlook w' (hE.tr hs), ?_⟩
  conv => whnf
  intro W3 hW3
  conv => whnf
  refine ⟨he0.tr hW3.e, ?_⟩
  conv => whnf
  have hE3 := (hE.tr he0).tr hW3.e
  have hl6 : w.heap.size ≤ W.heap.size := (hE.tr he0).le
  refine ⟨W.heap.size, 0, _, _, rfl, hW3.at_, Nat.le_of_ble_eq_true rfl, rfl, rfl, fun W4 hW4 => ?_⟩
  have hb6 := hW4.at_
  replace hb4 := hW4.keep (hW3.e.at_ (he0.at_ hb4)) (by have := at_lt hb4; have := he0.le; omega)
  have hE4 : Ext w W4 := hW4.e hE3 hl6
  generalize W.heap.size = b6 at hb6
  conv => whnf
  refine ⟨m.cells A m.know.length c, rfl, lds hb6 rfl rfl, ?_⟩
  conv => whnf
  refine (fn40 m A m.know.length c _ (hin.ext hE4) (by omega)).mono ?_
  rintro _ W5 ⟨A', c', rfl, he5, hi5, hfr⟩
  have hlt4 := at_lt hb4
  replace hb4 := he5.at_ hb4
  conv => whnf
  refine ⟨b4, 0, _, _, rfl, hb4, Nat.le_of_ble_eq_true rfl, rfl, rfl, fun W6 hW6 => ?_⟩
  conv => whnf
  refine ⟨m.cells A' m.know.length c', rfl, lds hW6.at_ rfl rfl, ?_⟩
  conv => whnf
  exact ⟨hW6.e (hE4.tr he5) h4, A', c', rfl, hi5.put hW6 (fun a e => by have := hfr a e; omega), fun a e => by have := hfr a e; have := hE4.le; omega⟩

theorem fn35 {b r cl : Nat} {S R : Int} {l : List Ent} (w : World) (h : StoreAt w b r S R l cl) :
    Ret Try.prog 35 #[.pointer (some ⟨b, 0, none⟩)] w fun v W => w = W ∧ v = .int .i64 l.length := by
  refine Ret.of_vc tab_ok Try.func35 rfl Try.ntmps35 rfl (Nat.le_of_ble_eq_true rfl) Try.call35 ?_
  conv => whnf
  refine ⟨_, ld h.head rfl rfl, ?_⟩
  conv => whnf
  refine Run.mk' _ _ (maplen_run Try.runUnderlying78 h.map) ?_
  conv => whnf
  exact ⟨rfl, by simp⟩

/-- What Keep answers. -/
def keepE (S R : Int) (l : List Ent) (m : MsgV) : Int :=
  if m.ok = false ∨ (m.know.length : Int) ≠ S then 1 else if (getL l m.site m.seq).isSome then 7 else if R ≤ l.length then 5 else 0
theorem ok_few {m : MsgV} (h : m.ok = true) : m.know.length ≤ 16 := by
  simp only [MsgV.ok, Bool.and_eq_true] at h
  have := h.1.1.1.1.1.1.1
  simp only [MsgV.c1, decide_eq_true_eq] at this
  omega
theorem build32 (a b : Int) (w : World) : (Instr.build 32 #[(0, .int .i64 a), (1, .int .i64 b)]).run Try.prog w = .ok (.agg #[.int .i64 a, .int .i64 b]) w := by kernel_rfl
theorem fn17 {b r cl : Nat} {S R : Int} {l : List Ent} (m : MsgV) (A : Option Addr) (c : Nat) (w : World) (h : StoreAt w b r S R l cl) (hin : Ints w A m.know.length m.know) :
    Ret Try.prog 17 #[.pointer (some ⟨b, 0, none⟩), .agg (m.cells A m.know.length c).toArray] w fun v W => Chg (· = r) w W ∧ v = .int .i64 (keepE S R l m) ∧
      ∃ l' cl', StoreAt W b r S R l' cl' ∧ if keepE S R l m = 0 then ∃ x : Ent, x.m = m ∧ l' = l ++ [x] else l' = l := by
  refine Ret.of_vc tab_ok Try.func17 rfl Try.ntmps17 rfl (Nat.le_of_ble_eq_true rfl) Try.call17 ?_
  conv => whnf
  intro W1 hW1
  have hb3 := hW1.at_
  have hE1 := hW1.e
  have hl3 : w.heap.size < W1.heap.size := at_lt hb3
  generalize hx3 : w.heap.size = b3 at hb3 hl3
  conv => whnf
  refine VDraw.mk' tab_ok (Ext W1) [] (.take 0 <| .take 1 <| .take 2 <| .take 3 <| .one 4 <| .take 5 <| .take 6 <| .take 7 <| .take 8 <| .take 9 <| .take 10 <| .take 11 <| .take 12 <| .take 13 <| .take 14 <| .take 15 <| .take 16 <| .done) mixed (by kernel_rfl) (by kernel_rfl) (Ext.drew _) ?_
  have he0 := Ext.drew W1
  generalize W1.drew = W at he0
  conv => whnf
  refine ⟨m.cells A m.know.length c, rfl, fun w' hs => lds (hs.at_ hb3) rfl rfl, ?_⟩
  conv => whnf
  refine (fn41 m A m.know.length c W (hin.ext (hE1.tr he0))).mono ?_
  rintro _ W2 ⟨he2, rfl⟩
  conv => whnf
  refine ⟨he0.tr he2, ?_⟩
  have hE2 : Ext w W2 := (hE1.tr he0).tr he2
  have no : keepE S R l m ≠ 0 → ∃ l' cl', StoreAt W2 b r S R l' cl' ∧ if keepE S R l m = 0 then ∃ x : Ent, x.m = m ∧ l' = l ++ [x] else l' = l := fun hne => ⟨l, cl, h.ext hE2, by rw [if_neg hne]⟩
  cases hok : m.ok
  · conv => whnf
    intro t ht
    obtain rfl : t = true := ht.yes (by decide)
    conv => whnf
    have hk : keepE S R l m = 1 := by simp [keepE, hok]
    exact ⟨hE2.chg _, by rw [hk], no (by rw [hk]; decide)⟩
  conv => whnf
  intro t ht
  obtain rfl : t = false := ht.no (by decide)
  conv => whnf
  refine ⟨_, fun w' hs => hs.cell (ld hb3 rfl rfl), ?_⟩
  conv => whnf
  refine ⟨_, fun w' hs => hs.cell (ld (hE1.at_ h.head) rfl rfl), ?_⟩
  conv => whnf
  intro t hS
  cases t <;> simp only [VB] at hS
  case true =>
    conv => whnf
    have hk : keepE S R l m = 1 := by simp only [keepE]; rw [if_pos (.inr hS)]
    exact ⟨hE2.chg _, by rw [hk], no (by rw [hk]; decide)⟩
  replace hS := Classical.not_not.1 hS
  have hb3' := (he0.tr he2).at_ hb3
  conv => whnf
  refine ⟨_, ld hb3' rfl rfl, ?_⟩
  conv => whnf
  refine ⟨_, ld hb3' rfl rfl, ?_⟩
  conv => whnf
  refine Run.mk' _ _ (build32 _ _ _) ?_
  conv => whnf
  intro W3 hW3
  conv => whnf
  refine ⟨W2.heap.size, 0, _, _, rfl, hW3.at_, Nat.le_of_ble_eq_true rfl, rfl, rfl, fun W4 hW4 => ?_⟩
  have hE4 : Ext w W4 := hW4.e (hE2.tr hW3.e) hE2.le
  have hb5 : W4.heap[W2.heap.size]? = some (.cells #[.int .i64 m.site, .int .i64 m.seq] 32 (0, 0)) := hW4.at_
  replace hb3' := hW4.keep (hW3.e.at_ hb3') (by have := at_lt hb3'; omega)
  have hl5 : w.heap.size ≤ W2.heap.size := hE2.le
  generalize W2.heap.size = b5 at hb5 hl5
  conv => whnf
  refine VDraw.mk' tab_ok (Ext W4) [10] (.take 0 <| .take 1 <| .take 2 <| .take 3 <| .take 4 <| .take 5 <| .take 6 <| .take 7 <| .take 8 <| .one 9 <| .one 10 <| .take 11 <| .done) mixed (by kernel_rfl) (by kernel_rfl) (Ext.drew _) ?_
  have he5 := Ext.drew W4
  generalize W4.drew = W5 at he5
  obtain ⟨A', c', hlook, hin', _⟩ := store_lookup h m.site m.seq
  conv => whnf
  refine ⟨_, fun w' hs => hs.cell (ld (hE4.at_ h.head) rfl rfl), ?_⟩
  conv => whnf
  refine ⟨[.int .i64 m.site, .int .i64 m.seq], rfl, fun w' hs => lds (hs.at_ hb5) rfl rfl, ?_⟩
  conv => whnf
  refine ⟨_, fun w' hs => hlook w' (hE4.tr hs), ?_⟩
  conv => whnf
  intro W6 hW6
  conv => whnf
  refine ⟨he5.tr hW6.e, ?_⟩
  conv => whnf
  have hE6 : Ext w W6 := (hE4.tr he5).tr hW6.e
  refine ⟨W5.heap.size, 0, _, _, rfl, hW6.at_, Nat.le_of_ble_eq_true rfl, rfl, rfl, fun W7 hW7 => ?_⟩
  have hE7 : Ext w W7 := hW7.e hE6 (hE4.tr he5).le
  replace hb5 := hW7.keep (hW6.e.at_ (he5.at_ hb5)) (by have := at_lt hb5; have := he5.le; omega)
  replace hb3' := hW7.keep (hW6.e.at_ (he5.at_ hb3')) (by have := at_lt hb3'; have := he5.le; omega)
  clear no
  have no : keepE S R l m ≠ 0 → ∃ l' cl', StoreAt W7 b r S R l' cl' ∧ if keepE S R l m = 0 then ∃ x : Ent, x.m = m ∧ l' = l ++ [x] else l' = l := fun hne => ⟨l, cl, h.ext hE7, by rw [if_neg hne]⟩
  have hn1 : ¬ (m.ok = false ∨ (m.know.length : Int) ≠ S) := by rintro (h1 | h1); rw [hok] at h1; cases h1; exact h1 hS
  have hfd : (getR l m.site m.seq).2 = (getL l m.site m.seq).isSome := by unfold getR; cases getL l m.site m.seq <;> rfl
  rw [hfd]
  cases hg : getL l m.site m.seq with
  | some x =>
    conv => whnf
    have hk : keepE S R l m = 7 := by simp only [keepE]; rw [if_neg hn1, hg]; rfl
    exact ⟨hE7.chg _, by rw [hk], no (by rw [hk]; decide)⟩
  | none =>
    conv => whnf
    refine VDraw.mk' tab_ok (Ext W7) [] (.take 0 <| .take 1 <| .take 2 <| .take 3 <| .take 4 <| .take 5 <| .take 6 <| .take 7 <| .take 8 <| .take 9 <| .done) mixed (by kernel_rfl) (by kernel_rfl) (Ext.drew _) ?_
    have he8 := Ext.drew W7
    generalize W7.drew = W8 at he8
    have hE8 := hE7.tr he8
    have hb5' := he8.at_ hb5
    have hb3'' := he8.at_ hb3'
    conv => whnf
    refine ⟨_, fun w' hs => hs.cell (ld (hE7.at_ h.head) rfl rfl), ?_⟩
    conv => whnf
    refine ⟨_, fun w' hs => maplen_run Try.runUnderlying78 (hs.at_ (hE7.at_ h.map)), ?_⟩
    conv => whnf
    refine ⟨_, fun w' hs => hs.cell (ld (hE7.at_ h.head) rfl rfl), ?_⟩
    conv => whnf
    intro t ht
    have hsz : ((l.map Ent.e).toArray.size : Int) = l.length := by simp
    rw [hsz] at ht
    cases t <;> simp only [VB] at ht
    case true =>
      conv => whnf
      have hk : keepE S R l m = 5 := by simp only [keepE]; rw [if_neg hn1, hg, if_neg (by simp), if_pos (by omega)]
      exact ⟨hE8.chg _, by rw [hk], l, cl, h.ext hE8, by rw [hk]; rfl⟩
    have hk : keepE S R l m = 0 := by simp only [keepE]; rw [if_neg hn1, hg, if_neg (by simp), if_neg (by omega)]
    clear no
    conv => whnf
    refine VDraw.mk' tab_ok (Ext W8) [7] (.take 0 <| .take 1 <| .take 2 <| .take 3 <| .take 4 <| .take 5 <| .one 6 <| .one 7 <| .done) mixed (by kernel_rfl) (by kernel_rfl) (Ext.drew _) ?_
    have he9 := Ext.drew W8
    generalize W8.drew = W9 at he9
    conv => whnf
    refine ⟨_, fun w' hs => hs.cell (ld (hE8.at_ h.head) rfl rfl), ?_⟩
    conv => whnf
    refine ⟨[.int .i64 m.site, .int .i64 m.seq], rfl, fun w' hs => lds (hs.at_ hb5') rfl rfl, ?_⟩
    conv => whnf
    refine ⟨m.cells A m.know.length c, rfl, fun w' hs => lds (hs.at_ hb3'') rfl rfl, ?_⟩
    conv => whnf
    refine (fn40 m A m.know.length c W9 (hin.ext (hE8.tr he9)) (by have := ok_few hok; omega)).mono ?_
    rintro _ W10 ⟨A2, c2, rfl, he10, hi10, hfr⟩
    conv => whnf
    refine ⟨he9.tr he10, ?_⟩
    conv => whnf
    have hE10 : Ext w W10 := (hE8.tr he9).tr he10
    have hmap := hE10.at_ h.map
    have hfind := (findE_getL l m.site m.seq).1 hg
    refine RunU.mk' _ (update_new klaw Try.runUnderlying78 ⟨m.site, m.seq, rfl⟩ hmap (keys_ent l) hfind) ?_
    have hput := Put.mk' hmap (.map ((l.map Ent.e).toArray.push { key := K2 m.site m.seq, val := .agg (m.cells A2 m.know.length c2).toArray, born := cl }) (cl + 1))
    generalize World.putObj W10 r (.map ((l.map Ent.e).toArray.push { key := K2 m.site m.seq, val := .agg (m.cells A2 m.know.length c2).toArray, born := cl }) (cl + 1)) = W11 at hput ⊢
    conv => whnf
    refine ⟨hput.chg (hE10.chg _) (.inl rfl), by rw [hk], l ++ [⟨m, A2, c2, cl⟩], cl + 1, ?_, by rw [if_pos hk]; exact ⟨_, rfl, rfl⟩⟩
    have hbr : b ≠ r := fun e => by have h1 := h.head; rw [e, h.map] at h1; cases h1
    refine ⟨hput.keep (hE10.at_ h.head) hbr, ?_, ?_, ?_, ?_⟩
    · rw [hput.at_]
      simp [Ent.e, Ent.val]
    · intro x hx
      rcases List.mem_append.1 hx with hx | hx
      · exact hput.map_ints hmap ((h.know x hx).ext hE10)
      · simp only [List.mem_singleton] at hx
        subst hx
        exact hput.map_ints hmap hi10
    · intro x hx
      rcases List.mem_append.1 hx with hx | hx
      · exact h.few x hx
      · simp only [List.mem_singleton] at hx
        subst hx
        exact ok_few hok
    · intro x hx
      rcases List.mem_append.1 hx with hx | hx
      · have := h.young x hx; omega
      · simp only [List.mem_singleton] at hx
        subst hx
        exact Nat.lt_succ_self _
end Go.Proofs.Ytgcelfplgfloaaa
