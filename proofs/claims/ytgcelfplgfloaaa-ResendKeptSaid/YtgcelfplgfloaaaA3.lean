/- mesg.Check. -/
import Derived.Test.YtgcelfplgfloaaaA2
namespace Go.Proofs.Ytgcelfplgfloaaa
open Go Go.VC
set_option linter.unusedVariables false
set_option linter.unusedSimpArgs false
set_option maxRecDepth 100000

/-- A message's numbers. -/
structure MsgV where
  site : Int
  seq : Int
  know : List Int
  kind : Int
  epoch : Int
  idT : Int
  idS : Int
  refT : Int
  refS : Int
  rune : Int
def MsgV.cells (m : MsgV) (A : Option Addr) (n c : Nat) : List Value :=
  [.int .i64 m.site, .int .i64 m.seq, .slice A n c, .int .i64 m.kind, .int .i64 m.epoch, .int .i64 m.idT, .int .i64 m.idS, .int .i64 m.refT, .int .i64 m.refS, .int .i64 m.rune]
def MsgV.c1 (m : MsgV) : Bool := decide (1 ≤ m.know.length ∧ m.know.length ≤ 16 ∧ 0 ≤ m.site ∧ m.site < m.know.length)
def MsgV.c2 (m : MsgV) : Bool := decide (1 ≤ m.seq) && isClk m.seq && decide (m.know.getD m.site.toNat 0 = m.seq - 1)
def MsgV.c3 (m : MsgV) : Bool := m.know.all isClk
def MsgV.c4 (m : MsgV) : Bool := decide (1 ≤ m.kind ∧ m.kind ≤ 8) && isClk m.epoch
def MsgV.c5 (m : MsgV) : Bool := if m.kind = 1 ∨ m.kind = 6 then mayId m.idT m.idS m.know.length && decide (m.idS = m.site) else decide (m.idT = 0 ∧ m.idS = 0)
def MsgV.c6 (m : MsgV) : Bool := if m.kind = 1 then runeOk m.rune else decide (m.rune = 0)
def MsgV.c7 (m : MsgV) : Bool := decide (m.kind = 6 → m.refT = 0 ∧ m.refS = 0)
def MsgV.c8 (m : MsgV) : Bool := if m.refT = 0 ∧ m.refS = 0 then decide (m.kind = 1 ∨ m.kind = 5 ∨ m.kind = 6) else mayId m.refT m.refS m.know.length && decide (m.kind = 1 → m.refT < m.idT)
/-- May a message be? -/
def MsgV.ok (m : MsgV) : Bool := m.c1 && m.c2 && m.c3 && m.c4 && m.c5 && m.c6 && m.c7 && m.c8

theorem eql37 (a b c d : Int) (xo yo : Operand) (w : World) : (do eqGuard .eql 37 xo yo (.agg #[.int .i64 a, .int .i64 b]) (.agg #[.int .i64 c, .int .i64 d]); Go.binOp .eql 37 (.agg #[.int .i64 a, .int .i64 b]) (.agg #[.int .i64 c, .int .i64 d]) : Sem Value).run Try.prog w = .ok (.bool (decide (a = c ∧ b = d))) w :=
  eql_agg Try.eqGuardType37 (fun w => eqIn_two (n := 9998) Try.underlying37 Try.stoodInHeld37 Try.underlying3 Try.underlying3 rfl rfl rfl rfl a b c d w) xo yo w
theorem neq37 (a b c d : Int) (xo yo : Operand) (w : World) : (do eqGuard .neq 37 xo yo (.agg #[.int .i64 a, .int .i64 b]) (.agg #[.int .i64 c, .int .i64 d]); Go.binOp .neq 37 (.agg #[.int .i64 a, .int .i64 b]) (.agg #[.int .i64 c, .int .i64 d]) : Sem Value).run Try.prog w = .ok (.bool (!decide (a = c ∧ b = d))) w :=
  neq_agg Try.eqGuardType37 (fun w => eqIn_two (n := 9998) Try.underlying37 Try.stoodInHeld37 Try.underlying3 Try.underlying3 rfl rfl rfl rfl a b c d w) xo yo w
theorem vb_eq {t : Bool} {p : Prop} [Decidable p] (h : t = decide p) : VB t p := by subst h; exact VB.mk p
theorem vb_neq {t : Bool} {p : Prop} [Decidable p] (h : t = !decide p) : VB t (¬ p) := by
  subst h
  by_cases hp : p <;> simp [VB, hp]
theorem mixed : Try.prog.follows .mixedOrders = true := by kernel_rfl

theorem fn64' (n : Int) (w : World) : Ret Try.prog 64 #[.int .i64 n] w fun v w' => ∃ a b c, w = w' ∧ VB a (n = 1 ∨ n = 6) ∧ VB b (n ≠ 6) ∧ VB c (n = 1) ∧ v = .tuple #[.bool a, .bool b, .bool c] :=
  (fn64 n w).mono fun v w' ⟨h1, h2⟩ => ⟨_, _, _, h1, VB.mk _, VB.mk _, VB.mk _, h2⟩
theorem fn63' (n : Int) (w : World) : Ret Try.prog 63 #[.int .i64 n] w fun v w' => ∃ t, w = w' ∧ VB t (0 ≤ n ∧ n ≤ 4294967295) ∧ v = .bool t :=
  (fn63 n w).mono fun v w' ⟨h1, h2⟩ => ⟨_, h1, VB.mk _, h2⟩
theorem fn67' (n : Int) (w : World) : Ret Try.prog 67 #[.int .i64 n] w fun v w' => ∃ t, w = w' ∧ VB t (runeOk n = true) ∧ v = .bool t :=
  (fn67 n w).mono fun v w' ⟨h1, h2⟩ => ⟨_, h1, by have := VB.mk (runeOk n = true); simpa using this, h2⟩
theorem fn62' (t s n : Int) (b : Nat) (e : Nat) (w : World) (hb : w.heap[b]? = some (.cells #[.int .i64 n] e (0, 0))) :
    Ret Try.prog 62 #[.agg #[.int .i64 t, .int .i64 s], .pointer (some ⟨b, 0, none⟩)] w fun v w' => ∃ u, Ext w w' ∧ VB u (mayId t s n = true) ∧ v = .bool u :=
  (fn62 t s n b 0 _ e w hb rfl).mono fun v w' ⟨h1, h2⟩ => ⟨_, h1, by have := VB.mk (mayId t s n = true); simpa using this, h2⟩

section
variable {m : MsgV}
theorem MsgV.no1 (h : m.c1 = false) : errN m.ok = .int .i64 1 := by simp [MsgV.ok, h, errN]
theorem MsgV.no2 (h : m.c2 = false) : errN m.ok = .int .i64 1 := by simp [MsgV.ok, h, errN]
theorem MsgV.no3 (h : m.c3 = false) : errN m.ok = .int .i64 1 := by simp [MsgV.ok, h, errN]
theorem MsgV.no4 (h : m.c4 = false) : errN m.ok = .int .i64 1 := by simp [MsgV.ok, h, errN]
theorem MsgV.no5 (h : m.c5 = false) : errN m.ok = .int .i64 1 := by simp [MsgV.ok, h, errN]
theorem MsgV.no6 (h : m.c6 = false) : errN m.ok = .int .i64 1 := by simp [MsgV.ok, h, errN]
theorem MsgV.no7 (h : m.c7 = false) : errN m.ok = .int .i64 1 := by simp [MsgV.ok, h, errN]
theorem MsgV.no8 (h : m.c8 = false) : errN m.ok = .int .i64 1 := by simp [MsgV.ok, h, errN]
theorem MsgV.yes (h1 : m.c1 = true) (h2 : m.c2 = true) (h3 : m.c3 = true) (h4 : m.c4 = true) (h5 : m.c5 = true) (h6 : m.c6 = true) (h7 : m.c7 = true) (h8 : m.c8 = true) : errN m.ok = .int .i64 0 := by simp [MsgV.ok, h1, h2, h3, h4, h5, h6, h7, h8, errN]
end

theorem build37z (w : World) : (Instr.build 37 #[]).run Try.prog w = .ok (.agg #[.int .i64 0, .int .i64 0]) w := by kernel_rfl

set_option maxHeartbeats 4000000
theorem fn41 (m : MsgV) (A : Option Addr) (n c : Nat) (w : World) (h : Ints w A n m.know) :
    Ret Try.prog 41 #[.agg (m.cells A n c).toArray] w fun v w' => Ext w w' ∧ v = errN m.ok := by
  have hl := h.len
  have hm := h.small
  refine Ret.of_vc tab_ok Try.func41 rfl Try.ntmps41 rfl (Nat.le_of_ble_eq_true rfl) Try.call41 ?_
  conv => whnf
  intro W1 hW1
  have hb := hW1.at_
  have he1 := hW1.e
  generalize w.heap.size = b at hb
  conv => whnf
  refine VDraw.cut (X := Nat × Nat) (fun x => [(1, .pointer (some ⟨b, 0, none⟩)), (2, .int .i64 0), (3, .pointer (some ⟨x.1, 0, none⟩)), (4, .pointer (some ⟨x.2, 0, none⟩))])
    (fun x W => Ext W1 W ∧ W.heap[x.1]? = some (.cells #[.int .i64 n] 3 (0, 0)) ∧ W.heap[x.2]? = some (.cells #[.int .i64 m.kind, .int .i64 m.epoch, .int .i64 m.idT, .int .i64 m.idS, .int .i64 m.refT, .int .i64 m.refS, .int .i64 m.rune] 39 (0, 0))) ?_ ?_
  · refine VDraw.mk' tab_ok (Ext W1) [8] (.take 0 <| .take 1 <| .take 2 <| .take 3 <| .take 4 <| .two 5 6 <| .one 7 <| .one 8 <| .done) mixed (by kernel_rfl) (by kernel_rfl) (Ext.drew _) ?_
    have he0 := Ext.drew W1
    generalize W1.drew = W at he0
    conv => whnf
    refine ⟨_, fun w' hs => hs.cell (ld hb rfl rfl), ?_⟩
    conv => whnf
    refine ⟨[.int .i64 m.kind, .int .i64 m.epoch, .int .i64 m.idT, .int .i64 m.idS, .int .i64 m.refT, .int .i64 m.refS, .int .i64 m.rune], rfl, fun w' hs => lds (hs.at_ hb) rfl rfl, ?_⟩
    conv => whnf
    refine ⟨?_, ?_⟩
    · conv => whnf
      intro W2 hW2
      conv => whnf
      refine ⟨he0.tr hW2.e, ?_⟩
      conv => whnf
      intro W3 hW3
      conv => whnf
      refine ⟨(he0.tr hW2.e).tr hW3.e, ?_⟩
      conv => whnf
      refine ⟨_, 0, _, _, rfl, hW3.e.at_ hW2.at_, by decide, rfl, rfl, fun W4 hW4 => ?_⟩
      conv => whnf
      refine ⟨hW4.e ((he0.tr hW2.e).tr hW3.e) he0.le, ?_⟩
      have h34 := hW4.keep hW3.at_ (by have := hW2.size; omega)
      conv => whnf
      refine ⟨_, 0, _, _, rfl, h34, by decide, rfl, rfl, fun W5 hW5 => ?_⟩
      conv => whnf
      refine ⟨rfl, (W.heap.size, W2.heap.size), ⟨rfl, rfl, rfl, rfl, trivial⟩, hW5.e (hW4.e ((he0.tr hW2.e).tr hW3.e) he0.le) (he0.tr hW2.e).le, ?_, ?_⟩
      · exact hW5.keep hW4.at_ (by have := hW2.size; omega)
      · exact hW5.at_
    · conv => whnf
      intro W2 hW2
      conv => whnf
      refine ⟨he0.tr hW2.e, ?_⟩
      conv => whnf
      intro W3 hW3
      conv => whnf
      refine ⟨(he0.tr hW2.e).tr hW3.e, ?_⟩
      conv => whnf
      refine ⟨_, 0, _, _, rfl, hW3.at_, by decide, rfl, rfl, fun W4 hW4 => ?_⟩
      conv => whnf
      refine ⟨hW4.e ((he0.tr hW2.e).tr hW3.e) (he0.tr hW2.e).le, ?_⟩
      have h34 := hW4.keep (hW3.e.at_ hW2.at_) (by have := hW2.size; omega)
      conv => whnf
      refine ⟨_, 0, _, _, rfl, h34, by decide, rfl, rfl, fun W5 hW5 => ?_⟩
      conv => whnf
      refine ⟨rfl, (W2.heap.size, W.heap.size), ⟨rfl, rfl, rfl, rfl, trivial⟩, hW5.e (hW4.e ((he0.tr hW2.e).tr hW3.e) (he0.tr hW2.e).le) he0.le, ?_, ?_⟩
      · exact hW5.keep hW4.at_ (by have := hW2.size; omega)
      · exact hW5.at_
  rintro ⟨b3, b4⟩ j W ⟨he2, h3, h4⟩
  dsimp only at h3 h4
  replace hb := he2.at_ hb
  have hE : Ext w W := he1.tr he2
  clear he2 he1 hW1
  conv => whnf
  refine Run.mk' _ _ (build37z W) ?_
  conv => whnf
  intro W2 hW2
  conv => whnf
  refine ⟨_, 0, _, _, rfl, hW2.at_, by decide, rfl, rfl, fun W3 hW3 => ?_⟩
  have h6 := hW3.at_
  replace hb := hW3.keep (hW2.e.at_ hb) (by have := at_lt hb; omega)
  replace h3 := hW3.keep (hW2.e.at_ h3) (by have := at_lt h3; omega)
  replace h4 := hW3.keep (hW2.e.at_ h4) (by have := at_lt h4; omega)
  replace hE := hW3.e (hE.tr hW2.e) hE.le
  generalize W.heap.size = b6 at h6
  clear hW3 hW2 W2 W
  have hks : Ints W3 A n m.know := h.ext hE
  conv => whnf
  refine ⟨_, ld h4 rfl rfl, ?_⟩
  conv => whnf
  refine (fn64' _ _).mono ?_
  rintro _ _ ⟨id, ref, rn, rfl, hid, href, hrn, rfl⟩
  conv => whnf
  -- the first case
  refine ⟨_, ld h3 rfl rfl, ?_⟩
  conv => whnf
  intro t ht
  cases t <;> simp only [VB] at ht <;> (conv => whnf)
  case true => exact ⟨hE, (MsgV.no1 (by simp only [MsgV.c1, decide_eq_false_iff_not]; omega)).symm⟩
  refine ⟨_, ld h3 rfl rfl, ?_⟩
  conv => whnf
  intro t ht2
  cases t <;> simp only [VB] at ht2 <;> (conv => whnf)
  case true => exact ⟨hE, (MsgV.no1 (by simp only [MsgV.c1, decide_eq_false_iff_not]; omega)).symm⟩
  refine ⟨_, ld hb rfl rfl, ?_⟩
  conv => whnf
  intro t ht3
  cases t <;> simp only [VB] at ht3 <;> (conv => whnf)
  case true => exact ⟨hE, (MsgV.no1 (by simp only [MsgV.c1, decide_eq_false_iff_not]; omega)).symm⟩
  refine ⟨_, ld hb rfl rfl, ?_⟩
  conv => whnf
  refine ⟨_, ld h3 rfl rfl, ?_⟩
  conv => whnf
  intro t ht4
  cases t <;> simp only [VB] at ht4 <;> (conv => whnf)
  case true => exact ⟨hE, (MsgV.no1 (by simp only [MsgV.c1, decide_eq_false_iff_not]; omega)).symm⟩
  have hc1 : m.c1 = true := by simp only [MsgV.c1, decide_eq_true_eq]; omega
  -- the second
  refine VDraw.mk' tab_ok (Ext W3) [] (.take 0 <| .take 1 <| .take 2 <| .take 3 <| .take 4 <| .take 5 <| .one 6 <| .take 7 <| .take 8 <| .take 9 <| .take 10 <| .take 11 <| .take 12 <| .take 13 <| .take 14 <| .take 15 <| .take 16 <| .take 17 <| .take 18 <| .take 19 <| .take 20 <| .take 21 <| .done) mixed (by kernel_rfl) (by kernel_rfl) (Ext.drew _) ?_
  have he0 := Ext.drew W3
  generalize hWd : W3.drew = W at he0
  conv => whnf
  refine ⟨_, fun w' hs => hs.cell (ld hb rfl rfl), ?_⟩
  conv => whnf
  replace hE : Ext w W := hE.tr he0
  have hbW := he0.at_ hb
  have h3W := he0.at_ h3
  have h4W := he0.at_ h4
  have h6W := he0.at_ h6
  intro t ht5
  cases t <;> simp only [VB] at ht5 <;> (conv => whnf)
  case true => exact ⟨hE, (MsgV.no2 (by simp only [MsgV.c2, Bool.and_eq_false_iff, decide_eq_false_iff_not]; omega)).symm⟩
  refine ⟨_, fun w' hs => hs.cell (ld hb rfl rfl), ?_⟩
  conv => whnf
  refine (fn63' _ _).mono ?_
  rintro _ _ ⟨t, rfl, ht6, rfl⟩
  conv => whnf
  refine ⟨he0, ?_⟩
  cases t <;> simp only [VB] at ht6 <;> (conv => whnf)
  case false => exact ⟨hE, (MsgV.no2 (by simp [MsgV.c2, isClk]; omega)).symm⟩
  obtain ⟨a, hA, hk⟩ := hks.at_ (k := m.site.toNat) (by omega)
  refine ⟨_, fun w' hs => hs.cell (ld hb rfl rfl), ?_⟩
  conv => whnf
  refine ⟨_, fun w' hs => hs.cell (ld hb rfl rfl), ?_⟩
  conv => whnf
  refine ⟨by omega, by omega, a, hA, ?_⟩
  conv => whnf
  refine ⟨.int .i64 (m.know.getD m.site.toNat 0), fun w' hs => hs.cell (by simpa using hk), ?_⟩
  conv => whnf
  refine ⟨_, fun w' hs => hs.cell (ld hb rfl rfl), ?_⟩
  conv => whnf
  intro r hr
  rw [wrap_id (by omega) (by omega)] at hr
  conv => whnf
  intro t ht7
  cases t <;> simp only [VB] at ht7 <;> (conv => whnf)
  case true => exact ⟨hE, (MsgV.no2 (by simp only [MsgV.c2, Bool.and_eq_false_iff, decide_eq_false_iff_not]; omega)).symm⟩
  have hc2 : m.c2 = true := by simp only [MsgV.c2, isClk, Bool.and_eq_true, decide_eq_true_eq]; omega
  clear hb h3 h4 h6 hks he0 hWd
  have hb := hbW; have h3 := h3W; have h4 := h4W; have h6 := h6W
  clear hbW h3W h4W h6W
  have hks : Ints W A n m.know := h.ext hE
  -- the third
  refine ⟨_, ld hb rfl rfl, ?_⟩
  conv => whnf
  refine (fn65 (fun k => !isClk k) 66 _ (fun n => fn66 n _) A n c m.know hks).mono ?_
  rintro _ _ ⟨rfl, rfl⟩
  conv => whnf
  cases hany : m.know.any (fun k => !isClk k) <;> (conv => whnf)
  case true => exact ⟨hE, (MsgV.no3 (by simp only [MsgV.c3]; simpa using hany)).symm⟩
  have hc3 : m.c3 = true := by simp only [MsgV.c3]; simpa using hany
  -- the fourth
  refine ⟨_, ld h4 rfl rfl, ?_⟩
  conv => whnf
  intro t ht8
  cases t <;> simp only [VB] at ht8 <;> (conv => whnf)
  case true => exact ⟨hE, (MsgV.no4 (by simp only [MsgV.c4, Bool.and_eq_false_iff, decide_eq_false_iff_not]; omega)).symm⟩
  refine ⟨_, ld h4 rfl rfl, ?_⟩
  conv => whnf
  intro t ht9
  cases t <;> simp only [VB] at ht9 <;> (conv => whnf)
  case true => exact ⟨hE, (MsgV.no4 (by simp only [MsgV.c4, Bool.and_eq_false_iff, decide_eq_false_iff_not]; omega)).symm⟩
  refine ⟨_, ld h4 rfl rfl, ?_⟩
  conv => whnf
  refine (fn63' _ _).mono ?_
  rintro _ _ ⟨t, rfl, ht10, rfl⟩
  conv => whnf
  cases t <;> simp only [VB] at ht10
  case false => (conv => whnf); exact ⟨hE, (MsgV.no4 (by simp [MsgV.c4, isClk]; omega)).symm⟩
  have hc4 : m.c4 = true := by simp only [MsgV.c4, isClk, Bool.and_eq_true, decide_eq_true_eq]; omega
  -- the fifth
  have hks2 : True := trivial
  clear hks hks2
  have c5n : id = false → ¬ (m.idT = 0 ∧ m.idS = 0) → m.c5 = false := fun e h => by
    subst e; simp only [VB] at hid; simp only [MsgV.c5, if_neg hid]; exact decide_eq_false h
  have c5y : id = false → (m.idT = 0 ∧ m.idS = 0) → m.c5 = true := fun e h => by
    subst e; simp only [VB] at hid; simp only [MsgV.c5, if_neg hid]; exact decide_eq_true h
  have c5n1 : id = true → ¬ (mayId m.idT m.idS n = true ∧ m.idS = m.site) → m.c5 = false := fun e h => by
    subst e; simp only [VB] at hid; simp only [MsgV.c5, if_pos hid, hl, Bool.and_eq_false_iff, decide_eq_false_iff_not]
    cases hh : mayId m.idT m.idS n
    · exact .inl rfl
    · exact .inr fun e => h ⟨hh, e⟩
  have c5y1 : id = true → (mayId m.idT m.idS n = true ∧ m.idS = m.site) → m.c5 = true := fun e h => by
    subst e; simp only [VB] at hid; simp only [MsgV.c5, if_pos hid, hl, Bool.and_eq_true, decide_eq_true_eq]
    exact h
  have c6n : rn = false → m.rune ≠ 0 → m.c6 = false := fun e h => by
    subst e; simp only [VB] at hrn; simp only [MsgV.c6, if_neg hrn]; exact decide_eq_false h
  have c6y : rn = false → m.rune = 0 → m.c6 = true := fun e h => by
    subst e; simp only [VB] at hrn; simp only [MsgV.c6, if_neg hrn]; exact decide_eq_true h
  have c6b : rn = true → m.c6 = runeOk m.rune := fun e => by
    subst e; simp only [VB] at hrn; simp only [MsgV.c6, if_pos hrn]
  have c7n : ref = false → ¬ (m.refT = 0 ∧ m.refS = 0) → m.c7 = false := fun e h => by
    subst e; simp only [VB] at href; simp only [MsgV.c7, decide_eq_false_iff_not]; omega
  have c7y : ref = false → (m.refT = 0 ∧ m.refS = 0) → m.c7 = true := fun e h => by
    simp only [MsgV.c7, decide_eq_true_eq]; intro _; exact h
  have c7y1 : ref = true → m.c7 = true := fun e => by
    subst e; simp only [VB] at href; simp only [MsgV.c7, decide_eq_true_eq]; omega
  cases id
  case false =>
    conv => whnf
    refine ⟨[.int .i64 m.idT, .int .i64 m.idS], rfl, lds h4 rfl rfl, ?_⟩
    conv => whnf
    refine ⟨[.int .i64 0, .int .i64 0], rfl, lds h6 rfl rfl, ?_⟩
    conv => whnf
    refine ⟨_, fun xo yo w => neq37 _ _ _ _ xo yo w, ?_⟩
    intro t hi
    replace hi := vb_neq hi
    cases t <;> simp only [VB] at hi
    case true => (conv => whnf); exact ⟨hE, (MsgV.no5 (c5n rfl hi)).symm⟩
    have hc5 := c5y rfl (Classical.not_not.1 hi)
    cases rn
    case false =>
      conv => whnf
      refine ⟨_, ld h4 rfl rfl, ?_⟩
      conv => whnf
      intro t hr2
      cases t <;> simp only [VB] at hr2
      case true => (conv => whnf); exact ⟨hE, (MsgV.no6 (c6n rfl hr2)).symm⟩
      have hc6 : m.c6 = true := c6y rfl (Classical.not_not.1 hr2)
      cases ref
      case true =>
        have hc7 := c7y1 rfl
        conv => whnf
        refine ⟨[.int .i64 m.refT, .int .i64 m.refS], rfl, lds h4 rfl rfl, ?_⟩
        conv => whnf
        refine ⟨[.int .i64 0, .int .i64 0], rfl, lds h6 rfl rfl, ?_⟩
        conv => whnf
        refine ⟨_, fun xo yo w => eql37 _ _ _ _ xo yo w, ?_⟩
        intro t hz
        replace hz := vb_eq hz
        cases t <;> simp only [VB] at hz
        case true =>
          conv => whnf
          refine ⟨_, ld h4 rfl rfl, ?_⟩
          conv => whnf
          intro t hk1
          cases t <;> simp only [VB] at hk1
          case false => (conv => whnf); exact ⟨hE, (MsgV.yes hc1 hc2 hc3 hc4 hc5 hc6 hc7 (by simp only [MsgV.c8, if_pos hz, decide_eq_true_eq]; omega)).symm⟩
          conv => whnf
          refine ⟨_, ld h4 rfl rfl, ?_⟩
          conv => whnf
          intro t hk2
          cases t <;> simp only [VB] at hk2
          case false => (conv => whnf); exact ⟨hE, (MsgV.yes hc1 hc2 hc3 hc4 hc5 hc6 hc7 (by simp only [MsgV.c8, if_pos hz, decide_eq_true_eq]; omega)).symm⟩
          conv => whnf
          exact ⟨hE, (MsgV.no8 (by simp only [MsgV.c8, if_pos hz, decide_eq_false_iff_not]; simp only [VB] at href; omega)).symm⟩
        conv => whnf
        refine ⟨[.int .i64 m.refT, .int .i64 m.refS], rfl, lds h4 rfl rfl, ?_⟩
        conv => whnf
        refine (fn62' _ _ _ _ _ _ h3).mono ?_
        rintro _ W3 ⟨t, he3, hmay, rfl⟩
        replace h4 := he3.at_ h4
        replace hE : Ext w W3 := hE.tr he3
        cases t <;> simp only [VB] at hmay
        case false => (conv => whnf); exact ⟨hE, (MsgV.no8 (by simp only [MsgV.c8, if_neg hz, hl, Bool.and_eq_false_iff]; exact .inl (by simpa using hmay))).symm⟩
        conv => whnf
        refine ⟨_, ld h4 rfl rfl, ?_⟩
        conv => whnf
        intro t hk3
        cases t <;> simp only [VB] at hk3
        case false => (conv => whnf); exact ⟨hE, (MsgV.yes hc1 hc2 hc3 hc4 hc5 hc6 hc7 (by simp only [MsgV.c8, if_neg hz, hl, hmay, Bool.true_and, decide_eq_true_eq]; omega)).symm⟩
        conv => whnf
        refine ⟨_, ld h4 rfl rfl, ?_⟩
        conv => whnf
        refine ⟨_, ld h4 rfl rfl, ?_⟩
        conv => whnf
        intro t hk4
        cases t <;> simp only [VB] at hk4 <;> (conv => whnf)
        case true => exact ⟨hE, (MsgV.no8 (by simp only [MsgV.c8, if_neg hz, hl, hmay, Bool.true_and, decide_eq_false_iff_not]; omega)).symm⟩
        exact ⟨hE, (MsgV.yes hc1 hc2 hc3 hc4 hc5 hc6 hc7 (by simp only [MsgV.c8, if_neg hz, hl, hmay, Bool.true_and, decide_eq_true_eq]; omega)).symm⟩
      case false =>
        conv => whnf
        refine ⟨[.int .i64 m.refT, .int .i64 m.refS], rfl, lds h4 rfl rfl, ?_⟩
        conv => whnf
        refine ⟨[.int .i64 0, .int .i64 0], rfl, lds h6 rfl rfl, ?_⟩
        conv => whnf
        refine ⟨_, fun xo yo w => neq37 _ _ _ _ xo yo w, ?_⟩
        intro t hz0
        replace hz0 := vb_neq hz0
        cases t <;> simp only [VB] at hz0 <;> (conv => whnf)
        case true => exact ⟨hE, (MsgV.no7 (c7n rfl hz0)).symm⟩
        have hc7 := c7y rfl (Classical.not_not.1 hz0)
        refine ⟨[.int .i64 m.refT, .int .i64 m.refS], rfl, lds h4 rfl rfl, ?_⟩
        conv => whnf
        refine ⟨[.int .i64 0, .int .i64 0], rfl, lds h6 rfl rfl, ?_⟩
        conv => whnf
        refine ⟨_, fun xo yo w => eql37 _ _ _ _ xo yo w, ?_⟩
        intro t hz
        replace hz := vb_eq hz
        cases t <;> simp only [VB] at hz
        case true =>
          conv => whnf
          refine ⟨_, ld h4 rfl rfl, ?_⟩
          conv => whnf
          intro t hk1
          cases t <;> simp only [VB] at hk1
          case false => (conv => whnf); exact ⟨hE, (MsgV.yes hc1 hc2 hc3 hc4 hc5 hc6 hc7 (by simp only [MsgV.c8, if_pos hz, decide_eq_true_eq]; omega)).symm⟩
          conv => whnf
          refine ⟨_, ld h4 rfl rfl, ?_⟩
          conv => whnf
          intro t hk2
          cases t <;> simp only [VB] at hk2
          case false => (conv => whnf); exact ⟨hE, (MsgV.yes hc1 hc2 hc3 hc4 hc5 hc6 hc7 (by simp only [MsgV.c8, if_pos hz, decide_eq_true_eq]; omega)).symm⟩
          conv => whnf
          exact ⟨hE, (MsgV.yes hc1 hc2 hc3 hc4 hc5 hc6 hc7 (by simp only [MsgV.c8, if_pos hz, decide_eq_true_eq]; simp only [VB] at href; omega)).symm⟩
        conv => whnf
        refine ⟨[.int .i64 m.refT, .int .i64 m.refS], rfl, lds h4 rfl rfl, ?_⟩
        conv => whnf
        refine (fn62' _ _ _ _ _ _ h3).mono ?_
        rintro _ W3 ⟨t, he3, hmay, rfl⟩
        replace h4 := he3.at_ h4
        replace hE : Ext w W3 := hE.tr he3
        cases t <;> simp only [VB] at hmay
        case false => (conv => whnf); exact ⟨hE, (MsgV.no8 (by simp only [MsgV.c8, if_neg hz, hl, Bool.and_eq_false_iff]; exact .inl (by simpa using hmay))).symm⟩
        conv => whnf
        refine ⟨_, ld h4 rfl rfl, ?_⟩
        conv => whnf
        intro t hk3
        cases t <;> simp only [VB] at hk3
        case false => (conv => whnf); exact ⟨hE, (MsgV.yes hc1 hc2 hc3 hc4 hc5 hc6 hc7 (by simp only [MsgV.c8, if_neg hz, hl, hmay, Bool.true_and, decide_eq_true_eq]; omega)).symm⟩
        conv => whnf
        refine ⟨_, ld h4 rfl rfl, ?_⟩
        conv => whnf
        refine ⟨_, ld h4 rfl rfl, ?_⟩
        conv => whnf
        intro t hk4
        cases t <;> simp only [VB] at hk4 <;> (conv => whnf)
        case true => exact ⟨hE, (MsgV.no8 (by simp only [MsgV.c8, if_neg hz, hl, hmay, Bool.true_and, decide_eq_false_iff_not]; omega)).symm⟩
        exact ⟨hE, (MsgV.yes hc1 hc2 hc3 hc4 hc5 hc6 hc7 (by simp only [MsgV.c8, if_neg hz, hl, hmay, Bool.true_and, decide_eq_true_eq]; omega)).symm⟩
    case true =>
      conv => whnf
      refine ⟨_, ld h4 rfl rfl, ?_⟩
      conv => whnf
      refine (fn67' _ _).mono ?_
      rintro _ _ ⟨t, rfl, hr2, rfl⟩
      cases t <;> simp only [VB] at hr2
      case false => (conv => whnf); exact ⟨hE, (MsgV.no6 (by rw [c6b rfl]; simpa using hr2)).symm⟩
      have hc6 : m.c6 = true := by rw [c6b rfl]; exact hr2
      cases ref
      case true =>
        have hc7 := c7y1 rfl
        conv => whnf
        refine ⟨[.int .i64 m.refT, .int .i64 m.refS], rfl, lds h4 rfl rfl, ?_⟩
        conv => whnf
        refine ⟨[.int .i64 0, .int .i64 0], rfl, lds h6 rfl rfl, ?_⟩
        conv => whnf
        refine ⟨_, fun xo yo w => eql37 _ _ _ _ xo yo w, ?_⟩
        intro t hz
        replace hz := vb_eq hz
        cases t <;> simp only [VB] at hz
        case true =>
          conv => whnf
          refine ⟨_, ld h4 rfl rfl, ?_⟩
          conv => whnf
          intro t hk1
          cases t <;> simp only [VB] at hk1
          case false => (conv => whnf); exact ⟨hE, (MsgV.yes hc1 hc2 hc3 hc4 hc5 hc6 hc7 (by simp only [MsgV.c8, if_pos hz, decide_eq_true_eq]; omega)).symm⟩
          conv => whnf
          refine ⟨_, ld h4 rfl rfl, ?_⟩
          conv => whnf
          intro t hk2
          cases t <;> simp only [VB] at hk2
          case false => (conv => whnf); exact ⟨hE, (MsgV.yes hc1 hc2 hc3 hc4 hc5 hc6 hc7 (by simp only [MsgV.c8, if_pos hz, decide_eq_true_eq]; omega)).symm⟩
          conv => whnf
          exact ⟨hE, (MsgV.no8 (by simp only [MsgV.c8, if_pos hz, decide_eq_false_iff_not]; simp only [VB] at href; omega)).symm⟩
        conv => whnf
        refine ⟨[.int .i64 m.refT, .int .i64 m.refS], rfl, lds h4 rfl rfl, ?_⟩
        conv => whnf
        refine (fn62' _ _ _ _ _ _ h3).mono ?_
        rintro _ W3 ⟨t, he3, hmay, rfl⟩
        replace h4 := he3.at_ h4
        replace hE : Ext w W3 := hE.tr he3
        cases t <;> simp only [VB] at hmay
        case false => (conv => whnf); exact ⟨hE, (MsgV.no8 (by simp only [MsgV.c8, if_neg hz, hl, Bool.and_eq_false_iff]; exact .inl (by simpa using hmay))).symm⟩
        conv => whnf
        refine ⟨_, ld h4 rfl rfl, ?_⟩
        conv => whnf
        intro t hk3
        cases t <;> simp only [VB] at hk3
        case false => (conv => whnf); exact ⟨hE, (MsgV.yes hc1 hc2 hc3 hc4 hc5 hc6 hc7 (by simp only [MsgV.c8, if_neg hz, hl, hmay, Bool.true_and, decide_eq_true_eq]; omega)).symm⟩
        conv => whnf
        refine ⟨_, ld h4 rfl rfl, ?_⟩
        conv => whnf
        refine ⟨_, ld h4 rfl rfl, ?_⟩
        conv => whnf
        intro t hk4
        cases t <;> simp only [VB] at hk4 <;> (conv => whnf)
        case true => exact ⟨hE, (MsgV.no8 (by simp only [MsgV.c8, if_neg hz, hl, hmay, Bool.true_and, decide_eq_false_iff_not]; omega)).symm⟩
        exact ⟨hE, (MsgV.yes hc1 hc2 hc3 hc4 hc5 hc6 hc7 (by simp only [MsgV.c8, if_neg hz, hl, hmay, Bool.true_and, decide_eq_true_eq]; omega)).symm⟩
      case false =>
        conv => whnf
        refine ⟨[.int .i64 m.refT, .int .i64 m.refS], rfl, lds h4 rfl rfl, ?_⟩
        conv => whnf
        refine ⟨[.int .i64 0, .int .i64 0], rfl, lds h6 rfl rfl, ?_⟩
        conv => whnf
        refine ⟨_, fun xo yo w => neq37 _ _ _ _ xo yo w, ?_⟩
        intro t hz0
        replace hz0 := vb_neq hz0
        cases t <;> simp only [VB] at hz0 <;> (conv => whnf)
        case true => exact ⟨hE, (MsgV.no7 (c7n rfl hz0)).symm⟩
        have hc7 := c7y rfl (Classical.not_not.1 hz0)
        refine ⟨[.int .i64 m.refT, .int .i64 m.refS], rfl, lds h4 rfl rfl, ?_⟩
        conv => whnf
        refine ⟨[.int .i64 0, .int .i64 0], rfl, lds h6 rfl rfl, ?_⟩
        conv => whnf
        refine ⟨_, fun xo yo w => eql37 _ _ _ _ xo yo w, ?_⟩
        intro t hz
        replace hz := vb_eq hz
        cases t <;> simp only [VB] at hz
        case true =>
          conv => whnf
          refine ⟨_, ld h4 rfl rfl, ?_⟩
          conv => whnf
          intro t hk1
          cases t <;> simp only [VB] at hk1
          case false => (conv => whnf); exact ⟨hE, (MsgV.yes hc1 hc2 hc3 hc4 hc5 hc6 hc7 (by simp only [MsgV.c8, if_pos hz, decide_eq_true_eq]; omega)).symm⟩
          conv => whnf
          refine ⟨_, ld h4 rfl rfl, ?_⟩
          conv => whnf
          intro t hk2
          cases t <;> simp only [VB] at hk2
          case false => (conv => whnf); exact ⟨hE, (MsgV.yes hc1 hc2 hc3 hc4 hc5 hc6 hc7 (by simp only [MsgV.c8, if_pos hz, decide_eq_true_eq]; omega)).symm⟩
          conv => whnf
          exact ⟨hE, (MsgV.yes hc1 hc2 hc3 hc4 hc5 hc6 hc7 (by simp only [MsgV.c8, if_pos hz, decide_eq_true_eq]; simp only [VB] at href; omega)).symm⟩
        conv => whnf
        refine ⟨[.int .i64 m.refT, .int .i64 m.refS], rfl, lds h4 rfl rfl, ?_⟩
        conv => whnf
        refine (fn62' _ _ _ _ _ _ h3).mono ?_
        rintro _ W3 ⟨t, he3, hmay, rfl⟩
        replace h4 := he3.at_ h4
        replace hE : Ext w W3 := hE.tr he3
        cases t <;> simp only [VB] at hmay
        case false => (conv => whnf); exact ⟨hE, (MsgV.no8 (by simp only [MsgV.c8, if_neg hz, hl, Bool.and_eq_false_iff]; exact .inl (by simpa using hmay))).symm⟩
        conv => whnf
        refine ⟨_, ld h4 rfl rfl, ?_⟩
        conv => whnf
        intro t hk3
        cases t <;> simp only [VB] at hk3
        case false => (conv => whnf); exact ⟨hE, (MsgV.yes hc1 hc2 hc3 hc4 hc5 hc6 hc7 (by simp only [MsgV.c8, if_neg hz, hl, hmay, Bool.true_and, decide_eq_true_eq]; omega)).symm⟩
        conv => whnf
        refine ⟨_, ld h4 rfl rfl, ?_⟩
        conv => whnf
        refine ⟨_, ld h4 rfl rfl, ?_⟩
        conv => whnf
        intro t hk4
        cases t <;> simp only [VB] at hk4 <;> (conv => whnf)
        case true => exact ⟨hE, (MsgV.no8 (by simp only [MsgV.c8, if_neg hz, hl, hmay, Bool.true_and, decide_eq_false_iff_not]; omega)).symm⟩
        exact ⟨hE, (MsgV.yes hc1 hc2 hc3 hc4 hc5 hc6 hc7 (by simp only [MsgV.c8, if_neg hz, hl, hmay, Bool.true_and, decide_eq_true_eq]; omega)).symm⟩
  case true =>
    conv => whnf
    refine ⟨[.int .i64 m.idT, .int .i64 m.idS], rfl, lds h4 rfl rfl, ?_⟩
    conv => whnf
    refine (fn62' _ _ _ _ _ _ h3).mono ?_
    rintro _ W2 ⟨t, he2, hi, rfl⟩
    replace hb := he2.at_ hb
    replace h3 := he2.at_ h3
    replace h4 := he2.at_ h4
    replace h6 := he2.at_ h6
    replace hE : Ext w W2 := hE.tr he2
    cases t <;> simp only [VB] at hi
    case false => (conv => whnf); exact ⟨hE, (MsgV.no5 (c5n1 rfl (fun e => hi e.1))).symm⟩
    conv => whnf
    refine ⟨_, ld h4 rfl rfl, ?_⟩
    conv => whnf
    refine ⟨_, ld hb rfl rfl, ?_⟩
    conv => whnf
    intro t hi2
    cases t <;> simp only [VB] at hi2
    case true => (conv => whnf); exact ⟨hE, (MsgV.no5 (c5n1 rfl (fun e => hi2 e.2))).symm⟩
    have hc5 := c5y1 rfl ⟨hi, Classical.not_not.1 hi2⟩
    cases rn
    case false =>
      conv => whnf
      refine ⟨_, ld h4 rfl rfl, ?_⟩
      conv => whnf
      intro t hr2
      cases t <;> simp only [VB] at hr2
      case true => (conv => whnf); exact ⟨hE, (MsgV.no6 (c6n rfl hr2)).symm⟩
      have hc6 : m.c6 = true := c6y rfl (Classical.not_not.1 hr2)
      cases ref
      case true =>
        have hc7 := c7y1 rfl
        conv => whnf
        refine ⟨[.int .i64 m.refT, .int .i64 m.refS], rfl, lds h4 rfl rfl, ?_⟩
        conv => whnf
        refine ⟨[.int .i64 0, .int .i64 0], rfl, lds h6 rfl rfl, ?_⟩
        conv => whnf
        refine ⟨_, fun xo yo w => eql37 _ _ _ _ xo yo w, ?_⟩
        intro t hz
        replace hz := vb_eq hz
        cases t <;> simp only [VB] at hz
        case true =>
          conv => whnf
          refine ⟨_, ld h4 rfl rfl, ?_⟩
          conv => whnf
          intro t hk1
          cases t <;> simp only [VB] at hk1
          case false => (conv => whnf); exact ⟨hE, (MsgV.yes hc1 hc2 hc3 hc4 hc5 hc6 hc7 (by simp only [MsgV.c8, if_pos hz, decide_eq_true_eq]; omega)).symm⟩
          conv => whnf
          refine ⟨_, ld h4 rfl rfl, ?_⟩
          conv => whnf
          intro t hk2
          cases t <;> simp only [VB] at hk2
          case false => (conv => whnf); exact ⟨hE, (MsgV.yes hc1 hc2 hc3 hc4 hc5 hc6 hc7 (by simp only [MsgV.c8, if_pos hz, decide_eq_true_eq]; omega)).symm⟩
          conv => whnf
          exact ⟨hE, (MsgV.no8 (by simp only [MsgV.c8, if_pos hz, decide_eq_false_iff_not]; simp only [VB] at href; omega)).symm⟩
        conv => whnf
        refine ⟨[.int .i64 m.refT, .int .i64 m.refS], rfl, lds h4 rfl rfl, ?_⟩
        conv => whnf
        refine (fn62' _ _ _ _ _ _ h3).mono ?_
        rintro _ W3 ⟨t, he3, hmay, rfl⟩
        replace h4 := he3.at_ h4
        replace hE : Ext w W3 := hE.tr he3
        cases t <;> simp only [VB] at hmay
        case false => (conv => whnf); exact ⟨hE, (MsgV.no8 (by simp only [MsgV.c8, if_neg hz, hl, Bool.and_eq_false_iff]; exact .inl (by simpa using hmay))).symm⟩
        conv => whnf
        refine ⟨_, ld h4 rfl rfl, ?_⟩
        conv => whnf
        intro t hk3
        cases t <;> simp only [VB] at hk3
        case false => (conv => whnf); exact ⟨hE, (MsgV.yes hc1 hc2 hc3 hc4 hc5 hc6 hc7 (by simp only [MsgV.c8, if_neg hz, hl, hmay, Bool.true_and, decide_eq_true_eq]; omega)).symm⟩
        conv => whnf
        refine ⟨_, ld h4 rfl rfl, ?_⟩
        conv => whnf
        refine ⟨_, ld h4 rfl rfl, ?_⟩
        conv => whnf
        intro t hk4
        cases t <;> simp only [VB] at hk4 <;> (conv => whnf)
        case true => exact ⟨hE, (MsgV.no8 (by simp only [MsgV.c8, if_neg hz, hl, hmay, Bool.true_and, decide_eq_false_iff_not]; omega)).symm⟩
        exact ⟨hE, (MsgV.yes hc1 hc2 hc3 hc4 hc5 hc6 hc7 (by simp only [MsgV.c8, if_neg hz, hl, hmay, Bool.true_and, decide_eq_true_eq]; omega)).symm⟩
      case false =>
        conv => whnf
        refine ⟨[.int .i64 m.refT, .int .i64 m.refS], rfl, lds h4 rfl rfl, ?_⟩
        conv => whnf
        refine ⟨[.int .i64 0, .int .i64 0], rfl, lds h6 rfl rfl, ?_⟩
        conv => whnf
        refine ⟨_, fun xo yo w => neq37 _ _ _ _ xo yo w, ?_⟩
        intro t hz0
        replace hz0 := vb_neq hz0
        cases t <;> simp only [VB] at hz0 <;> (conv => whnf)
        case true => exact ⟨hE, (MsgV.no7 (c7n rfl hz0)).symm⟩
        have hc7 := c7y rfl (Classical.not_not.1 hz0)
        refine ⟨[.int .i64 m.refT, .int .i64 m.refS], rfl, lds h4 rfl rfl, ?_⟩
        conv => whnf
        refine ⟨[.int .i64 0, .int .i64 0], rfl, lds h6 rfl rfl, ?_⟩
        conv => whnf
        refine ⟨_, fun xo yo w => eql37 _ _ _ _ xo yo w, ?_⟩
        intro t hz
        replace hz := vb_eq hz
        cases t <;> simp only [VB] at hz
        case true =>
          conv => whnf
          refine ⟨_, ld h4 rfl rfl, ?_⟩
          conv => whnf
          intro t hk1
          cases t <;> simp only [VB] at hk1
          case false => (conv => whnf); exact ⟨hE, (MsgV.yes hc1 hc2 hc3 hc4 hc5 hc6 hc7 (by simp only [MsgV.c8, if_pos hz, decide_eq_true_eq]; omega)).symm⟩
          conv => whnf
          refine ⟨_, ld h4 rfl rfl, ?_⟩
          conv => whnf
          intro t hk2
          cases t <;> simp only [VB] at hk2
          case false => (conv => whnf); exact ⟨hE, (MsgV.yes hc1 hc2 hc3 hc4 hc5 hc6 hc7 (by simp only [MsgV.c8, if_pos hz, decide_eq_true_eq]; omega)).symm⟩
          conv => whnf
          exact ⟨hE, (MsgV.yes hc1 hc2 hc3 hc4 hc5 hc6 hc7 (by simp only [MsgV.c8, if_pos hz, decide_eq_true_eq]; simp only [VB] at href; omega)).symm⟩
        conv => whnf
        refine ⟨[.int .i64 m.refT, .int .i64 m.refS], rfl, lds h4 rfl rfl, ?_⟩
        conv => whnf
        refine (fn62' _ _ _ _ _ _ h3).mono ?_
        rintro _ W3 ⟨t, he3, hmay, rfl⟩
        replace h4 := he3.at_ h4
        replace hE : Ext w W3 := hE.tr he3
        cases t <;> simp only [VB] at hmay
        case false => (conv => whnf); exact ⟨hE, (MsgV.no8 (by simp only [MsgV.c8, if_neg hz, hl, Bool.and_eq_false_iff]; exact .inl (by simpa using hmay))).symm⟩
        conv => whnf
        refine ⟨_, ld h4 rfl rfl, ?_⟩
        conv => whnf
        intro t hk3
        cases t <;> simp only [VB] at hk3
        case false => (conv => whnf); exact ⟨hE, (MsgV.yes hc1 hc2 hc3 hc4 hc5 hc6 hc7 (by simp only [MsgV.c8, if_neg hz, hl, hmay, Bool.true_and, decide_eq_true_eq]; omega)).symm⟩
        conv => whnf
        refine ⟨_, ld h4 rfl rfl, ?_⟩
        conv => whnf
        refine ⟨_, ld h4 rfl rfl, ?_⟩
        conv => whnf
        intro t hk4
        cases t <;> simp only [VB] at hk4 <;> (conv => whnf)
        case true => exact ⟨hE, (MsgV.no8 (by simp only [MsgV.c8, if_neg hz, hl, hmay, Bool.true_and, decide_eq_false_iff_not]; omega)).symm⟩
        exact ⟨hE, (MsgV.yes hc1 hc2 hc3 hc4 hc5 hc6 hc7 (by simp only [MsgV.c8, if_neg hz, hl, hmay, Bool.true_and, decide_eq_true_eq]; omega)).symm⟩
    case true =>
      conv => whnf
      refine ⟨_, ld h4 rfl rfl, ?_⟩
      conv => whnf
      refine (fn67' _ _).mono ?_
      rintro _ _ ⟨t, rfl, hr2, rfl⟩
      cases t <;> simp only [VB] at hr2
      case false => (conv => whnf); exact ⟨hE, (MsgV.no6 (by rw [c6b rfl]; simpa using hr2)).symm⟩
      have hc6 : m.c6 = true := by rw [c6b rfl]; exact hr2
      cases ref
      case true =>
        have hc7 := c7y1 rfl
        conv => whnf
        refine ⟨[.int .i64 m.refT, .int .i64 m.refS], rfl, lds h4 rfl rfl, ?_⟩
        conv => whnf
        refine ⟨[.int .i64 0, .int .i64 0], rfl, lds h6 rfl rfl, ?_⟩
        conv => whnf
        refine ⟨_, fun xo yo w => eql37 _ _ _ _ xo yo w, ?_⟩
        intro t hz
        replace hz := vb_eq hz
        cases t <;> simp only [VB] at hz
        case true =>
          conv => whnf
          refine ⟨_, ld h4 rfl rfl, ?_⟩
          conv => whnf
          intro t hk1
          cases t <;> simp only [VB] at hk1
          case false => (conv => whnf); exact ⟨hE, (MsgV.yes hc1 hc2 hc3 hc4 hc5 hc6 hc7 (by simp only [MsgV.c8, if_pos hz, decide_eq_true_eq]; omega)).symm⟩
          conv => whnf
          refine ⟨_, ld h4 rfl rfl, ?_⟩
          conv => whnf
          intro t hk2
          cases t <;> simp only [VB] at hk2
          case false => (conv => whnf); exact ⟨hE, (MsgV.yes hc1 hc2 hc3 hc4 hc5 hc6 hc7 (by simp only [MsgV.c8, if_pos hz, decide_eq_true_eq]; omega)).symm⟩
          conv => whnf
          exact ⟨hE, (MsgV.no8 (by simp only [MsgV.c8, if_pos hz, decide_eq_false_iff_not]; simp only [VB] at href; omega)).symm⟩
        conv => whnf
        refine ⟨[.int .i64 m.refT, .int .i64 m.refS], rfl, lds h4 rfl rfl, ?_⟩
        conv => whnf
        refine (fn62' _ _ _ _ _ _ h3).mono ?_
        rintro _ W3 ⟨t, he3, hmay, rfl⟩
        replace h4 := he3.at_ h4
        replace hE : Ext w W3 := hE.tr he3
        cases t <;> simp only [VB] at hmay
        case false => (conv => whnf); exact ⟨hE, (MsgV.no8 (by simp only [MsgV.c8, if_neg hz, hl, Bool.and_eq_false_iff]; exact .inl (by simpa using hmay))).symm⟩
        conv => whnf
        refine ⟨_, ld h4 rfl rfl, ?_⟩
        conv => whnf
        intro t hk3
        cases t <;> simp only [VB] at hk3
        case false => (conv => whnf); exact ⟨hE, (MsgV.yes hc1 hc2 hc3 hc4 hc5 hc6 hc7 (by simp only [MsgV.c8, if_neg hz, hl, hmay, Bool.true_and, decide_eq_true_eq]; omega)).symm⟩
        conv => whnf
        refine ⟨_, ld h4 rfl rfl, ?_⟩
        conv => whnf
        refine ⟨_, ld h4 rfl rfl, ?_⟩
        conv => whnf
        intro t hk4
        cases t <;> simp only [VB] at hk4 <;> (conv => whnf)
        case true => exact ⟨hE, (MsgV.no8 (by simp only [MsgV.c8, if_neg hz, hl, hmay, Bool.true_and, decide_eq_false_iff_not]; omega)).symm⟩
        exact ⟨hE, (MsgV.yes hc1 hc2 hc3 hc4 hc5 hc6 hc7 (by simp only [MsgV.c8, if_neg hz, hl, hmay, Bool.true_and, decide_eq_true_eq]; omega)).symm⟩
      case false =>
        conv => whnf
        refine ⟨[.int .i64 m.refT, .int .i64 m.refS], rfl, lds h4 rfl rfl, ?_⟩
        conv => whnf
        refine ⟨[.int .i64 0, .int .i64 0], rfl, lds h6 rfl rfl, ?_⟩
        conv => whnf
        refine ⟨_, fun xo yo w => neq37 _ _ _ _ xo yo w, ?_⟩
        intro t hz0
        replace hz0 := vb_neq hz0
        cases t <;> simp only [VB] at hz0 <;> (conv => whnf)
        case true => exact ⟨hE, (MsgV.no7 (c7n rfl hz0)).symm⟩
        have hc7 := c7y rfl (Classical.not_not.1 hz0)
        refine ⟨[.int .i64 m.refT, .int .i64 m.refS], rfl, lds h4 rfl rfl, ?_⟩
        conv => whnf
        refine ⟨[.int .i64 0, .int .i64 0], rfl, lds h6 rfl rfl, ?_⟩
        conv => whnf
        refine ⟨_, fun xo yo w => eql37 _ _ _ _ xo yo w, ?_⟩
        intro t hz
        replace hz := vb_eq hz
        cases t <;> simp only [VB] at hz
        case true =>
          conv => whnf
          refine ⟨_, ld h4 rfl rfl, ?_⟩
          conv => whnf
          intro t hk1
          cases t <;> simp only [VB] at hk1
          case false => (conv => whnf); exact ⟨hE, (MsgV.yes hc1 hc2 hc3 hc4 hc5 hc6 hc7 (by simp only [MsgV.c8, if_pos hz, decide_eq_true_eq]; omega)).symm⟩
          conv => whnf
          refine ⟨_, ld h4 rfl rfl, ?_⟩
          conv => whnf
          intro t hk2
          cases t <;> simp only [VB] at hk2
          case false => (conv => whnf); exact ⟨hE, (MsgV.yes hc1 hc2 hc3 hc4 hc5 hc6 hc7 (by simp only [MsgV.c8, if_pos hz, decide_eq_true_eq]; omega)).symm⟩
          conv => whnf
          exact ⟨hE, (MsgV.yes hc1 hc2 hc3 hc4 hc5 hc6 hc7 (by simp only [MsgV.c8, if_pos hz, decide_eq_true_eq]; simp only [VB] at href; omega)).symm⟩
        conv => whnf
        refine ⟨[.int .i64 m.refT, .int .i64 m.refS], rfl, lds h4 rfl rfl, ?_⟩
        conv => whnf
        refine (fn62' _ _ _ _ _ _ h3).mono ?_
        rintro _ W3 ⟨t, he3, hmay, rfl⟩
        replace h4 := he3.at_ h4
        replace hE : Ext w W3 := hE.tr he3
        cases t <;> simp only [VB] at hmay
        case false => (conv => whnf); exact ⟨hE, (MsgV.no8 (by simp only [MsgV.c8, if_neg hz, hl, Bool.and_eq_false_iff]; exact .inl (by simpa using hmay))).symm⟩
        conv => whnf
        refine ⟨_, ld h4 rfl rfl, ?_⟩
        conv => whnf
        intro t hk3
        cases t <;> simp only [VB] at hk3
        case false => (conv => whnf); exact ⟨hE, (MsgV.yes hc1 hc2 hc3 hc4 hc5 hc6 hc7 (by simp only [MsgV.c8, if_neg hz, hl, hmay, Bool.true_and, decide_eq_true_eq]; omega)).symm⟩
        conv => whnf
        refine ⟨_, ld h4 rfl rfl, ?_⟩
        conv => whnf
        refine ⟨_, ld h4 rfl rfl, ?_⟩
        conv => whnf
        intro t hk4
        cases t <;> simp only [VB] at hk4 <;> (conv => whnf)
        case true => exact ⟨hE, (MsgV.no8 (by simp only [MsgV.c8, if_neg hz, hl, hmay, Bool.true_and, decide_eq_false_iff_not]; omega)).symm⟩
        exact ⟨hE, (MsgV.yes hc1 hc2 hc3 hc4 hc5 hc6 hc7 (by simp only [MsgV.c8, if_neg hz, hl, hmay, Bool.true_and, decide_eq_true_eq]; omega)).symm⟩
end Go.Proofs.Ytgcelfplgfloaaa
