/- A calculus of verification conditions over the model's own code, of this session's making: 'vc' reckons, by plain recursion over the code, what is to be shown of values and worlds; 'calls_of_vc' says that this is enough. No program in it. -/
import Derived.Calls
import Derived.Orders
import Derived.OrdersHeld
import Derived.Tactics
import Derived.WalkKit
import Derived.Below
import Derived.KernelRfl
import Derived.OrdersIn
import Derived.TacticsIn
import Derived.RangeFuncIn
import Derived.RangeFuncRecord
import Derived.RangeFuncLeaves
namespace Go.VC
open Go.RowKit
set_option linter.unusedVariables false
set_option linter.unusedSimpArgs false

/-! ### Frames -/
abbrev Fr := Nat → Value
abbrev Env := List (Nat × Value)

def den : Env → Fr → Fr
  | [], j => j
  | (d, v) :: r, j => fun k => bif Nat.beq d k then v else den r j k

noncomputable def lookK (env : Env) (j : Fr) (t : Nat) (K : Value → Prop) : Prop :=
  List.rec (motive := fun _ => Prop) (K (j t)) (fun p _ ih => Prod.rec (motive := fun _ => Prop) (fun d v => bif Nat.beq d t then K v else ih) p) env
theorem lookK_nil (j : Fr) (t : Nat) (K : Value → Prop) : lookK [] j t K = K (j t) := rfl
theorem lookK_cons (d : Nat) (v : Value) (r : Env) (j : Fr) (t : Nat) (K : Value → Prop) : lookK ((d, v) :: r) j t K = bif Nat.beq d t then K v else lookK r j t K := rfl

theorem lookK_eq (env : Env) (j : Fr) (t : Nat) (K : Value → Prop) : lookK env j t K = K (den env j t) := by
  induction env with
  | nil => rfl
  | cons p r ih =>
    obtain ⟨d, v⟩ := p
    simp only [lookK_cons, den]
    cases Nat.beq d t <;> simp [ih]

noncomputable def delK (env : Env) (d : Nat) : (Env → Prop) → Prop :=
  List.rec (motive := fun _ => (Env → Prop) → Prop) (fun K => K []) (fun p _ ih K => Prod.rec (motive := fun _ => Prop) (fun d' v' => bif Nat.beq d' d then ih K else ih (fun r' => K ((d', v') :: r'))) p) env
theorem delK_cons (d' : Nat) (v' : Value) (r : Env) (d : Nat) (K : Env → Prop) : delK ((d', v') :: r) d K = bif Nat.beq d' d then delK r d K else delK r d (fun r' => K ((d', v') :: r')) := rfl

def del : Env → Nat → Env
  | [], _ => []
  | (d', v') :: r, d => bif Nat.beq d' d then del r d else (d', v') :: del r d

theorem delK_eq (env : Env) (d : Nat) : ∀ (K : Env → Prop), delK env d K = K (del env d) := by
  induction env with
  | nil => intro K; rfl
  | cons p r ih =>
    intro K
    obtain ⟨d', v'⟩ := p
    simp only [delK_cons, del]
    cases Nat.beq d' d <;> simp [ih]

def putF (l : Fr) (d : Nat) (v : Value) : Fr := fun k => bif Nat.beq d k then v else l k

theorem den_del (env : Env) (j : Fr) (d : Nat) (v : Value) : putF (den (del env d) j) d v = putF (den env j) d v := by
  funext k
  induction env with
  | nil => rfl
  | cons p r ih =>
    obtain ⟨d', v'⟩ := p
    simp only [del, putF] at *
    cases h : Nat.beq d k
    · simp only [h, cond_false] at ih ⊢
      cases h' : Nat.beq d' d
      · simp only [cond_false, den]; rw [ih]
      · simp only [cond_true, den]; rw [ih]
        have : Nat.beq d' k = false := by
          have e : d' = d := Nat.eq_of_beq_eq_true h'
          rw [e]; exact h
        simp [this]
    · simp

noncomputable def putK (env : Env) (d : Nat) (v : Value) (K : Env → Prop) : Prop := delK env d (fun r => K ((d, v) :: r))
theorem putK_eq (env : Env) (d : Nat) (v : Value) (K : Env → Prop) : putK env d v K = K ((d, v) :: del env d) := delK_eq _ _ _
theorem den_put (env : Env) (j : Fr) (d : Nat) (v : Value) : den ((d, v) :: del env d) j = putF (den env j) d v := by
  rw [← den_del]; rfl

def evF (l : Fr) : Operand → Value
  | .tmp t => l t
  | .const v => v
  | .global g => .pointer (some ⟨g, 0, none⟩)
  | .func f => .func (.func f) #[] #[]

noncomputable def evK (env : Env) (j : Fr) (x : Operand) (K : Value → Prop) : Prop :=
  match x with
  | .tmp t => lookK env j t K
  | .const v => K v
  | .global g => K (.pointer (some ⟨g, 0, none⟩))
  | .func f => K (.func (.func f) #[] #[])
theorem evK_eq (env : Env) (j : Fr) (x : Operand) (K : Value → Prop) : evK env j x K = K (evF (den env j) x) := by
  cases x <;> simp [evK, evF, lookK_eq]

noncomputable def evsK (env : Env) (j : Fr) (xs : List Operand) : (List Value → Prop) → Prop :=
  List.rec (motive := fun _ => (List Value → Prop) → Prop) (fun K => K []) (fun x _ ih K => evK env j x (fun v => ih (fun vs => K (v :: vs)))) xs
theorem evsK_cons (env : Env) (j : Fr) (x : Operand) (xs : List Operand) (K : List Value → Prop) : evsK env j (x :: xs) K = evK env j x (fun v => evsK env j xs (fun vs => K (v :: vs))) := rfl
theorem evsK_eq (env : Env) (j : Fr) (xs : List Operand) : ∀ (K : List Value → Prop), evsK env j xs K = K (xs.map (evF (den env j))) := by
  induction xs with
  | nil => intro K; rfl
  | cons x xs ih => intro K; simp [evsK_cons, evK_eq, ih]

/-- The frame 'a' of n slots holds what 'l' says; its deferred calls are ds. -/
structure Rel (n : Nat) (l : Fr) (ds : List Deferred) (a : Act) : Prop where
  defers : a.defers = ds
  size : a.tmps.size = n
  get : ∀ k, a.tmps.getD k undef = l k

theorem Rel.eval {n : Nat} {l : Fr} {ds : List Deferred} {a : Act} (h : Rel n l ds a) : a.eval = evF l := by
  funext x
  cases x with
  | tmp t => exact h.get t
  | _ => rfl

theorem Rel.put {n : Nat} {l : Fr} {ds : List Deferred} {a : Act} (h : Rel n l ds a) {d : Nat} (hd : d < n) (v : Value) : Rel n (putF l d v) ds (a.put (some d) v) := by
  refine ⟨h.defers, by simp [Act.put, h.size], fun k => ?_⟩
  have hg := h.get k
  have hs := h.size
  by_cases e : d = k
  · subst e
    simp [Act.put, putF, hs, hd]
  · have hb : Nat.beq d k = false := by
      cases hb : Nat.beq d k with
      | false => rfl
      | true => exact absurd (Nat.eq_of_beq_eq_true hb) e
    simp only [Act.put, putF, hb, cond_false]
    rw [← hg]
    simp [Array.getElem?_setIfInBounds_ne e]

/-! ### Types -/
structure Ty where
  desc : TypeDesc
  size : Nat
  zero : Option Value := none
abbrev Tab := List (Nat × Ty)
noncomputable def tyK (T : Tab) (t : Nat) (K : Ty → Prop) : Prop :=
  List.rec (motive := fun _ => Prop) False (fun p _ ih => Prod.rec (motive := fun _ => Prop) (fun t' y => bif Nat.beq t' t then K y else ih) p) T
theorem tyK_cons (t' : Nat) (y : Ty) (r : Tab) (t : Nat) (K : Ty → Prop) : tyK ((t', y) :: r) t K = bif Nat.beq t' t then K y else tyK r t K := rfl
structure TyOK (P : Program) (t : Nat) (y : Ty) : Prop where
  und : ∀ w, (underlying t).run P w = .ok y.desc w
  size : ∀ w, (sizeOf t).run P w = .ok y.size w
  agg : ∀ w, (isAgg t).run P w = .ok (match y.desc with | .struct _ => true | .array _ _ => true | _ => false) w
  zero : ∀ z, y.zero = some z → ∀ w, (zeroValue t).run P w = .ok z w
def TabOK (P : Program) (T : Tab) : Prop := ∀ p ∈ T, TyOK P p.1 p.2
theorem tyK_out {P : Program} {T : Tab} (hT : TabOK P T) {t : Nat} {K : Ty → Prop} (h : tyK T t K) : ∃ y, TyOK P t y ∧ K y := by
  induction T with
  | nil => exact h.elim
  | cons p r ih =>
    obtain ⟨t', y⟩ := p
    simp only [tyK_cons] at h
    cases hb : Nat.beq t' t
    · rw [hb] at h; exact ih (fun p hp => hT p (List.mem_cons_of_mem _ hp)) h
    · rw [hb] at h
      have e : t' = t := Nat.eq_of_beq_eq_true hb
      subst e
      exact ⟨y, hT _ (List.mem_cons_self ..), h⟩

/-! ### Words for what is to be shown -/
/-- The bool t tells p. -/
def VB (t : Bool) (p : Prop) : Prop := match t with | true => p | false => ¬ p
theorem VB.mk (p : Prop) [Decidable p] : VB (decide p) p := by
  by_cases h : p
  · simp [VB, h]
  · simp [VB, h]
theorem VB.of {t : Bool} {p : Prop} (h : t = true ↔ p) : VB t p := by cases t <;> simp [VB] at * <;> assumption
theorem VB.yes {t : Bool} {p : Prop} (h : VB t p) (hp : p) : t = true := by cases t with | true => rfl | false => exact absurd hp h
theorem VB.no {t : Bool} {p : Prop} (h : VB t p) (hp : ¬ p) : t = false := by cases t with | false => rfl | true => exact absurd h hp
theorem VB.iff {t : Bool} {p : Prop} (h : VB t p) : t = true ↔ p := by cases t <;> simp [VB] at * <;> assumption

abbrev FW : Fence := Fence.wide
/-- One operation, in whatever frame: what stands behind it. -/
def opW (P : Program) (o : Oper) (a : Act) (w : World) (next : Act → World → Prop) (Q : Exit → Act → World → Prop) : Prop := o.uponIn FW 0 P a next Q ((execOp a.eval o).run P w)
/-- A round of a range over a function, asked for by a call of its yield. -/
structure YCall (P : Program) (l : Nat) (args : Array Value) (w : World) (K : Value → World → Prop) : Prop where
  out : ∃ f tmps assign body w1, (Instr.yield l args).run P w = .ok (.round l f tmps assign body) w1 ∧ RoundIn FW 0 P l f tmps assign body w1 (fun e w' => ∃ v, e = .returned v ∧ K v w')
theorem YCall.mono {P : Program} {l : Nat} {args : Array Value} {w : World} {K K' : Value → World → Prop} (h : YCall P l args w K) (hk : ∀ v w', K v w' → K' v w') : YCall P l args w K' := by
  obtain ⟨f, tmps, assign, body, w1, h1, h2⟩ := h.out
  exact ⟨f, tmps, assign, body, w1, h1, h2.mono fun e w' ⟨v, e1, hv⟩ => ⟨v, e1, hk _ _ hv⟩⟩
structure Run (P : Program) (s : Sem Value) (w : World) (K : Value → World → Prop) : Prop where
  out : ∃ v w', s.run P w = .ok v w' ∧ K v w'
theorem Run.mk' {P : Program} {s : Sem Value} {w : World} {K : Value → World → Prop} (v : Value) (w' : World) (h : s.run P w = .ok v w') (k : K v w') : Run P s w K := ⟨⟨v, w', h, k⟩⟩
structure RunU (P : Program) (s : Sem Unit) (w : World) (K : World → Prop) : Prop where
  out : ∃ w', s.run P w = .ok () w' ∧ K w'
theorem RunU.mk' {P : Program} {s : Sem Unit} {w : World} {K : World → Prop} (w' : World) (h : s.run P w = .ok () w') (k : K w') : RunU P s w K := ⟨⟨w', h, k⟩⟩
/-- A function, called, returns a value v and comes to a world w' of which Q holds. -/
structure Ret (P : Program) (f : Nat) (args : Array Value) (w : World) (Q : Value → World → Prop) : Prop where
  out : (∃ f', (callFunc f args).run P w = .ok (.enter f' args) w ∧ Calls P f' args w fun e w' => ∃ v, e = .returned v ∧ Q v w') ∨
    (∃ v w', (callFunc f args).run P w = .ok (.value v) w' ∧ Q v w')
theorem Ret.mono {P : Program} {f : Nat} {args : Array Value} {w : World} {Q Q' : Value → World → Prop} (h : Ret P f args w Q) (hq : ∀ v w', Q v w' → Q' v w') : Ret P f args w Q' := by
  obtain ⟨⟨f', he, hc⟩ | ⟨v, w', hr, hv⟩⟩ := h
  · exact ⟨.inl ⟨f', he, hc.mono fun e w' ⟨v, e1, hv⟩ => ⟨v, e1, hq _ _ hv⟩⟩⟩
  · exact ⟨.inr ⟨v, w', hr, hq _ _ hv⟩⟩

def Cells (w : World) (a : Addr) (vs : List Value) : Prop := ∀ i, i < vs.length → w.cell? (a.add i) = some (vs.getD i undef)
def World.putObj (w : World) (b : Nat) (o : Obj) : World := { w with heap := w.heap.setIfInBounds b o }
/-- W is w and one new block more, which holds o. -/
structure New (w : World) (o : Obj) (W : World) : Prop where
  ext : Below w.heap.size w W
  at_ : W.heap[w.heap.size]? = some o
  size : W.heap.size = w.heap.size + 1
theorem New.mk' (w : World) (o : Obj) : New w o (w.alloc o) :=
  ⟨(Below.refl _ _).alloc (Nat.le_refl _) o, by show (w.heap.push o)[w.heap.size]? = some o; simp, by simp⟩
/-- W is w, but block b holds o. -/
structure Put (w : World) (b : Nat) (o : Obj) (W : World) : Prop where
  os : W.os = w.os
  tape : W.tape = w.tape
  output : W.output = w.output
  size : W.heap.size = w.heap.size
  at_ : W.heap[b]? = some o
  ne : ∀ k, k ≠ b → W.heap[k]? = w.heap[k]?
theorem Put.mk' {w : World} {b : Nat} {o1 : Obj} (h : w.heap[b]? = some o1) (o : Obj) : Put w b o (World.putObj w b o) := by
  have hlt : b < w.heap.size := by
    rcases Nat.lt_or_ge b w.heap.size with h1 | h1
    · exact h1
    · rw [Array.getElem?_eq_none h1] at h; cases h
  refine ⟨rfl, rfl, rfl, by simp [World.putObj], by simp [World.putObj, hlt], fun k hk => ?_⟩
  simp only [World.putObj]
  exact Array.getElem?_setIfInBounds_ne (Ne.symm hk)
def setL : List Value → Nat → List Value → List Value
  | l, _, [] => l
  | l, off, v :: vs => setL (l.set off v) (off + 1) vs
def splice (cs : Array Value) (off : Nat) (vs : List Value) : Array Value := (setL cs.toList off vs).toArray
theorem splice_nil (cs : Array Value) (off : Nat) : splice cs off [] = cs := by simp [splice, setL]
theorem splice_cons (cs : Array Value) (off : Nat) (v : Value) (vs : List Value) : splice cs off (v :: vs) = splice (cs.setIfInBounds off v) (off + 1) vs := by simp [splice, setL]

/-! ### Operations that look at no world -/
def kEq : IntKind → IntKind → Bool
  | .i8, .i8 => true | .i16, .i16 => true | .i32, .i32 => true | .i64, .i64 => true
  | .u8, .u8 => true | .u16, .u16 => true | .u32, .u32 => true | .u64, .u64 => true
  | _, _ => false
theorem kEq_eq {a b : IntKind} (h : kEq a b = true) : a = b := by cases a <;> cases b <;> simp [kEq] at h <;> rfl

noncomputable def vint (op : BinOp) (k : IntKind) (a b : Int) (K : Value → Prop) : Prop :=
  match op with
  | .add => ∀ r, r = k.wrap (a + b) → K (.int k r)
  | .sub => ∀ r, r = k.wrap (a - b) → K (.int k r)
  | .mul => ∀ r, r = k.wrap (a * b) → K (.int k r)
  | .quo => b ≠ 0 ∧ ∀ r, r = k.wrap (a.tdiv b) → K (.int k r)
  | .rem => b ≠ 0 ∧ ∀ r, r = a.tmod b → K (.int k r)
  | .and => ∀ r, r = k.wrap ((BitVec.ofInt k.bits a) &&& (BitVec.ofInt k.bits b)).toNat → K (.int k r)
  | .or => ∀ r, r = k.wrap ((BitVec.ofInt k.bits a) ||| (BitVec.ofInt k.bits b)).toNat → K (.int k r)
  | .xor => ∀ r, r = k.wrap ((BitVec.ofInt k.bits a) ^^^ (BitVec.ofInt k.bits b)).toNat → K (.int k r)
  | .andNot => ∀ r, r = k.wrap ((BitVec.ofInt k.bits a) &&& ~~~ (BitVec.ofInt k.bits b)).toNat → K (.int k r)
  | .shl => 0 ≤ b ∧ ∀ r, r = k.wrap (a * 2 ^ (min b.toNat k.bits)) → K (.int k r)
  | .shr => 0 ≤ b ∧ ∀ r, r = a.fdiv (2 ^ (min b.toNat k.bits)) → K (.int k r)
  | .eql => ∀ t, VB t (a = b) → K (.bool t)
  | .neq => ∀ t, VB t (a ≠ b) → K (.bool t)
  | .lss => ∀ t, VB t (a < b) → K (.bool t)
  | .leq => ∀ t, VB t (a ≤ b) → K (.bool t)
  | .gtr => ∀ t, VB t (a > b) → K (.bool t)
  | .geq => ∀ t, VB t (a ≥ b) → K (.bool t)

def isNoneB {α : Type} : Option α → Bool
  | none => true
  | some _ => false

/-- '==' against a nil; of bools; nothing else. -/
noncomputable def veq (d : TypeDesc) (x y : Value) (K : Bool → Prop) : Prop :=
  match d with
  | .bool => match x, y with | .bool a, .bool b => ∀ t, VB t (a = b) → K t | _, _ => False
  | .pointer _ => match x, y with | .pointer a, .pointer none => K (isNoneB a) | .pointer none, .pointer b => K (isNoneB b) | _, _ => False
  | .slice _ => match x, y with | .slice a _ _, .slice none _ _ => K (isNoneB a) | .slice none _ _, .slice b _ _ => K (isNoneB b) | _, _ => False
  | .map _ _ => match x, y with | .map a, .map none => K (isNoneB a) | .map none, .map b => K (isNoneB b) | _, _ => False
  | .func _ _ _ => match x, y with | .nilFunc, .nilFunc => K true | .func _ _ _, .nilFunc => K false | .nilFunc, .func _ _ _ => K false | _, _ => False
  | _ => False

noncomputable def vbin (P : Program) (T : Tab) (op : BinOp) (t : Nat) (x y : Value) (K : Value → Prop) : Prop :=
  match x, y with
  | .int k a, .int k' b => bif kEq k k' then vint op k a b K else False
  | .string a, .string b => match op with | .eql => ∀ t, t = (a.toList == b.toList) → K (.bool t) | .neq => ∀ t, t = !(a.toList == b.toList) → K (.bool t) | .add => (a.size : Int) + b.size ≤ 9223372036854775807 ∧ K (.string (a ++ b)) | _ => False
  | .agg xs, .agg ys => match op with
    | .eql => ∃ r, (∀ (xo yo : Operand) (w : World), (do eqGuard .eql t xo yo (.agg xs) (.agg ys); Go.binOp .eql t (.agg xs) (.agg ys) : Sem Value).run P w = .ok (.bool r) w) ∧ ∀ t, t = r → K (.bool t)
    | .neq => ∃ r, (∀ (xo yo : Operand) (w : World), (do eqGuard .neq t xo yo (.agg xs) (.agg ys); Go.binOp .neq t (.agg xs) (.agg ys) : Sem Value).run P w = .ok (.bool r) w) ∧ ∀ t, t = r → K (.bool t)
    | _ => False
  | x, y => match op with
    | .eql => tyK T t fun d => veq d.desc x y fun r => K (.bool r)
    | .neq => tyK T t fun d => veq d.desc x y fun r => K (.bool !r)
    | _ => False

/-- 'xs[lo:hi]' of a slice (no third index), the bounds given. -/
noncomputable def vsliceK (x : Value) (lo hi : Option Value) (size : Nat) (K : Value → Prop) : Prop :=
  match x with
  | .slice a len cap =>
    match lo, hi with
    | none, none => K (.slice a len cap)
    | some (.int _ l), none => 0 ≤ l ∧ l ≤ len ∧ ∀ n : Nat, (n : Int) = l → K (.slice (if cap = n then a else a.map (·.add (n * size))) (len - n) (cap - n))
    | none, some (.int _ h) => 0 ≤ h ∧ h ≤ cap ∧ ∀ m : Nat, (m : Int) = h → K (.slice a m cap)
    | some (.int _ l), some (.int _ h) => 0 ≤ l ∧ l ≤ h ∧ h ≤ cap ∧ ∀ n m : Nat, (n : Int) = l → (m : Int) = h → K (.slice (if cap = n then a else a.map (·.add (n * size))) (m - n) (cap - n))
    | _, _ => False
  | _ => False

/-- 'xs[lo:hi:max]' of a slice. -/
noncomputable def vslice3K (x lo hi mx : Value) (size : Nat) (K : Value → Prop) : Prop :=
  match x, lo, hi, mx with
  | .slice a _ cap, .int _ l, .int _ h, .int _ m => 0 ≤ l ∧ l ≤ h ∧ h ≤ m ∧ m ≤ cap ∧ ∀ n p q : Nat, (n : Int) = l → (p : Int) = h → (q : Int) = m → K (.slice (if q = n then a else a.map (·.add (n * size))) (p - n) (q - n))
  | _, _, _, _ => False

def isStruct : TypeDesc → Bool
  | .struct _ => true | .array _ _ => true | _ => false

noncomputable def vpure (P : Program) (T : Tab) (o : Oper) (env : Env) (j : Fr) (K : Value → Prop) : Prop :=
  match o.op with
  | .move x => evK env j x K
  | .assign x => evK env j x K
  | .pick c a b => evK env j c fun v => match v with
    | .bool t => (match t with | true => evK env j a K | false => evK env j b K)
    | _ => False
  | .nilCheck x => evK env j x fun v => match v with
    | .pointer (some a) => K (.pointer (some a))
    | .func (.func f) x y => K (.func (.func f) x y)
    | .func (.yield f) x y => K (.func (.yield f) x y)
    | _ => False
  | .binOp op t x y _ => evK env j x fun x => evK env j y fun y => vbin P T op t x y K
  | .unOp op _ x => evK env j x fun v => match op, v with
    | .not, .bool b => K (.bool !b)
    | .neg, .int k n => ∀ r, r = k.wrap (0 - n) → K (.int k r)
    | _, _ => False
  | .convert s t x => evK env j x fun v => match v with
    | .int k n => tyK T t fun y => tyK T s fun _ => (match y.desc with | .int k' => ∀ r, r = k'.wrap n → K (.int k' r) | _ => False)
    | _ => False
  | .fieldAddr s x f => evK env j x fun v => match v with
    | .pointer (some a) => tyK T s fun y => (match y.desc with
      | .struct fs => (match fs[f]? with
        | some fd => tyK T fd.type fun z => bif Nat.beq z.size 0 then False else K (.pointer (some (a.add fd.offset)))
        | none => False)
      | _ => False)
    | _ => False
  | .field s x f => evK env j x fun v => match v with
    | .agg cs => tyK T s fun y => (match y.desc with
      | .struct fs => (match fs[f]? with
        | some fd => tyK T fd.type fun z => (bif isStruct z.desc then K (.agg (cs.extract fd.offset (fd.offset + z.size))) else (match cs[fd.offset]? with | some u => K u | none => False))
        | none => False)
      | _ => False)
    | _ => False
  | .indexAddr t x i => evK env j x fun x => evK env j i fun i => match x, i with
    | .slice A n c, .int _ i => tyK T t fun y => (match y.desc with
      | .slice e => tyK T e fun z => 0 ≤ i ∧ i < n ∧ ∃ a, A = some a ∧ K (.pointer (some (a.add (i.toNat * z.size))))
      | _ => False)
    | _, _ => False
  | .index t x i => evK env j x fun x => evK env j i fun i => match x, i with
    | .string s, .int _ i => tyK T t fun y => (match y.desc with
      | .string => 0 ≤ i ∧ ∃ h : i.toNat < s.size, K (.int .u8 (s[i.toNat]'h).toNat)
      | _ => False)
    | _, _ => False
  | .extract x i => evK env j x fun v => match v with
    | .tuple vs => (match vs[i]? with | some u => K u | none => False)
    | _ => False
  | .slice t x lo hi mx => evK env j x fun x => tyK T t fun y => (match y.desc, mx with
    | .slice e, none => tyK T e fun z => (match lo, hi with
      | none, none => vsliceK x none none z.size K
      | some l, none => evK env j l fun l => vsliceK x (some l) none z.size K
      | none, some h => evK env j h fun h => vsliceK x none (some h) z.size K
      | some l, some h => evK env j l fun l => evK env j h fun h => vsliceK x (some l) (some h) z.size K)
    | .slice e, some m => tyK T e fun z => (match lo, hi with
      | some l, some h => evK env j l fun l => evK env j h fun h => evK env j m fun m => vslice3K x l h m z.size K
      | _, _ => False)
    | _, _ => False)
  | .makeFunc f fs cs => evsK env j fs.toList fun fs => evsK env j cs.toList fun cs => K (.func f fs.toArray cs.toArray)
  | .makeInterface t x => evK env j x fun v => tyK T t fun y => (match y.desc with | .interface _ => False | _ => K (.iface t v))
  | .call c => match c.callee with
    | .builtin b => evsK env j c.args.toList fun vs => (match b, vs, c.argTypes[0]? with
      | .len, [v], some t => tyK T t fun y => (match y.desc, v with
        | .slice _, .slice _ n _ => K (.int .i64 n)
        | .string, .string s => K (.int .i64 s.size)
        | _, _ => False)
      | .cap, [v], some t => tyK T t fun y => (match y.desc, v with
        | .slice _, .slice _ _ n => K (.int .i64 n)
        | _, _ => False)
      | .min, [.int k a, .int k' b], _ => bif kEq k k' then ∀ r, r = (if b < a then b else a) → K (.int k r) else False
      | .max, [.int k a, .int k' b], _ => bif kEq k k' then ∀ r, r = (if a < b then b else a) → K (.int k r) else False
      | _, _, _ => False)
    | _ => False
  | _ => False


/-! ### vpure is sound -/
section
variable {P : Program} {T : Tab}
theorem add_zero_ (a : Addr) : a.add 0 = a := rfl
theorem map_add_zero (A : Option Addr) : (A.map fun x => x.add 0) = A := by cases A <;> rfl

theorem vint_sound {op : BinOp} {k : IntKind} {a b : Int} {K : Value → Prop} (h : vint op k a b K) (t : Nat) : ∃ v, K v ∧ ∀ w, (Go.binOp op t (.int k a) (.int k b)).run P w = .ok v w := by
  cases op <;> simp only [vint] at h
  case quo => obtain ⟨h0, h⟩ := h; exact ⟨_, h _ rfl, fun w => by simp [Go.binOp, Op.intDiv, h0, Sem.run]⟩
  case rem => obtain ⟨h0, h⟩ := h; exact ⟨_, h _ rfl, fun w => by simp [Go.binOp, Op.intDiv, h0, Sem.run]⟩
  case shl => obtain ⟨h0, h⟩ := h; exact ⟨_, h _ rfl, fun w => by simp [Go.binOp, Op.shift, Int.not_lt.2 h0, Sem.run]⟩
  case shr => obtain ⟨h0, h⟩ := h; exact ⟨_, h _ rfl, fun w => by simp [Go.binOp, Op.shift, Int.not_lt.2 h0, Sem.run]⟩
  case eql => exact ⟨_, h (decide (a = b)) (VB.mk _), fun w => by simp [Go.binOp, Op.intCmp, Sem.run]; rfl⟩
  case neq => exact ⟨_, h (decide (a ≠ b)) (VB.mk _), fun w => by simp [Go.binOp, Op.intCmp, Sem.run, bne]; rfl⟩
  case lss => exact ⟨_, h (decide (a < b)) (VB.mk _), fun w => by simp [Go.binOp, Op.intCmp, Sem.run]⟩
  case leq => exact ⟨_, h (decide (a ≤ b)) (VB.mk _), fun w => by simp [Go.binOp, Op.intCmp, Sem.run]⟩
  case gtr => exact ⟨_, h (decide (a > b)) (VB.mk _), fun w => by simp [Go.binOp, Op.intCmp, Sem.run]⟩
  case geq => exact ⟨_, h (decide (a ≥ b)) (VB.mk _), fun w => by simp [Go.binOp, Op.intCmp, Sem.run]⟩
  all_goals exact ⟨_, h _ rfl, fun w => by simp [Go.binOp, Op.intArith, Op.intBits, Sem.run]⟩

theorem und_run {t : Nat} {y : Ty} (h : TyOK P t y) (w : World) : (underlying t).run P w = .ok y.desc w := h.und w

theorem isNoneB_eq {α : Type} (a : Option α) : isNoneB a = a.isNone := by cases a <;> rfl

theorem veq_sound {t : Nat} {y : Ty} (ht : TyOK P t y) {x z : Value} {K : Bool → Prop} (h : veq y.desc x z K) : ∃ r, K r ∧ ∀ w, (Op.equal t x z).run P w = .ok r w := by
  obtain ⟨d, size, zero⟩ := y
  have hu := ht.und
  simp only at hu h
  have step : ∀ (r : Bool), (∀ n w, (Op.equalIn (n + 1) t x z).run P w = .ok r w) → ∀ w, (Op.equal t x z).run P w = .ok r w := fun r hr w => hr 9999 w
  cases d <;> simp only [veq] at h
  case bool =>
    split at h
    · rename_i a b
      exact ⟨_, h (decide (a = b)) (VB.mk _), step _ fun n w => by simp [Op.equalIn, Sem.run_bind, hu, Sem.run]; rfl⟩
    · exact h.elim
  case pointer =>
    split at h
    · rename_i a
      refine ⟨_, h, step _ fun n w => ?_⟩
      cases a <;> simp [Op.equalIn, Sem.run_bind, hu, Sem.run, isNoneB]
    · rename_i b _
      exact ⟨_, h, step _ fun n w => by simp [Op.equalIn, Sem.run_bind, hu, Sem.run, isNoneB_eq]⟩
    · exact h.elim
  case slice =>
    split at h
    · rename_i a _ _ _ _
      refine ⟨_, h, step _ fun n w => ?_⟩
      cases a <;> simp [Op.equalIn, Sem.run_bind, hu, Sem.run, isNoneB]
    · exact ⟨_, h, step _ fun n w => by simp [Op.equalIn, Sem.run_bind, hu, Sem.run, isNoneB_eq]⟩
    · exact h.elim
  case map =>
    split at h
    · rename_i a
      refine ⟨_, h, step _ fun n w => ?_⟩
      cases a <;> simp [Op.equalIn, Sem.run_bind, hu, Sem.run, isNoneB]
    · exact ⟨_, h, step _ fun n w => by simp [Op.equalIn, Sem.run_bind, hu, Sem.run, isNoneB_eq]⟩
    · exact h.elim
  case func =>
    split at h
    · exact ⟨_, h, step _ fun n w => by simp [Op.equalIn, Sem.run_bind, hu, Sem.run]⟩
    · exact ⟨_, h, step _ fun n w => by simp [Op.equalIn, Sem.run_bind, hu, Sem.run]⟩
    · exact ⟨_, h, step _ fun n w => by simp [Op.equalIn, Sem.run_bind, hu, Sem.run]⟩
    · exact h.elim
end

section
variable {P : Program} {T : Tab}

theorem eqGuard_int (op : BinOp) (t : Nat) (x y : Operand) (k k' : IntKind) (a b : Int) (w : World) : (eqGuard op t x y (.int k a) (.int k' b)).run P w = .ok () w := by
  cases op <;> simp [eqGuard, Sem.run]
theorem eqGuard_other (op : BinOp) (t : Nat) (x y : Operand) (a b : Value) (h : ∀ u v, ¬ (a = .agg u ∧ b = .agg v)) (h' : ¬ (a = .nilIface ∧ b = .nilIface)) (w : World) : (eqGuard op t x y a b).run P w = .ok () w := by
  cases op <;> first | rfl | (cases a <;> cases b <;> first | rfl | exact absurd ⟨rfl, rfl⟩ h' | exact absurd ⟨rfl, rfl⟩ (h _ _))

theorem veq_shape {d : TypeDesc} {x y : Value} {K : Bool → Prop} (h : veq d x y K) : (∀ u v, ¬ (x = .agg u ∧ y = .agg v)) ∧ ¬ (x = .nilIface ∧ y = .nilIface) := by
  constructor
  · rintro u v ⟨rfl, rfl⟩
    cases d <;> simp [veq] at h
  · rintro ⟨rfl, rfl⟩
    cases d <;> simp [veq] at h

theorem veq_binOp (t : Nat) {d : TypeDesc} {x y : Value} {K : Bool → Prop} (h : veq d x y K) :
    Go.binOp .eql t x y = (do pure (.bool (← Op.equal t x y))) ∧ Go.binOp .neq t x y = (do pure (.bool (!(← Op.equal t x y)))) := by
  cases d <;> simp only [veq] at h
  all_goals first | exact h.elim | (split at h <;> first | exact h.elim | exact ⟨rfl, rfl⟩)

theorem vbin_sound (hT : TabOK P T) {op : BinOp} {t : Nat} {x y : Value} {K : Value → Prop} (h : vbin P T op t x y K) (xo yo : Operand) :
    ∃ v, K v ∧ ∀ w, (do eqGuard op t xo yo x y; Go.binOp op t x y : Sem Value).run P w = .ok v w := by
  unfold vbin at h
  split at h
  · rename_i k a k' b
    cases hk : kEq k k'
    · rw [hk] at h; exact h.elim
    · rw [hk] at h
      have e := kEq_eq hk
      subst e
      obtain ⟨v, hv, hr⟩ := vint_sound (P := P) h t
      exact ⟨v, hv, fun w => by rw [Sem.run_bind, eqGuard_int]; exact hr w⟩
  · rename_i a b
    have hg : ∀ w, (eqGuard op t xo yo (.string a) (.string b)).run P w = .ok () w := fun w => eqGuard_other _ _ _ _ _ _ (by simp) (by simp) w
    cases op <;> simp only at h
    case eql => exact ⟨_, h _ rfl, fun w => by rw [Sem.run_bind, hg]; rfl⟩
    case neq => exact ⟨_, h _ rfl, fun w => by rw [Sem.run_bind, hg]; rfl⟩
    case add => exact ⟨_, h.2, fun w => by have h1 := h.1; rw [Sem.run_bind, hg]; simp [Go.binOp, Op.stringOp, Sem.run, Result.andThen, h1]⟩
  · rename_i xs ys
    cases op <;> simp only at h
    case eql =>
      obtain ⟨r, hr, h⟩ := h
      exact ⟨_, h _ rfl, hr xo yo⟩
    case neq =>
      obtain ⟨r, hr, h⟩ := h
      exact ⟨_, h _ rfl, hr xo yo⟩
  · rename_i hni hns hna
    cases op <;> simp only at h
    case eql =>
      obtain ⟨d, hd, hx⟩ := tyK_out hT h; clear h; have h := hx; clear hx
      obtain ⟨r, hr, hrun⟩ := veq_sound hd h
      obtain ⟨h1, h2⟩ := veq_shape h
      refine ⟨_, hr, fun w => ?_⟩
      rw [Sem.run_bind, eqGuard_other _ _ _ _ _ _ h1 h2, (veq_binOp t h).1]
      simp only [Result.andThen_ok, Sem.run_bind, hrun, Sem.run_pure]
    case neq =>
      obtain ⟨d, hd, hx⟩ := tyK_out hT h; clear h; have h := hx; clear hx
      obtain ⟨r, hr, hrun⟩ := veq_sound hd h
      obtain ⟨h1, h2⟩ := veq_shape h
      refine ⟨_, hr, fun w => ?_⟩
      rw [Sem.run_bind, eqGuard_other _ _ _ _ _ _ h1 h2, (veq_binOp t h).2]
      simp only [Result.andThen_ok, Sem.run_bind, hrun, Sem.run_pure]

theorem bound_run {k : IntKind} {i : Int} {y : Nat} {c : BoundsCode} (h0 : 0 ≤ i) (h1 : i ≤ y) (w : World) : (Instr.sliceBound (.int k i) y c).run P w = .ok i.toNat w := by
  simp [Instr.sliceBound, asIntOf, Sem.run_bind, Sem.run, h0, h1, Result.andThen]

theorem vslice_sound {t e : Nat} {y z : Ty} (ht : TyOK P t y) (hy : y.desc = .slice e) (he : TyOK P e z) {x : Value} {lo hi : Option Value} {K : Value → Prop} (h : vsliceK x lo hi z.size K) :
    ∃ v, K v ∧ ∀ w, (Instr.sliceAt t x lo hi none).run P w = .ok v w := by
  have hu := ht.und
  rw [hy] at hu
  have hs := he.size
  unfold vsliceK at h
  split at h
  · rename_i a len cap
    split at h
    · refine ⟨_, h, fun w => ?_⟩
      simp only [Instr.sliceAt, Instr.slice, Instr.sliceBounds, Sem.run_bind, hu, hs, Result.andThen_ok, Sem.run_pure]
      simp [map_add_zero]
    · rename_i k l
      obtain ⟨h0, h1, h⟩ := h
      refine ⟨_, h l.toNat (by omega), fun w => ?_⟩
      simp only [Instr.sliceAt, Instr.slice, Instr.sliceBounds, Sem.run_bind, hu, hs, Result.andThen_ok, Sem.run_pure, bound_run h0 h1]
    · rename_i k l
      obtain ⟨h0, h1, h⟩ := h
      refine ⟨_, h l.toNat (by omega), fun w => ?_⟩
      simp only [Instr.sliceAt, Instr.slice, Instr.sliceBounds, Sem.run_bind, hu, hs, Result.andThen_ok, Sem.run_pure, if_true, bound_run h0 h1]
      simp [map_add_zero]
    · rename_i k l k' m
      obtain ⟨h0, h1, h2, h⟩ := h
      refine ⟨_, h l.toNat m.toNat (by omega) (by omega), fun w => ?_⟩
      have hb : l ≤ ((m.toNat : Nat) : Int) := by omega
      have hm : 0 ≤ m := by omega
      simp only [Instr.sliceAt, Instr.slice, Instr.sliceBounds, Sem.run_bind, hu, hs, Result.andThen_ok, Sem.run_pure, if_true, bound_run hm h2, bound_run h0 hb]
    · exact h.elim
  · exact h.elim

theorem vslice3_sound {t e : Nat} {y z : Ty} (ht : TyOK P t y) (hy : y.desc = .slice e) (he : TyOK P e z) {x lo hi mx : Value} {K : Value → Prop} (h : vslice3K x lo hi mx z.size K) :
    ∃ v, K v ∧ ∀ w, (Instr.sliceAt t x (some lo) (some hi) (some mx)).run P w = .ok v w := by
  have hu := ht.und
  rw [hy] at hu
  have hs := he.size
  unfold vslice3K at h
  split at h
  · rename_i a len cap k l k' hh k2 m
    obtain ⟨h0, h1, h2, h3, h⟩ := h
    refine ⟨_, h l.toNat hh.toNat m.toNat (by omega) (by omega) (by omega), fun w => ?_⟩
    have hb : l ≤ ((hh.toNat : Nat) : Int) := by omega
    have hb2 : hh ≤ ((m.toNat : Nat) : Int) := by omega
    have hm : 0 ≤ m := by omega
    have hm2 : 0 ≤ hh := by omega
    simp only [Instr.sliceAt, Instr.slice, Instr.sliceBounds, Sem.run_bind, hu, hs, Result.andThen_ok, Sem.run_pure, if_true, bound_run hm h3, bound_run hm2 hb2, bound_run h0 hb, Option.isSome_some]
  · exact h.elim

theorem vpure_sound (hT : TabOK P T) {o : Oper} {env : Env} {j : Fr} {K : Value → Prop} (h : vpure P T o env j K) :
    ∃ v, K v ∧ ∀ w, (execOp (evF (den env j)) o).run P w = .ok (.value v) w := by
  obtain ⟨dst, op, type, pos, after, guard⟩ := o
  generalize hl : evF (den env j) = ρ
  cases op <;> simp only [vpure, evK_eq, evsK_eq, hl] at h <;> simp only [execOp]
  case move x => exact ⟨_, h, fun w => rfl⟩
  case assign x => exact ⟨_, h, fun w => rfl⟩
  case pick c a b =>
    split at h
    · rename_i t e
      refine ⟨if t then ρ a else ρ b, by cases t <;> simpa using h, fun w => ?_⟩
      rw [e]; cases t <;> rfl
    · exact h.elim
  case nilCheck x =>
    split at h <;> rename_i e <;> first | exact h.elim | exact ⟨_, h, fun w => by rw [e]; rfl⟩
  case binOp op t x y _ =>
    obtain ⟨v, hv, hr⟩ := vbin_sound (P := P) hT h x y
    refine ⟨v, hv, fun w => ?_⟩
    simp only [Sem.run_bind, Sem.run_pure] at hr ⊢
    simp only [hr, Result.andThen_ok]
  case unOp op t x =>
    split at h
    · rename_i b _ _ e
      exact ⟨_, h, fun w => by rw [e]; rfl⟩
    · rename_i k n _ _ e
      exact ⟨_, h _ rfl, fun w => by rw [e]; rfl⟩
    · exact h.elim
  case convert s t x =>
    split at h
    · rename_i k n e
      obtain ⟨y, hy, hx⟩ := tyK_out hT h; clear h; have h := hx; clear hx
      obtain ⟨z, hz, hx⟩ := tyK_out hT h; clear h; have h := hx; clear hx
      split at h
      · rename_i k' e'
        have hu := hy.und
        rw [e'] at hu
        refine ⟨_, h _ rfl, fun w => ?_⟩
        rw [e]
        simp only [Go.convert, Sem.run_bind, hz.und, hu, Result.andThen_ok, Conv.intToInt, Sem.run_pure]
      · exact h.elim
    · exact h.elim
  case fieldAddr s x f =>
    split at h
    · rename_i a e
      obtain ⟨y, hy, hx⟩ := tyK_out hT h; clear h; have h := hx; clear hx
      split at h
      · rename_i fs e'
        split at h
        · rename_i fd e''
          obtain ⟨z, hz, hx⟩ := tyK_out hT h; clear h; have h := hx; clear hx
          cases hb : Nat.beq z.size 0
          · rw [hb] at h
            have hne : z.size ≠ 0 := fun hh => by rw [hh] at hb; exact absurd hb (by decide)
            have hu := hy.und
            rw [e'] at hu
            refine ⟨_, h, fun w => ?_⟩
            rw [e]
            simp only [Instr.fieldAt, Sem.run_bind, hu, Result.andThen_ok, e'', Instr.sureAddr, Sem.run_pure, fieldPlace, hz.size, if_neg hne]
          · rw [hb] at h; exact h.elim
        · exact h.elim
      · exact h.elim
    · exact h.elim
  case field s x f =>
    split at h
    · rename_i cs e
      obtain ⟨y, hy, hx⟩ := tyK_out hT h; clear h; have h := hx; clear hx
      split at h
      · rename_i fs e'
        split at h
        · rename_i fd e''
          obtain ⟨z, hz, hx⟩ := tyK_out hT h; clear h; have h := hx; clear hx
          have hu := hy.und
          rw [e'] at hu
          have hag : ∀ w, (isAgg fd.type).run P w = .ok (isStruct z.desc) w := hz.agg
          cases hb : isStruct z.desc
          · rw [hb] at h
            simp only [cond_false] at h
            split at h
            · rename_i u hc
              refine ⟨_, h, fun w => ?_⟩
              rw [e]
              simp only [Instr.field, Sem.run_bind, hu, Result.andThen_ok, e'', asAgg, Sem.run_pure, part, hag, hb, hc]
              rfl
            · exact h.elim
          · rw [hb] at h
            refine ⟨_, h, fun w => ?_⟩
            rw [e]
            simp only [Instr.field, Sem.run_bind, hu, Result.andThen_ok, e'', asAgg, Sem.run_pure, part, hag, hb, hz.size, if_true]
        · exact h.elim
      · exact h.elim
    · exact h.elim
  case indexAddr t x i =>
    split at h
    · rename_i A n c k i ex ei
      obtain ⟨y, hy, hx⟩ := tyK_out hT h; clear h; have h := hx; clear hx
      split at h
      · rename_i e e'
        obtain ⟨z, hz, hx⟩ := tyK_out hT h; clear h; have h := hx; clear hx
        obtain ⟨h0, h1, a, rfl, hx⟩ := h
        have h := hx; clear hx
        have hu := hy.und
        rw [e'] at hu
        refine ⟨_, h, fun w => ?_⟩
        rw [ex, ei]
        simp only [Instr.indexAt, Sem.run_bind, asIntOf, Sem.run_pure, Result.andThen_ok, hu, hz.size]
        simp only [Bool.and_false]
        rw [if_pos ⟨h0, h1⟩]
        simp only [Sem.run_bind, hz.size, Result.andThen_ok, Sem.run_pure]
      · exact h.elim
    · exact h.elim
  case index t x i =>
    split at h
    · rename_i s k i ex ei
      obtain ⟨y, hy, hx⟩ := tyK_out hT h; clear h; have h := hx; clear hx
      split at h
      · rename_i e'
        obtain ⟨h0, h1, h⟩ := h
        have hu := hy.und
        rw [e'] at hu
        refine ⟨_, h, fun w => ?_⟩
        rw [ex, ei]
        simp only [Instr.index, Sem.run_bind, asIntOf, Sem.run_pure, Result.andThen_ok, hu, if_pos h0]
        rw [getElem?_pos s i.toNat h1]
        rfl
      · exact h.elim
    · exact h.elim
  case extract x i =>
    split at h
    · rename_i vs e
      split at h
      · rename_i u hu
        refine ⟨_, h, fun w => ?_⟩
        rw [e]
        simp only [Instr.extract, hu]
        rfl
      · exact h.elim
    · exact h.elim
  case slice t x lo hi mx =>
    obtain ⟨y, hy, hx⟩ := tyK_out hT h; clear h; have h := hx; clear hx
    split at h
    · rename_i e e'
      obtain ⟨z, hz, hx⟩ := tyK_out hT h; clear h; have h := hx; clear hx
      split at h <;>
      · obtain ⟨v, hv, hr⟩ := vslice_sound hy e' hz h
        exact ⟨v, hv, fun w => by simp only [Sem.run_bind, Option.map_none, Option.map_some, hr, Result.andThen_ok, Sem.run_pure]⟩
    · rename_i e m e'
      obtain ⟨z, hz, hx⟩ := tyK_out hT h; clear h; have h := hx; clear hx
      split at h
      · obtain ⟨v, hv, hr⟩ := vslice3_sound hy e' hz h
        exact ⟨v, hv, fun w => by simp only [Sem.run_bind, Option.map_some, hr, Result.andThen_ok, Sem.run_pure]⟩
      · exact h.elim
    · exact h.elim
  case makeFunc f fs cs =>
    have e1 : ∀ (xs : Array Operand), (List.map ρ xs.toList).toArray = xs.map ρ := fun xs => by apply Array.toList_inj.1; simp
    rw [e1, e1] at h
    exact ⟨_, h, fun w => rfl⟩
  case makeInterface t x =>
    obtain ⟨y, hy, hx⟩ := tyK_out hT h; clear h; have h := hx; clear hx
    have hu := hy.und
    split at h
    · exact h.elim
    · rename_i hni
      refine ⟨_, h, fun w => ?_⟩
      simp only [Instr.makeInterface, Sem.run_bind, hu, Result.andThen_ok]
      first | rfl | (split <;> first | exact absurd ‹_› (hni _) | rfl)
  case call c =>
    obtain ⟨callee, args, ats⟩ := c
    cases callee <;> simp only [evsK_eq] at h
    case builtin b =>
      have hres : ∀ w, (resolve ρ { callee := .builtin b, args := args, argTypes := ats } type).run P w = .ok { target := .builtin b ats type (args.map fun | .const _ => true | _ => false), args := args.map ρ } w := fun w => rfl
      split at h
      · rename_i v t hv ht
        have hva : args.map ρ = #[v] := by
          apply Array.toList_inj.1; simpa [hl] using hv
        obtain ⟨y, hy, hx⟩ := tyK_out hT h; clear h; have h := hx; clear hx
        have hu := hy.und
        split at h
        · rename_i ed A n c e1
          rw [e1] at hu
          refine ⟨_, h, fun w => ?_⟩
          simp [Sem.run_bind, hres, Result.andThen, invoke, builtin, Builtin.len_, hva, ht, hu, Sem.run, goInt]
        · rename_i s e1
          rw [e1] at hu
          refine ⟨_, h, fun w => ?_⟩
          simp [Sem.run_bind, hres, Result.andThen, invoke, builtin, Builtin.len_, hva, ht, hu, Sem.run, goInt]
        · exact h.elim
      · rename_i v t hv ht
        have hva : args.map ρ = #[v] := by
          apply Array.toList_inj.1; simpa [hl] using hv
        obtain ⟨y, hy, hx⟩ := tyK_out hT h; clear h; have h := hx; clear hx
        have hu := hy.und
        split at h
        · rename_i ed A n c e1
          rw [e1] at hu
          refine ⟨_, h, fun w => ?_⟩
          simp [Sem.run_bind, hres, Result.andThen, invoke, builtin, Builtin.cap_, hva, ht, hu, Sem.run, goInt]
        · exact h.elim
      · rename_i k a k' b' hv
        have hva : args.map ρ = #[.int k a, .int k' b'] := by
          apply Array.toList_inj.1; simpa [hl] using hv
        cases hk : kEq k k'
        · rw [hk] at h; exact h.elim
        · rw [hk] at h
          refine ⟨_, h _ rfl, fun w => ?_⟩
          simp [Sem.run_bind, hres, Result.andThen, invoke, builtin, Builtin.min_, hva, Builtin.min2, Sem.run]
      · rename_i k a k' b' hv
        have hva : args.map ρ = #[.int k a, .int k' b'] := by
          apply Array.toList_inj.1; simpa [hl] using hv
        cases hk : kEq k k'
        · rw [hk] at h; exact h.elim
        · rw [hk] at h
          refine ⟨_, h _ rfl, fun w => ?_⟩
          simp [Sem.run_bind, hres, Result.andThen, invoke, builtin, Builtin.max_, hva, Builtin.max2, Sem.run]
      · exact h.elim
end


/-! ### Operations that look at the world -/
def one : Value → Bool
  | .agg _ => false
  | .tuple _ => false
  | _ => true

noncomputable def vop (P : Program) (T : Tab) (o : Oper) (env : Env) (j : Fr) (w : World) (K : Value → World → Prop) : Prop :=
  match o.op with
  | .alloc e => tyK T e fun y => match y.zero with
    | some (.agg cs) => ∀ W, New w (.cells cs e) W → K (.pointer (some ⟨w.heap.size, 0, none⟩)) W
    | some z => ∀ W, New w (.cells #[z] e) W → K (.pointer (some ⟨w.heap.size, 0, none⟩)) W
    | none => False
  | .box e x => evK env j x fun v => match v with
    | .agg cs => ∀ W, New w (.cells cs e) W → K (.pointer (some ⟨w.heap.size, 0, none⟩)) W
    | v => ∀ W, New w (.cells #[v] e) W → K (.pointer (some ⟨w.heap.size, 0, none⟩)) W
  | .load t a => evK env j a fun v => match v with
    | .pointer (some ad) => tyK T t fun y => (match isStruct y.desc with
      | true => ∃ vs : List Value, vs.length = y.size ∧ Cells w ad vs ∧ K (.agg vs.toArray) w
      | false => ∃ u, w.cell? ad = some u ∧ K u w)
    | _ => False
  | .store t a x => evK env j a fun v => evK env j x fun u => match v with
    | .pointer (some ad) => tyK T t fun y => ∃ b off cs e, ad = ⟨b, off, none⟩ ∧ w.heap[b]? = some (.cells cs e (0, 0)) ∧ off + y.size ≤ cs.size ∧ u.cells.size = y.size ∧ (u.cells.toList.all one) = true ∧
        ∀ W, Put w b (.cells (splice cs off u.cells.toList) e (0, 0)) W → K undef W
    | _ => False
  | .mapUpdate t m k x => evK env j m fun m => evK env j k fun k => evK env j x fun x => RunU P (Instr.mapUpdate t m k x) w (fun w' => K undef w')
  | .insert t m k x => evK env j m fun m => evK env j k fun k => evK env j x fun x => RunU P (Instr.mapUpdate t m k x) w (fun w' => K undef w')
  | .lookup t x i ok => evK env j x fun x => evK env j i fun i => Run P (Instr.lookup t x i ok) w K
  | .makeMap t r => match r with | none => ∀ W, New w (.map #[] 0) W → K (.map (some w.heap.size)) W | some _ => False
  | .makeSlice t l c => evK env j l fun l => evK env j c fun c => Run P (Instr.makeSlice t l c) w K
  | .build t ps => evsK env j (ps.toList.map (·.2)) fun vs => Run P (Instr.build t ((ps.toList.map (·.1)).zip vs).toArray) w K
  | .buildSlice t n ps => evsK env j (ps.toList.map (·.2)) fun vs => Run P (Instr.buildSlice t n ((ps.toList.map (·.1)).zip vs).toArray) w K
  | .range t x => evK env j x fun x => Run P (Instr.range t x) w K
  | .next it s => evK env j it fun it => Run P (Instr.next it s o.type) w K
  | .entry it => evK env j it fun it => Run P (Instr.entry it) w K
  | .call c => match c.callee with
    | .value f => evK env j f fun f => evsK env j c.args.toList fun vs => (match f with
      | .func (.func g) ⟨[]⟩ ⟨[]⟩ => Ret P g vs.toArray w K
      | .func (.func g) fs cs => Ret P g (fs.toList ++ (vs ++ cs.toList)).toArray w K
      | .func (.yield l) ⟨[]⟩ ⟨[]⟩ => YCall P l vs.toArray w K
      | _ => False)
    | .builtin b => (match b with
      | .append => evsK env j c.args.toList fun vs => Run P (Builtin.append_ c.argTypes o.type vs.toArray) w K
      | .copy => evsK env j c.args.toList fun vs => Run P (Builtin.copy_ c.argTypes o.type vs.toArray) w K
      | .delete => evsK env j c.args.toList fun vs => Run P (Builtin.delete_ c.argTypes o.type vs.toArray) w K
      | .clear => evsK env j c.args.toList fun vs => Run P (Builtin.clear_ c.argTypes o.type vs.toArray) w K
      | .len => (match c.argTypes[0]? with
        | some t => tyK T t fun y => (match y.desc with
          | .map _ _ => evsK env j c.args.toList fun vs => Run P (Builtin.len_ c.argTypes o.type vs.toArray) w K
          | _ => vpure P T o env j (fun v => K v w))
        | none => False)
      | _ => vpure P T o env j (fun v => K v w))
    | _ => False
  | _ => vpure P T o env j (fun v => K v w)

section
variable {P : Program} {T : Tab}

theorem wp_of_value {o : Oper} {a : Act} {w w' : World} {v : Value} {next : Act → World → Prop} {Q : Exit → Act → World → Prop} (h : (execOp a.eval o).run P w = .ok (.value v) w') (k : next (a.put o.dst v) w') : opW P o a w next Q := by
  unfold opW; rw [h]; exact k
theorem wp_of_skip {o : Oper} {a : Act} {w w' : World} {next : Act → World → Prop} {Q : Exit → Act → World → Prop} (h : (execOp a.eval o).run P w = .ok .skip w') (k : next (a.put o.dst undef) w') : opW P o a w next Q := by
  unfold opW; rw [h]; exact k

theorem run_v {s : Sem Value} {w w' : World} {v : Value} (h : s.run P w = .ok v w') : (do pure (.value (← s)) : Sem Next).run P w = .ok (.value v) w' := by
  simp only [Sem.run_bind, h, Result.andThen_ok, Sem.run_pure]
theorem run_u {s : Sem Unit} {w w' : World} (h : s.run P w = .ok () w') : (do s; pure .skip : Sem Next).run P w = .ok .skip w' := by
  simp only [Sem.run_bind, h, Result.andThen_ok, Sem.run_pure]

theorem add_add_ (a : Addr) (i k : Nat) (h : a.spot = none) : (a.add i).add k = a.add (i + k) := by
  unfold Addr.add
  by_cases hi : i = 0 <;> by_cases hk : k = 0 <;> simp [hi, hk, Nat.add_assoc]

theorem loadCells_run (w : World) (a : Addr) (vs : List Value) (h : Cells w a vs) : (loadCells a vs.length).run P w = .ok vs.toArray w := by
  have key : ∀ n i acc, i + n = vs.length → (loadCellsFrom a i n acc).run P w = .ok (acc ++ (vs.drop i).toArray) w := by
    intro n
    induction n with
    | zero =>
      intro i acc hi
      rw [List.drop_eq_nil_of_le (by omega)]
      simp [loadCellsFrom, Sem.run]
    | succ n ih =>
      intro i acc hi
      have hc := h i (by omega)
      simp only [loadCellsFrom, Sem.run_bind, load, Sem.run, hc, Result.andThen_ok]
      show (loadCellsFrom a (i + 1) n (acc.push (vs.getD i undef))).run P w = _
      rw [ih (i + 1) _ (by omega), List.drop_eq_getElem_cons (show i < vs.length by omega)]
      have : vs.getD i undef = vs[i]'(by omega) := by simp [List.getElem?_eq_getElem (show i < vs.length by omega)]
      rw [this]
      congr 1
      apply Array.toList_inj.1
      simp
  have := key vs.length 0 #[] (by omega)
  simpa [loadCells] using this

theorem loadVar_run {t : Nat} {y : Ty} (ht : TyOK P t y) (w : World) (ad : Addr) :
    (∀ vs : List Value, isStruct y.desc = true → vs.length = y.size → Cells w ad vs → (loadVar t ad).run P w = .ok (.agg vs.toArray) w) ∧
    (∀ u, isStruct y.desc = false → w.cell? ad = some u → (loadVar t ad).run P w = .ok u w) := by
  have hag : ∀ w, (isAgg t).run P w = .ok (isStruct y.desc) w := ht.agg
  constructor
  · intro vs hs hl hc
    simp only [loadVar, Sem.run_bind, hag, Result.andThen_ok, hs, if_true, ht.size, ← hl, loadCells_run w ad vs hc, Sem.run_pure]
  · intro u hs hc
    simp only [loadVar, Sem.run_bind, hag, Result.andThen_ok, hs, load, Sem.run, hc]
    simp [Sem.run, hc]

theorem storeCells_run (b : Nat) (e : Nat) (vs : List Value) : ∀ (w : World) (cs : Array Value) (off i : Nat), w.heap[b]? = some (.cells cs e (0, 0)) → off + i + vs.length ≤ cs.size → (vs.all one) = true →
    (storeCells ⟨b, off, none⟩ vs i).run P w = .ok () (World.putObj w b (.cells (splice cs (off + i) vs) e (0, 0))) := by
  induction vs with
  | nil =>
    intro w cs off i hb hsz h1
    have hlt : b < w.heap.size := by
      rcases Nat.lt_or_ge b w.heap.size with h | h
      · exact h
      · rw [Array.getElem?_eq_none h] at hb; cases hb
    have : World.putObj w b (.cells cs e (0, 0)) = w := by
      unfold World.putObj
      have : w.heap.setIfInBounds b (.cells cs e (0, 0)) = w.heap := by
        apply Array.ext (by simp)
        intro k h1 h2
        rw [Array.getElem_setIfInBounds]
        split
        · rename_i hbk
          subst hbk
          rw [Array.getElem?_eq_getElem hlt] at hb
          exact (Option.some.inj hb).symm
        · rfl
      rw [this]
    simp [storeCells, splice_nil, this, Sem.run]
  | cons v vs ih =>
    intro w cs off i hb hsz h1
    simp only [List.all_cons, Bool.and_eq_true] at h1
    simp only [List.length_cons] at hsz
    have hlt : b < w.heap.size := by
      rcases Nat.lt_or_ge b w.heap.size with h | h
      · exact h
      · rw [Array.getElem?_eq_none h] at hb; cases hb
    have ha : (⟨b, off, none⟩ : Addr).add i = ⟨b, off + i, none⟩ := by unfold Addr.add; split <;> simp_all
    have hc : w.cell? ⟨b, off + i, none⟩ = some (cs[off + i]'(by omega)) := by
      simp [World.cell?, hb, Array.getElem?_eq_getElem (show off + i < cs.size by omega)]
    have hf : w.frozen? ⟨b, off + i, none⟩ = false := by simp [World.frozen?, hb]
    have hset : w.setCell ⟨b, off + i, none⟩ v = World.putObj w b (.cells (cs.setIfInBounds (off + i) v) e (0, 0)) := by
      unfold World.setCell World.putObj
      congr 1
      apply Array.ext (by simp)
      intro k h1 h2
      rw [Array.getElem_modify, Array.getElem_setIfInBounds]
      · split
        · rename_i hbk
          have hbk' : b = k := hbk
          subst hbk'
          have e2 : w.heap[b] = .cells cs e (0, 0) := by
            rw [Array.getElem?_eq_getElem hlt] at hb
            exact Option.some.inj hb
          simp [e2]
        · rename_i hbk
          simp [hbk]
      · simpa using h2
    have hst : ((store ((⟨b, off, none⟩ : Addr).add i) v)).run P w = .ok () (w.setCell ⟨b, off + i, none⟩ v) := by
      rw [ha]
      cases v <;> first | (simp [one] at h1; done) | simp [store, Sem.run, hc, hf]
    simp only [storeCells, Sem.run_bind, hst, Result.andThen_ok]
    rw [hset, ih _ (cs.setIfInBounds (off + i) v) off (i + 1) (by simp [World.putObj, hlt]) (by simp; omega) h1.2]
    have : ∀ (o1 o2 : Obj), World.putObj (World.putObj w b o1) b o2 = World.putObj w b o2 := by
      intro o1 o2; simp [World.putObj]
    rw [this, splice_cons]
    rfl

theorem builtin_run {b : Builtin} {args : Array Operand} {ats : Array TypeId} {type : TypeId} {ρ : Operand → Value} {s : Sem Value} {w w' : World} {v : Value}
    (hb : builtin b ats type (args.map fun | .const _ => true | _ => false) (args.map ρ) = (do pure (.value (← s)))) (h : s.run P w = .ok v w') :
    (do let d ← resolve ρ { callee := .builtin b, args := args, argTypes := ats } type; invoke d.target d.args : Sem Next).run P w = .ok (.value v) w' := by
  have h2 := run_v (P := P) h
  rw [← hb] at h2
  simp only [resolve, Sem.run_bind, Sem.run_pure, Result.andThen_ok, invoke]
  exact h2

theorem map_arr (ρ : Operand → Value) (xs : Array Operand) : (xs.toList.map ρ).toArray = xs.map ρ := by apply Array.toList_inj.1; simp

theorem parts_eq (ρ : Operand → Value) (ps : Array (Nat × Operand)) : ((ps.toList.map (·.1)).zip ((ps.toList.map (·.2)).map ρ)).toArray = ps.map fun (i, x) => (i, ρ x) := by
  apply Array.toList_inj.1
  simp only [Array.toList_map]
  generalize ps.toList = l
  induction l with
  | nil => rfl
  | cons p l ih => simp at ih ⊢; exact ih

theorem vop_sound (hT : TabOK P T) {o : Oper} {env : Env} {j : Fr} {w : World} {K : Value → World → Prop} (h : vop P T o env j w K)
    {a : Act} (he : a.eval = evF (den env j)) {next : Act → World → Prop} {Q : Exit → Act → World → Prop} (hk : ∀ v w', K v w' → next (a.put o.dst v) w') : opW P o a w next Q := by
  have hpure : vpure P T o env j (fun v => K v w) → opW P o a w next Q := fun hp => by
    obtain ⟨v, hv, hr⟩ := vpure_sound (P := P) hT hp
    exact wp_of_value (by rw [he]; exact hr w) (hk _ _ hv)
  obtain ⟨dst, op, type, pos, after, guard⟩ := o
  generalize hl : evF (den env j) = ρ at *
  cases op <;> simp only [vop, evK_eq, evsK_eq, hl] at h <;> try exact hpure h
  case alloc e =>
    obtain ⟨y, hy, h⟩ := tyK_out hT h
    split at h <;> first | exact h.elim | (rename_i hz; refine wp_of_value ?_ (hk _ _ (h _ (New.mk' _ _))); rw [he]; simp only [execOp, Instr.alloc, Sem.run_bind, hy.zero _ hz, Result.andThen_ok, newVar, newRow, newObj, Sem.run, Sem.run_pure]; rfl) | skip
    rename_i z _ hz
    refine wp_of_value ?_ (hk _ _ (h _ (New.mk' _ _)))
    rw [he]
    simp only [execOp, Instr.alloc, Sem.run_bind, hy.zero _ hz, Result.andThen_ok, newVar, newRow, newObj, Sem.run, Sem.run_pure]
    cases z <;> first | rfl | (exfalso; simp_all)
  case box e x =>
    refine wp_of_value (v := .pointer (some ⟨w.heap.size, 0, none⟩)) (w' := w.alloc (.cells (ρ x).cells e)) ?_ (hk _ _ ?_)
    · rw [he]; simp only [execOp, Instr.box, Sem.run_bind, newVar, newRow, newObj, Sem.run, Sem.run_pure, Result.andThen_ok]; rfl
    · revert h; cases ρ x <;> exact fun h => h _ (New.mk' _ _)
  case load t x =>
    split at h
    · rename_i ad e
      obtain ⟨y, hy, h⟩ := tyK_out hT h
      obtain ⟨l1, l2⟩ := loadVar_run (P := P) hy w ad
      split at h
      · rename_i hs
        obtain ⟨vs, hvs, hc, h⟩ := h
        refine wp_of_value ?_ (hk _ _ h)
        rw [he]
        simp only [execOp, Instr.loadAt, e, Instr.sureAddr, Sem.run_bind, Sem.run_pure, Result.andThen_ok, l1 vs hs hvs hc]
      · rename_i hs
        obtain ⟨u, hc, h⟩ := h
        refine wp_of_value ?_ (hk _ _ h)
        rw [he]
        simp only [execOp, Instr.loadAt, e, Instr.sureAddr, Sem.run_bind, Sem.run_pure, Result.andThen_ok, l2 u hs hc]
    · exact h.elim
  case store t x y =>
    split at h
    · rename_i ad e
      obtain ⟨z, hz, h⟩ := tyK_out hT h
      obtain ⟨b, off, cs, el, rfl, hb, hsz, hvs, h1, h⟩ := h
      refine wp_of_skip ?_ (hk _ _ (h _ (Put.mk' hb _)))
      rw [he]
      simp only [execOp, Instr.storeAt, e, Instr.sureAddr, Sem.run_bind, Sem.run_pure, Result.andThen_ok, storeVar, hz.size]
      rw [if_neg (by simp [hvs])]
      have := storeCells_run (P := P) b el (ρ y).cells.toList w cs off 0 hb (by rw [Array.length_toList]; omega) h1
      rw [this]
      rfl
    · exact h.elim
  case mapUpdate t m k x =>
    obtain ⟨w', hr, h⟩ := h.out
    exact wp_of_skip (by rw [he]; exact run_u hr) (hk _ _ h)
  case insert t m k x =>
    obtain ⟨w', hr, h⟩ := h.out
    exact wp_of_skip (by rw [he]; exact run_u hr) (hk _ _ h)
  case lookup t x i ok =>
    obtain ⟨v, w', hr, h⟩ := h.out
    exact wp_of_value (by rw [he]; exact run_v hr) (hk _ _ h)
  case makeMap t r =>
    split at h
    · refine wp_of_value ?_ (hk _ _ (h _ (New.mk' _ _)))
      rw [he]
      rfl
    · exact h.elim
  case makeSlice t l c =>
    obtain ⟨v, w', hr, h⟩ := h.out
    exact wp_of_value (by rw [he]; exact run_v hr) (hk _ _ h)
  case build t ps =>
    obtain ⟨v, w', hr, h⟩ := h.out
    rw [parts_eq] at hr
    exact wp_of_value (by rw [he]; exact run_v hr) (hk _ _ h)
  case buildSlice t n ps =>
    obtain ⟨v, w', hr, h⟩ := h.out
    rw [parts_eq] at hr
    exact wp_of_value (by rw [he]; exact run_v hr) (hk _ _ h)
  case range t x =>
    obtain ⟨v, w', hr, h⟩ := h.out
    exact wp_of_value (by rw [he]; exact run_v hr) (hk _ _ h)
  case next it s =>
    obtain ⟨v, w', hr, h⟩ := h.out
    exact wp_of_value (by rw [he]; exact run_v hr) (hk _ _ h)
  case entry it =>
    obtain ⟨v, w', hr, h⟩ := h.out
    exact wp_of_value (by rw [he]; exact run_v hr) (hk _ _ h)
  case call c =>
    obtain ⟨callee, args, ats⟩ := c
    cases callee <;> simp only [evK_eq, evsK_eq, hl] at h
    case value f =>
      have go : ∀ g fs cs, ρ f = .func (.func g) fs cs → Ret P g (fs.toList ++ (args.toList.map ρ ++ cs.toList)).toArray w K → opW P { dst := dst, op := .call { callee := .value f, args := args, argTypes := ats }, type := type, pos := pos, after := after, guard := guard } a w next Q := by
        intro g fs cs e hF
        have hea : (fs.toList ++ (args.toList.map ρ ++ cs.toList)).toArray = fs ++ args.map ρ ++ cs := by
          apply Array.toList_inj.1; simp
        rw [hea] at hF
        have hrun : ∀ r, (callFunc g (fs ++ args.map ρ ++ cs)).run P w = r → (execOp a.eval { dst := dst, op := .call { callee := .value f, args := args, argTypes := ats }, type := type, pos := pos, after := after, guard := guard }).run P w = r := by
          intro r hr
          rw [he]
          simp only [execOp, resolve, e, Deferred.ofValue, Sem.run_bind, Sem.run_pure, Result.andThen_ok, invoke, hr]
        obtain ⟨⟨f', he', hc⟩ | ⟨v, w', hr, hv⟩⟩ := hF
        · unfold opW
          rw [hrun _ he']
          refine ⟨(fun h => by cases h), callsIn_wide.2 (Calls.mono hc fun e w' ⟨v, hv, hq⟩ => ?_)⟩
          subst hv
          exact hk _ _ hq
        · exact wp_of_value (hrun _ hr) (hk _ _ hv)
      split at h
      · rename_i g e
        exact go g #[] #[] e (by simpa using h)
      · rename_i g fs cs _ e
        exact go g fs cs e h
      · rename_i l e
        obtain ⟨f, tmps, assign, body, w1, h1, h2⟩ := h.out
        have hea : (args.toList.map ρ).toArray = args.map ρ := by apply Array.toList_inj.1; simp
        rw [hea] at h1
        have hrun : ∀ x, (execOp a.eval { dst := dst, op := .call { callee := .value x, args := args, argTypes := ats }, type := type, pos := pos, after := after, guard := guard }).run P w = (do let d ← resolve ρ { callee := .value x, args := args, argTypes := ats } type; invoke d.target d.args : Sem Next).run P w := by
          intro x; rw [he]; rfl
        unfold opW
        rw [hrun]
        simp only [resolve, e, Deferred.ofValue, Sem.run_bind, Sem.run_pure, Result.andThen_ok, invoke]
        have hea2 : (#[] : Array Value) ++ args.map ρ = args.map ρ := by simp
        first | rw [hea2] | skip
        rw [h1]
        refine ⟨(fun h => by cases h), h2.mono fun e w' ⟨v, hv, hq⟩ => ?_⟩
        subst hv
        exact hk _ _ hq
      · exact h.elim
    case builtin b =>
      cases b <;> simp only at h <;> try exact hpure h
      case append =>
        obtain ⟨v, w', hr, h⟩ := h.out
        rw [map_arr] at hr
        exact wp_of_value (by rw [he]; exact builtin_run rfl hr) (hk _ _ h)
      case copy =>
        obtain ⟨v, w', hr, h⟩ := h.out
        rw [map_arr] at hr
        exact wp_of_value (by rw [he]; exact builtin_run rfl hr) (hk _ _ h)
      case delete =>
        obtain ⟨v, w', hr, h⟩ := h.out
        rw [map_arr] at hr
        exact wp_of_value (by rw [he]; exact builtin_run rfl hr) (hk _ _ h)
      case clear =>
        obtain ⟨v, w', hr, h⟩ := h.out
        rw [map_arr] at hr
        exact wp_of_value (by rw [he]; exact builtin_run rfl hr) (hk _ _ h)
      case len =>
        split at h
        · obtain ⟨y, hy, h⟩ := tyK_out hT h
          split at h
          · obtain ⟨v, w', hr, h⟩ := h.out
            rw [map_arr] at hr
            exact wp_of_value (by rw [he]; exact builtin_run rfl hr) (hk _ _ h)
          · exact hpure h
        · exact h.elim
    all_goals exact h.elim
end


/-- What stands behind an operation that has left v. -/
noncomputable def contK (n : Nat) (dst : Option Nat) (v : Value) (env : Env) (K : Env → Prop) : Prop :=
  match dst with
  | none => K env
  | some d => bif Nat.blt d n then putK env d v K else False

noncomputable def vopsStep (P : Program) (T : Tab) (n : Nat) (all : List Oper) (j : Fr) (o : Oper) (next : Env → World → (Env → World → Prop) → Prop) (env : Env) (w : World) (K : Env → World → Prop) : Prop :=
  match o.guard with
  | none => vop P T o env j w (fun v w' => contK n o.dst v env (fun env' => next env' w' K))
  | some (g, want) => match all[g]? with
    | some og => (match og.dst with
      | some dg => lookK env j dg (fun c => match c with
        | .bool b => (match b, want with
          | true, true => vop P T o env j w (fun v w' => contK n o.dst v env (fun env' => next env' w' K))
          | false, false => vop P T o env j w (fun v w' => contK n o.dst v env (fun env' => next env' w' K))
          | true, false => contK n o.dst undef env (fun env' => next env' w K)
          | false, true => contK n o.dst undef env (fun env' => next env' w K))
        | _ => contK n o.dst undef env (fun env' => next env' w K))
      | none => False)
    | none => False
noncomputable def vops (P : Program) (T : Tab) (n : Nat) (all : List Oper) (j : Fr) (os : List Oper) : Env → World → (Env → World → Prop) → Prop :=
  List.rec (motive := fun _ => Env → World → (Env → World → Prop) → Prop) (fun env w K => K env w) (fun o _ ih env w K => vopsStep P T n all j o ih env w K) os
theorem vops_cons (P : Program) (T : Tab) (n : Nat) (all : List Oper) (j : Fr) (o : Oper) (os : List Oper) (env : Env) (w : World) (K : Env → World → Prop) : vops P T n all j (o :: os) env w K = vopsStep P T n all j o (vops P T n all j os) env w K := rfl

/-- That a piece of code leads to K, said of the model. -/
def Snd (P : Program) (n : Nat) (c : Code) (env : Env) (j : Fr) (w : World) (K : Exit → Env → Fr → World → Prop) : Prop :=
  ∀ (Q : Exit → Act → World → Prop) (a : Act) (ds : List Deferred), Rel n (den env j) ds a → (∀ e env' j' w' a', Rel n (den env' j') ds a' → K e env' j' w' → Q e a' w') → c.wp P Q a w

structure VLoop (P : Program) (T : Tab) (n : Nat) (c : Code) (env : Env) (j : Fr) (w : World) (K : Exit → Env → Fr → World → Prop) : Prop where
  out : Snd P n (.loop c) env j w K
structure VDraw (P : Program) (T : Tab) (n : Nat) (id : Nat) (ops : List Oper) (env : Env) (j : Fr) (w : World) (K : Exit → Env → Fr → World → Prop) : Prop where
  out : Snd P n (.region id ops.toArray true) env j w K
structure VElse (P : Program) (T : Tab) (n : Nat) (c : Code) (env : Env) (j : Fr) (w : World) (K : Exit → Env → Fr → World → Prop) : Prop where
  out : Snd P n c env j w K

def seqK (next : Env → Fr → World → Prop) (K : Exit → Env → Fr → World → Prop) : Exit → Env → Fr → World → Prop := fun e env j w =>
  match e with
  | .normal => next env j w
  | e => K e env j w
def blockK (id : Nat) (K : Exit → Env → Fr → World → Prop) : Exit → Env → Fr → World → Prop := fun e env j w =>
  match e with
  | .exit id' => bif Nat.beq id' id then K .normal env j w else K (.exit id') env j w
  | e => K e env j w

noncomputable def vc (P : Program) (T : Tab) (n : Nat) (c : Code) : Env → Fr → World → (Exit → Env → Fr → World → Prop) → Prop :=
  Code.rec (motive := fun _ => Env → Fr → World → (Exit → Env → Fr → World → Prop) → Prop)
    (fun env j w K => K .normal env j w)
    (fun id ops draw env j w K => (match draw with
      | false => vops P T n ops.toList j ops.toList env w (fun env' w' => K .normal env' j w')
      | true => VDraw P T n id ops.toList env j w K))
    (fun _ _ iha ihb env j w K => iha env j w (seqK (fun env j w => ihb env j w K) K))
    (fun c _ _ ihx ihy env j w K => evK env j c fun v => match v with
      | .bool t => (match t with | true => ihx env j w K | false => ihy env j w K)
      | _ => False)
    (fun id _ ih env j w K => ih env j w (blockK id K))
    (fun c _ env j w K => VLoop P T n c env j w K)
    (fun f ps asg body _ _ env j w K => VElse P T n (.rangeFunc f ps asg body) env j w K)
    (fun id env j w K => K (.exit id) env j w)
    (fun c _ env j w K => VElse P T n (.scope c) env j w K)
    (fun _ env j w K => K .normal env j w)
    (fun l env j w K => K (.goto l) env j w)
    (fun env j w K => K .ret env j w)
    (fun _ _ _ _ _ => False) c
section
variable {P : Program} {T : Tab} {n : Nat} {ds : List Deferred}
theorem vc_cond (c : Operand) (x y : Code) (env : Env) (j : Fr) (w : World) (K : Exit → Env → Fr → World → Prop) : vc P T n (.cond c x y) env j w K = evK env j c fun v => match v with
    | .bool t => (match t with | true => vc P T n x env j w K | false => vc P T n y env j w K)
    | _ => False := rfl
end

section
variable {P : Program} {T : Tab} {n : Nat} {ds : List Deferred}

theorem contK_out {dst : Option Nat} {v : Value} {env : Env} {j : Fr} {K : Env → Prop} (h : contK n dst v env K) {a : Act} (hr : Rel n (den env j) ds a) :
    ∃ env', Rel n (den env' j) ds (a.put dst v) ∧ K env' := by
  cases dst with
  | none => exact ⟨env, hr, h⟩
  | some d =>
    simp only [contK, putK_eq] at h
    cases hb : Nat.blt d n
    · rw [hb] at h; exact h.elim
    · rw [hb] at h
      have hd : d < n := by simpa using hb
      refine ⟨_, ?_, h⟩
      rw [den_put]
      exact hr.put hd v

theorem wanted_none {o : Oper} (h : o.guard = none) (y : Nat → Option Bool) : Region.wanted o y = true := by simp [Region.wanted, h]

theorem unwanted_of {all : Array Oper} {o og : Oper} {g dg : Nat} {want : Bool} {a : Act} {v : Value} (hg : o.guard = some (g, want)) (hog : all[g]? = some og) (hdg : og.dst = some dg)
    (hget : a.tmps.getD dg undef = v) (hnb : ∀ b, v = .bool b → False) : Region.wanted o (yielded all a.tmps) = false := by
  have hy : yielded all a.tmps g = none := by
    simp only [yielded, hog, Option.bind_some, hdg]
    cases ht : a.tmps[dg]? with
    | none => rfl
    | some u =>
      have : u = v := by rw [← hget]; simp [ht]
      subst this
      cases u <;> first | rfl | exact (hnb _ rfl).elim
  simp [Region.wanted, hg, hy]

/-- A list of operations, in whatever frame. -/
def wpListW (P : Program) (ops : Array Oper) (Q : Exit → Act → World → Prop) : List Oper → Act → World → Prop
  | [], a, w => Q .normal a w
  | o :: rest, a, w => if Region.wanted o (yielded ops a.tmps) then opW P o a w (wpListW P ops Q rest) Q else wpListW P ops Q rest (a.put o.dst undef) w
def isDefer : Op → Bool
  | .defer _ => true
  | _ => false
def FR (r : Option Nat) : Fence := { FW with round := r }
theorem opW_in {o : Oper} {a : Act} {w : World} {next : Act → World → Prop} {Q : Exit → Act → World → Prop} (r : Option Nat) (hd : r = none ∨ isDefer o.op = false) (h : opW P o a w next Q) : o.wpIn (FR r) 0 P a w next Q := by
  refine ⟨fun _ _ => trivial, ?_⟩
  have e : Oper.semAt (FR r).round a.eval o = execOp a.eval o := by
    rcases hd with rfl | hd
    · rfl
    · exact Oper.semAt_eq _ _ _ (fun c hc => by rw [hc] at hd; cases hd)
  rw [e]
  exact h
theorem wpListW_in (r : Option Nat) {all : Array Oper} {Q : Exit → Act → World → Prop} : ∀ (os : List Oper) (a : Act) (w : World), (r = none ∨ os.all (fun o => !isDefer o.op) = true) → wpListW P all Q os a w → wpListIn (FR r) 0 P all Q os a w := by
  intro os
  induction os with
  | nil => intro a w _ h; exact h
  | cons o os ih =>
    intro a w hd h
    have hd1 : r = none ∨ isDefer o.op = false := hd.imp id (fun h => by simp only [List.all_cons, Bool.and_eq_true, Bool.not_eq_true'] at h; exact h.1)
    have hd2 : r = none ∨ os.all (fun o => !isDefer o.op) = true := hd.imp id (fun h => by simp only [List.all_cons, Bool.and_eq_true] at h; exact h.2)
    unfold wpListW at h
    unfold wpListIn
    split
    · rename_i hw
      rw [if_pos hw] at h
      exact Oper.wpIn_mono (fun a w h => ih a w hd2 h) (opW_in r hd1 h)
    · rename_i hw
      rw [if_neg hw] at h
      exact ⟨fun _ _ => trivial, ih _ _ hd2 h⟩

theorem vops_sound (hT : TabOK P T) {all : Array Oper} {j : Fr} {Q : Exit → Act → World → Prop} {K : Env → World → Prop}
    (hk : ∀ env' w' a', Rel n (den env' j) ds a' → K env' w' → Q .normal a' w') :
    ∀ (os : List Oper) (env : Env) (w : World) (a : Act), Rel n (den env j) ds a → vops P T n all.toList j os env w K → wpListW P all Q os a w := by
  intro os
  induction os with
  | nil => intro env w a hr h; exact hk _ _ _ hr h
  | cons o os ih =>
    intro env w a hr h
    have hcont : ∀ v w', contK n o.dst v env (fun env' => vops P T n all.toList j os env' w' K) → wpListW P all Q os (a.put o.dst v) w' := by
      intro v w' hc
      obtain ⟨env', hr', h'⟩ := contK_out hc hr
      exact ih _ _ _ hr' h'
    have hop : vop P T o env j w (fun v w' => contK n o.dst v env (fun env' => vops P T n all.toList j os env' w' K)) → opW P o a w (wpListW P all Q os) Q :=
      fun hv => vop_sound hT hv hr.eval hcont
    unfold wpListW
    rw [vops_cons] at h
    unfold vopsStep at h
    split at h
    · rename_i hg
      rw [wanted_none hg, if_pos rfl]
      exact hop h
    · rename_i g want hg
      split at h
      · rename_i og hog
        split at h
        · rename_i dg hdg
          rw [lookK_eq] at h
          have hog' : all[g]? = some og := by simpa using hog
          have hlt : dg < a.tmps.size ∨ a.tmps[dg]? = none := by
            rcases Nat.lt_or_ge dg a.tmps.size with h1 | h1
            · exact .inl h1
            · exact .inr (Array.getElem?_eq_none h1)
          have hget := hr.get dg
          split at h
          · rename_i b hb
            rw [hb] at hget
            have hsome : a.tmps[dg]? = some (.bool b) := by
              rcases hlt with h1 | h1
              · simpa [h1] using hget
              · simp [h1, undef] at hget
            have hy : yielded all a.tmps g = some b := by
              simp [yielded, hog', hdg, hsome]
            have hw : Region.wanted o (yielded all a.tmps) = (b == want) := by
              simp [Region.wanted, hg, hy]
            rw [hw]
            split at h
            · exact hop h
            · exact hop h
            · exact hcont _ _ h
            · exact hcont _ _ h
          · rename_i hnb
            rw [unwanted_of hg hog' hdg hget hnb]
            exact hcont _ _ h
        · exact h.elim
      · exact h.elim

theorem vc_sound (hT : TabOK P T) : ∀ (c : Code) (env : Env) (j : Fr) (w : World) (K : Exit → Env → Fr → World → Prop), vc P T n c env j w K → Snd P n c env j w K := by
  intro c
  induction c with
  | skip => exact fun env j w K h Q a ds hr hk => wp_skip (hk _ _ _ _ _ hr h)
  | label l => exact fun env j w K h Q a ds hr hk => wp_label (hk _ _ _ _ _ hr h)
  | exit id => exact fun env j w K h Q a ds hr hk => wp_exit (hk _ _ _ _ _ hr h)
  | goto l => exact fun env j w K h Q a ds hr hk => wp_goto (hk _ _ _ _ _ hr h)
  | ret => exact fun env j w K h Q a ds hr hk => wp_ret (hk _ _ _ _ _ hr h)
  | seq x y ihx ihy =>
    intro env j w K h Q a ds hr hk
    refine wp_seq (ihx _ _ _ _ h _ _ _ hr ?_)
    intro e env' j' w' a' hr' hK
    cases e <;> first | exact ihy _ _ _ _ hK _ _ _ hr' hk | exact hk _ _ _ _ _ hr' hK
  | cond c x y ihx ihy =>
    intro env j w K h Q a ds hr hk
    simp only [vc_cond, evK_eq] at h
    split at h
    · rename_i t e
      rw [← hr.eval] at e
      refine wp_cond e ?_
      cases t
      · exact ihy _ _ _ _ h _ _ _ hr hk
      · exact ihx _ _ _ _ h _ _ _ hr hk
    · exact h.elim
  | block id c ih =>
    intro env j w K h Q a ds hr hk
    refine wp_block (ih _ _ _ _ h _ _ _ hr ?_)
    intro e env' j' w' a' hr' hK
    cases e <;> try exact hk _ _ _ _ _ hr' hK
    rename_i id'
    simp only [blockK] at hK
    simp only [Exit.inBlock]
    cases hb : Nat.beq id' id
    · rw [hb] at hK
      rw [if_neg (fun e => by subst e; rw [Nat.beq_refl] at hb; cases hb)]
      exact hk _ _ _ _ _ hr' hK
    · rw [hb] at hK
      rw [if_pos (Nat.eq_of_beq_eq_true hb)]
      exact hk _ _ _ _ _ hr' hK
  | loop c ih => exact fun env j w K h => h.out
  | region id ops draw =>
    intro env j w K h Q a ds hr hk
    cases draw
    · exact wpIn_wide.1 (wpIn_region_list (wpListW_in none _ _ _ (.inl rfl) (vops_sound hT (fun env' w' a' hr' hK => hk _ _ _ _ _ hr' hK) _ _ _ _ hr h)))
    · have h1 := h.out Q a ds hr hk
      simpa using h1
  | scope c ih => exact fun env j w K h => h.out
  | rangeFunc f ps x y ihx ihy => exact fun env j w K h => h.out
  | refuse w => exact fun env j w K h => h.elim

/-! ### Loops -/
def Holds (env : Env) (j : Fr) : Env → Prop
  | [] => True
  | (d, v) :: r => den env j d = v ∧ Holds env j r

theorem den_holds {env : Env} {j : Fr} : ∀ {live : Env}, Holds env j live → den live (den env j) = den env j := by
  intro live
  induction live with
  | nil => intro _; rfl
  | cons p r ih =>
    obtain ⟨d, v⟩ := p
    intro h
    obtain ⟨h1, h2⟩ := h
    funext k
    simp only [den]
    cases hb : Nat.beq d k
    · simp only [cond_false]; rw [ih h2]
    · have e := Nat.eq_of_beq_eq_true hb
      subst e
      simp [h1]

theorem VLoop.mk' (hT : TabOK P T) {X : Type} (live : X → Env) (inv : X → World → Prop) (μ : X → World → Nat) {c : Code} {env : Env} {j : Fr} {w : World} {K : Exit → Env → Fr → World → Prop}
    (x0 : X) (hl : Holds env j (live x0)) (h0 : inv x0 w)
    (step : ∀ x j w, inv x w → vc P T n c (live x) j w (seqK (fun env' j' w' => ∃ x', Holds env' j' (live x') ∧ inv x' w' ∧ μ x' w' < μ x w) K)) : VLoop P T n c env j w K := by
  refine ⟨fun Q a ds hr hk => ?_⟩
  let I : Act → World → Nat → Prop := fun a w m => ∃ x j, Rel n (den (live x) j) ds a ∧ inv x w ∧ μ x w = m
  have key : ∀ m a w, I a w m → ∀ (b : Frame) (k : List Item) (cs : List Frame),
      ∃ e a' w', Q e a' w' ∧ Arrives P (lone (b.at a (.code c :: .inLoop c :: k)) cs w) b k cs e a' w' := by
    intro m
    induction m using Nat.strongRecOn with
    | _ m ih =>
      rintro a w ⟨x, j, hr, hi, hm⟩ b k cs
      have hs := vc_sound hT _ _ _ _ _ (step x j w hi)
      have h1 := hs (Exit.then (fun a' w' => ∃ m', m' < m ∧ I a' w' m') Q) a ds hr (by
        intro e env' j' w' a' hr' hK
        cases e <;> try exact hk _ _ _ _ _ hr' hK
        obtain ⟨x', hl', hi', hlt⟩ := hK
        refine ⟨_, hm ▸ hlt, x', den env' j', ?_, hi', rfl⟩
        rw [den_holds hl']
        exact hr')
      obtain ⟨e, a₁, w₁, hq, harr⟩ := h1 b (.inLoop c :: k) cs
      cases e with
      | normal =>
        obtain ⟨m', hlt, hI⟩ := hq
        obtain ⟨e₂, a₂, w₂, hq₂, harr₂⟩ := ih m' hlt a₁ w₁ hI b k cs
        exact ⟨e₂, a₂, w₂, hq₂, .of_steps (Steps.trans harr (.one step_inLoop)) harr₂⟩
      | exit id => exact ⟨_, a₁, w₁, hq, .pass (x := .inLoop c) rfl (fun _ _ => .inl (by simp)) harr⟩
      | goto l => exact ⟨_, a₁, w₁, hq, .pass (x := .inLoop c) rfl (fun _ _ => .inl (by simp)) harr⟩
      | ret => exact ⟨_, a₁, w₁, hq, .pass (x := .inLoop c) rfl (fun _ _ => .inl (by simp)) harr⟩
      | panic ch => exact ⟨_, a₁, w₁, hq, .pass (x := .inLoop c) rfl (fun _ _ => .inl (by simp)) harr⟩
      | outgrown => exact ⟨_, a₁, w₁, hq, .pass (x := .inLoop c) rfl (fun _ _ => .inl (by simp)) harr⟩
  intro b k cs
  obtain ⟨e, a', w', hq, harr⟩ := key _ a w ⟨x0, den env j, by rw [den_holds hl]; exact hr, h0, rfl⟩ b k cs
  exact ⟨e, a', w', hq, .of_steps (.one step_loop) harr⟩

/-! ### A function's contract -/
noncomputable def argE (i : Nat) (vs : List Value) : Env :=
  List.rec (motive := fun _ => Nat → Env) (fun _ => []) (fun v _ ih i => (i, v) :: ih (i + 1)) vs i
theorem argE_cons (i : Nat) (v : Value) (vs : List Value) : argE i (v :: vs) = (i, v) :: argE (i + 1) vs := rfl

theorem den_argE (vs : List Value) : ∀ (i k : Nat), den (argE i vs) (fun _ => undef) k = if i ≤ k then vs.getD (k - i) undef else undef := by
  induction vs with
  | nil => intro i k; simp [show argE i [] = [] from rfl, den]
  | cons v vs ih =>
    intro i k
    simp only [argE_cons, den, ih]
    cases hb : Nat.beq i k
    · have hne : i ≠ k := fun e => by subst e; rw [Nat.beq_refl] at hb; cases hb
      simp only [cond_false]
      by_cases h : i ≤ k
      · rw [if_pos h, if_pos (by omega), show k - i = (k - (i + 1)) + 1 by omega]
        simp
      · rw [if_neg h, if_neg (by omega)]
    · have e := Nat.eq_of_beq_eq_true hb
      subst e
      simp

noncomputable def vresStep (T : Tab) (env : Env) (j : Fr) (w : World) (r : ResultVar) (next : (List Value → Prop) → Prop) (K : List Value → Prop) : Prop :=
  match r with
  | .tmp t => lookK env j t fun v => next fun vs => K (v :: vs)
  | .cell a t => lookK env j a fun v => match v with
    | .pointer (some ad) => tyK T t fun y => (match isStruct y.desc with
      | true => ∃ us : List Value, us.length = y.size ∧ Cells w ad us ∧ next fun vs => K (.agg us.toArray :: vs)
      | false => ∃ u, w.cell? ad = some u ∧ next fun vs => K (u :: vs))
    | _ => False
noncomputable def vres (T : Tab) (env : Env) (j : Fr) (w : World) (rs : List ResultVar) : (List Value → Prop) → Prop :=
  List.rec (motive := fun _ => (List Value → Prop) → Prop) (fun K => K []) (fun r _ ih K => vresStep T env j w r ih K) rs
theorem vres_cons (T : Tab) (env : Env) (j : Fr) (w : World) (r : ResultVar) (rs : List ResultVar) (K : List Value → Prop) : vres T env j w (r :: rs) K = vresStep T env j w r (vres T env j w rs) K := rfl

noncomputable def retK (T : Tab) (rs : List ResultVar) (Q : Value → World → Prop) : Exit → Env → Fr → World → Prop := fun e env j w =>
  match e with
  | .normal => vres T env j w rs fun vs => match vs with | [v] => Q v w | vs => Q (.tuple vs.toArray) w
  | .ret => vres T env j w rs fun vs => match vs with | [v] => Q v w | vs => Q (.tuple vs.toArray) w
  | _ => False

def resF (g : Nat → Value) : ResultVar → Sem Value
  | .tmp t => pure (g t)
  | .cell x t => do loadVar t (← asAddr (g x))

theorem vres_out (hT : TabOK P T) {env : Env} {j : Fr} {w : World} : ∀ (rs : List ResultVar) (K : List Value → Prop), vres T env j w rs K →
    ∃ vs : List Value, K vs ∧ (rs.mapM (resF (den env j))).run P w = .ok vs w := by
  intro rs
  induction rs with
  | nil => exact fun K h => ⟨[], h, rfl⟩
  | cons r rs ih =>
    intro K h
    cases r with
    | tmp t =>
      simp only [vres_cons, vresStep, lookK_eq] at h
      obtain ⟨vs, hv, hrun⟩ := ih _ h
      refine ⟨_, hv, ?_⟩
      simp only [List.mapM_cons, Sem.run_bind, Sem.run_pure, Result.andThen_ok, hrun, resF]
    | cell x t =>
      simp only [vres_cons, vresStep, lookK_eq] at h
      split at h
      · rename_i ad e
        obtain ⟨y, hy, hx⟩ := tyK_out hT h; clear h; have h := hx; clear hx
        obtain ⟨l1, l2⟩ := loadVar_run (P := P) hy w ad
        split at h
        · rename_i hs
          obtain ⟨us, hus, hc, hx⟩ := h
          obtain ⟨vs, hv, hrun⟩ := ih _ hx
          refine ⟨_, hv, ?_⟩
          simp only [List.mapM_cons, Sem.run_bind, hrun, resF, e]
          simp only [asAddr, Sem.run_pure, Result.andThen_ok, l1 us hs hus hc, hrun]
        · rename_i hs
          obtain ⟨u, hc, hx⟩ := h
          obtain ⟨vs, hv, hrun⟩ := ih _ hx
          refine ⟨_, hv, ?_⟩
          simp only [List.mapM_cons, Sem.run_bind, hrun, resF, e]
          simp only [asAddr, Sem.run_pure, Result.andThen_ok, l2 u hs hc, hrun]
      · exact h.elim

theorem results_run (hT : TabOK P T) {env : Env} {j : Fr} {w : World} {ds : List Deferred} {a : Act} (hr : Rel n (den env j) ds a) {fn : Func} {Q : Value → World → Prop}
    (h : vres T env j w fn.results.toList fun vs => match vs with | [v] => Q v w | vs => Q (.tuple vs.toArray) w) :
    ∃ v, (Go.results fn a.tmps).run P w = .ok v w ∧ Q v w := by
  obtain ⟨vs, hv, hrun⟩ := vres_out hT _ _ h
  have e2 : Go.results fn a.tmps = (do let vs ← fn.results.mapM (resF (den env j)); pure (if h : vs.size = 1 then vs[0] else .tuple vs)) := by
    unfold Go.results
    congr 1
    congr 1
    funext r
    cases r <;> simp only [resF] <;> rw [hr.get]
  refine ⟨if h : vs.toArray.size = 1 then vs.toArray[0] else .tuple vs.toArray, ?_, ?_⟩
  · rw [e2, Array.mapM_eq_mapM_toList]
    simp only [Sem.run_bind, map_eq_pure_bind, bind_assoc, pure_bind, hrun, Result.andThen_ok, Sem.run_pure]
  · match vs, hv with
    | [], hv => exact hv
    | [v], hv => exact hv
    | v :: u :: vs, hv => simpa using hv

theorem Ret.of_vc (hT : TabOK P T) {f : Nat} {fn : Func} {c : Code} {rs : List ResultVar} {args : Array Value} {w : World} {Q : Value → World → Prop}
    (hf : P.funcs[f]? = some fn) (hb : fn.body = some c) (hn : fn.ntmps = n) (hrs : fn.results.toList = rs) (hargs : args.size ≤ n)
    (hcall : ∀ (args : Array Value) (w : World), (callFunc f args).run P w = .ok (.enter f args) w)
    (h : vc P T n c (argE 0 args.toList) (fun _ => undef) w (retK T rs Q)) : Ret P f args w Q := by
  refine ⟨.inl ⟨f, hcall args w, calls_of_wp hf hb ?_⟩⟩
  refine vc_sound hT _ _ _ _ _ h _ _ [] ⟨rfl, by simp [hn]; omega, fun k => ?_⟩ ?_
  · rw [den_argE]
    simp only [Nat.zero_le, if_true, Nat.sub_zero, hn]
    rcases Nat.lt_or_ge k args.size with hk | hk
    · simp [Array.getElem?_append_left hk]
    · simp only [Array.getD_eq_getD_getElem?, Array.getElem?_append_right hk, Array.getElem?_replicate, List.getD_eq_getElem?_getD]
      rw [List.getElem?_eq_none (by simpa using hk)]
      split <;> rfl
  · intro e env' j' w' a' hr hK
    cases e <;> try exact hK.elim
    · simp only [retK] at hK
      rw [← hrs] at hK
      obtain ⟨v, hrun, hq⟩ := results_run hT hr hK
      exact ⟨hr.defers, v, hrun, v, rfl, hq⟩
    · simp only [retK] at hK
      rw [← hrs] at hK
      obtain ⟨v, hrun, hq⟩ := results_run hT hr hK
      exact ⟨hr.defers, v, hrun, v, rfl, hq⟩
end
/-! ### A region that draws its order -/
section
variable {P : Program} {T : Tab} {n : Nat} {ds : List Deferred} {ops : Array Oper} {Q : Exit → Act → World → Prop} {S : World → Prop} {late : List Nat}

def unl (late : List Nat) (listed : Array Bool) : Prop := ∀ k, k ∈ late → listed.getD k false = false

/-- One operation of a region, in whatever frame. -/
def wpOpW (P : Program) (ops : Array Oper) (Q : Exit → Act → World → Prop) (i : Nat) (K : Act → World → Prop) (a : Act) (w : World) : Prop :=
  match ops[i]? with
  | none => K a w
  | some o => if Region.wanted o (yielded ops a.tmps) then opW P o a w K Q else K (a.put o.dst undef) w
theorem opW_mono {o : Oper} {a : Act} {w : World} {K K' : Act → World → Prop} (h : ∀ a w, K a w → K' a w) (hh : opW P o a w K Q) : opW P o a w K' Q := by
  unfold opW at *
  generalize (execOp a.eval o).run P w = r at *
  cases r with
  | ok n w' =>
    cases n <;> simp only [Oper.uponIn] at hh ⊢ <;> try exact h _ _ hh
    case enter f args => exact ⟨hh.1, CallsIn.mono hh.2 fun e w'' he => by cases e <;> first | exact h _ _ he | exact he⟩
    case row row args => exact ⟨hh.1, RowsIn.mono hh.2 fun u w'' he => h _ _ he⟩
    case round l f tmps assign body => exact ⟨hh.1, RoundIn.mono hh.2 fun e w'' he => by cases e <;> first | exact h _ _ he | exact he⟩
  | halt x w' => cases x <;> simp only [Oper.uponIn] at hh ⊢ <;> exact hh
theorem wpOpW_mono {i : Nat} {a : Act} {w : World} {K K' : Act → World → Prop} (h : ∀ a w, K a w → K' a w) (hh : wpOpW P ops Q i K a w) : wpOpW P ops Q i K' a w := by
  unfold wpOpW at *
  split at hh
  · exact h _ _ hh
  · split at hh
    · rename_i hw; rw [if_pos hw]; exact opW_mono h hh
    · rename_i hw; rw [if_neg hw]; exact h _ _ hh
theorem wpOpW_in {i : Nat} {a : Act} {w : World} {K : Act → World → Prop} (hh : wpOpW P ops Q i K a w) : wpOpIn FW 0 P ops Q i K a w := by
  unfold wpOpW at hh
  unfold wpOpIn
  cases ho : ops[i]? with
  | none => rw [ho] at hh; exact hh
  | some o =>
    rw [ho] at hh
    dsimp only at hh ⊢
    split
    · rename_i hw; rw [if_pos hw] at hh; exact opW_in none (.inl rfl) hh
    · rename_i hw; rw [if_neg hw] at hh; exact ⟨fun _ _ => trivial, hh⟩
theorem wpOpW_yields {S : World → Prop} {i : Nat} {o : Oper} {v : Value} {a : Act} (hi : ops[i]? = some o) (hy : YieldsIf P ops S o v a)
    {K : Act → World → Prop} {w : World} (hS : S w) (h : K (a.put o.dst v) w) : wpOpW P ops Q i K a w := by
  unfold wpOpW
  simp only [hi]
  rcases hy with ⟨hw, hv⟩ | ⟨hw, rfl⟩
  · simp only [hw, if_true, opW, hv w hS, Oper.uponIn]; exact h
  · simp only [hw, Bool.false_eq_true, if_false]; exact h
theorem wpOpW_putIf {S : World → Prop} {j : Nat} {oi oj : Oper} {v : Value} (hj : ops[j]? = some oj) (hap : oi.apart ops oj = true)
    (hsi : ∀ cs b, oi.op ≠ .select cs b) (hsj : ∀ cs b, oj.op ≠ .select cs b)
    (hQ : ∀ c a w, Q (.panic c) (a.put oi.dst v) w → Q (.panic c) a w) {K : Act → World → Prop} {a : Act} {w : World}
    (hy : YieldsIf P ops S oi v a) (h : wpOpW P ops Q j K (a.put oi.dst v) w) :
    wpOpW P ops Q j (fun a' w' => YieldsIf P ops S oi v a' ∧ K (a'.put oi.dst v) w') a w := by
  obtain ⟨h1, h2, h3⟩ := Oper.apart_spec hap
  have keep : ∀ (a : Act), YieldsIf P ops S oi v a → ∀ u, YieldsIf P ops S oi v (a.put oj.dst u) := fun a hy u =>
    hy.of_same (execOp_put oi hsi a oj.dst u h3) (wanted_put oi a oj.dst u h3)
  have keepD : ∀ d, YieldsIf P ops S oi v { a with defers := d :: a.defers } := fun d => hy.of_same rfl rfl
  unfold wpOpW at *
  simp only [hj] at *
  rw [wanted_put oj a oi.dst v h1] at h
  split
  · rename_i hw
    simp only [hw, if_true] at h
    unfold opW at *
    rw [execOp_put oj hsj a oi.dst v h1] at h
    generalize (execOp a.eval oj).run P w = r at *
    cases r with
    | ok x w' =>
      cases x <;> simp only [Oper.uponIn] at h ⊢
      case value u => exact ⟨keep a hy u, by rw [← Act.put_comm a v u h2]; exact h⟩
      case skip => exact ⟨keep a hy _, by rw [← Act.put_comm a v undef h2]; exact h⟩
      case defer d =>
        refine ⟨keep _ (keepD d) _, ?_⟩
        rw [← Act.put_comm _ v undef h2, ← Act.put_defers]
        exact h
      case enter f args =>
        refine ⟨h.1, CallsIn.mono h.2 fun e w'' he => ?_⟩
        cases e with
        | returned u => exact ⟨keep a hy u, by rw [← Act.put_comm a v u h2]; exact he⟩
        | panicked c => exact hQ _ _ _ he
        | outgrown => exact he
      case row row args => exact ⟨h.1, RowsIn.mono h.2 fun u w'' he => ⟨keep a hy u, by rw [← Act.put_comm a v u h2]; exact he⟩⟩
      case round l f tmps assign body =>
        refine ⟨h.1, RoundIn.mono h.2 fun e w'' he => ?_⟩
        cases e with
        | returned u => exact ⟨keep a hy u, by rw [← Act.put_comm a v u h2]; exact he⟩
        | panicked c => exact hQ _ _ _ he
        | outgrown => exact he
    | halt x w' =>
      cases x <;> simp only [Oper.uponIn] at h ⊢
      case panic u => exact hQ _ _ _ h
  · rename_i hw
    simp only [hw] at h
    exact ⟨keep a hy _, by rw [← Act.put_comm a v undef h2]; exact h⟩

/-- Whatever order is picked from here on; S holds behind each operation, as long as nothing late has come up. -/
def AnyL (P : Program) (ops : Array Oper) (Q : Exit → Act → World → Prop) (S : World → Prop) (late : List Nat) : Nat → Array Bool → Act → World → Prop
  | 0, listed, a, w => Region.ready .any ops listed = [] ∧ Q .normal a w
  | fuel + 1, listed, a, w => (Region.ready .any ops listed = [] → Q .normal a w) ∧
    ∀ i ∈ Region.ready .any ops listed, wpOpW P ops Q i (fun a' w' => (i ∉ late → unl late listed → S w') ∧ AnyL P ops Q S late fuel (listed.setIfInBounds i true) a' w') a w

theorem any_of_anyL : ∀ (fuel : Nat) (listed : Array Bool) (a : Act) (w : World), AnyL P ops Q S late fuel listed a w → wpAnyIn FW 0 P .any ops Q fuel listed a w
  | 0, _, _, _, h => h
  | fuel + 1, listed, _, _, h => ⟨h.1, fun i hi => wpOpW_in (wpOpW_mono (fun a' w' h' => any_of_anyL fuel (listed.setIfInBounds i true) a' w' h'.2) (h.2 i hi))⟩

theorem unl_set {listed : Array Bool} {i : Nat} (hi : i ∉ late) (h : unl late listed) : unl late (listed.setIfInBounds i true) := by
  intro k hk
  have hne : i ≠ k := fun e => hi (e ▸ hk)
  rw [getD_set_ne false hne]
  exact h k hk

theorem unl_of_set {listed : Array Bool} {i : Nat} (hl : i < listed.size) (h : unl late (listed.setIfInBounds i true)) : i ∉ late ∧ unl late listed := by
  constructor
  · intro hi
    have := h i hi
    simp [hl] at this
  · intro k hk
    have := h k hk
    by_cases e : i = k
    · subst e
      simp [hl] at this
    · rw [getD_set_ne false e] at this
      exact this

/-- k waits for i, itself or through others. -/
def waits (ops : Array Oper) (i : Nat) : Nat → Nat → Bool
  | 0, _ => false
  | d + 1, k => match ops[k]? with
    | none => false
    | some ok => ok.after.any (fun e => Region.binds .any e && Nat.beq e.on i) || ok.after.any (fun e => Region.binds .any e && waits ops i d e.on)
def closed (ops : Array Oper) (listed : Array Bool) : Prop := ∀ k ok, ops[k]? = some ok → listed.getD k false = true → ∀ e ∈ ok.after, Region.binds .any e = true → listed.getD e.on false = true
theorem closed_set {listed : Array Bool} {k : Nat} (hc : closed ops listed) (hk : k ∈ Region.ready .any ops listed) : closed ops (listed.setIfInBounds k true) := by
  intro m om hm hl e he hb
  by_cases h : k = m
  · subst h
    obtain ⟨_, ok, hok, hall⟩ := mem_ready.1 hk
    rw [hok] at hm
    cases hm
    exact getD_set_true (hall e he hb)
  · rw [getD_set_ne false h] at hl
    exact getD_set_true (hc m om hm hl e he hb)
theorem waits_after {listed : Array Bool} {i : Nat} (hc : closed ops listed) (hi : listed.getD i false = false) : ∀ d k ok, ops[k]? = some ok → waits ops i d k = true → ∃ e ∈ ok.after, Region.binds .any e = true ∧ listed.getD e.on false = false := by
  intro d
  induction d with
  | zero => intro k ok _ h; simp [waits] at h
  | succ d ih =>
    intro k ok hok h
    simp only [waits, hok, Bool.or_eq_true] at h
    rcases h with h | h
    · obtain ⟨e, he, hb⟩ := Array.any_eq_true'.1 h
      simp only [Bool.and_eq_true] at hb
      exact ⟨e, he, hb.1, by rw [Nat.eq_of_beq_eq_true hb.2]; exact hi⟩
    · obtain ⟨e, he, hb⟩ := Array.any_eq_true'.1 h
      simp only [Bool.and_eq_true] at hb
      refine ⟨e, he, hb.1, ?_⟩
      cases hl : listed.getD e.on false with
      | false => rfl
      | true =>
        cases ho : ops[e.on]? with
        | none =>
          have hw := hb.2
          cases d with
          | zero => simp [waits] at hw
          | succ d => simp [waits, ho] at hw
        | some oe =>
          obtain ⟨e2, he2, hb2, hl2⟩ := ih e.on oe ho hb.2
          rw [hc e.on oe ho hl e2 he2 hb2] at hl2
          cases hl2

/-- What an operation that is taken first yields: in whatever world, or in each that meets S, and then everything late waits for it. -/
def TakeOK (P : Program) (ops : Array Oper) (S : World → Prop) (late : List Nat) (i : Nat) (oi : Oper) (v : Value) (a : Act) (listed : Array Bool) : Prop :=
  YieldsIf P ops (fun _ => True) oi v a ∨ (YieldsIf P ops S oi v a ∧ unl late listed ∧ ∀ k ∈ late, waits ops i 4 k = true)

/-- An operation that reads, or only reckons, may be taken first. -/
theorem anyL_first {i : Nat} {oi : Oper} {v : Value} (hi : ops[i]? = some oi) (hsel : Region.noSelect ops = true)
    (hQ : ∀ c a w, Q (.panic c) (a.put oi.dst v) w → Q (.panic c) a w) (hlate : i ∉ late) :
    ∀ (fuel : Nat) (listed : Array Bool) (a : Act) (w : World), listed.size = ops.size → closed ops listed →
      (∀ k ok, ops[k]? = some ok → k ≠ i → listed.getD k true = false → (∀ e ∈ ok.after, Region.binds .any e = true → e.on ≠ i) → oi.apart ops ok = true) →
      i ∈ Region.ready .any ops listed → TakeOK P ops S late i oi v a listed → (unl late listed → S w) →
      AnyL P ops Q S late fuel (listed.setIfInBounds i true) (a.put oi.dst v) w → AnyL P ops Q S late (fuel + 1) listed a w := by
  have self : ∀ {fuel : Nat} {listed : Array Bool} {a : Act} {w : World}, TakeOK P ops S late i oi v a listed → (unl late listed → S w) →
      AnyL P ops Q S late fuel (listed.setIfInBounds i true) (a.put oi.dst v) w →
      wpOpW P ops Q i (fun a' w' => (i ∉ late → unl late listed → S w') ∧ AnyL P ops Q S late fuel (listed.setIfInBounds i true) a' w') a w := by
    intro fuel listed a w hy hw H
    rcases hy with hy | ⟨hy, hu, _⟩
    · exact wpOpW_yields hi hy trivial ⟨fun _ hu => hw hu, H⟩
    · exact wpOpW_yields hi hy (hw hu) ⟨fun _ hu => hw hu, H⟩
  intro fuel
  induction fuel with
  | zero =>
    intro listed a w _ _ _ hr hy hw H
    refine ⟨fun h => (by rw [h] at hr; cases hr), fun k hk => ?_⟩
    by_cases hki : k = i
    · subst hki; exact self hy hw H
    · have := ready_mono hk hki
      rw [H.1] at this
      cases this
  | succ fuel ih =>
    intro listed a w hsz hcl hfree hr hy hw H
    refine ⟨fun h => (by rw [h] at hr; cases hr), fun k hk => ?_⟩
    by_cases hki : k = i
    · subst hki; exact self hy hw H
    have h1 := H.2 k (ready_mono hk hki)
    obtain ⟨hkun, ok, hok, hall⟩ := mem_ready.1 hk
    have hiun := (mem_ready.1 hr).1
    have hnot : ∀ e ∈ ok.after, Region.binds .any e = true → e.on ≠ i := fun e he hb heq => by
      have h1 := hall e he hb
      rw [heq] at h1
      rcases Nat.lt_or_ge i listed.size with h' | h'
      · simp [h'] at hiun h1; rw [hiun] at h1; cases h1
      · simp [Array.getElem?_eq_none h'] at h1
    have hklt : k < listed.size := by rw [hsz]; exact (Array.getElem?_eq_some_iff.1 hok).1
    have hap := hfree k ok hok hki hkun hnot
    have hfree' : ∀ m om, ops[m]? = some om → m ≠ i → (listed.setIfInBounds k true).getD m true = false →
        (∀ e ∈ om.after, Region.binds .any e = true → e.on ≠ i) → oi.apart ops om = true := fun m om hm hmi hun hno => by
      refine hfree m om hm hmi ?_ hno
      by_cases hkm : k = m
      · subst hkm; exact hkun
      · rw [getD_set_ne true hkm] at hun; exact hun
    have hs1 : ∀ cs b, oi.op ≠ .select cs b := fun cs b => Region.noSelect_spec hsel i oi cs b hi
    have hs2 : ∀ cs b, ok.op ≠ .select cs b := fun cs b => Region.noSelect_spec hsel k ok cs b hok
    have fin : ∀ (a' : Act) (w' : World), TakeOK P ops S late i oi v a' (listed.setIfInBounds k true) →
        ((k ∉ late → unl late (listed.setIfInBounds i true) → S w') ∧ AnyL P ops Q S late fuel ((listed.setIfInBounds i true).setIfInBounds k true) (a'.put oi.dst v) w') →
        ((k ∉ late → unl late listed → S w') ∧ AnyL P ops Q S late (fuel + 1) (listed.setIfInBounds k true) a' w') := by
      intro a' w' hy' h3
      refine ⟨fun hkl hun => h3.1 hkl (unl_set hlate hun), ih _ a' w' (by simp [hsz]) (closed_set hcl hk) hfree' (ready_mono hr (Ne.symm hki)) hy' ?_ ?_⟩
      · intro hun
        obtain ⟨h4, h5⟩ := unl_of_set hklt hun
        exact h3.1 h4 (unl_set hlate h5)
      · rw [Array.setIfInBounds_comm _ _ hki]; exact h3.2
    rcases hy with hy | ⟨hy, hu, hwait⟩
    · exact wpOpW_mono (fun a' w' h3 => fin a' w' (.inl h3.1) h3.2) (wpOpW_putIf hok hap hs1 hs2 hQ hy h1)
    · have hkl : k ∉ late := fun hkl => by
        have hi0 : listed.getD i false = false := by
          rcases Nat.lt_or_ge i listed.size with h' | h'
          · simpa [h'] using hiun
          · simp [Array.getElem?_eq_none h']
        obtain ⟨e, he, hb, hl⟩ := waits_after hcl hi0 4 k ok hok (hwait k hkl)
        rw [hall e he hb] at hl
        cases hl
      exact wpOpW_mono (fun a' w' h3 => fin a' w' (.inr ⟨h3.1, unl_set hkl hu, hwait⟩) h3.2) (wpOpW_putIf hok hap hs1 hs2 hQ hy h1)

/-- A plan: which operation is taken next; 'alt': whichever of these comes up. -/
inductive PT where
  | done
  | take (i : Nat) (r : PT)
  | alt (is : List Nat) (f : Nat → PT)
def PT.one (i : Nat) (r : PT) : PT := .alt [i] (fun _ => r)
def PT.two (i k : Nat) (r : PT) : PT := .alt [i, k] (fun x => bif Nat.beq x i then .alt [k] (fun _ => r) else .alt [i] (fun _ => r))
def PT.len : PT → Nat
  | .done => 0
  | .take _ r => r.len + 1
  | .alt is f => match is with | [] => 1 | i :: _ => (f i).len + 1
def altK : List Nat → (Nat → Prop) → Prop
  | [], _ => True
  | [i], F => F i
  | i :: r, F => F i ∧ altK r F
theorem altK_out : ∀ {is : List Nat} {F : Nat → Prop}, altK is F → ∀ i ∈ is, F i := by
  intro is F
  induction is with
  | nil => intro _ i hi; cases hi
  | cons k r ih =>
    intro h i hi
    cases r with
    | nil => rcases List.mem_cons.1 hi with rfl | hi; exact h; cases hi
    | cons m r =>
      rcases List.mem_cons.1 hi with rfl | hi
      · exact h.1
      · exact ih h.2 i hi

noncomputable def vtake (P : Program) (T : Tab) (S : World → Prop) (o : Oper) (env : Env) (j : Fr) (K : Value → Prop) : Prop :=
  match o.op with
  | .load t a => evK env j a fun v => match v with
    | .pointer (some ad) => tyK T t fun y => (match isStruct y.desc with
      | true => ∃ vs : List Value, vs.length = y.size ∧ (∀ w', S w' → Cells w' ad vs) ∧ K (.agg vs.toArray)
      | false => ∃ u, (∀ w', S w' → w'.cell? ad = some u) ∧ K u)
    | _ => False
  | .lookup t x i ok => evK env j x fun x => evK env j i fun i => ∃ v, (∀ w', S w' → (Instr.lookup t x i ok).run P w' = .ok v w') ∧ K v
  | .build t ps => evsK env j (ps.toList.map (·.2)) fun vs => ∃ v, (∀ w', (Instr.build t ((ps.toList.map (·.1)).zip vs).toArray).run P w' = .ok v w') ∧ K v
  | .call c => match c.callee with
    | .builtin .len => (match c.argTypes[0]? with
        | some t => tyK T t fun y => (match y.desc with
          | .map _ _ => evsK env j c.args.toList fun vs => ∃ v, (∀ w', S w' → (Builtin.len_ c.argTypes o.type vs.toArray).run P w' = .ok v w') ∧ K v
          | _ => vpure P T o env j K)
        | none => False)
    | _ => vpure P T o env j K
  | _ => vpure P T o env j K

def reads : Op → Bool
  | .load _ _ => true
  | .lookup _ _ _ _ => true
  | .call c => (match c.callee with | .builtin .len => true | _ => false)
  | _ => false

def takeOp (ops : Array Oper) (late : List Nat) (listed : Array Bool) (i : Nat) : Bool :=
  match ops[i]? with
  | some o => !reads o.op || (late.all (fun k => !listed.getD k false) && late.all (fun k => waits ops i 4 k))
  | none => false

def chkPlan (ops : Array Oper) (late : List Nat) : Array Bool → PT → Bool
  | listed, .done => (Region.ready .any ops listed).isEmpty
  | listed, .take i r => Region.free .any ops listed i && (Region.ready .any ops listed).contains i && !(late.contains i) && takeOp ops late listed i && chkPlan ops late (listed.setIfInBounds i true) r
  | listed, .alt is f => Region.ready .any ops listed == is && !is.isEmpty && is.all (fun i => chkPlan ops late (listed.setIfInBounds i true) (f i))

noncomputable def planGo (all : List Oper) (o : Oper) (env : Env) (j : Fr) (yes no : Prop) : Prop :=
  match o.guard with
  | none => yes
  | some (g, want) => match all[g]? with
    | some og => (match og.dst with
      | some dg => lookK env j dg (fun c => match c with
        | .bool b => (match b, want with
          | true, true => yes
          | false, false => yes
          | true, false => no
          | false, true => no)
        | _ => no)
      | none => False)
    | none => False

noncomputable def vplan (P : Program) (T : Tab) (n : Nat) (all : List Oper) (j : Fr) (S : World → Prop) (late : List Nat) (p : PT) : Bool → Env → World → (Env → World → Prop) → Prop :=
  PT.rec (motive := fun _ => Bool → Env → World → (Env → World → Prop) → Prop)
    (fun ph env w K => K env w)
    (fun i _ ih ph env w K => match all[i]? with
      | some o => planGo all o env j
          (vtake P T S o env j (fun v => contK n o.dst v env (fun env' => ih ph env' w K)))
          (contK n o.dst undef env (fun env' => ih ph env' w K))
      | none => False)
    (fun is _ ih ph env w K => altK is fun i => match all[i]? with
      | some o => planGo all o env j
          (vop P T o env j w (fun v w' => (match (ph || late.contains i) with
            | true => contK n o.dst v env (fun env' => ih i true env' w' K)
            | false => S w' ∧ contK n o.dst v env (fun env' => ih i false env' w' K))))
          (contK n o.dst undef env (fun env' => ih i (ph || late.contains i) env' w K))
      | none => False) p
section
variable {P : Program} {T : Tab} {n : Nat} {ds : List Deferred} {all : List Oper} {j : Fr} {S : World → Prop} {late : List Nat}
theorem vplan_take (i : Nat) (r : PT) (ph : Bool) (env : Env) (w : World) (K : Env → World → Prop) : vplan P T n all j S late (.take i r) ph env w K = match all[i]? with
    | some o => planGo all o env j
        (vtake P T S o env j (fun v => contK n o.dst v env (fun env' => vplan P T n all j S late r ph env' w K)))
        (contK n o.dst undef env (fun env' => vplan P T n all j S late r ph env' w K))
    | none => False := rfl
theorem vplan_alt (is : List Nat) (f : Nat → PT) (ph : Bool) (env : Env) (w : World) (K : Env → World → Prop) : vplan P T n all j S late (.alt is f) ph env w K = altK is fun i => match all[i]? with
    | some o => planGo all o env j
        (vop P T o env j w (fun v w' => (match (ph || late.contains i) with
          | true => contK n o.dst v env (fun env' => vplan P T n all j S late (f i) true env' w' K)
          | false => S w' ∧ contK n o.dst v env (fun env' => vplan P T n all j S late (f i) false env' w' K))))
        (contK n o.dst undef env (fun env' => vplan P T n all j S late (f i) (ph || late.contains i) env' w K))
    | none => False := rfl
end

theorem planGo_out {all : Array Oper} {o : Oper} {env : Env} {j : Fr} {yes no : Prop} {a : Act} (hr : Rel n (den env j) ds a) (h : planGo all.toList o env j yes no) :
    (Region.wanted o (yielded all a.tmps) = true ∧ yes) ∨ (Region.wanted o (yielded all a.tmps) = false ∧ no) := by
  unfold planGo at h
  split at h
  · rename_i hg
    exact .inl ⟨wanted_none hg _, h⟩
  · rename_i g want hg
    split at h
    · rename_i og hog
      split at h
      · rename_i dg hdg
        rw [lookK_eq] at h
        have hog' : all[g]? = some og := by simpa using hog
        have hlt : dg < a.tmps.size ∨ a.tmps[dg]? = none := by
          rcases Nat.lt_or_ge dg a.tmps.size with h1 | h1
          · exact .inl h1
          · exact .inr (Array.getElem?_eq_none h1)
        have hget := hr.get dg
        split at h
        · rename_i b hb
          rw [hb] at hget
          have hsome : a.tmps[dg]? = some (.bool b) := by
            rcases hlt with h1 | h1
            · simpa [h1] using hget
            · simp [h1, undef] at hget
          have hy : yielded all a.tmps g = some b := by simp [yielded, hog', hdg, hsome]
          have hw : Region.wanted o (yielded all a.tmps) = (b == want) := by simp [Region.wanted, hg, hy]
          rw [hw]
          split at h
          · exact .inl ⟨rfl, h⟩
          · exact .inl ⟨rfl, h⟩
          · exact .inr ⟨rfl, h⟩
          · exact .inr ⟨rfl, h⟩
        · rename_i hnb
          exact .inr ⟨unwanted_of hg hog' hdg hget hnb, h⟩
      · exact h.elim
    · exact h.elim

theorem vtake_sound (hT : TabOK P T) {o : Oper} {env : Env} {j : Fr} {K : Value → Prop} (h : vtake P T S o env j K) {a : Act} (he : a.eval = evF (den env j)) :
    ∃ v, K v ∧ ((∀ w, (execOp a.eval o).run P w = .ok (.value v) w) ∨ (reads o.op = true ∧ ∀ w, S w → (execOp a.eval o).run P w = .ok (.value v) w)) := by
  have hpure : vpure P T o env j K → ∃ v, K v ∧ ((∀ w, (execOp a.eval o).run P w = .ok (.value v) w) ∨ (reads o.op = true ∧ ∀ w, S w → (execOp a.eval o).run P w = .ok (.value v) w)) := fun hp => by
    obtain ⟨v, hv, hr⟩ := vpure_sound (P := P) hT hp
    exact ⟨v, hv, .inl fun w => by rw [he]; exact hr w⟩
  obtain ⟨dst, op, type, pos, after, guard⟩ := o
  generalize hl : evF (den env j) = ρ at *
  cases op <;> simp only [vtake, evK_eq, evsK_eq, hl] at h <;> try exact hpure h
  case load t x =>
    split at h
    · rename_i ad e
      obtain ⟨y, hy, hx⟩ := tyK_out hT h; clear h; have h := hx; clear hx
      split at h
      · rename_i hs
        obtain ⟨vs, hvs, hc, h⟩ := h
        refine ⟨_, h, .inr ⟨rfl, fun w hw => ?_⟩⟩
        rw [he]
        simp only [execOp, Instr.loadAt, e, Instr.sureAddr, Sem.run_bind, Sem.run_pure, Result.andThen_ok, (loadVar_run (P := P) hy w ad).1 vs hs hvs (hc w hw)]
      · rename_i hs
        obtain ⟨u, hc, h⟩ := h
        refine ⟨_, h, .inr ⟨rfl, fun w hw => ?_⟩⟩
        rw [he]
        simp only [execOp, Instr.loadAt, e, Instr.sureAddr, Sem.run_bind, Sem.run_pure, Result.andThen_ok, (loadVar_run (P := P) hy w ad).2 u hs (hc w hw)]
    · exact h.elim
  case lookup t x i ok =>
    obtain ⟨v, hr, h⟩ := h
    exact ⟨v, h, .inr ⟨rfl, fun w hw => by rw [he]; exact run_v (hr w hw)⟩⟩
  case build t ps =>
    obtain ⟨v, hr, h⟩ := h
    exact ⟨v, h, .inl fun w => by rw [he]; exact run_v (by have := hr w; rw [parts_eq] at this; exact this)⟩
  case call c =>
    obtain ⟨callee, args, ats⟩ := c
    cases callee <;> simp only [evK_eq, evsK_eq, hl] at h <;> try exact hpure h
    case builtin b =>
      cases b <;> simp only at h <;> try exact hpure h
      case len =>
        split at h
        · obtain ⟨y, hy, hx⟩ := tyK_out hT h; clear h; have h := hx; clear hx
          split at h
          · obtain ⟨v, hr, h⟩ := h
            refine ⟨v, h, .inr ⟨rfl, fun w hw => ?_⟩⟩
            have hr' := hr w hw
            rw [map_arr] at hr'
            rw [he]
            exact builtin_run rfl hr'
          · exact hpure h
        · exact h.elim

/-- There is fuel for what is not listed yet. -/
def plenty (ops : Array Oper) (listed : Array Bool) (fuel : Nat) : Prop := (listed.toList.filter (fun b => !b)).length ≤ fuel
theorem plenty_step {ops : Array Oper} {listed : Array Bool} {fuel i : Nat} (hsz : listed.size = ops.size) (h : plenty ops listed fuel) (hi : i ∈ Region.ready .any ops listed) : ∃ f, fuel = f + 1 ∧ plenty ops (listed.setIfInBounds i true) f := by
  have hun := (mem_ready.1 hi).1
  have hlt : i < listed.size := by
    rcases Nat.lt_or_ge i listed.size with h1 | h1
    · exact h1
    · simp [Array.getElem?_eq_none h1] at hun
  have key : ∀ (l : List Bool) (k : Nat), k < l.length → l.getD k true = false → ((l.set k true).filter (fun b => !b)).length + 1 = (l.filter (fun b => !b)).length := by
    intro l
    induction l with
    | nil => intro k hk; simp at hk
    | cons b l ih =>
      intro k hk hg
      cases k with
      | zero =>
        simp at hg
        subst hg
        simp
      | succ k =>
        have := ih k (by simpa using hk) (by simpa using hg)
        cases b <;> simp at this ⊢ <;> omega
  have h1 := key listed.toList i (by simpa using hlt) (by simpa using hun)
  unfold plenty at *
  have e : (listed.setIfInBounds i true).toList = listed.toList.set i true := by simp
  rw [e]
  exact ⟨fuel - 1, by omega, by omega⟩

theorem vplan_sound (hT : TabOK P T) {all : Array Oper} {j : Fr} {K : Env → World → Prop} (hsel : Region.noSelect all = true)
    (hp : ∀ c a w, ¬ Q (.panic c) a w) (hk : ∀ env' w' a', Rel n (den env' j) ds a' → K env' w' → Q .normal a' w') :
    ∀ (plan : PT) (fuel : Nat) (listed : Array Bool) (ph : Bool) (env : Env) (w : World) (a : Act), listed.size = all.size → closed all listed → chkPlan all late listed plan = true → (unl late listed → S w) → (unl late listed → ph = false) →
      Rel n (den env j) ds a → vplan P T n all.toList j S late plan ph env w K → plenty all listed fuel → AnyL P all Q S late fuel listed a w := by
  intro plan
  induction plan with
  | done =>
    intro fuel listed ph env w a hsz hcl hc hS hph hr h hf
    have hnil : Region.ready .any all listed = [] := by simpa [chkPlan] using hc
    cases fuel with
    | zero => exact ⟨hnil, hk _ _ _ hr h⟩
    | succ fuel => exact ⟨fun _ => hk _ _ _ hr h, fun i hi => (by rw [hnil] at hi; cases hi)⟩
  | take i r ih =>
    intro fuel listed ph env w a hsz hcl hc hS hph hr h hf
    simp only [chkPlan, Bool.and_eq_true, Bool.not_eq_true'] at hc
    obtain ⟨⟨⟨⟨hfree, hready⟩, hlate⟩, htake⟩, hrest⟩ := hc
    have hil : i ∉ late := fun hi => by rw [List.contains_iff_mem.2 hi] at hlate; cases hlate
    simp only [vplan_take] at h
    split at h
    · rename_i o ho
      have ho' : all[i]? = some o := by simpa using ho
      have hmem : i ∈ Region.ready .any all listed := by simpa using hready
      obtain ⟨fuel, rfl, hf'⟩ := plenty_step hsz hf hmem
      have next : ∀ v, contK n o.dst v env (fun env' => vplan P T n all.toList j S late r ph env' w K) → AnyL P all Q S late fuel (listed.setIfInBounds i true) (a.put o.dst v) w := by
        intro v hcv
        obtain ⟨env', hr', h'⟩ := contK_out hcv hr
        refine ih _ _ ph env' w _ (by simp [hsz]) (closed_set hcl hmem) hrest (fun hu => hS ?_) (fun hu => hph ?_) hr' h' hf' <;>
        · exact (unl_of_set (by rw [hsz]; exact (Array.getElem?_eq_some_iff.1 ho').1) hu).2
      have hfree' := Region.free_spec (md := .any) ho' hfree
      rcases planGo_out hr h with ⟨hw, h⟩ | ⟨hw, h⟩
      · obtain ⟨v, hv, hrun⟩ := vtake_sound hT h hr.eval
        refine anyL_first ho' hsel (fun c a w hh => absurd hh (hp _ _ _)) hil _ _ _ _ hsz hcl hfree' hmem (v := v) ?_ hS (next v hv)
        rcases hrun with hrun | ⟨hre, hrun⟩
        · exact .inl (.inl ⟨hw, fun w _ => hrun w⟩)
        · refine .inr ⟨.inl ⟨hw, hrun⟩, ?_⟩
          simp only [takeOp, ho', hre, Bool.not_true, Bool.false_or, Bool.and_eq_true, List.all_eq_true] at htake
          exact ⟨fun k hk => by simpa using htake.1 k hk, htake.2⟩
      · exact anyL_first ho' hsel (fun c a w hh => absurd hh (hp _ _ _)) hil _ _ _ _ hsz hcl hfree' hmem (v := undef) (.inl (.inr ⟨hw, rfl⟩)) hS (next undef h)
    · exact h.elim
  | alt is f ih =>
    intro fuel listed ph env w a hsz hcl hc hS hph hr h hf
    simp only [chkPlan, Bool.and_eq_true, beq_iff_eq, List.all_eq_true, Bool.not_eq_true'] at hc
    obtain ⟨⟨hready, hne⟩, hrest⟩ := hc
    simp only [vplan_alt] at h
    have hex : ∃ i0, i0 ∈ Region.ready .any all listed := by
      rw [hready]
      cases is with
      | nil => simp at hne
      | cons i r => exact ⟨i, by simp⟩
    obtain ⟨i0, hi0⟩ := hex
    obtain ⟨fuel, rfl, _⟩ := plenty_step hsz hf hi0
    refine ⟨fun h0 => (by rw [h0] at hi0; cases hi0), fun k hk => ?_⟩
    obtain ⟨fuel', hfe, hf'⟩ := plenty_step hsz hf hk
    obtain rfl : fuel = fuel' := by omega
    have hk' : k ∈ is := by rw [← hready]; exact hk
    have h := altK_out h k hk'
    have hrest := hrest k hk'
    split at h
    · rename_i o ho
      have ho' : all[k]? = some o := by simpa using ho
      have hlt : k < listed.size := by rw [hsz]; exact (Array.getElem?_eq_some_iff.1 ho').1
      unfold wpOpW
      simp only [ho']
      rcases planGo_out hr h with ⟨hw, h⟩ | ⟨hw, h⟩
      · rw [if_pos hw]
        refine (vop_sound hT h hr.eval fun v w' hK => ?_)
        split at hK
        · rename_i hb
          obtain ⟨env', hr', h'⟩ := contK_out hK hr
          have hnot : ¬ unl late (listed.setIfInBounds k true) := fun hu => by
            obtain ⟨h1, h2⟩ := unl_of_set hlt hu
            rw [hph h2] at hb
            have h3 : late.contains k = false := by
              cases h3 : late.contains k with
              | false => rfl
              | true => exact absurd (List.contains_iff_mem.1 h3) h1
            rw [h3] at hb
            cases hb
          exact ⟨fun h1 h2 => absurd (unl_set h1 h2) hnot, ih k _ _ true env' w' _ (by simp [hsz]) (closed_set hcl hk) hrest (fun hu => absurd hu hnot) (fun hu => absurd hu hnot) hr' h' hf'⟩
        · rename_i hb
          obtain ⟨hS', hK⟩ := hK
          obtain ⟨env', hr', h'⟩ := contK_out hK hr
          exact ⟨fun _ _ => hS', ih k _ _ false env' w' _ (by simp [hsz]) (closed_set hcl hk) hrest (fun _ => hS') (fun _ => rfl) hr' h' hf'⟩
      · rw [if_neg (by rw [hw]; simp)]
        obtain ⟨env', hr', h'⟩ := contK_out h hr
        refine ⟨fun h1 h2 => hS h2, ih k _ _ _ env' w _ (by simp [hsz]) (closed_set hcl hk) hrest (fun hu => hS (unl_of_set hlt hu).2) (fun hu => ?_) hr' h' hf'⟩
        obtain ⟨h1, h2⟩ := unl_of_set hlt hu
        rw [hph h2]
        cases h3 : late.contains k with
        | false => rfl
        | true => exact absurd (List.contains_iff_mem.1 h3) h1
    · exact h.elim

def noPanic (Q : Exit → Act → World → Prop) : Exit → Act → World → Prop
  | .panic _, _, _ => False
  | e, a, w => Q e a w

/-- A region that draws, by a plan: its operations in an order that serves for every order. -/
theorem VDraw.mk' (hT : TabOK P T) (S : World → Prop) (late : List Nat) (plan : PT) {id : Nat} {l : List Oper} {env : Env} {j : Fr} {w : World} {K : Exit → Env → Fr → World → Prop}
    (hm : P.follows .mixedOrders = true) (hsel : Region.noSelect l.toArray = true)
    (hchk : chkPlan l.toArray late (Array.replicate l.length false) plan = true) (hS : S w.drew)
    (h : vplan P T n l j S late plan false env w.drew (fun env' w' => K .normal env' j w')) : VDraw P T n id l env j w K := by
  refine ⟨fun Q a ds hr hk => ?_⟩
  have hQ : ∀ e a w, noPanic Q e a w → Q e a w := fun e a w h => by cases e <;> first | exact h | exact h.elim
  refine Code.wp_mono hQ (wpIn_wide.1 (wpIn_region_any (F := FW) (n := 0) hm ?_))
  have := vplan_sound (P := P) (T := T) (n := n) (Q := noPanic Q) (S := S) (late := late) hT (all := l.toArray) (j := j) (K := fun env' w' => K .normal env' j w') hsel (fun c a w h => h) (fun env' w' a' hr' hK => hk _ _ _ _ _ hr' hK)
    plan l.length (Array.replicate l.length false) false env w.drew a (by simp) (fun k ok _ hl => by simp [Array.getElem?_replicate] at hl; split at hl <;> simp at hl) hchk (fun _ => hS) (fun _ => rfl) hr (by simpa using h)
    (by unfold plenty; exact Nat.le_trans (List.length_filter_le _ _) (by simp))
  have h2 := any_of_anyL _ _ _ _ this
  simpa using h2

/-! A region that draws, by an invariant: whatever comes up, in whatever order. -/
def contF (n : Nat) (dst : Option Nat) (v : Value) (l : Fr) (K : Fr → Prop) : Prop :=
  match dst with
  | none => K l
  | some d => Nat.blt d n = true ∧ K (putF l d v)
def chkDown (ops : Array Oper) : Bool := (List.range ops.size).all fun i => match ops[i]? with | some o => o.after.all (fun e => !Region.binds .any e || Nat.blt e.on i) | none => true
def setB (L : Nat → Bool) (i : Nat) : Nat → Bool := fun k => bif Nat.beq i k then true else L k
theorem ready_nil_all {listed : Array Bool} (hd : chkDown ops = true) (hsz : listed.size = ops.size) (hn : Region.ready .any ops listed = []) : ∀ i, i < ops.size → listed.getD i false = true := by
  intro i
  induction i using Nat.strongRecOn with
  | _ i ih =>
    intro hi
    cases hl : listed.getD i false with
    | true => rfl
    | false =>
      exfalso
      have hmem : i ∈ Region.ready .any ops listed := by
        refine mem_ready.2 ⟨?_, ops[i], Array.getElem?_eq_getElem hi, fun e he hb => ?_⟩
        · have : i < listed.size := by omega
          simpa [this] using hl
        · simp only [chkDown, List.all_eq_true, List.mem_range] at hd
          have h1 := hd i hi
          rw [Array.getElem?_eq_getElem hi] at h1
          simp only [Array.all_eq_true_iff_forall_mem] at h1
          have h2 := h1 e he
          simp only [hb, Bool.not_true, Bool.false_or] at h2
          have h3 : e.on < i := by simpa using h2
          exact ih e.on h3 (by omega)
      rw [hn] at hmem
      cases hmem
theorem VDraw.inv (hT : TabOK P T) (I : (Nat → Bool) → Fr → World → Prop) {id : Nat} {l : List Oper} {env : Env} {j : Fr} {w : World} {K : Exit → Env → Fr → World → Prop}
    (hm : P.follows .mixedOrders = true) (hd : chkDown l.toArray = true) (h0 : I (fun _ => false) (den env j) w.drew)
    (step : ∀ (i : Nat) (o : Oper), l[i]? = some o → ∀ (L : Nat → Bool) (f : Fr) (w : World), I L f w → L i = false → (∀ e ∈ o.after, Region.binds .any e = true → L e.on = true) →
      o.guard = none ∧ ∃ env' : Env, Holds [] f env' ∧ vop P T o env' f w (fun v w' => contF n o.dst v f (fun f' => I (setB L i) f' w')))
    (hk : ∀ (L : Nat → Bool) (f : Fr) (w : World), (∀ i, i < l.length → L i = true) → I L f w → ∃ live : Env, Holds [] f live ∧ K .normal live f w) : VDraw P T n id l env j w K := by
  refine ⟨fun Q a ds hr hQ => wpIn_wide.1 (wpIn_region_any (F := FW) (n := 0) hm ?_)⟩
  have key : ∀ (fuel : Nat) (listed : Array Bool) (a : Act) (f : Fr) (w : World), listed.size = l.length → plenty l.toArray listed fuel → Rel n f ds a → I (fun i => listed.getD i false) f w → wpAnyIn FW 0 P .any l.toArray Q fuel listed a w := by
    intro fuel
    induction fuel with
    | zero =>
      intro listed a f w hsz hf hr hI
      have hn : Region.ready .any l.toArray listed = [] := by
        cases hrd : Region.ready .any l.toArray listed with
        | nil => rfl
        | cons i r =>
          obtain ⟨f, hf0, _⟩ := plenty_step (ops := l.toArray) (by simpa using hsz) hf (i := i) (by rw [hrd]; simp)
          cases hf0
      refine ⟨hn, ?_⟩
      obtain ⟨live, hl, hK⟩ := hk _ f w (fun i hi => ready_nil_all hd (by simpa using hsz) hn i (by simpa using hi)) hI
      have e : den live f = f := den_holds (env := []) hl
      exact hQ _ live f w a (by rw [e]; exact hr) hK
    | succ fuel ih =>
      intro listed a f w hsz hf hr hI
      refine ⟨fun hn => ?_, fun i hi => ?_⟩
      · obtain ⟨live, hl, hK⟩ := hk _ f w (fun i hi => ready_nil_all hd (by simpa using hsz) hn i (by simpa using hi)) hI
        have e : den live f = f := den_holds (env := []) hl
        exact hQ _ live f w a (by rw [e]; exact hr) hK
      · obtain ⟨fuel', hfe, hf'⟩ := plenty_step (ops := l.toArray) (by simpa using hsz) hf hi
        obtain rfl : fuel = fuel' := by omega
        obtain ⟨hun, o, ho, hall⟩ := mem_ready.1 hi
        have ho' : l[i]? = some o := by simpa using ho
        have hlt : i < listed.size := by rw [hsz]; exact (List.getElem?_eq_some_iff.1 ho').1
        have hun' : listed.getD i false = false := by simpa [hlt] using hun
        obtain ⟨hg, env', hl, hv⟩ := step i o ho' _ f w hI hun' hall
        have e : den env' f = f := den_holds (env := []) hl
        refine wpOpW_in ?_
        unfold wpOpW
        simp only [ho]
        rw [wanted_none hg, if_pos rfl]
        have hset : ∀ f' w', I (setB (fun i => listed.getD i false) i) f' w' → I (fun k => (listed.setIfInBounds i true).getD k false) f' w' := by
          intro f' w' h
          have : (fun k => (listed.setIfInBounds i true).getD k false) = setB (fun i => listed.getD i false) i := by
            funext k
            unfold setB
            cases hb : Nat.beq i k
            · have hne : i ≠ k := fun e => by subst e; rw [Nat.beq_refl] at hb; cases hb
              simp only [cond_false]
              exact getD_set_ne false hne
            · have e := Nat.eq_of_beq_eq_true hb
              subst e
              simp [hlt]
          rw [this]; exact h
        refine (vop_sound (P := P) hT hv (by rw [e]; exact hr.eval) fun v w' hc => ?_)
        revert hc
        generalize o.dst = dst
        intro hc
        cases dst with
        | none => exact ih _ _ f w' (by simpa using hsz) hf' hr (hset _ _ hc)
        | some d =>
          obtain ⟨hdn, hc⟩ := hc
          exact ih _ _ _ w' (by simpa using hsz) hf' (hr.put (by simpa using hdn) v) (hset _ _ hc)
  have := key l.length (Array.replicate l.length false) a (den env j) w.drew (by simp) (by unfold plenty; exact Nat.le_trans (List.length_filter_le _ _) (by simp)) hr (by
    have : (fun i => (Array.replicate l.length false).getD i false) = fun _ => false := by
      funext i
      simp only [Array.getD_eq_getD_getElem?, Array.getElem?_replicate]
      split <;> rfl
    rw [this]; exact h0)
  simpa using this

/-- Ways meet again behind a region that draws: what is known of the frame and of the world is said anew. -/
theorem VDraw.cut {X : Type} (live : X → Env) (inv : X → World → Prop) {id : Nat} {l : List Oper} {env : Env} {j : Fr} {w : World} {K : Exit → Env → Fr → World → Prop}
    (h : VDraw P T n id l env j w (fun e env' j' w' => e = .normal ∧ ∃ x, Holds env' j' (live x) ∧ inv x w'))
    (hk : ∀ x j' w', inv x w' → K .normal (live x) j' w') : VDraw P T n id l env j w K := by
  refine ⟨fun Q a ds hr hQ => h.out Q a ds hr ?_⟩
  rintro e env' j' w' a' hr' ⟨rfl, x, hl, hi⟩
  refine hQ _ (live x) (den env' j') _ _ ?_ (hk x _ _ hi)
  rw [den_holds hl]
  exact hr'
theorem VLoop.cut {X : Type} (live : X → Env) (inv : X → World → Prop) {c : Code} {env : Env} {j : Fr} {w : World} {K : Exit → Env → Fr → World → Prop} (ex : Nat)
    (h : VLoop P T n c env j w (fun e env' j' w' => match e with | .exit i => (i = ex ∧ ∃ x, Holds env' j' (live x) ∧ inv x w') ∨ (i ≠ ex ∧ K (.exit i) env' j' w') | e => K e env' j' w'))
    (hk : ∀ x j' w', inv x w' → K (.exit ex) (live x) j' w') : VLoop P T n c env j w K := by
  refine ⟨fun Q a ds hr hQ => h.out Q a ds hr ?_⟩
  intro e env' j' w' a' hr' hK
  cases e <;> try exact hQ _ _ _ _ _ hr' hK
  rename_i i
  rcases hK with ⟨rfl, x, hl, hi⟩ | ⟨_, hK⟩
  · refine hQ _ (live x) (den env' j') _ _ ?_ (hk x _ _ hi)
    rw [den_holds hl]
    exact hr'
  · exact hQ _ _ _ _ _ hr' hK
end
theorem Ret.calls {P : Program} {f : Nat} {args : Array Value} {w : World} {Q : Value → World → Prop} (h : Ret P f args w Q) (hcall : (callFunc f args).run P w = .ok (.enter f args) w) :
    Calls P f args w fun e w' => ∃ v, e = .returned v ∧ Q v w' := by
  obtain ⟨⟨f', he, hc⟩ | ⟨v, w', hr, _⟩⟩ := h
  · rw [hcall] at he
    cases he
    exact hc
  · rw [hcall] at hr
    cases hr
end Go.VC
