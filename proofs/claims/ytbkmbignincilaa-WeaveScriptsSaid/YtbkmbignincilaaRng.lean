/- Ranges over functions, beside VC: code that holds one, its frame's marks; a round of one; the function that leaves with marks. No program in it. -/
import Derived.Test.YtbkmbignincilaaMem
namespace Go.VC
open Go.RowKit
set_option linter.unusedVariables false
set_option linter.unusedSimpArgs false

section
variable {P : Program} {T : Tab} {n : Nat}

/-! ### Code whose frame takes marks -/
abbrev KM := Exit → Env → Fr → World → List Deferred → Prop
def SndM (P : Program) (n : Nat) (c : Code) (env : Env) (j : Fr) (w : World) (ds : List Deferred) (K : KM) : Prop :=
  ∀ (Q : Exit → Act → World → Prop) (a : Act), Rel n (den env j) ds a → (∀ e env' j' w' ds' a', Rel n (den env' j') ds' a' → K e env' j' w' ds' → Q e a' w') → c.wp P Q a w
structure VLoopM (P : Program) (T : Tab) (n : Nat) (c : Code) (env : Env) (j : Fr) (w : World) (ds : List Deferred) (K : KM) : Prop where
  out : SndM P n (.loop c) env j w ds K
structure VRange (P : Program) (T : Tab) (n : Nat) (g : Operand) (ps : Array Tmp) (asg body : Code) (env : Env) (j : Fr) (w : World) (ds : List Deferred) (K : KM) : Prop where
  out : SndM P n (.rangeFunc g ps asg body) env j w ds K
def seqKM (next : Env → Fr → World → List Deferred → Prop) (K : KM) : KM := fun e env j w ds =>
  match e with
  | .normal => next env j w ds
  | e => K e env j w ds
def blockKM (id : Nat) (K : KM) : KM := fun e env j w ds =>
  match e with
  | .exit id' => bif Nat.beq id' id then K .normal env j w ds else K (.exit id') env j w ds
  | e => K e env j w ds
noncomputable def vcm (P : Program) (T : Tab) (n : Nat) (c : Code) : Env → Fr → World → List Deferred → KM → Prop :=
  Code.rec (motive := fun _ => Env → Fr → World → List Deferred → KM → Prop)
    (fun env j w ds K => K .normal env j w ds)
    (fun id ops draw env j w ds K => (match draw with
      | false => vops P T n ops.toList j ops.toList env w (fun env' w' => K .normal env' j w' ds)
      | true => VDraw P T n id ops.toList env j w (fun e env' j' w' => K e env' j' w' ds)))
    (fun _ _ iha ihb env j w ds K => iha env j w ds (seqKM (fun env j w ds => ihb env j w ds K) K))
    (fun c _ _ ihx ihy env j w ds K => evK env j c fun v => match v with
      | .bool t => (match t with | true => ihx env j w ds K | false => ihy env j w ds K)
      | _ => False)
    (fun id _ ih env j w ds K => ih env j w ds (blockKM id K))
    (fun c _ env j w ds K => VLoopM P T n c env j w ds K)
    (fun f ps asg body _ _ env j w ds K => VRange P T n f ps asg body env j w ds K)
    (fun id env j w ds K => K (.exit id) env j w ds)
    (fun c _ env j w ds K => False)
    (fun _ env j w ds K => K .normal env j w ds)
    (fun l env j w ds K => K (.goto l) env j w ds)
    (fun env j w ds K => K .ret env j w ds)
    (fun _ _ _ _ _ _ => False) c
theorem vcm_cond (c : Operand) (x y : Code) (env : Env) (j : Fr) (w : World) (ds : List Deferred) (K : KM) : vcm P T n (.cond c x y) env j w ds K = evK env j c fun v => match v with
    | .bool t => (match t with | true => vcm P T n x env j w ds K | false => vcm P T n y env j w ds K)
    | _ => False := rfl

theorem vcm_sound (hT : TabOK P T) : ∀ (c : Code) (env : Env) (j : Fr) (w : World) (ds : List Deferred) (K : KM), vcm P T n c env j w ds K → SndM P n c env j w ds K := by
  intro c
  induction c with
  | skip => exact fun env j w ds K h Q a hr hk => wp_skip (hk _ _ _ _ _ _ hr h)
  | label l => exact fun env j w ds K h Q a hr hk => wp_label (hk _ _ _ _ _ _ hr h)
  | exit id => exact fun env j w ds K h Q a hr hk => wp_exit (hk _ _ _ _ _ _ hr h)
  | goto l => exact fun env j w ds K h Q a hr hk => wp_goto (hk _ _ _ _ _ _ hr h)
  | ret => exact fun env j w ds K h Q a hr hk => wp_ret (hk _ _ _ _ _ _ hr h)
  | seq x y ihx ihy =>
    intro env j w ds K h Q a hr hk
    refine wp_seq (ihx _ _ _ _ _ h _ _ hr ?_)
    intro e env' j' w' ds' a' hr' hK
    cases e <;> first | exact ihy _ _ _ _ _ hK _ _ hr' hk | exact hk _ _ _ _ _ _ hr' hK
  | cond c x y ihx ihy =>
    intro env j w ds K h Q a hr hk
    simp only [vcm_cond, evK_eq] at h
    split at h
    · rename_i t e
      rw [← hr.eval] at e
      refine wp_cond e ?_
      cases t
      · exact ihy _ _ _ _ _ h _ _ hr hk
      · exact ihx _ _ _ _ _ h _ _ hr hk
    · exact h.elim
  | block id c ih =>
    intro env j w ds K h Q a hr hk
    refine wp_block (ih _ _ _ _ _ h _ _ hr ?_)
    intro e env' j' w' ds' a' hr' hK
    cases e <;> try exact hk _ _ _ _ _ _ hr' hK
    rename_i id'
    simp only [blockKM] at hK
    simp only [Exit.inBlock]
    cases hb : Nat.beq id' id
    · rw [hb] at hK
      rw [if_neg (fun e => by subst e; rw [Nat.beq_refl] at hb; cases hb)]
      exact hk _ _ _ _ _ _ hr' hK
    · rw [hb] at hK
      rw [if_pos (Nat.eq_of_beq_eq_true hb)]
      exact hk _ _ _ _ _ _ hr' hK
  | loop c ih => exact fun env j w ds K h => h.out
  | region id ops draw =>
    intro env j w ds K h Q a hr hk
    cases draw
    · exact wpIn_wide.1 (wpIn_region_list (wpListW_in none _ _ _ (.inl rfl) (vops_sound hT (fun env' w' a' hr' hK => hk _ _ _ _ _ _ hr' hK) _ _ _ _ hr h)))
    · have h1 := VDraw.out h Q a ds hr (fun e env' j' w' a' hr' hK => hk _ _ _ _ _ _ hr' hK)
      simpa using h1
  | scope c ih => exact fun env j w ds K h => h.elim
  | rangeFunc f ps x y ihx ihy => exact fun env j w ds K h => h.out
  | refuse w => exact fun env j w ds K h => h.elim

theorem VLoopM.mk' (hT : TabOK P T) {X : Type} (live : X → Env) (marks : X → List Deferred) (inv : X → World → Prop) (μ : X → World → Nat) {c : Code} {env : Env} {j : Fr} {w : World} {ds : List Deferred} {K : KM}
    (x0 : X) (hl : Holds env j (live x0)) (hm0 : ds = marks x0) (h0 : inv x0 w)
    (step : ∀ x j w, inv x w → vcm P T n c (live x) j w (marks x) (seqKM (fun env' j' w' ds' => ∃ x', Holds env' j' (live x') ∧ ds' = marks x' ∧ inv x' w' ∧ μ x' w' < μ x w) K)) : VLoopM P T n c env j w ds K := by
  refine ⟨fun Q a hr hk => ?_⟩
  let I : Act → World → Nat → Prop := fun a w m => ∃ x j, Rel n (den (live x) j) (marks x) a ∧ inv x w ∧ μ x w = m
  have key : ∀ m a w, I a w m → ∀ (b : Frame) (k : List Item) (cs : List Frame),
      ∃ e a' w', Q e a' w' ∧ Arrives P (lone (b.at a (.code c :: .inLoop c :: k)) cs w) b k cs e a' w' := by
    intro m
    induction m using Nat.strongRecOn with
    | _ m ih =>
      rintro a w ⟨x, j, hr, hi, hm⟩ b k cs
      have hs := vcm_sound hT _ _ _ _ _ _ (step x j w hi)
      have h1 := hs (Exit.then (fun a' w' => ∃ m', m' < m ∧ I a' w' m') Q) a hr (by
        intro e env' j' w' ds' a' hr' hK
        cases e <;> try exact hk _ _ _ _ _ _ hr' hK
        obtain ⟨x', hl', hd', hi', hlt⟩ := hK
        subst hd'
        refine ⟨_, hm ▸ hlt, x', den env' j', ?_, hi', rfl⟩
        rw [den_holds hl']
        exact hr')
      obtain ⟨e, a₁, w₁, hq, harr⟩ := h1 b (.inLoop c :: k) cs
      cases e with
      | normal =>
        obtain ⟨m', hlt, hI⟩ := hq
        obtain ⟨e₂, a₂, w₂, hq₂, harr₂⟩ := ih m' hlt a₁ w₁ hI b k cs
        exact ⟨e₂, a₂, w₂, hq₂, .of_steps (Steps.trans harr (.one step_inLoop)) harr₂⟩
      | exit id => exact ⟨_, a₁, w₁, hq, .pass (x := .inLoop c) rfl (fun _ _ => .inl (by simp)) harr⟩
      | goto l => exact ⟨_, a₁, w₁, hq, .pass (x := .inLoop c) rfl (fun _ _ => .inl (by simp)) harr⟩
      | ret => exact ⟨_, a₁, w₁, hq, .pass (x := .inLoop c) rfl (fun _ _ => .inl (by simp)) harr⟩
      | panic ch => exact ⟨_, a₁, w₁, hq, .pass (x := .inLoop c) rfl (fun _ _ => .inl (by simp)) harr⟩
      | outgrown => exact ⟨_, a₁, w₁, hq, .pass (x := .inLoop c) rfl (fun _ _ => .inl (by simp)) harr⟩
  intro b k cs
  obtain ⟨e, a', w', hq, harr⟩ := key _ a w ⟨x0, den env j, by rw [den_holds hl, ← hm0]; exact hr, h0, rfl⟩ b k cs
  exact ⟨e, a', w', hq, .of_steps (.one step_loop) harr⟩

/-! ### A round's body -/
def simpleC : Code → Bool
  | .skip => true
  | .label _ => true
  | .exit _ => true
  | .goto _ => true
  | .ret => true
  | .region _ ops draw => !draw && ops.toList.all (fun o => !isDefer o.op)
  | .seq x y => simpleC x && simpleC y
  | .cond _ x y => simpleC x && simpleC y
  | .block _ x => simpleC x
  | _ => false
def SndR (P : Program) (r : Nat) (n : Nat) (c : Code) (env : Env) (j : Fr) (w : World) (K : Exit → Env → Fr → World → Prop) : Prop :=
  ∀ (Q : Exit → Act → World → Prop) (a : Act) (ds : List Deferred), Rel n (den env j) ds a → (∀ e env' j' w' a', Rel n (den env' j') ds a' → K e env' j' w' → Q e a' w') → c.wpIn (FR (some r)) 0 P Q a w
theorem vc_soundR (hT : TabOK P T) (r : Nat) : ∀ (c : Code), simpleC c = true → ∀ (env : Env) (j : Fr) (w : World) (K : Exit → Env → Fr → World → Prop), vc P T n c env j w K → SndR P r n c env j w K := by
  intro c
  induction c with
  | skip => exact fun _ env j w K h Q a ds hr hk => wpIn_skip (hk _ _ _ _ _ hr h)
  | label l => exact fun _ env j w K h Q a ds hr hk => wpIn_label (hk _ _ _ _ _ hr h)
  | exit id => exact fun _ env j w K h Q a ds hr hk => wpIn_exit (hk _ _ _ _ _ hr h)
  | goto l => exact fun _ env j w K h Q a ds hr hk => wpIn_goto (hk _ _ _ _ _ hr h)
  | ret => exact fun _ env j w K h Q a ds hr hk => wpIn_ret (hk _ _ _ _ _ hr h)
  | seq x y ihx ihy =>
    intro hs env j w K h Q a ds hr hk
    simp only [simpleC, Bool.and_eq_true] at hs
    refine wpIn_seq (ihx hs.1 _ _ _ _ h _ _ _ hr ?_)
    intro e env' j' w' a' hr' hK
    cases e <;> first | exact ihy hs.2 _ _ _ _ hK _ _ _ hr' hk | exact hk _ _ _ _ _ hr' hK
  | cond c x y ihx ihy =>
    intro hs env j w K h Q a ds hr hk
    simp only [simpleC, Bool.and_eq_true] at hs
    simp only [vc_cond, evK_eq] at h
    split at h
    · rename_i t e
      rw [← hr.eval] at e
      refine wpIn_cond e ?_
      cases t
      · exact ihy hs.2 _ _ _ _ h _ _ _ hr hk
      · exact ihx hs.1 _ _ _ _ h _ _ _ hr hk
    · exact h.elim
  | block id c ih =>
    intro hs env j w K h Q a ds hr hk
    refine wpIn_block (ih hs _ _ _ _ h _ _ _ hr ?_)
    intro e env' j' w' a' hr' hK
    cases e <;> try exact hk _ _ _ _ _ hr' hK
    rename_i id'
    simp only [blockK] at hK
    simp only [Exit.inBlock]
    cases hb : Nat.beq id' id
    · rw [hb] at hK
      rw [if_neg (fun e => by subst e; rw [Nat.beq_refl] at hb; cases hb)]
      exact hk _ _ _ _ _ hr' hK
    · rw [hb] at hK
      rw [if_pos (Nat.eq_of_beq_eq_true hb)]
      exact hk _ _ _ _ _ hr' hK
  | region id ops draw =>
    intro hs env j w K h Q a ds hr hk
    simp only [simpleC, Bool.and_eq_true, Bool.not_eq_true'] at hs
    obtain ⟨rfl, hs⟩ := hs
    exact wpIn_region_list (wpListW_in (some r) _ _ _ (.inr hs) (vops_sound hT (fun env' w' a' hr' hK => hk _ _ _ _ _ hr' hK) _ _ _ _ hr h))
  | loop c ih => exact fun hs => by cases hs
  | scope c ih => exact fun hs => by cases hs
  | rangeFunc f ps x y ihx ihy => exact fun hs => by cases hs
  | refuse w => exact fun hs => by cases hs

/-- A loop's record. -/
def lrec (fn : FuncId) (tmps : Array Value) (ps : Array Tmp) (asg body : Code) (D : Nat) (st : LoopState) (pend : Option Code) : Obj :=
  .loop { state := st, pending := pend, fn, tmps, params := ps, assign := asg, body, defers := D }
/-- The temporaries say what f says. -/
structure TRel (n : Nat) (f : Fr) (tmps : Array Value) : Prop where
  size : tmps.size = n
  get : ∀ k, tmps.getD k undef = f k

/-- How a round is left. -/
def roundK (l : Nat) (mk : LoopState → Option Code → Obj) (K : Value → World → Prop) : Exit → Env → Fr → World → Prop := fun e env j w =>
  w.heap[l]? = some (mk .busy none) ∧ (match e with
  | .normal => ∀ w', Put w l (mk .ready none) w' → K (.bool true) w'
  | .ret => ∀ w', Put w l (mk .done (some .ret)) w' → K (.bool false) w'
  | .exit id => ∀ w', Put w l (mk .done (some (.exit id))) w' → K (.bool false) w'
  | _ => False)
theorem YCall.round (hT : TabOK P T) {l : Nat} {fn : FuncId} {tmps : Array Value} {p : Nat} {asg body : Code} {D : Nat} {f : Fr} {x : Value} {w : World} {K : Value → World → Prop}
    (h : w.heap[l]? = some (lrec fn tmps #[p] asg body D .ready none)) (ht : TRel n f tmps) (hp : p < n) (hs1 : simpleC asg = true) (hs2 : simpleC body = true)
    (step : vc P T n asg [(p, x)] f w (fun e env' j' w' => e = .normal ∧ w'.heap[l]? = some (lrec fn tmps #[p] asg body D .ready none) ∧
      ∀ w2, Put w' l (lrec fn tmps #[p] asg body D .busy none) w2 → vc P T n body env' j' w2 (roundK l (lrec fn tmps #[p] asg body D) K))) : YCall P l #[x] w K := by
  refine ⟨fn, _, asg, body, w, run_yield (r := { state := .ready, pending := none, fn, tmps, params := #[p], assign := asg, body, defers := D }) h rfl, ?_⟩
  refine roundIn_of_wpIn (F := FW) (n := 0) trivial ?_
  have hrel : Rel n (den [(p, x)] f) [] ({ tmps := (((#[p] : Array Tmp).zip #[x]).foldl (fun (t : Array Value) (q : Tmp × Value) => t.setIfInBounds q.1 q.2) tmps), defers := [] } : Act) := by
    have e : (((#[p] : Array Tmp).zip #[x]).foldl (fun (t : Array Value) (q : Tmp × Value) => t.setIfInBounds q.1 q.2) tmps) = tmps.setIfInBounds p x := by simp
    rw [e]
    have h0 : Rel n f [] ({ tmps := tmps, defers := [] } : Act) := ⟨rfl, ht.size, ht.get⟩
    exact h0.put hp x
  refine vc_soundR hT l asg hs1 _ _ _ _ step _ _ _ hrel ?_
  rintro e env' j' w' a' hr' ⟨rfl, hl, hbody⟩
  have hbr := run_beginRound (P := P) (r := { state := .ready, pending := none, fn, tmps, params := #[p], assign := asg, body, defers := D }) hl rfl
  refine ⟨_, hbr, vc_soundR hT l body hs2 _ _ _ _ (hbody _ (Put.mk' hl _)) _ _ _ hr' ?_⟩
  rintro e env2 j2 w3 a3 _ ⟨hl3, hK⟩
  have her := fun jump => run_endRound (P := P) (r := { state := .busy, pending := none, fn, tmps, params := #[p], assign := asg, body, defers := D }) jump hl3
  cases e <;> try exact hK.elim
  · exact ⟨_, _, her none, _, rfl, hK _ (Put.mk' hl3 _)⟩
  · rename_i id
    exact ⟨_, _, her (some (.exit id)), _, rfl, hK _ (Put.mk' hl3 _)⟩
  · exact ⟨_, _, her (some .ret), _, rfl, hK _ (Put.mk' hl3 _)⟩

/-- As above, what is known of the frame said anew. -/
theorem YCall.round' (hT : TabOK P T) {l : Nat} {fn : FuncId} {tmps : Array Value} {p : Nat} {asg body : Code} {D : Nat} {f : Fr} {x : Value} {w : World} {K : Value → World → Prop}
    (h : w.heap[l]? = some (lrec fn tmps #[p] asg body D .ready none)) (ht : TRel n f tmps) (hp : p < n) (hs1 : simpleC asg = true) (hs2 : simpleC body = true)
    (live : Env) (hl : Holds [(p, x)] f live)
    (step : ∀ j, vc P T n asg live j w (fun e env' j' w' => e = .normal ∧ w'.heap[l]? = some (lrec fn tmps #[p] asg body D .ready none) ∧
      ∀ w2, Put w' l (lrec fn tmps #[p] asg body D .busy none) w2 → vc P T n body env' j' w2 (roundK l (lrec fn tmps #[p] asg body D) K))) : YCall P l #[x] w K := by
  refine ⟨fn, _, asg, body, w, run_yield (r := { state := .ready, pending := none, fn, tmps, params := #[p], assign := asg, body, defers := D }) h rfl, ?_⟩
  refine roundIn_of_wpIn (F := FW) (n := 0) trivial ?_
  have hrel : Rel n (den live (den [(p, x)] f)) [] ({ tmps := (((#[p] : Array Tmp).zip #[x]).foldl (fun (t : Array Value) (q : Tmp × Value) => t.setIfInBounds q.1 q.2) tmps), defers := [] } : Act) := by
    have e : (((#[p] : Array Tmp).zip #[x]).foldl (fun (t : Array Value) (q : Tmp × Value) => t.setIfInBounds q.1 q.2) tmps) = tmps.setIfInBounds p x := by simp
    rw [e, den_holds hl]
    have h0 : Rel n f [] ({ tmps := tmps, defers := [] } : Act) := ⟨rfl, ht.size, ht.get⟩
    exact h0.put hp x
  refine vc_soundR hT l asg hs1 _ _ _ _ (step _) _ _ _ hrel ?_
  rintro e env' j' w' a' hr' ⟨rfl, hl, hbody⟩
  have hbr := run_beginRound (P := P) (r := { state := .ready, pending := none, fn, tmps, params := #[p], assign := asg, body, defers := D }) hl rfl
  refine ⟨_, hbr, vc_soundR hT l body hs2 _ _ _ _ (hbody _ (Put.mk' hl _)) _ _ _ hr' ?_⟩
  rintro e env2 j2 w3 a3 _ ⟨hl3, hK⟩
  have her := fun jump => run_endRound (P := P) (r := { state := .busy, pending := none, fn, tmps, params := #[p], assign := asg, body, defers := D }) jump hl3
  cases e <;> try exact hK.elim
  · exact ⟨_, _, her none, _, rfl, hK _ (Put.mk' hl3 _)⟩
  · rename_i id
    exact ⟨_, _, her (some (.exit id)), _, rfl, hK _ (Put.mk' hl3 _)⟩
  · exact ⟨_, _, her (some .ret), _, rfl, hK _ (Put.mk' hl3 _)⟩

/-! ### The statement -/
def mark (D : Nat) : Deferred := { target := .collected D, args := #[] }
/-- What stands behind the statement, by the record's pending jump. -/
def rangeK (pend : Option Code) (env : Env) (j : Fr) (w : World) (ds : List Deferred) (K : KM) : Prop :=
  match pend with
  | none => K .normal env j w ds
  | some .ret => K .ret env j w ds
  | some (.exit id) => K (.exit id) env j w ds
  | _ => False
theorem VRange.mk' {g : Operand} {ps : Array Tmp} {asg body : Code} {env : Env} {j : Fr} {w : World} {ds : List Deferred} {K : KM} {gf : Nat} {lb : List Value}
    (hg : evK env j g fun v => v = .func (.func gf) #[] lb.toArray) (hcall : ∀ args w, (callFunc gf args).run P w = .ok (.enter gf args) w)
    (h : ∀ fn tmps W, TRel n (den env j) tmps → Ext w W → W.heap.size = w.heap.size + 2 → W.heap[w.heap.size]? = some (.deferred (some [])) → W.heap[w.heap.size + 1]? = some (lrec fn tmps ps asg body w.heap.size .ready none) →
      Ret P gf (.func (.yield (w.heap.size + 1)) #[] #[] :: lb).toArray W fun v w3 => ∃ st pend, w3.heap[w.heap.size + 1]? = some (lrec fn tmps ps asg body w.heap.size st pend) ∧ st ≠ .busy ∧
        ∀ w4, Put w3 (w.heap.size + 1) (lrec fn tmps ps asg body w.heap.size .exhausted pend) w4 → rangeK pend env j w4 (mark w.heap.size :: ds) K) : VRange P T n g ps asg body env j w ds K := by
  refine ⟨fun Q a hr hk => wpIn_wide.1 (wpIn_rangeFunc (F := FW) (n := 0) ?_)⟩
  intro fn _
  rw [evK_eq, ← hr.eval] at hg
  let rec0 : Loop := { state := .ready, pending := none, fn, tmps := a.tmps, params := ps, assign := asg, body, defers := w.heap.size }
  have hL : ((w.alloc (.deferred (some []))).alloc (.loop rec0)).heap[w.heap.size + 1]? = some (.loop rec0) := by
    have := at_alloc (w.alloc (.deferred (some []))) (.loop rec0)
    rwa [size_alloc] at this
  have hD : ((w.alloc (.deferred (some []))).alloc (.loop rec0)).heap[w.heap.size]? = some (.deferred (some [])) := at_alloc_old (at_alloc w _)
  have hE : Ext w ((w.alloc (.deferred (some []))).alloc (.loop rec0)) := (Ext.alloc w _).then_alloc _
  have hret := h fn a.tmps _ ⟨hr.size, hr.get⟩ hE (by rw [size_alloc, size_alloc]) hD hL
  have hcalls := hret.calls (hcall _ _)
  have hargs : (#[Value.func (.yield (w.heap.size + 1)) #[] #[]] : Array Value) ++ lb.toArray = (Value.func (.yield (w.heap.size + 1)) #[] #[] :: lb).toArray := by
    apply Array.toList_inj.1; simp
  refine ⟨w.heap.size + 1, [mark w.heap.size], (w.alloc (.deferred (some []))).alloc (.loop rec0), { target := .fn (.func gf) lb.toArray, args := #[.func (.yield (w.heap.size + 1)) #[] #[]] }, (w.alloc (.deferred (some []))).alloc (.loop rec0), gf, _, (w.alloc (.deferred (some []))).alloc (.loop rec0), run_enterLoop_outer _ _ _ _ _, ?_, fun _ _ => trivial, ?_, (fun h => by cases h), callsIn_wide.2 (Calls.mono hcalls ?_)⟩
  · simp only [resolve, hg]
    simp [go_sem]
  · simp only [invoke]
    rw [hargs]
    exact hcall _ _
  · rintro e w3 ⟨v, rfl, st, pend, hl3, hst, hK⟩
    have hel := run_endLoop (P := P) (r := { state := st, pending := pend, fn, tmps := a.tmps, params := ps, assign := asg, body, defers := w.heap.size }) hl3 hst
    refine ⟨pend, _, hel, ?_⟩
    have hK' := hK _ (Put.mk' hl3 _)
    have hr2 : Rel n (den env j) (mark w.heap.size :: ds) ({ a with defers := [mark w.heap.size] ++ a.defers } : Act) := ⟨by rw [hr.defers]; rfl, hr.size, hr.get⟩
    cases pend with
    | none => exact hk _ _ _ _ _ _ hr2 hK'
    | some c =>
      cases c <;> first | exact hK'.elim | exact wpIn_ret (hk _ _ _ _ _ _ hr2 hK') | exact wpIn_exit (hk _ _ _ _ _ _ hr2 hK')

/-! ### A function that leaves with marks -/
def leaveK (R : World → Prop) : List Deferred → World → Prop
  | [], w => R w
  | d :: ds, w => ∃ D, d = mark D ∧ w.heap[D]? = some (.deferred (some [])) ∧ ∀ w', Put w D (.deferred none) w' → leaveK R ds w'
def retKM (T : Tab) (rs : List ResultVar) (Q : Value → World → Prop) : KM := fun e env j w ds =>
  match e with
  | .normal => leaveK (fun w' => vres T env j w' rs fun vs => match vs with | [v] => Q v w' | vs => Q (.tuple vs.toArray) w') ds w
  | .ret => leaveK (fun w' => vres T env j w' rs fun vs => match vs with | [v] => Q v w' | vs => Q (.tuple vs.toArray) w') ds w
  | _ => False
theorem leaves_of (hT : TabOK P T) {fn : Func} {env : Env} {j : Fr} {a : Act} {ds0 : List Deferred} (hr : Rel n (den env j) ds0 a) {Q : Value → World → Prop} : ∀ (ds : List Deferred) (w : World),
    leaveK (fun w' => vres T env j w' fn.results.toList fun vs => match vs with | [v] => Q v w' | vs => Q (.tuple vs.toArray) w') ds w →
    LeavesInM FW 0 P fn a.tmps (fun e w' => ∃ v, e = .returned v ∧ Q v w') ds .returning w := by
  intro ds
  induction ds with
  | nil =>
    intro w h
    obtain ⟨v, hrun, hq⟩ := results_run hT hr h
    exact ⟨v, hrun, v, rfl, hq⟩
  | cons d ds ih =>
    rintro w ⟨D, rfl, hD, h⟩
    exact ⟨by simp, .inl ⟨D, _, rfl, run_takeDeferred hD, ih _ (h _ (Put.mk' hD _))⟩⟩
theorem Ret.of_vcm (hT : TabOK P T) {f : Nat} {fn : Func} {c : Code} {rs : List ResultVar} {args : Array Value} {w : World} {Q : Value → World → Prop}
    (hf : P.funcs[f]? = some fn) (hb : fn.body = some c) (hn : fn.ntmps = n) (hrs : fn.results.toList = rs) (hargs : args.size ≤ n)
    (hcall : ∀ (args : Array Value) (w : World), (callFunc f args).run P w = .ok (.enter f args) w)
    (h : vcm P T n c (argE 0 args.toList) (fun _ => undef) w [] (retKM T rs Q)) : Ret P f args w Q := by
  refine ⟨.inl ⟨f, hcall args w, callsIn_wide.1 (callsIn_of_wp_marks (F := FW) (n := 0) hf hb trivial (wpIn_wide.2 ?_))⟩⟩
  refine vcm_sound hT _ _ _ _ _ _ h _ _ ⟨rfl, by simp [hn]; omega, fun k => ?_⟩ ?_
  · rw [den_argE]
    simp only [Nat.zero_le, if_true, Nat.sub_zero, hn]
    rcases Nat.lt_or_ge k args.size with hk | hk
    · simp [Array.getElem?_append_left hk]
    · simp only [Array.getD_eq_getD_getElem?, Array.getElem?_append_right hk, Array.getElem?_replicate, List.getD_eq_getElem?_getD]
      rw [List.getElem?_eq_none (by simpa using hk)]
      split <;> rfl
  · intro e env' j' w' ds' a' hr hK
    cases e <;> try exact hK.elim
    · simp only [retKM] at hK
      rw [← hrs] at hK
      show LeavesInM FW 0 P fn a'.tmps _ a'.defers .returning w'
      rw [hr.defers]
      exact leaves_of hT hr _ _ hK
    · simp only [retKM] at hK
      rw [← hrs] at hK
      show LeavesInM FW 0 P fn a'.tmps _ a'.defers .returning w'
      rw [hr.defers]
      exact leaves_of hT hr _ _ hK
end
end Go.VC
