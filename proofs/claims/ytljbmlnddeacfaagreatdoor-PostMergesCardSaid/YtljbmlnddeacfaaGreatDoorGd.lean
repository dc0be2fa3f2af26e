/-
  Control: from the abstract run to the model's weakest preconditions.
-/
import Derived.Test.YtljbmlnddeacfaaGreatDoorGc
import Derived.RangeFuncLeaves
import Derived.RangeFuncRecord
import Derived.OrdersIn
import Derived.TacticsIn
import Derived.RecoverIn

set_option linter.all false
set_option linter.deprecated false

namespace Go.Gx

/-- no fence at all, in a frame of a function or in a round of a range over a function -/
def fw (ro : Option Nat) : Fence := { fn := fun _ => True, depth := none, alive := false, round := ro }
theorem fw_fenced (P : Program) (ro : Option Nat) (m : Machine) : m.fenced P (fw ro) := by
  intro g _
  refine ⟨fun h => ?_, Or.inl trivial, fun _ _ => trivial, fun _ h => ?_⟩
  · simp [fw] at h
  · simp [fw] at h
theorem fw_room (ro : Option Nat) (n : Nat) : (fw ro).room n := fun _ h => by simp [fw] at h
theorem fw_steps {P : Program} {ro : Option Nat} {m m' : Machine} : StepsIn (Machine.fenced P (fw ro)) P m m' ↔ Steps P m m' :=
  ⟨StepsIn.steps, fun h => (StepsIn.of_steps h).mono fun m _ => fw_fenced P ro m⟩
theorem fw_comes {P : Program} {ro : Option Nat} {m m' : Machine} {e : Ending} : ComesIn (Machine.fenced P (fw ro)) P m m' e ↔ Comes P m m' e := by
  cases e with
  | returned v => exact fw_steps
  | panicked chain => exact fw_steps
  | outgrown => exact Iff.rfl
theorem fw_calls {ro : Option Nat} {n : Nat} {P : Program} {f : FuncId} {args : Array Value} {w : World} {R : Ending → World → Prop} : CallsIn (fw ro) n P f args w R ↔ Calls P f args w R :=
  ⟨fun h cs => let ⟨e, w', fr, r, s, x⟩ := h.2 cs (fw_room _ _); ⟨e, w', fr, r, fw_comes.1 s, x⟩,
   fun h => ⟨trivial, fun cs _ => let ⟨e, w', fr, r, s, x⟩ := h cs; ⟨e, w', fr, r, fw_comes.2 s, x⟩⟩⟩
theorem fw_round {ro so : Option Nat} {n k : Nat} {P : Program} {l : Nat} {f : FuncId} {tmps : Array Value} {asg body : Code} {w : World} {R : Ending → World → Prop} (h : RoundIn (fw ro) n P l f tmps asg body w R) : RoundIn (fw so) k P l f tmps asg body w R :=
  ⟨trivial, fun c cs _ => let ⟨e, w', r, s⟩ := h.2 c cs (fw_room _ _); ⟨e, w', r, by
    have h1 := fw_comes.1 s
    exact fw_comes.2 h1⟩⟩

structure ActR (P : Program) (r : Rho) (ro : Option Nat) (a : Act) (A : Go.Act) : Prop where
  env : LR P r a.env A.tmps.toList
  df : DsR P r a.defers A.defers
  rn : a.rnd.isSome = ro.isSome

inductive ExR (P : Program) (r : Rho) : Ex → Exit → Prop where
  | norm : ExR P r .norm .normal
  | exit (id : Nat) : ExR P r (.exit id) (.exit id)
  | ret : ExR P r .ret .ret
  | panic (v v' : Value) : VR P r v v' → ExR P r (.panic v) (.panic [{ v := v', recovered := false }])

inductive EnR (P : Program) (r : Rho) : En → Ending → Prop where
  | ret (v v' : Value) : VR P r v v' → EnR P r (.ret v) (.returned v')
  | panic (v v' : Value) : VR P r v v' → EnR P r (.panic v) (.panicked [{ v := v', recovered := false }])

def Ext (r r' : Rho) (N : Nat) : Prop := r.le r' ∧ ∀ m, m < N → r m = none → r' m = none
theorem Ext.refl (r : Rho) (N : Nat) : Ext r r N := ⟨.refl r, fun _ _ h => h⟩
theorem Ext.trans {r s t : Rho} {N M : Nat} (h : Ext r s N) (k : Ext s t M) (hN : N ≤ M) : Ext r t N := ⟨h.1.trans k.1, fun m hm e => k.2 m (by omega) (h.2 m hm e)⟩

/-- at a panic: what is known of the temporaries -/
structure PanR (P : Program) (r : Rho) (a : Act) (A : Go.Act) : Prop where
  env : ∀ (i : Nat) (v : Value), a.env[i]? = some v → v = undef ∨ ∃ v', A.tmps[i]? = some v' ∧ VR P r v v'
  df : DsR P r a.defers A.defers
theorem ActR.pan {P : Program} {r : Rho} {ro : Option Nat} {a : Act} {A : Go.Act} (h : ActR P r ro a A) : PanR P r a A := ⟨fun i v hv => by
  obtain ⟨v', e, k⟩ := h.env.get? hv
  exact .inr ⟨v', by rw [← Array.getElem?_toList]; exact e, k⟩, h.df⟩
theorem PanR.mono {P : Program} {r s : Rho} {a : Act} {A : Go.Act} (h : PanR P r a A) (k : r.le s) : PanR P s a A := ⟨fun i v hv => by
  rcases h.env i v hv with e | ⟨v', e, q⟩
  · exact .inl e
  · exact .inr ⟨v', e, q.mono k⟩, DsR.mono k h.df⟩

/-- what the model's end of a piece of code has to do with the abstract one's -/
def QC (P : Program) (prot : Nat → Option Obj) (w0 : World) (ro : Option Nat) (r : Rho) (N : Nat) (Q : Ex × Act × AS → Prop) : Exit → Go.Act → World → Prop :=
  fun e A w => ∃ ex a S r', Q (ex, a, S) ∧ ExR P r' ex e ∧ Ext r r' N ∧ N ≤ S.next ∧ (match ex with | .panic _ => PanR P r' a A | _ => ActR P r' ro a A) ∧ Rel P prot w0 r' S w

theorem QC.mono {P : Program} {prot : Nat → Option Obj} {w0 : World} {ro : Option Nat} {r s : Rho} {N M : Nat} {Q : Ex × Act × AS → Prop} (h : Ext r s N) (hN : N ≤ M) {e : Exit} {A : Go.Act} {w : World} (k : QC P prot w0 ro s M Q e A w) : QC P prot w0 ro r N Q e A w := by
  obtain ⟨ex, a, S, r', h1, h2, h3, h4, h5, h6⟩ := k
  exact ⟨ex, a, S, r', h1, h2, h.trans h3 hN, by omega, h5, h6⟩

/-- a call: the abstract one speaks of the model's -/
structure CallOK (P : Program) (w0 : World) (call : Callee → AS → T (En × AS)) : Prop where
  fn : ∀ (prot : Nat → Option Obj) (k : Nat) (args args' : List Value) (S : AS) (w : World) (r : Rho) (Q : En × AS → Prop), Rel P prot w0 r S w → LR P r args args' → (call (.fn k args) S).all Q →
    (callFunc k args'.toArray).run P w = .ok (.enter k args'.toArray) w ∧
    Calls P k args'.toArray w fun e w' => ∃ en S' r', Q (en, S') ∧ EnR P r' en e ∧ Ext r r' S.next ∧ S.next ≤ S'.next ∧ Rel P prot w0 r' S' w'
  round : ∀ (prot : Nat → Option Obj) (l : Nat) (L : Loc) (args args' : List Value) (S : AS) (w : World) (r : Rho) (Q : En × AS → Prop), Rel P prot w0 r S w → LR P r args args' → r l = some L → (call (.round l args) S).all Q →
    ∃ f tmps asg body, (Instr.yield L.b args'.toArray).run P w = .ok (.round L.b f tmps asg body) w ∧
    RoundIn (fw none) 0 P L.b f tmps asg body w fun e w' => ∃ en S' r', Q (en, S') ∧ EnR P r' en e ∧ Ext r r' S.next ∧ S.next ≤ S'.next ∧ Rel P prot w0 r' S' w'

section
variable {P : Program} {prot : Nat → Option Obj} {w0 : World} {ro : Option Nat}

theorem ActR.put {r : Rho} {a : Act} {A : Go.Act} (h : ActR P r ro a A) (d : Option Nat) {v v' : Value} (hv : VR P r v v') : ActR P r ro (a.put d v) (A.put d v') := by
  cases d with
  | none => exact h
  | some d => exact ⟨by simpa [Act.put, Go.Act.put] using h.env.set d hv, h.df, h.rn⟩
theorem ActR.mono {r s : Rho} {a : Act} {A : Go.Act} (h : ActR P r ro a A) (k : r.le s) : ActR P s ro a A := ⟨h.env.mono k, DsR.mono k h.df, h.rn⟩
theorem ActR.ev {r : Rho} {a : Act} {A : Go.Act} (h : ActR P r ro a A) : ∀ x, okO x = true → VR P r (a.ev x) (A.eval x) := by
  intro x hx
  cases x with
  | tmp t =>
    have := h.env.getD t
    simpa [Act.ev, Go.Act.eval] using this
  | const v => exact VR.closed hx
  | global g => cases hx
  | func f => exact .func f #[] #[] #[] #[] rfl rfl (fun i v v' h => by simp at h) (fun i v v' h => by simp at h)

theorem wants_eq {opers : Array Oper} {o : Oper} {g : Option (Nat × Bool)} (hg : guardOf opers o.guard = some g) {r : Rho} {a : Act} {A : Go.Act} (h : ActR P r ro a A) : Region.wanted o (yielded opers A.tmps) = wants a g := by
  unfold guardOf at hg
  unfold Region.wanted
  split at hg
  · rename_i hn; cases hg; rw [hn]; rfl
  · rename_i j b hj
    split at hg
    · rename_i d hd
      cases hg
      rw [hj]
      simp only [wants, yielded, hd, Option.bind_some]
      cases e : a.env[d]? with
      | none =>
        have : A.tmps[d]? = none := by
          rw [List.getElem?_eq_none_iff] at e
          rw [← Array.getElem?_toList, List.getElem?_eq_none_iff, ← h.env.1]; exact e
        rw [this]; rfl
      | some v =>
        obtain ⟨v', e', hv⟩ := h.env.get? e
        have e2 : A.tmps[d]? = some v' := by rw [← Array.getElem?_toList]; exact e'
        rw [e2]
        cases hv <;> rfl
    · cases hg

theorem comp2_spec {opers : Array Oper} {oper : Oper} {o : O} (h : comp2 P opers oper = some o) : o.dst = oper.dst ∧ comp1 P oper.op = some o.i ∧ guardOf opers oper.guard = some o.guard ∧ oper.op.operands.toList.all okO = true := by
  unfold comp2 at h
  split at h
  · rename_i hok
    split at h
    · rename_i i g hi hg
      cases h
      exact ⟨rfl, hi, hg, hok⟩
    · cases h
  · cases h

/-- what a call of a function value runs -/
theorem call_run {r : Rho} {f f' : Value} {args : List Value} {args' : Array Value} {c : Callee} (hc : calleeOf f args = some c) (hf : VR P r f f') (ha : LR P r args args'.toList) (w : World)
    (hfn : ∀ k as, c = .fn k as → True) : (∃ k as as', c = .fn k as ∧ LR P r as as' ∧ ∀ w, (do let d ← Deferred.ofValue f' args'; invoke d.target d.args : Sem Next).run P w = (callFunc k as'.toArray).run P w) ∨ (∃ l L, c = .round l args ∧ r l = some L ∧ ∀ w, (do let d ← Deferred.ofValue f' args'; invoke d.target d.args : Sem Next).run P w = (Instr.yield L.b args').run P w) := by
  unfold calleeOf at hc
  split at hc
  · rename_i k first captured
    cases hc
    obtain ⟨first', cap', e, h1, h2⟩ := hf.func_inv
    refine .inl ⟨k, _, first'.toList ++ args'.toList ++ cap'.toList, rfl, (h1.append ha).append h2, fun w => ?_⟩
    rw [e]
    simp only [Deferred.ofValue, Sem.run_bind, Sem.run_pure, Result.andThen_ok, invoke]
    have : first' ++ args' ++ cap' = (first'.toList ++ args'.toList ++ cap'.toList).toArray := by
      apply Array.ext'; simp
    rw [this]
  · rename_i l first captured
    cases hc
    obtain ⟨L, hL, _, e, rfl, rfl⟩ := hf.yield_inv
    refine .inr ⟨l, L, by simp, hL, fun w => ?_⟩
    rw [e]
    simp [Deferred.ofValue, invoke]
  · cases hc

theorem eqn_none {x y : Operand} {bop : BinOp} {nk : NK} {i : I} (h : ((isEqOp bop).bind fun neg => if isC x || isC y then some (I.eqn nk neg x y) else none) = some i) : ∃ neg, i = .eqn nk neg x y := by
  simp only [Option.bind_eq_some_iff] at h
  obtain ⟨neg, _, h⟩ := h
  split at h
  · cases h; exact ⟨neg, rfl⟩
  · cases h

theorem comp1_call {op : Op} {f : Operand} {args : List Operand} (h : comp1 P op = some (.call f args)) : ∃ ca : Call, op = .call ca ∧ ca.callee = .value f ∧ ca.args.toList = args := by
  cases op with
  | call ca =>
    obtain ⟨callee, as, ats⟩ := ca
    cases callee with
    | value g => simp only [comp1, Option.some.injEq, I.call.injEq] at h; exact ⟨_, rfl, by rw [h.1], h.2⟩
    | invoke g m => simp only [comp1] at h; cases h
    | builtin b =>
      exfalso
      simp only [comp1] at h
      unfold compBuiltin at h
      (repeat' split at h) <;> first
        | (cases h; done)
        | (simp only [Option.map_eq_some_iff] at h; obtain ⟨_, _, h⟩ := h; cases h; done)
  | defer ca =>
    obtain ⟨callee, as, ats⟩ := ca
    cases callee <;> simp only [comp1, Option.some.injEq] at h <;> cases h
  | makeFunc fn a b => cases fn <;> simp only [comp1, Option.some.injEq] at h <;> cases h
  | makeMap t x => cases x <;> simp only [comp1, Option.some.injEq] at h <;> cases h
  | next it b => cases b <;> simp only [comp1, Option.some.injEq] at h <;> cases h
  | binOp bop t x y u =>
    exfalso
    simp only [comp1] at h
    unfold compBin at h
    split at h <;> first
      | (cases h; done)
      | (obtain ⟨_, h⟩ := eqn_none h; cases h; done)
      | (split at h <;> cases h; done)
  | _ =>
    exfalso
    simp only [comp1] at h
    try unfold compConv at h
    try unfold compBuild at h
    try unfold compSlice at h
    (repeat' split at h) <;> first
      | (cases h; done)
      | (simp only [Option.map_eq_some_iff] at h; obtain ⟨_, _, h⟩ := h; cases h; done)

theorem comp1_defer {op : Op} {f : Operand} {args : List Operand} (h : comp1 P op = some (.defer f args)) : ∃ ca : Call, op = .defer ca ∧ ca.callee = .value f ∧ ca.args.toList = args := by
  cases op with
  | defer ca =>
    obtain ⟨callee, as, ats⟩ := ca
    cases callee with
    | value g => simp only [comp1, Option.some.injEq, I.defer.injEq] at h; exact ⟨_, rfl, by rw [h.1], h.2⟩
    | invoke g m => simp only [comp1] at h; cases h
    | builtin b => simp only [comp1] at h; cases h
  | call ca =>
    obtain ⟨callee, as, ats⟩ := ca
    cases callee with
    | value g => simp only [comp1, Option.some.injEq] at h; cases h
    | invoke g m => simp only [comp1] at h; cases h
    | builtin b =>
      exfalso
      simp only [comp1] at h
      unfold compBuiltin at h
      (repeat' split at h) <;> first
        | (cases h; done)
        | (simp only [Option.map_eq_some_iff] at h; obtain ⟨_, _, h⟩ := h; cases h; done)
  | makeFunc fn a b => cases fn <;> simp only [comp1, Option.some.injEq] at h <;> cases h
  | makeMap t x => cases x <;> simp only [comp1, Option.some.injEq] at h <;> cases h
  | next it b => cases b <;> simp only [comp1, Option.some.injEq] at h <;> cases h
  | binOp bop t x y u =>
    exfalso
    simp only [comp1] at h
    unfold compBin at h
    split at h <;> first
      | (cases h; done)
      | (obtain ⟨_, h⟩ := eqn_none h; cases h; done)
      | (split at h <;> cases h; done)
  | _ =>
    exfalso
    simp only [comp1] at h
    try unfold compConv at h
    try unfold compBuild at h
    try unfold compSlice at h
    (repeat' split at h) <;> first
      | (cases h; done)
      | (simp only [Option.map_eq_some_iff] at h; obtain ⟨_, _, h⟩ := h; cases h; done)
/-- what is deferred, in the model -/
theorem defer_run {r : Rho} {f f' : Value} {args : List Value} {args' : Array Value} {d : Deferred} (h : deferOf f args = some d) (hf : VR P r f f') (ha : LR P r args args'.toList) :
    ∃ d', (∀ w, (Deferred.ofValue f' args' : Sem Deferred).run P w = .ok d' w) ∧ DfR P r d d' := by
  unfold deferOf at h
  split at h
  · rename_i k first captured
    cases h
    obtain ⟨first', cap', e, h1, h2⟩ := hf.func_inv
    refine ⟨{ target := .fn (.func k) cap', args := first' ++ args' }, fun w => by rw [e]; simp [Deferred.ofValue], ⟨rfl, h2⟩, ?_⟩
    simp only [Array.toList_append]
    exact h1.append ha
  · cases h

theorem comp1_panic {op : Op} {x : Operand} (h : comp1 P op = some (.panic x)) : op = .panic x ∨ ∃ ca : Call, op = .call ca ∧ ca.callee = .builtin .panic ∧ ca.args.toList = [x] := by
  cases op with
  | panic y => simp only [comp1, Option.some.injEq, I.panic.injEq] at h; subst h; exact .inl rfl
  | call ca =>
    obtain ⟨callee, as, ats⟩ := ca
    cases callee with
    | value g => simp only [comp1, Option.some.injEq] at h; cases h
    | invoke g m => simp only [comp1] at h; cases h
    | builtin b =>
      simp only [comp1] at h
      unfold compBuiltin at h
      split at h
      all_goals first
        | (cases h; done)
        | (cases h; exact .inr ⟨_, rfl, rfl, by assumption⟩)
        | (exfalso
           (repeat' split at h) <;> first
            | (cases h; done)
            | (simp only [Option.map_eq_some_iff] at h; obtain ⟨_, _, h⟩ := h; cases h; done))
  | defer ca =>
    obtain ⟨callee, as, ats⟩ := ca
    cases callee <;> simp only [comp1, Option.some.injEq] at h <;> cases h
  | makeFunc fn a b => cases fn <;> simp only [comp1, Option.some.injEq] at h <;> cases h
  | makeMap t x => cases x <;> simp only [comp1, Option.some.injEq] at h <;> cases h
  | next it b => cases b <;> simp only [comp1, Option.some.injEq] at h <;> cases h
  | binOp bop t x y u =>
    exfalso
    simp only [comp1] at h
    unfold compBin at h
    split at h <;> first
      | (cases h; done)
      | (obtain ⟨_, h⟩ := eqn_none h; cases h; done)
      | (split at h <;> cases h; done)
  | _ =>
    exfalso
    simp only [comp1] at h
    try unfold compConv at h
    try unfold compBuild at h
    try unfold compSlice at h
    (repeat' split at h) <;> first
      | (cases h; done)
      | (simp only [Option.map_eq_some_iff] at h; obtain ⟨_, _, h⟩ := h; cases h; done)

theorem eval_fr {i : I} (h : i.takes = false) (ev : Operand → Value) (fr fr2 : Nat) (S : AS) : i.eval ev fr S = i.eval ev fr2 S := by
  cases i <;> first
    | rfl
    | (cases h; done)
    | (rename_i arr _ _ _; cases arr <;> rfl)

/-- one operation -/
theorem stepO_wp {call : Callee → AS → T (En × AS)} (hcall : CallOK P w0 call) {opers : Array Oper} {oper : Oper} {o : O} (hco : comp2 P opers oper = some o)
    {fr : Nat} {a : Act} {S : AS} {r : Rho} {A : Go.Act} {w : World} {Q : Ex × Act × AS → Prop} (h : (stepO call o fr a S).all Q) (hA : ActR P r ro a A) (hR : Rel P prot w0 r S w)
    (hfr : o.i.takes = true → r fr = none ∧ fr < S.next) {K : Go.Act → World → Prop} {QX : Exit → Go.Act → World → Prop}
    (hK : ∀ a1 S1 r1 A1 w1, Q (.norm, a1, S1) → r.le r1 → (∀ m, m < S.next → (o.i.takes = true → m ≠ fr) → r m = none → r1 m = none) → S.next ≤ S1.next → ActR P r1 ro a1 A1 → Rel P prot w0 r1 S1 w1 → K A1 w1)
    (hX : ∀ v a1 S1 r1 v' w1, a1 = a → Q (.panic v, a1, S1) → r.le r1 → (∀ m, m < S.next → (o.i.takes = true → m ≠ fr) → r m = none → r1 m = none) → S.next ≤ S1.next → VR P r1 v v' → Rel P prot w0 r1 S1 w1 → QX (.panic [{ v := v', recovered := false }]) A w1) :
    oper.wpIn (fw ro) 0 P A w K QX := by
  obtain ⟨hdst, hc1, hg, hops⟩ := comp2_spec hco
  have hev := hA.ev
  have hsem : (oper.semAt (fw ro).round A.eval).run P w = (execOp A.eval oper).run P w := by
    by_cases hrn : ro = none
    · subst hrn; rfl
    · have hnd : ∀ c, oper.op ≠ .defer c := fun c hd => by
        rw [hd] at hc1
        unfold stepO at h
        obtain ⟨callee, as, ats⟩ := c
        cases callee <;> simp [comp1] at hc1
        rw [← hc1] at h
        have hra : a.rnd ≠ none := fun e => hrn (by have := hA.rn; rw [e] at this; cases ro with | none => rfl | some _ => simp at this)
        cases hr : a.rnd with
        | none => exact hra hr
        | some l => rw [hr] at h; exact h.elim
      rw [Oper.semAt_eq (fw ro).round A.eval oper hnd]
  unfold Oper.wpIn
  refine ⟨fun _ _ => trivial, ?_⟩
  rw [hsem]
  have other : (o.i.eval a.ev fr S).all (fun x => Q (.norm, a.put o.dst x.1, x.2)) → oper.uponIn (fw ro) 0 P A K QX ((execOp A.eval oper).run P w) := by
    intro hq
    have hsim : ∃ v v' S1 r1 w1, Q (.norm, a.put o.dst v, S1) ∧ ((execOp A.eval oper).run P w = .ok (.value v') w1 ∨ ((execOp A.eval oper).run P w = .ok .skip w1 ∧ v' = undef)) ∧ VR P r1 v v' ∧ r.le r1 ∧
        (∀ m, m < S.next → (o.i.takes = true → m ≠ fr) → r m = none → r1 m = none) ∧ S1.next = S.next ∧ Rel P prot w0 r1 S1 w1 := by
      cases ht : o.i.takes with
      | true =>
        obtain ⟨v, v', S1, r1, w1, q1, q2, q3, q4, q5, q6, q7⟩ := simAll oper hc1 hops hev hR hfr hq
        exact ⟨v, v', S1, r1, w1, q1, q2, q3, q4, fun m _ hm he => q5 m (hm rfl) he, q6, q7⟩
      | false =>
        rw [eval_fr ht a.ev fr S.next S] at hq
        obtain ⟨v, v', S1, r1, w1, q1, q2, q3, q4, q5, q6, q7⟩ := simAll oper hc1 hops hev hR (fun h => by rw [ht] at h; cases h) hq
        exact ⟨v, v', S1, r1, w1, q1, q2, q3, q4, fun m hlt _ he => q5 m (by omega) he, q6, q7⟩
    obtain ⟨v, v', S1, r1, w1, q1, q2, q3, q4, q5, q6, q7⟩ := hsim
    have hA1 : ActR P r1 ro (a.put o.dst v) (A.put oper.dst v') := by rw [← hdst]; exact (hA.mono q4).put o.dst q3
    have hk := hK _ S1 r1 _ w1 q1 q4 q5 (by omega) hA1 q7
    rcases q2 with q2 | ⟨q2, rfl⟩
    · rw [q2]; exact hk
    · rw [q2]; exact hk
  unfold stepO at h
  split at h
  · rename_i f args hi
    split at h
    · rename_i c hcc
      -- a call
      rw [T.all_bind] at h
      obtain ⟨dst, op, type, pos, after, guard⟩ := oper
      simp only at hc1 hops hdst
      have hop := comp1_call (hi ▸ hc1)
      obtain ⟨ca, rfl, hcallee, hargs⟩ := hop
      obtain ⟨callee, as, ats⟩ := ca
      simp only at hcallee hargs
      subst hcallee
      have hmem : ∀ x, x ∈ as.toList → okO x = true := fun x hm => List.all_eq_true.1 hops x (by simp [Op.operands, Call.operands]; exact .inr (by simpa using hm))
      have hfo : okO f = true := List.all_eq_true.1 hops f (by simp [Op.operands, Call.operands])
      have hla : LR P r (args.map a.ev) (as.map A.eval).toList := by
        have := mapLR (r := r) (P := P) (ev := a.ev) (ev' := A.eval) as.toList (fun x hm => hev x (hmem x hm))
        rw [hargs] at this
        simpa [hargs] using this
      rcases call_run hcc (hev f hfo) hla w (fun _ _ _ => trivial) with ⟨k, cs, cs', rfl, hcs, hrun⟩ | ⟨l, L, rfl, hL, hrun⟩
      · obtain ⟨h1, h2⟩ := hcall.fn prot k cs cs' S w r _ hR hcs h
        have hex : (execOp A.eval { dst, op := .call { callee := .value f, args := as, argTypes := ats }, type, pos, after, guard }).run P w = .ok (.enter k cs'.toArray) w := by
          have : (execOp A.eval { dst, op := .call { callee := .value f, args := as, argTypes := ats }, type, pos, after, guard }).run P w = (do let d ← Deferred.ofValue (A.eval f) (as.map A.eval); invoke d.target d.args : Sem Next).run P w := by
            simp only [execOp, resolve]
          rw [this, hrun, h1]
        rw [hex]
        refine ⟨fun hd => by simp [fw] at hd, fw_calls.2 ?_⟩
        refine Calls.mono h2 ?_
        rintro e w1 ⟨en, S1, r1, q1, q2, q3, q4, q5⟩
        cases q2 with
        | ret v v' hv =>
          refine hK _ S1 r1 _ w1 q1 q3.1 (fun m hm _ he => q3.2 m hm he) q4 ?_ q5
          rw [hdst]
          exact (hA.mono q3.1).put dst hv
        | panic v v' hv =>
          exact hX v a S1 r1 v' w1 rfl q1 q3.1 (fun m hm _ he => q3.2 m hm he) q4 hv q5
      · obtain ⟨f0, tmps, asg, body, h1, h2⟩ := hcall.round prot l L _ _ S w r _ hR hla hL h
        have hex : (execOp A.eval { dst, op := .call { callee := .value f, args := as, argTypes := ats }, type, pos, after, guard }).run P w = .ok (.round L.b f0 tmps asg body) w := by
          have : (execOp A.eval { dst, op := .call { callee := .value f, args := as, argTypes := ats }, type, pos, after, guard }).run P w = (do let d ← Deferred.ofValue (A.eval f) (as.map A.eval); invoke d.target d.args : Sem Next).run P w := by
            simp only [execOp, resolve]
          rw [this, hrun]
          rw [Array.toArray_toList] at h1
          exact h1
        rw [hex]
        refine ⟨fun hd => by simp [fw] at hd, fw_round (RoundIn.mono h2 ?_)⟩
        rintro e w1 ⟨en, S1, r1, q1, q2, q3, q4, q5⟩
        cases q2 with
        | ret v v' hv =>
          refine hK _ S1 r1 _ w1 q1 q3.1 (fun m hm _ he => q3.2 m hm he) q4 ?_ q5
          rw [hdst]
          exact (hA.mono q3.1).put dst hv
        | panic v v' hv =>
          exact hX v a S1 r1 v' w1 rfl q1 q3.1 (fun m hm _ he => q3.2 m hm he) q4 hv q5
    · exact h.elim
  · rename_i f args hi
    obtain ⟨dst, op, type, pos, after, guard⟩ := oper
    simp only at hc1 hops hdst
    obtain ⟨ca, rfl, hcallee, hargs⟩ := comp1_defer (hi ▸ hc1)
    obtain ⟨callee, as, ats⟩ := ca
    simp only at hcallee hargs
    subst hcallee
    have hmem : ∀ x, x ∈ as.toList → okO x = true := fun x hm => List.all_eq_true.1 hops x (by simp [Op.operands, Call.operands]; exact .inr (by simpa using hm))
    have hfo : okO f = true := List.all_eq_true.1 hops f (by simp [Op.operands, Call.operands])
    have hla : LR P r (args.map a.ev) (as.map A.eval).toList := by
      have := mapLR (r := r) (P := P) (ev := a.ev) (ev' := A.eval) as.toList (fun x hm => hev x (hmem x hm))
      rw [hargs] at this
      simpa [hargs] using this
    split at h
    · rename_i a' hpush
      cases hrn : a.rnd with
      | some l => rw [hrn] at hpush; cases hpush
      | none =>
        rw [hrn] at hpush
        cases hdo : deferOf (a.ev f) (args.map a.ev) with
        | none => rw [hdo] at hpush; cases hpush
        | some d =>
          rw [hdo] at hpush
          simp only [pushD, Option.some.injEq] at hpush
          subst hpush
          obtain ⟨d', hd1, hd2⟩ := defer_run hdo (hev f hfo) hla
          have hex : (execOp A.eval { dst, op := .defer { callee := .value f, args := as, argTypes := ats }, type, pos, after, guard }).run P w = .ok (.defer d') w := by
            simp only [execOp, resolve, Sem.run_bind, hd1 w, Result.andThen_ok, Sem.run_pure]
          rw [hex]
          refine hK _ S r _ w h (.refl r) (fun m _ _ he => he) (Nat.le_refl _) ?_ hR
          rw [hdst]
          exact (show ActR P r ro { a with defers := d :: a.defers } { A with defers := d' :: A.defers } from ⟨hA.env, .cons hd2 hA.df, hA.rn⟩).put dst VR.undef
    · exact h.elim
  · rename_i x hi
    split at h
    · rename_i t v hx
      obtain ⟨dst, op, type, pos, after, guard⟩ := oper
      simp only at hc1 hops hdst
      have hxo : ∃ x' : Operand, okO x' = true ∧ x' = x ∧ ∀ w, (execOp A.eval { dst, op, type, pos, after, guard }).run P w = (do let a ← Instr.panic (A.eval x); pure (Next.value a) : Sem Next).run P w := by
        rw [hi] at hc1
        rcases comp1_panic hc1 with rfl | ⟨ca, rfl, hca, har⟩
        · exact ⟨x, List.all_eq_true.1 hops x (by simp [Op.operands]), rfl, fun w => rfl⟩
        · obtain ⟨callee, as, ats⟩ := ca
          simp only at hca har
          subst hca
          refine ⟨x, List.all_eq_true.1 hops x (by simp [Op.operands, Call.operands]; have : x ∈ as.toList := by rw [har]; simp
                                                   simpa using this), rfl, fun w => ?_⟩
          have h0 : (as.map A.eval).getD 0 .nilIface = A.eval x := by
            have := opArgs0 (ev' := A.eval) har
            simp [Array.getD_eq_getD_getElem?, this]
          simp only [execOp, resolve, Sem.run_bind, Sem.run_pure, Result.andThen_ok, invoke, builtin, h0]
      obtain ⟨x', hok, rfl, hrun⟩ := hxo
      have hvx := hev x' hok
      rw [hx] at hvx
      obtain ⟨u, e, hu⟩ := hvx.iface_inv
      have : (execOp A.eval { dst, op, type, pos, after, guard }).run P w = .halt (.panic (.iface t u)) w := by
        rw [hrun, e]; simp [Instr.panic]
      rw [this]
      exact hX _ a S r _ w rfl h (.refl r) (fun m _ _ he => he) (Nat.le_refl _) (.iface t v u hu) hR
    · exact h.elim
  · exact h.elim
  · rename_i i _ _ _ _
    rw [T.all_bind] at h
    exact other h
end
end Go.Gx

/-
  Regions in the order of the text; results; code; calls.
-/
namespace Go.Gx

section
variable {P : Program} {prot : Nat → Option Obj} {w0 : World} {ro : Option Nat}

theorem mapM_cons_some {α β : Type} {f : α → Option β} {x : α} {l : List α} {r : List β} (h : (x :: l).mapM f = some r) : ∃ y ys, f x = some y ∧ l.mapM f = some ys ∧ r = y :: ys := by
  simp only [List.mapM_cons, Option.bind_eq_bind, Option.bind_eq_some_iff, Option.pure_def, Option.some.injEq] at h
  obtain ⟨y, h1, ys, h2, h3⟩ := h
  exact ⟨y, ys, h1, h2, h3.symm⟩

theorem drop_get {α : Type} {l : List α} {i : Nat} {x : α} {r : List α} (h : l.drop i = x :: r) : l[i]? = some x ∧ l.drop (i + 1) = r := by
  have hi : i < l.length := by
    rcases Nat.lt_or_ge i l.length with h1 | h1
    · exact h1
    · rw [List.drop_eq_nil_of_le h1] at h; cases h
  rw [List.drop_eq_getElem_cons hi] at h
  cases h
  exact ⟨by simp [hi], rfl⟩

theorem ops_wp {call : Callee → AS → T (En × AS)} (hcall : CallOK P w0 call) (opers : Array Oper) (r0 : Rho) (n0 : Nat) (Q : Ex × Act × AS → Prop) :
    ∀ (l : List Oper) (ops : List O) (i : Nat) (fr : Nat) (a : Act) (S : AS) (r : Rho) (A : Go.Act) (w : World), opers.toList.drop i = l → l.mapM (comp2 P opers) = some ops →
      (stepOs call ops fr a S).all Q → ActR P r ro a A → Rel P prot w0 r S w → Ext r0 r n0 → n0 ≤ fr → (∀ m, fr ≤ m → m < fr + nTakes ops → r m = none) → fr + nTakes ops ≤ S.next →
      wpOpsIn (fw ro) 0 P opers (QC P prot w0 ro r0 n0 Q) (List.range' i (opers.size - i)) A w
  | [], ops, i, fr, a, S, r, A, w, hd, hm, h, hA, hR, hE, hn, hf, hfn => by
    simp only [List.mapM_nil, Option.pure_def, Option.some.injEq] at hm
    subst hm
    have : opers.size - i = 0 := by
      have := congrArg List.length hd
      simp at this; omega
    rw [this]
    simp only [List.range'_zero, wpOpsIn]
    exact ⟨.norm, a, S, r, h, .norm, hE, by simp [nTakes] at hfn; omega, hA, hR⟩
  | oper :: l, ops, i, fr, a, S, r, A, w, hd, hm, h, hA, hR, hE, hn, hf, hfn => by
    obtain ⟨o, os, ho, hos, rfl⟩ := mapM_cons_some hm
    obtain ⟨hgi, hdi⟩ := drop_get hd
    have hgi' : opers[i]? = some oper := by rw [← Array.getElem?_toList]; exact hgi
    have hsz : opers.size - i = (opers.size - (i + 1)) + 1 := by
      have := (Array.getElem?_eq_some_iff.1 hgi').1; omega
    obtain ⟨hdst, hc1, hg, hops⟩ := comp2_spec ho
    rw [hsz, List.range'_succ]
    simp only [wpOpsIn, hgi', wants_eq hg hA]
    simp only [nTakes] at hf hfn
    unfold stepOs at h
    simp only at h
    have hfr' : (if o.i.takes then fr + 1 else fr) + nTakes os = fr + ((if o.i.takes then 1 else 0) + nTakes os) := by split <;> omega
    split at h
    · rename_i hw
      rw [if_pos hw]
      rw [T.all_bind] at h
      refine stepO_wp hcall ho h hA hR ?_ ?_ ?_
      · intro ht
        rw [ht] at hf hfn
        simp only [if_true] at hf hfn
        exact ⟨hf fr (Nat.le_refl _) (by omega), by omega⟩
      · intro a1 S1 r1 A1 w1 q1 q2 q3 q4 q5 q6
        refine ops_wp hcall opers r0 n0 Q l os (i + 1) _ a1 S1 r1 A1 w1 hdi hos q1 q5 q6 ?_ ?_ ?_ ?_
        · exact ⟨hE.1.trans q2, fun m hm e => q3 m (by omega) (fun _ => by omega) (hE.2 m hm e)⟩
        · split <;> omega
        · intro m hm1 hm2
          refine q3 m (by omega) ?_ (hf m (by split at hm1 <;> omega) (by omega))
          intro ht
          rw [if_pos ht] at hm1
          omega
        · omega
      · intro v a1 S1 r1 v' w1 q0 q1 q2 q3 q4 q5 q6
        subst q0
        refine ⟨.panic v, _, S1, r1, q1, .panic _ _ q5, ⟨hE.1.trans q2, fun m hm e => q3 m (by omega) (fun _ => by omega) (hE.2 m hm e)⟩, by omega, hA.pan.mono q2, q6⟩
    · rename_i hw
      rw [if_neg hw]
      refine ⟨fun _ _ => trivial, ?_⟩
      have hA1 : ActR P r ro (a.put o.dst undef) (A.put oper.dst undef) := by rw [← hdst]; exact hA.put o.dst VR.undef
      refine ops_wp hcall opers r0 n0 Q l os (i + 1) _ _ S r _ w hdi hos h hA1 hR hE ?_ ?_ ?_
      · split <;> omega
      · intro m hm1 hm2
        exact hf m (by split at hm1 <;> omega) (by omega)
      · omega

def rvSem (tmps : Array Value) : ResultVar → Sem Value
  | .tmp t => pure (tmps.getD t undef)
  | .cell a t => do loadVar t (← asAddr (tmps.getD a undef))

theorem results_eq (fn : Func) (tmps : Array Value) : results fn tmps = (do let vs ← fn.results.mapM (rvSem tmps); pure (if h : vs.size = 1 then vs[0] else .tuple vs)) := by
  unfold results
  congr 1

/-- results -/
theorem resV_run {fn : Func} {rs : List RV} (hrs : fn.results.toList.mapM (compRV P) = some rs) {r : Rho} {a : Act} {A : Go.Act} {S : AS} {w : World} (hA : ActR P r ro a A) (hR : Rel P prot w0 r S w) {v : Value}
    (h : resV rs a.env S = some v) : ∃ v', (results fn A.tmps).run P w = .ok v' w ∧ VR P r v v' := by
  have each : ∀ (l : List ResultVar) (rs : List RV) (vs : List Value), l.mapM (compRV P) = some rs → rs.mapM (loadRV a.env S) = some vs →
      ∃ vs', (l.mapM (rvSem A.tmps)).run P w = .ok vs' w ∧ LR P r vs vs' := by
    intro l
    induction l with
    | nil =>
      intro rs vs h1 h2
      simp at h1; subst h1
      simp at h2; subst h2
      exact ⟨[], by simp, .nil⟩
    | cons rv l ih =>
      intro rs vs h1 h2
      obtain ⟨y, ys, hy, hys, rfl⟩ := mapM_cons_some h1
      obtain ⟨u, us, hu, hus, rfl⟩ := mapM_cons_some h2
      obtain ⟨us', k1, k2⟩ := ih ys us hys hus
      have one : ∃ u', (rvSem A.tmps rv).run P w = .ok u' w ∧ VR P r u u' := by
        cases rv with
        | tmp t =>
          simp only [compRV, Option.some.injEq] at hy; subst hy
          simp only [loadRV, Option.some.injEq] at hu; subst hu
          refine ⟨_, rfl, ?_⟩
          have := hA.env.getD t
          simpa using this
        | cell ad t =>
          simp only [compRV] at hy
          cases hg : aggOf P t with
          | none => rw [hg] at hy; cases hy
          | some g =>
            rw [hg] at hy; simp at hy; subst hy
            simp only [loadRV] at hu
            have hva := hA.env.getD ad
            split at hu
            · rename_i n o hn
              rw [hn] at hva
              obtain ⟨L, hL, e⟩ := hva.ptr_inv
              split at hu
              · rename_i cells et wr ex hs
                obtain ⟨u', q1, q2⟩ := run_loadVar hg hR hs hL hu
                refine ⟨u', ?_, q2⟩
                have e2 : A.tmps.getD ad undef = .pointer (some ⟨L.b, L.base + o, none⟩) := by rw [← e]; simp
                simp only [rvSem, e2, asAddr, Sem.run_bind, Sem.run_pure, Result.andThen_ok]
                exact q1
              · cases hu
            · cases hu
      obtain ⟨u', q1, q2⟩ := one
      refine ⟨u' :: us', ?_, LR.cons q2 k2⟩
      simp only [List.mapM_cons, Sem.run_bind, q1, k1, Result.andThen_ok, Sem.run_pure]
  unfold resV at h
  have fin : ∀ vs, rs.mapM (loadRV a.env S) = some vs → ∃ v', (results fn A.tmps).run P w = .ok v' w ∧ VR P r (match vs with | [v] => v | us => .tuple us.toArray) v' := by
    intro vs hvs
    obtain ⟨vs', k1, k2⟩ := each fn.results.toList rs vs hrs hvs
    have hrun : (results fn A.tmps).run P w = .ok (if h : vs'.toArray.size = 1 then vs'.toArray[0] else .tuple vs'.toArray) w := by
      rw [results_eq, Array.mapM_eq_mapM_toList]
      simp only [Sem.run_bind, Sem.run_map, k1, Result.andThen_ok, Sem.run_pure]
    refine ⟨_, hrun, ?_⟩
    cases vs with
    | nil =>
      have := k2.nil_inv; subst this
      exact VR.undef
    | cons v1 l =>
      obtain ⟨v1', l', rfl, q1, q2⟩ := k2.cons_inv
      cases l with
      | nil =>
        have := q2.nil_inv; subst this
        simpa using q1
      | cons v2 l2 =>
        obtain ⟨v2', l2', rfl, q3, q4⟩ := q2.cons_inv
        simp only [List.size_toArray, List.length_cons]
        rw [dif_neg (by omega)]
        exact VR.tuple_of k2
  split at h
  · rename_i u hu
    cases h
    exact fin _ hu
  · rename_i us hne hus
    cases h
    obtain ⟨v', q1, q2⟩ := fin _ hus
    refine ⟨v', q1, ?_⟩
    cases us with
    | nil => exact q2
    | cons x l => cases l with
      | nil => exact absurd rfl (hne x)
      | cons y l => exact q2
  · cases h

/-- results in cells, at a panic that has been recovered -/
theorem resV_pan {fn : Func} {rs : List RV} (hrs : fn.results.toList.mapM (compRV P) = some rs) (hc : cellsOnly rs = true) {r : Rho} {a : Act} {A : Go.Act} {S : AS} {w : World} (hA : PanR P r a A) (hR : Rel P prot w0 r S w) {v : Value}
    (h : resV rs a.env S = some v) : ∃ v', (results fn A.tmps).run P w = .ok v' w ∧ VR P r v v' := by
  have each : ∀ (l : List ResultVar) (rs : List RV) (vs : List Value), l.mapM (compRV P) = some rs → cellsOnly rs = true → rs.mapM (loadRV a.env S) = some vs →
      ∃ vs', (l.mapM (rvSem A.tmps)).run P w = .ok vs' w ∧ LR P r vs vs' := by
    intro l
    induction l with
    | nil =>
      intro rs vs h1 _ h2
      simp at h1; subst h1
      simp at h2; subst h2
      exact ⟨[], by simp, .nil⟩
    | cons rv l ih =>
      intro rs vs h1 hc h2
      obtain ⟨y, ys, hy, hys, rfl⟩ := mapM_cons_some h1
      obtain ⟨u, us, hu, hus, rfl⟩ := mapM_cons_some h2
      have hc' : cellsOnly ys = true := by cases y <;> simp [cellsOnly] at hc; exact hc
      obtain ⟨us', k1, k2⟩ := ih ys us hys hc' hus
      have one : ∃ u', (rvSem A.tmps rv).run P w = .ok u' w ∧ VR P r u u' := by
        cases rv with
        | tmp t =>
          simp only [compRV, Option.some.injEq] at hy; subst hy
          simp [cellsOnly] at hc
        | cell ad t =>
          simp only [compRV] at hy
          cases hg : aggOf P t with
          | none => rw [hg] at hy; cases hy
          | some g =>
            rw [hg] at hy; simp at hy; subst hy
            simp only [loadRV] at hu
            split at hu
            · rename_i n o hn
              have hsome : a.env[ad]? = some (.pointer (some ⟨n, o, none⟩)) := by
                rw [List.getD_eq_getElem?_getD] at hn
                cases he : a.env[ad]? with
                | none => rw [he] at hn; cases hn
                | some q => rw [he] at hn; simp at hn; rw [hn]
              rcases hA.env ad _ hsome with e | ⟨v', e1, hva⟩
              · cases e
              · obtain ⟨L, hL, e⟩ := hva.ptr_inv
                split at hu
                · rename_i cells et wr ex hs
                  obtain ⟨u', q1, q2⟩ := run_loadVar hg hR hs hL hu
                  refine ⟨u', ?_, q2⟩
                  have e2 : A.tmps.getD ad undef = .pointer (some ⟨L.b, L.base + o, none⟩) := by
                    rw [← e, Array.getD_eq_getD_getElem?, e1]; rfl
                  simp only [rvSem, e2, asAddr, Sem.run_bind, Sem.run_pure, Result.andThen_ok]
                  exact q1
                · cases hu
            · cases hu
      obtain ⟨u', q1, q2⟩ := one
      refine ⟨u' :: us', ?_, LR.cons q2 k2⟩
      simp only [List.mapM_cons, Sem.run_bind, q1, k1, Result.andThen_ok, Sem.run_pure]
  unfold resV at h
  have fin : ∀ vs, rs.mapM (loadRV a.env S) = some vs → ∃ v', (results fn A.tmps).run P w = .ok v' w ∧ VR P r (match vs with | [v] => v | us => .tuple us.toArray) v' := by
    intro vs hvs
    obtain ⟨vs', k1, k2⟩ := each fn.results.toList rs vs hrs hc hvs
    have hrun : (results fn A.tmps).run P w = .ok (if h : vs'.toArray.size = 1 then vs'.toArray[0] else .tuple vs'.toArray) w := by
      rw [results_eq, Array.mapM_eq_mapM_toList]
      simp only [Sem.run_bind, Sem.run_map, k1, Result.andThen_ok, Sem.run_pure]
    refine ⟨_, hrun, ?_⟩
    cases vs with
    | nil =>
      have := k2.nil_inv; subst this
      exact VR.undef
    | cons v1 l =>
      obtain ⟨v1', l', rfl, q1, q2⟩ := k2.cons_inv
      cases l with
      | nil =>
        have := q2.nil_inv; subst this
        simpa using q1
      | cons v2 l2 =>
        obtain ⟨v2', l2', rfl, q3, q4⟩ := q2.cons_inv
        simp only [List.size_toArray, List.length_cons]
        rw [dif_neg (by omega)]
        exact VR.tuple_of k2
  split at h
  · rename_i u hu
    cases h
    exact fin _ hu
  · rename_i us hne hus
    cases h
    obtain ⟨v', q1, q2⟩ := fin _ hus
    refine ⟨v', q1, ?_⟩
    cases us with
    | nil => exact q2
    | cons x l => cases l with
      | nil => exact absurd rfl (hne x)
      | cons y l => exact q2
  · cases h

/-- the table of functions is the program's -/
def TableOK (P : Program) (F : Nat → Option IFn) : Prop := ∀ k ifn, F k = some ifn → ∃ fn, P.funcs[k]? = some fn ∧ compF P fn = some ifn

/-- what holds of a world, and of all worlds behind it -/
def Stab (LW : World → Prop) : Prop := ∀ w0 w : World, LW w0 → w0.heap.size ≤ w.heap.size → (∀ b, b < w0.heap.size → w.heap[b]? = w0.heap[b]?) → LW w
/-- what is known of some calls from elsewhere, behind a world of which LW holds -/
def ExtOK (P : Program) (LW : World → Prop) (ext : Nat → List Value → AS → Option (Value × AS)) : Prop := ∀ k args S x, ext k args S = some x →
  (∃ fn, P.funcs[k]? = some fn ∧ fn.body.isSome = true ∧ (fn.name == "runtime.NumGoroutine") = false) ∧
  ∀ (prot : Nat → Option Obj) (w0 : World) (r : Rho) (w : World) (args' : List Value), LW w0 → Rel P prot w0 r S w → LR P r args args' → Calls P k args'.toArray w fun e w' =>
    ∃ r' v', e = .returned v' ∧ VR P r' x.1 v' ∧ Ext r r' S.next ∧ S.next ≤ x.2.next ∧ Rel P prot w0 r' x.2 w'

/-- nothing is wanted of the world -/
def noL : World → Prop := fun _ => True
theorem noL_stab : Stab noL := fun _ _ _ _ _ => trivial
theorem Rel.below {r : Rho} {S : AS} {w w' : World} (h : Rel P prot w0 r S w) (hb : RowKit.Below w.heap.size w w') : Rel P prot w0 r S w' := by
  have key : ∀ (b : Nat) (q : Obj), w.heap[b]? = some q → w'.heap[b]? = some q := fun b q hq => by rw [hb.block b (lt_of_get hq)]; exact hq
  refine ⟨hb.os.trans h.os, hb.tape.trans h.tape, hb.output.trans h.output, Nat.le_trans h.size hb.size, fun b hb' => (hb.block b (by have := h.size; omega)).trans (h.low b hb'), ?_, h.uniq, h.fresh, h.ro, ?_⟩
  · intro n o hn
    rcases h.live n o hn with e | ⟨L, q, hL, hq, ho⟩
    · exact .inl e
    · exact .inr ⟨L, q, hL, key _ _ hq, ho⟩
  · intro b q hp
    obtain ⟨h1, h2⟩ := h.prot b q hp
    exact ⟨key _ _ h1, h2⟩

theorem closed_LR {r : Rho} {args args' : List Value} (hc : args.all closed = true) (h : LR P r args args') : args' = args := by
  have one : ∀ (d : Nat) (v v' : Value), closedV d v = true → VR P r v v' → v' = v := by
    intro d
    induction d with
    | zero => intro v v' h; simp [closedV] at h
    | succ d ih =>
      have arr : ∀ (a a' : Array Value), a.toList.all (closedV d) = true → LR P r a.toList a'.toList → a' = a := by
        intro a a' ha hl
        apply Array.ext'
        apply List.ext_getElem?
        intro i
        cases e : a.toList[i]? with
        | none =>
          rw [List.getElem?_eq_none_iff] at e ⊢
          rw [← hl.1]; exact e
        | some v =>
          obtain ⟨v', e', hv⟩ := hl.get? e
          rw [e', ih v v' (List.all_eq_true.1 ha v (List.mem_of_getElem? e)) hv]
      intro v v' h hv
      cases v with
      | bool b => exact hv.bool_inv
      | int k n => exact hv.int_inv
      | string s => exact hv.str_inv
      | pointer a => cases a with
        | none => exact hv.ptrNil_inv
        | some a => simp [closedV] at h
      | slice a n c => cases a with
        | none => obtain ⟨e, rfl, rfl⟩ := hv.sliceNil_inv; exact e
        | some a => simp [closedV] at h
      | map m => cases m with
        | none => exact hv.mapNil_inv
        | some a => simp [closedV] at h
      | nilFunc => exact hv.nilFunc_inv
      | nilIface => exact hv.nilIface_inv
      | iface t v =>
        obtain ⟨u, rfl, hu⟩ := hv.iface_inv
        rw [ih v u (by simpa [closedV] using h) hu]
      | agg cs =>
        obtain ⟨cs', rfl, hl⟩ := hv.agg_inv
        rw [arr cs cs' (by simpa [closedV] using h) hl]
      | tuple cs =>
        obtain ⟨cs', rfl, hl⟩ := hv.tuple_inv
        rw [arr cs cs' (by simpa [closedV] using h) hl]
      | float _ _ => simp [closedV] at h
      | complex _ _ _ => simp [closedV] at h
      | chan _ => simp [closedV] at h
      | func _ _ _ => simp [closedV] at h
  apply List.ext_getElem?
  intro i
  cases e : args[i]? with
  | none =>
    rw [List.getElem?_eq_none_iff] at e ⊢
    rw [← h.1]; exact e
  | some v =>
    obtain ⟨v', e', hv⟩ := h.get? e
    rw [e', one 10 v v' (List.all_eq_true.1 hc v (List.mem_of_getElem? e)) hv]
end
end Go.Gx

/-
  The run of code and of calls: from the abstract machine to the model.
-/
namespace Go.Gx

section
variable {P : Program} {prot : Nat → Option Obj} {w0 : World}

/-- a region that draws its order: proved apart -/
def DrawOK (P : Program) (w0 : World) : Prop :=
  ∀ {call : Callee → AS → T (En × AS)}, CallOK P w0 call → ∀ (prot : Nat → Option Obj) (ro : Option Nat) (id : Nat) (opers : Array Oper) (is : List O) (ds : List DO) (a : Act) (S : AS) (r : Rho) (A : Go.Act) (w : World) (Q : Ex × Act × AS → Prop),
    opers.toList.mapM (comp2 P opers) = some is → drawOf opers is = some ds → (drawOs call ds ds S.next a (S.bump (nTakes is)) [] []).all Q → ActR P r ro a A → Rel P prot w0 r S w →
    (Code.region id opers true).wpIn (fw ro) 0 P (QC P prot w0 ro r S.next Q) A w

/-- a run of code, sound -/
def ExecOK (P : Program) (w0 : World) (ex : C → Act → AS → R) : Prop :=
  ∀ (c : Code) (ic : C), comp P c = some ic → ∀ (prot : Nat → Option Obj) (ro : Option Nat) (a : Act) (S : AS) (r : Rho) (A : Go.Act) (w : World) (Q : Ex × Act × AS → Prop),
    (ex ic a S).all Q → ActR P r ro a A → Rel P prot w0 r S w → c.wpIn (fw ro) 0 P (QC P prot w0 ro r S.next Q) A w

variable {F : Nat → Option IFn} {ext : Nat → List Value → AS → Option (Value × AS)}

theorem DsR.nil_inv {r : Rho} {ds : List Deferred} (h : DsR P r [] ds) : ds = [] := by cases h; rfl

theorem drain_ok {fn : Func} {tmps : Array Value} {R : Ending → World → Prop} {r : Rho} : ∀ (ds ds' : List Deferred) (S S2 : AS) (w : World), DsR P r ds ds' → Rel P prot w0 r S w → drain ds S = some S2 →
    (∀ w2, S2.next = S.next → Rel P prot w0 r S2 w2 → ∃ v, (results fn tmps).run P w2 = .ok v w2 ∧ R (.returned v) w2) → LeavesInM (fw none) 0 P fn tmps R ds' .returning w := by
  intro ds
  induction ds with
  | nil =>
    intro ds' S S2 w h hR hd hk
    have := h.nil_inv; subst this
    simp only [drain, Option.some.injEq] at hd
    subst hd
    exact hk w rfl hR
  | cons d ds ih =>
    intro ds' S S2 w h hR hd hk
    cases h with
    | cons hdf hrest =>
      rename_i d' ds2
      obtain ⟨ht, _⟩ := hdf
      simp only [drain] at hd
      split at hd
      · rename_i n htn
        split at hd
        · rename_i hg
          rw [htn] at ht
          unfold TgR at ht
          split at ht
          · cases ‹Target.collected n = _›
          · rename_i n' b e1 e2
            cases e1
            obtain ⟨L, hL, hb0, rfl⟩ := ht
            obtain ⟨obj, hob, hor⟩ := hR.at_ hg (by simp) hL
            cases obj with
            | deferred o =>
              cases o with
              | none => simp [ObjR] at hor
              | some ds'' =>
                obtain ⟨h0, hn⟩ := hor
                have := hn.nil_inv; subst this
                refine ⟨by simp, .inl ⟨L.b, _, e2, run_takeDeferred hob, ?_⟩⟩
                have hR2 : Rel P prot w0 r (S.put n (.defd none)) (w.upd L.b (.deferred none)) := hR.upd hg rfl hL (by simpa [ObjR] using h0) rfl
                exact ih ds2 _ S2 _ hrest hR2 hd (fun w2 e => hk w2 (by simpa using e))
            | _ => simp [ObjR] at hor
          · exact ht.elim
        · cases hd
      · cases hd

/-! ## deferred calls -/
/-- the mode of a frame that leaves -/
def modeP : Option Value → FrameMode
  | none => .returning
  | some v => .panicking [{ v := v, recovered := false }]
inductive PvR (P : Program) (r : Rho) : Option Value → Option Value → Prop where
  | none : PvR P r none none
  | some (v v' : Value) : VR P r v v' → PvR P r (some v) (some v')
theorem PvR.mono {r s : Rho} {p p' : Option Value} (h : PvR P r p p') (k : r.le s) : PvR P s p p' := by
  cases h with
  | none => exact .none
  | some v v' hv => exact .some _ _ (hv.mono k)
theorem settle_modeP (p : Option Value) : settle (modeP p) = modeP p := by cases p <;> rfl
theorem modeP_ne (p : Option Value) : modeP p ≠ .run := by cases p <;> simp [modeP]

theorem headRec_spec {c : C} {d : Option Nat} {y : C} (h : headRec c = some (d, y)) : c = .seq (.region 0 [⟨d, .recover, none⟩]) y := by
  unfold headRec at h
  split at h
  · simp only [Option.some.injEq, Prod.mk.injEq] at h
    obtain ⟨rfl, rfl⟩ := h
    rfl
  · cases h
theorem comp1_recover {op : Op} (h : comp1 P op = some .recover) : ∃ ca : Call, op = .call ca ∧ ca.callee = .builtin .recover := by
  cases op with
  | call ca =>
    obtain ⟨callee, as, ats⟩ := ca
    cases callee with
    | value g => simp only [comp1, Option.some.injEq] at h; cases h
    | invoke g m => simp only [comp1] at h; cases h
    | builtin b =>
      simp only [comp1] at h
      unfold compBuiltin at h
      split at h
      all_goals first
        | (cases h; done)
        | (exact ⟨_, rfl, rfl⟩)
        | (exfalso
           (repeat' split at h) <;> first
            | (cases h; done)
            | (simp only [Option.map_eq_some_iff] at h; obtain ⟨_, _, h⟩ := h; cases h; done))
  | defer ca =>
    obtain ⟨callee, as, ats⟩ := ca
    cases callee <;> simp only [comp1, Option.some.injEq] at h <;> cases h
  | makeFunc fn a b => cases fn <;> simp only [comp1, Option.some.injEq] at h <;> cases h
  | makeMap t x => cases x <;> simp only [comp1, Option.some.injEq] at h <;> cases h
  | next it b => cases b <;> simp only [comp1, Option.some.injEq] at h <;> cases h
  | binOp bop t x y u =>
    exfalso
    simp only [comp1] at h
    unfold compBin at h
    split at h <;> first
      | (cases h; done)
      | (obtain ⟨_, h⟩ := eqn_none h; cases h; done)
      | (split at h <;> cases h; done)
  | _ =>
    exfalso
    simp only [comp1] at h
    try unfold compConv at h
    try unfold compBuild at h
    try unfold compSlice at h
    (repeat' split at h) <;> first
      | (cases h; done)
      | (simp only [Option.map_eq_some_iff] at h; obtain ⟨_, _, h⟩ := h; cases h; done)
theorem enter_fn {k : Nat} {fn : Func} {c : Code} {as : Array Value} (h1 : P.funcs[k]? = some fn) (h2 : fn.body = some c) (h3 : ¬ (fn.name == "runtime.NumGoroutine") = true) (w : World) : (callFunc k as).run P w = .ok (.enter k as) w := by
  have h3' : ¬ fn.name = "runtime.NumGoroutine" := by simpa using h3
  simp [callFunc, h1, h2, h3']

/-- a deferred call: with what panic it leaves its caller -/
theorem execD_ok {F : Nat → Option IFn} (hF : TableOK P F) {ex : C → Act → AS → R} (hex : ExecOK P w0 ex) {k : Nat} {ifn : IFn} (hk : F k = some ifn) {args args' : List Value} {S : AS} {w : World} {r : Rho} {p p' : Option Value}
    (hR : Rel P prot w0 r S w) (hl : LR P r args args') (hp : PvR P r p p') {Q : Bool × Ex × Act × AS → Prop}
    (h : (execD ex p ifn.body { env := args ++ List.replicate (ifn.ntmps - args.length) undef, defers := [] } S).all Q)
    (hQ : ∀ rc e a S', Q (rc, e, a, S') → (e = .norm ∨ e = .ret) ∧ a.defers = [] ∧ ∃ v, resV ifn.results a.env S' = some v) :
    (callFunc k args'.toArray).run P w = .ok (.enter k args'.toArray) w ∧
    CallsDIn (fw none) 0 P k args'.toArray (modeP p') w fun e u' w' => ∃ v rc ee a S' r', e = .returned v ∧ Q (rc, ee, a, S') ∧ settle u' = modeP (if rc then none else p') ∧ Ext r r' S.next ∧ S.next ≤ S'.next ∧ Rel P prot w0 r' S' w' := by
  obtain ⟨fn, hfn, hcf⟩ := hF k ifn hk
  unfold compF at hcf
  split at hcf
  case h_2 => cases hcf
  rename_i c hbody
  split at hcf
  · cases hcf
  rename_i hname
  split at hcf
  case h_2 => cases hcf
  rename_i body rs hb hrs
  cases hcf
  refine ⟨enter_fn hfn hbody (by simpa using hname) w, ?_⟩
  simp only at h hQ
  have hA0 : ActR P r none { env := args ++ List.replicate (fn.ntmps - args.length) undef, defers := [] } { tmps := args'.toArray ++ Array.replicate (fn.ntmps - args'.toArray.size) undef, defers := [] } := by
    refine ⟨?_, .nil, rfl⟩
    simp only [Array.toList_append, Array.toList_replicate, List.size_toArray]
    rw [← hl.1]
    exact hl.append (LR.replicate _ VR.undef)
  unfold execD at h
  cases hh : headRec body with
  | none =>
    rw [hh] at h
    simp only at h
    rw [T.all_bind] at h
    refine CallsDIn.mono (callsDIn_of_wp (R := fun e w' => ∃ v rc ee a S' r', e = .returned v ∧ Q (rc, ee, a, S') ∧ rc = false ∧ Ext r r' S.next ∧ S.next ≤ S'.next ∧ Rel P prot w0 r' S' w') hfn hbody trivial (wpIn_mono (hex c body hb prot none _ S r _ w _ h hA0 hR) ?_)) ?_
    · rintro e A' w' ⟨exx, a', S', r', q1, q2, q3, q4, q5, q6⟩
      obtain ⟨k1, k2, v, k3⟩ := hQ _ _ _ _ q1
      have good : ActR P r' none a' A' → A'.defers = [] ∧ ∃ v, (results fn A'.tmps).run P w' = .ok v w' ∧ ∃ v2 rc ee a S' r', Ending.returned v = .returned v2 ∧ Q (rc, ee, a, S') ∧ rc = false ∧ Ext r r' S.next ∧ S.next ≤ S'.next ∧ Rel P prot w0 r' S' w' := by
        intro hA'
        obtain ⟨v', g1, g2⟩ := resV_run hrs hA' q6 k3
        have hdf := hA'.df
        rw [k2] at hdf
        exact ⟨hdf.nil_inv, v', g1, v', false, exx, a', S', r', rfl, q1, rfl, q3, q4, q6⟩
      cases q2 with
      | norm => exact good q5
      | ret => exact good q5
      | exit id => rcases k1 with k1 | k1 <;> cases k1
      | panic v v' hv => rcases k1 with k1 | k1 <;> cases k1
    · rintro e u' w' ⟨rfl, v, rc, ee, a, S', r', q1, q2, q3, q4⟩
      subst q3
      exact ⟨v, false, ee, a, S', r', q1, q2, by simp [settle_modeP], q4⟩
  | some x =>
    obtain ⟨d, y⟩ := x
    have hbd := headRec_spec hh
    subst hbd
    rw [hh] at h
    simp only at h
    rw [T.all_bind] at h
    -- the shape of the code
    cases c with
    | seq c1 c2 =>
      simp only [comp] at hb
      cases hc1 : comp P c1 with
      | none => rw [hc1] at hb; cases hb
      | some i1 =>
        cases hc2 : comp P c2 with
        | none => rw [hc1, hc2] at hb; cases hb
        | some i2 =>
          rw [hc1, hc2] at hb
          simp only [Option.some.injEq, C.seq.injEq] at hb
          obtain ⟨rfl, rfl⟩ := hb
          cases c1 with
          | region id ops draw =>
            simp only [comp] at hc1
            cases hm : ops.toList.mapM (comp2 P ops) with
            | none => rw [hm] at hc1; cases hc1
            | some is =>
              rw [hm] at hc1
              cases draw with
              | true =>
                simp only [if_true, Option.map_eq_some_iff] at hc1
                obtain ⟨_, _, e⟩ := hc1
                cases e
              | false =>
                simp only [Bool.false_eq_true, if_false, Option.some.injEq, C.region.injEq] at hc1
                obtain ⟨_, rfl⟩ := hc1
                have hl1 : ops.toList.length = 1 := by
                  match hol : ops.toList with
                  | [] => rw [hol] at hm; simp at hm
                  | [_] => rfl
                  | o1 :: o2 :: l =>
                    rw [hol] at hm
                    obtain ⟨_, _, _, g2, g3⟩ := mapM_cons_some hm
                    obtain ⟨_, _, _, _, g4⟩ := mapM_cons_some g2
                    rw [g4] at g3; cases g3
                obtain ⟨oper, hop⟩ : ∃ oper, ops.toList = [oper] := List.length_eq_one_iff.1 hl1
                rw [hop] at hm
                obtain ⟨i0, is0, m1, m2, m3⟩ := mapM_cons_some hm
                simp only [List.mapM_nil, Option.pure_def, Option.some.injEq] at m2
                subst m2
                simp only [List.cons.injEq, and_true] at m3
                subst m3
                obtain ⟨hdst, hco1, hg, hops⟩ := comp2_spec m1
                simp only at hdst hco1 hg
                obtain ⟨ca, hca, hcb⟩ := comp1_recover hco1
                have hsz : ops.size = 1 := by rw [← Array.length_toList]; exact hl1
                have ho0 : ops[0]? = some oper := by rw [← Array.getElem?_toList, hop]; rfl
                refine callsDIn_of_wpSIn hfn hbody trivial fun c₀ cs hu => wpSIn_seq (wpSIn_region ?_)
                rw [hsz]
                show wpOpsSIn (fw none) 0 P ops _ [0] _ _ _
                simp only [wpOpsSIn, ho0]
                refine ⟨fun _ _ => trivial, ?_⟩
                have hw1 : Region.wanted oper (yielded ops (args'.toArray ++ Array.replicate (fn.ntmps - args'.toArray.size) undef)) = true := by
                  have := wants_eq hg hA0
                  simpa [wants] using this
                rw [if_pos hw1]
                have hrun : ∀ A : Go.Act, (execOp A.eval oper).run P w = .ok .recover w := by
                  intro A
                  obtain ⟨odst, oop, otype, opos, oafter, oguard⟩ := oper
                  simp only at hca
                  subst hca
                  obtain ⟨callee, as, ats⟩ := ca
                  simp only at hcb
                  subst hcb
                  simp [execOp, resolve, invoke, builtin]
                rw [hrun]
                -- what recover gives
                have key : ∀ (u' : FrameMode) (rv : Value), VR P r (p.getD .nilIface) rv → settle u' = modeP (if p.isSome then none else p') →
                    (c2.wpSIn (fw none) 0 P (bodyPostS P fn c₀ cs fun e u' w' => ∃ v rc ee a S' r', e = .returned v ∧ Q (rc, ee, a, S') ∧ settle u' = modeP (if rc then none else p') ∧ Ext r r' S.next ∧ S.next ≤ S'.next ∧ Rel P prot w0 r' S' w'))
                      (({ tmps := args'.toArray ++ Array.replicate (fn.ntmps - args'.toArray.size) undef, defers := [] } : Go.Act).put oper.dst rv) ({ c₀ with mode := u' } :: cs) w := by
                  intro u' rv hrv hse
                  have hA1 : ActR P r none (({ env := args ++ List.replicate (fn.ntmps - args.length) undef, defers := [] } : Act).put d (p.getD .nilIface)) (({ tmps := args'.toArray ++ Array.replicate (fn.ntmps - args'.toArray.size) undef, defers := [] } : Go.Act).put oper.dst rv) := by
                    rw [← hdst]; exact hA0.put d hrv
                  refine wpSIn_of_wpIn rfl (wpIn_mono (hex c2 _ hc2 prot none _ S r _ w _ h hA1 hR) ?_)
                  rintro e A' w' ⟨exx, a', S', r', q1, q2, q3, q4, q5, q6⟩
                  obtain ⟨k1, k2, v, k3⟩ := hQ _ _ _ _ q1
                  have good : ActR P r' none a' A' → A'.defers = [] ∧ ∃ u'', ({ c₀ with mode := u' } : Frame) :: cs = { c₀ with mode := u'' } :: cs ∧ ∃ v, (results fn A'.tmps).run P w' = .ok v w' ∧ ∃ v2 rc ee a S' r', Ending.returned v = .returned v2 ∧ Q (rc, ee, a, S') ∧ settle u'' = modeP (if rc then none else p') ∧ Ext r r' S.next ∧ S.next ≤ S'.next ∧ Rel P prot w0 r' S' w' := by
                    intro hA'
                    obtain ⟨v', g1, g2⟩ := resV_run hrs hA' q6 k3
                    have hdf := hA'.df
                    rw [k2] at hdf
                    exact ⟨hdf.nil_inv, u', rfl, v', g1, v', p.isSome, exx, a', S', r', rfl, q1, hse, q3, q4, q6⟩
                  cases q2 with
                  | norm => exact good q5
                  | ret => exact good q5
                  | exit id => rcases k1 with k1 | k1 <;> cases k1
                  | panic v v' hv => rcases k1 with k1 | k1 <;> cases k1
                cases hp with
                | none =>
                  have hrd : recoverD (c₀ :: cs) = none := by simp [recoverD, hu, modeP]
                  simp only [hrd]
                  have := key c₀.mode .nilIface .nilIface (by rw [hu]; rfl)
                  exact this
                | some v v' hv =>
                  have hrd : recoverD (c₀ :: cs) = some (v', { c₀ with mode := .panicking [{ v := v', recovered := true }] } :: cs) := by simp [recoverD, hu, modeP]
                  simp only [hrd]
                  exact key (.panicking [{ v := v', recovered := true }]) v' hv rfl
          | _ =>
            exfalso
            simp only [comp] at hc1
            first
              | (cases hc1; done)
              | (simp only [Option.map_eq_some_iff] at hc1; obtain ⟨_, _, e⟩ := hc1; cases e; done)
              | (split at hc1 <;> cases hc1; done)
    | _ =>
      exfalso
      simp only [comp] at hb
      first
        | (cases hb; done)
        | (simp only [Option.map_eq_some_iff] at hb; obtain ⟨_, _, e⟩ := hb; cases e; done)
        | (split at hb <;> first | (cases hb; done) | (split at hb <;> first | (cases hb; done) | (simp only [Option.map_eq_some_iff] at hb; obtain ⟨_, _, e⟩ := hb; cases e; done)))

theorem leave_ok {F : Nat → Option IFn} (hF : TableOK P F) {ex : C → Act → AS → R} (hex : ExecOK P w0 ex) {fn : Func} {tmps : Array Value} {Rz : Ending → World → Prop} : ∀ (ds ds' : List Deferred) (p p' : Option Value) (S : AS) (w : World) (r : Rho) (Q : Option Value × AS → Prop), DsR P r ds ds' → Rel P prot w0 r S w → PvR P r p p' → (leaveD F ex ds p S).all Q →
    (∀ p2 p2' S2 r2 w2, Q (p2, S2) → Ext r r2 S.next → S.next ≤ S2.next → PvR P r2 p2 p2' → Rel P prot w0 r2 S2 w2 → match p2' with | none => ∃ v, (results fn tmps).run P w2 = .ok v w2 ∧ Rz (.returned v) w2 | some v => Rz (.panicked [{ v := v, recovered := false }]) w2) →
    LeavesInM (fw none) 0 P fn tmps Rz ds' (modeP p') w := by
  intro ds
  induction ds with
  | nil =>
    intro ds' p p' S w r Q h hR hp hq hk
    have := h.nil_inv; subst this
    have := hk p p' S r w hq (.refl _ _) (Nat.le_refl _) hp hR
    cases p' <;> exact this
  | cons d ds ih =>
    intro ds' p p' S w r Q h hR hp hq hk
    cases h with
    | cons hdf hrest =>
      rename_i d' ds2
      obtain ⟨ht, ha⟩ := hdf
      refine ⟨modeP_ne p', ?_⟩
      unfold leaveD at hq
      split at hq
      · rename_i n htn
        split at hq
        · rename_i hg
          rw [htn] at ht
          unfold TgR at ht
          split at ht
          · cases ‹Target.collected n = _›
          · rename_i n' b e1 e2
            cases e1
            obtain ⟨L, hL, hb0, rfl⟩ := ht
            obtain ⟨obj, hob, hor⟩ := hR.at_ hg (by simp) hL
            cases obj with
            | deferred o =>
              cases o with
              | none => simp [ObjR] at hor
              | some ds'' =>
                obtain ⟨h0, hn⟩ := hor
                have := hn.nil_inv; subst this
                refine .inl ⟨L.b, _, e2, run_takeDeferred hob, ?_⟩
                have hR2 : Rel P prot w0 r (S.put n (.defd none)) (w.upd L.b (.deferred none)) := hR.upd hg rfl hL (by simpa [ObjR] using h0) rfl
                exact ih ds2 p p' _ _ r Q hrest hR2 hp hq (fun p2 p2' S2 r2 w2 g1 g2 g3 => hk p2 p2' S2 r2 w2 g1 (by simpa using g2) (by simpa using g3))
            | _ => simp [ObjR] at hor
          · exact ht.elim
        · exact hq.elim
      · rename_i k cap htk
        split at hq
        · rename_i ifn hifn
          rw [htk] at ht
          unfold TgR at ht
          split at ht
          · rename_i f1 c1 f2 c2 e1 e2
            cases e1
            obtain ⟨rfl, hcap⟩ := ht
            rw [T.all_bind] at hq
            obtain ⟨hen, hcd⟩ := execD_ok hF hex hifn hR (ha.append hcap) hp hq (by
              intro rc e a S' hh
              split at hh
              · rename_i heq
                simp only [Prod.mk.injEq] at heq
                obtain ⟨rfl, rfl, rfl, rfl⟩ := heq
                split at hh
                · rename_i h1 h2
                  exact ⟨.inl rfl, h1, _, h2⟩
                · exact hh.elim
              · rename_i heq
                simp only [Prod.mk.injEq] at heq
                obtain ⟨rfl, rfl, rfl, rfl⟩ := heq
                split at hh
                · rename_i h1 h2
                  exact ⟨.inr rfl, h1, _, h2⟩
                · exact hh.elim
              · exact hh.elim)
            have hinv : (invoke d'.target d'.args).run P w = .ok (.enter k (d'.args.toList ++ c2.toList).toArray) w := by
              rw [e2]
              simp only [invoke]
              have : d'.args ++ c2 = (d'.args.toList ++ c2.toList).toArray := by apply Array.ext'; simp
              rw [this]; exact hen
            refine .inr ⟨fun hd => by simp [fw] at hd, .func k, c2, k, _, e2, hinv, fun _ _ => trivial, ?_⟩
            refine CallsDIn.mono hcd ?_
            rintro e u' w' ⟨v, rc, ee, a, S', r', rfl, g1, g2, g3, g4, g5⟩
            simp only
            rw [g2]
            have hp' : PvR P r' (if rc then none else p) (if rc then none else p') := by
              cases rc with
              | true => exact .none
              | false => exact hp.mono g3.1
            have hrest' := DsR.mono g3.1 hrest
            split at g1
            · rename_i heq
              simp only [Prod.mk.injEq] at heq
              obtain ⟨rfl, rfl, rfl, rfl⟩ := heq
              split at g1
              · exact ih ds2 _ _ _ _ r' Q hrest' g5 hp' g1 (fun p2 p2' S2 r2 w2 k1 k2 k3 k4 k5 => hk p2 p2' S2 r2 w2 k1 (g3.trans k2 g4) (by omega) k4 k5)
              · exact g1.elim
            · rename_i heq
              simp only [Prod.mk.injEq] at heq
              obtain ⟨rfl, rfl, rfl, rfl⟩ := heq
              split at g1
              · exact ih ds2 _ _ _ _ r' Q hrest' g5 hp' g1 (fun p2 p2' S2 r2 w2 k1 k2 k3 k4 k5 => hk p2 p2' S2 r2 w2 k1 (g3.trans k2 g4) (by omega) k4 k5)
              · exact g1.elim
            · exact g1.elim
          · cases ‹Target.fn (.func k) cap = _›
          · exact ht.elim
        · exact hq.elim
      · exact hq.elim

theorem setParams_LR {r : Rho} : ∀ (ps : List Nat) (args args' env env' : List Value), LR P r args args' → LR P r env env' →
    LR P r (setParams ps args env) ((ps.zip args').foldl (fun e x => e.set x.1 x.2) env')
  | [], args, args', env, env', _, h => by simpa [setParams] using h
  | p :: ps, [], args', env, env', ha, h => by
    have := ha.nil_inv; subst this
    simpa [setParams] using h
  | p :: ps, v :: vs, args', env, env', ha, h => by
    obtain ⟨v', vs', rfl, h1, h2⟩ := ha.cons_inv
    simp only [setParams, List.zip_cons_cons, List.foldl_cons]
    exact setParams_LR ps vs vs' _ _ h2 (h.set p h1)

theorem fold_toList (l : List (Nat × Value)) : ∀ (t : Array Value), (l.foldl (fun (e : Array Value) x => e.setIfInBounds x.1 x.2) t).toList = l.foldl (fun e x => e.set x.1 x.2) t.toList := by
  induction l with
  | nil => intro t; rfl
  | cons x l ih => intro t; simp only [List.foldl_cons]; rw [ih]; simp

theorem callFn_ok (hF : TableOK P F) {LW : World → Prop} (hL0 : LW w0) (hE : ExtOK P LW ext) {ex : C → Act → AS → R} (hex : ExecOK P w0 ex) : CallOK P w0 (callAny F ext ex) := by
  constructor
  · intro prot k args args' S w r Q hR hl h
    have enter : ∀ fn, P.funcs[k]? = some fn → fn.body.isSome = true → (fn.name == "runtime.NumGoroutine") = false → (callFunc k args'.toArray).run P w = .ok (.enter k args'.toArray) w := by
      intro fn h1 h2 h3
      obtain ⟨c, hc⟩ := Option.isSome_iff_exists.1 h2
      have h3' : ¬ fn.name = "runtime.NumGoroutine" := by simpa using h3
      simp [callFunc, h1, hc, h3']
    unfold callAny callFn at h
    simp only at h
    split at h
    · rename_i v hv
      obtain ⟨⟨fn, h3, h4, h5⟩, h6⟩ := hE k args S v hv
      refine ⟨enter fn h3 h4 h5, ?_⟩
      refine (h6 prot w0 r w args' hL0 hR hl).mono ?_
      rintro e w' ⟨r', v', rfl, k1, k2, k3, k4⟩
      exact ⟨_, v.2, r', h, .ret _ _ k1, k2, k3, k4⟩
    · split at h
      · exact h.elim
      · rename_i ifn hifn
        obtain ⟨fn, hfn, hcf⟩ := hF k ifn hifn
        unfold compF at hcf
        split at hcf
        · rename_i c hbody
          split at hcf
          · cases hcf
          · rename_i hname
            split at hcf
            · rename_i body rs hb hrs
              cases hcf
              refine ⟨enter fn hfn (by rw [hbody]; rfl) (by simpa using hname), ?_⟩
              rw [T.all_bind] at h
              have hA : ActR P r none { env := args ++ List.replicate (fn.ntmps - args.length) undef, defers := [] } { tmps := args'.toArray ++ Array.replicate (fn.ntmps - args'.toArray.size) undef, defers := [] } := by
                refine ⟨?_, .nil, rfl⟩
                simp only [Array.toList_append, Array.toList_replicate, List.size_toArray]
                rw [← hl.1]
                exact hl.append (LR.replicate _ VR.undef)
              refine fw_calls.1 (callsIn_of_wp_marks (F := fw none) (n := 0) hfn hbody trivial (wpIn_mono (hex c body hb prot none _ S r _ w _ h hA hR) ?_))
              rintro e A' w' ⟨exx, a', S', r', q1, q2, q3, q4, q5, q6⟩
              have norm : (∀ v, exx ≠ .panic v) → (match drain a'.defers S' with
                    | some S2 => match resV rs a'.env S2 with
                      | some v => (T.ret (En.ret v, S2) : T (En × AS))
                      | none => .fail
                    | none => (leaveD F ex a'.defers none S').bind fun
                      | (none, S2) => match resV rs a'.env S2 with
                        | some v => .ret (.ret v, S2)
                        | none => .fail
                      | (some _, _) => .fail).all Q → ActR P r' none a' A' →
                  LeavesInM (fw none) 0 P fn A'.tmps (fun e w' => ∃ en S'' r'', Q (en, S'') ∧ EnR P r'' en e ∧ Ext r r'' S.next ∧ S.next ≤ S''.next ∧ Rel P prot w0 r'' S'' w') A'.defers .returning w' := by
                intro _ hq hA'
                split at hq
                · rename_i S2 hS2
                  split at hq
                  · rename_i v hv
                    refine drain_ok a'.defers A'.defers S' S2 w' hA'.df q6 hS2 ?_
                    intro w2 hnx hR2
                    obtain ⟨v', k1, k2⟩ := resV_run hrs hA' hR2 hv
                    exact ⟨v', k1, _, S2, r', hq, .ret _ _ k2, q3, by omega, hR2⟩
                  · exact hq.elim
                · rw [T.all_bind] at hq
                  refine leave_ok hF hex a'.defers A'.defers none none S' w' r' _ hA'.df q6 .none hq ?_
                  intro p2 p2' S2 r2 w2 k1 k2 k3 k4 k5
                  cases k4 with
                  | none =>
                    simp only at k1 ⊢
                    split at k1
                    · rename_i v hv
                      obtain ⟨v', g1, g2⟩ := resV_run hrs (hA'.mono k2.1) k5 hv
                      exact ⟨v', g1, _, S2, r2, k1, .ret _ _ g2, q3.trans k2 q4, by omega, k5⟩
                    · exact k1.elim
                  | some v v' hv => exact k1.elim
              cases q2 with
              | norm => exact norm (by simp) q1 q5
              | ret => exact norm (by simp) q1 q5
              | exit id => exact q1.elim
              | panic v v' hv =>
                show LeavesInM (fw none) 0 P fn A'.tmps _ A'.defers (.panicking _) w'
                simp only at q1 q5
                split at q1
                · rename_i hds
                  have hdf := q5.df
                  rw [hds] at hdf
                  rw [hdf.nil_inv]
                  exact ⟨_, S', r', q1, .panic _ _ hv, q3, q4, q6⟩
                · rename_i d0 ds0 hds
                  rw [T.all_bind] at q1
                  have hdf := q5.df
                  rw [hds] at hdf
                  refine leave_ok hF hex (d0 :: ds0) A'.defers (some v) (some v') S' w' r' _ hdf q6 (.some _ _ hv) q1 ?_
                  intro p2 p2' S2 r2 w2 k1 k2 k3 k4 k5
                  cases k4 with
                  | none =>
                    simp only at k1 ⊢
                    split at k1
                    · rename_i hco
                      split at k1
                      · rename_i u hu
                        obtain ⟨v2, g1, g2⟩ := resV_pan hrs hco (q5.mono k2.1) k5 hu
                        exact ⟨v2, g1, _, S2, r2, k1, .ret _ _ g2, q3.trans k2 q4, by omega, k5⟩
                      · exact k1.elim
                    · exact k1.elim
                  | some u u' hu => exact ⟨_, S2, r2, k1, .panic _ _ hu, q3.trans k2 q4, by omega, k5⟩
            · cases hcf
        · cases hcf
  · intro prot l L args args' S w r Q hR hl hL h
    unfold callAny callRound at h
    simp only at h
    split at h
    · rename_i pend env ps asg body dblk hg
      split at h
      · rename_i hlen
        obtain ⟨obj, hob, hor⟩ := hR.at_ hg (by simp) hL
        cases obj with
        | loop lp =>
          obtain ⟨g1, g2, g3, g4, g5, g6, g7, g8⟩ := hor
          refine ⟨lp.fn, _, lp.assign, lp.body, run_yield hob (by rw [List.size_toArray, ← hl.1, hlen, ← g5]; simp), ?_⟩
          rw [T.all_bind] at h
          refine roundIn_of_wpIn (F := fw none) (n := 0) trivial ?_
          show lp.assign.wpIn (fw (some L.b)) 0 P _ _ w
          have hA : ActR P r (some L.b) { env := setParams ps args env, defers := [], rnd := some l }
              { tmps := (lp.params.zip args'.toArray).foldl (fun tmps (t, a) => tmps.setIfInBounds t a) lp.tmps, defers := [] } := by
            refine ⟨?_, .nil, rfl⟩
            have := setParams_LR ps args args' env lp.tmps.toList hl g4
            rw [← g5] at this ⊢
            rw [← fold_toList] at this
            have e : ((lp.params.zip args'.toArray).foldl (fun tmps (t, a) => tmps.setIfInBounds t a) lp.tmps) = ((lp.params.toList.zip args').foldl (fun (e : Array Value) x => e.setIfInBounds x.1 x.2) lp.tmps) := by
              rw [← Array.foldl_toList, Array.toList_zip]
            rw [e]
            exact this
          refine wpIn_mono (hex lp.assign asg g6 prot (some L.b) _ S r _ w _ h hA hR) ?_
          rintro e A1 w1 ⟨exx, a1, S1, r1, q1, q2, q3, q4, q5, q6⟩
          cases q2 with
          | norm =>
            simp only at q1
            split at q1
            · rename_i pend1 env1 ps1 asg1 body1 dblk1 hg1
              have hL1 := q3.1 _ _ hL
              obtain ⟨obj1, hob1, hor1⟩ := q6.at_ hg1 (by simp) hL1
              cases obj1 with
              | loop lp1 =>
                have hst1 : lp1.state = .ready := hor1.2.1
                refine ⟨_, run_beginRound hob1 hst1, ?_⟩
                have hor1' : ObjR P r1 L (.loop .busy pend1 env1 ps1 asg1 body1 dblk1) (.loop { lp1 with state := .busy }) := by
                  obtain ⟨k1, k2, k3⟩ := hor1
                  exact ⟨k1, rfl, k3⟩
                have hR1 : Rel P prot w0 r1 (S1.put l (.loop .busy pend1 env1 ps1 asg1 body1 dblk1)) (w1.upd L.b (.loop { lp1 with state := .busy })) := q6.upd hg1 rfl hL1 hor1' rfl
                rw [T.all_bind] at q1
                show lp.body.wpIn (fw (some L.b)) 0 P _ _ _
                refine wpIn_mono (hex lp.body body g7 prot (some L.b) _ _ r1 _ _ _ q1 q5 hR1) ?_
                rintro e A2 w2 ⟨exx2, a2, S2, r2, p1, p2, p3, p4, p5, p6⟩
                simp only at p1
                split at p1
                · rename_i st2 pend2 env2 ps2 asg2 body2 dblk2 hg2
                  have hL2 := p3.1 _ _ hL1
                  obtain ⟨obj2, hob2, hor2⟩ := p6.at_ hg2 (by simp) hL2
                  have hext : Ext r r2 S.next := q3.trans p3 (by simpa using q4)
                  have hnx : S.next ≤ S2.next := by have : (S1.put l (.loop .busy pend1 env1 ps1 asg1 body1 dblk1)).next = S1.next := rfl
                                                    omega
                  cases obj2 with
                  | loop lp2 =>
                    obtain ⟨k1, k2, k3, k4⟩ := hor2
                    cases p2 with
                    | norm => exact ⟨_, _, run_endRound none hob2, _, _, r2, p1, .ret _ _ (.bool true), hext, hnx, p6.upd hg2 rfl hL2 ⟨k1, rfl, trivial, k4⟩ rfl⟩
                    | exit id => exact ⟨_, _, run_endRound (some (.exit id)) hob2, _, _, r2, p1, .ret _ _ (.bool false), hext, hnx, p6.upd hg2 rfl hL2 ⟨k1, rfl, rfl, k4⟩ rfl⟩
                    | ret => exact ⟨_, _, run_endRound (some .ret) hob2, _, _, r2, p1, .ret _ _ (.bool false), hext, hnx, p6.upd hg2 rfl hL2 ⟨k1, rfl, trivial, k4⟩ rfl⟩
                    | panic v v' hv => exact p1.elim
                  | _ => simp [ObjR] at hor2
                · exact p1.elim
              | _ => simp [ObjR] at hor1
            · exact q1.elim
          | exit id => exact q1.elim
          | ret => exact q1.elim
          | panic v v' hv => exact q1.elim
        | _ => simp [ObjR] at hor
      · exact h.elim
    · exact h.elim

/-- a loop, from the head of a round on -/
def LoopWP (P : Program) (ro : Option Nat) (x : Code) (R : Exit → Go.Act → World → Prop) (A : Go.Act) (w : World) : Prop :=
  ∀ (b : Frame) (k : List Item) (cs : List Frame), b.roundOf = ro → ∃ e a' w', R e a' w' ∧ ArrivesIn (Machine.fenced P (fw ro)) P (lone (b.atR A (.code x :: .inLoop x :: k)) cs w) b k cs e a' w'

/-- what a call of a function does, for a range over it -/
theorem range_call {r : Rho} {f f' : Value} {args : List Value} {args' : Array Value} {k : Nat} {as : List Value} (hc : calleeOf f args = some (.fn k as)) (hf : VR P r f f') (ha : LR P r args args'.toList) :
    ∃ as' d, LR P r as as' ∧ (∀ w, (Deferred.ofValue f' args').run P w = .ok d w) ∧ ∀ w, (invoke d.target d.args).run P w = (callFunc k as'.toArray).run P w := by
  unfold calleeOf at hc
  split at hc
  · rename_i k' first captured
    cases hc
    obtain ⟨first', cap', e, h1, h2⟩ := hf.func_inv
    refine ⟨first'.toList ++ args'.toList ++ cap'.toList, _, (h1.append ha).append h2, fun w => by rw [e]; simp only [Deferred.ofValue, Sem.run_pure]; rfl, fun w => ?_⟩
    simp only [invoke]
    have : first' ++ args' ++ cap' = (first'.toList ++ args'.toList ++ cap'.toList).toArray := by
      apply Array.ext'; simp
    rw [this]
  · cases hc
  · cases hc

theorem exec_wp2 (hF : TableOK P F) {LW : World → Prop} (hL0 : LW w0) (hE : ExtOK P LW ext) (hD : DrawOK P w0) : ∀ (n : Nat),
    ExecOK P w0 (exec F ext n) ∧
    (∀ (x : Code) (ix : C), comp P x = some ix → ∀ (prot : Nat → Option Obj) (ro : Option Nat) (a : Act) (S : AS) (r : Rho) (A : Go.Act) (w : World) (Q : Ex × Act × AS → Prop),
      (exec F ext n (.loop ix) a S).all Q → ActR P r ro a A → Rel P prot w0 r S w → LoopWP P ro x (QC P prot w0 ro r S.next Q) A w) := by
  intro n
  induction n with
  | zero => exact ⟨fun c ic hc prot ro a S r A w Q h => h.elim, fun c ic hc prot ro a S r A w Q h => h.elim⟩
  | succ n ih2 =>
    obtain ⟨ih, ihl⟩ := ih2
    have hloop : ∀ (x : Code) (ix : C), comp P x = some ix → ∀ (prot : Nat → Option Obj) (ro : Option Nat) (a : Act) (S : AS) (r : Rho) (A : Go.Act) (w : World) (Q : Ex × Act × AS → Prop),
        (exec F ext (n + 1) (.loop ix) a S).all Q → ActR P r ro a A → Rel P prot w0 r S w → LoopWP P ro x (QC P prot w0 ro r S.next Q) A w := by
      intro x ix hx prot ro a S r A w Q h hA hR b k cs hro
      simp only [exec] at h
      rw [T.all_bind] at h
      obtain ⟨e, A1, w1, hq, harr⟩ := ih x ix hx prot ro a S r A w _ h hA hR b (.inLoop x :: k) cs hro trivial (fw_room _ _)
      obtain ⟨ex, a1, S1, r1, q1, q2, q3, q4, q5, q6⟩ := hq
      have pass : ∀ {e : Exit}, e ≠ .normal → ArrivesIn (Machine.fenced P (fw ro)) P (lone (b.atR A (.code x :: .inLoop x :: k)) cs w) b (.inLoop x :: k) cs e A1 w1 → QC P prot w0 ro r S.next Q e A1 w1 →
          ∃ e a' w', QC P prot w0 ro r S.next Q e a' w' ∧ ArrivesIn (Machine.fenced P (fw ro)) P (lone (b.atR A (.code x :: .inLoop x :: k)) cs w) b k cs e a' w' := fun hne harr hq =>
        ⟨_, A1, w1, hq, .pass (x := .inLoop x) rfl (fun _ _ => .inl hne) harr⟩
      cases q2 with
      | norm =>
        obtain ⟨e2, A2, w2, hq2, harr2⟩ := ihl x ix hx prot ro a1 S1 r1 A1 w1 Q q1 q5 q6 b k cs hro
        exact ⟨e2, A2, w2, hq2.mono q3 q4, .of_steps (StepsIn.trans harr (.one (fw_fenced _ _ _) stepR_inLoop)) harr2⟩
      | exit id => exact pass (by simp) harr ⟨_, a1, S1, r1, q1, .exit id, q3, q4, q5, q6⟩
      | ret => exact pass (by simp) harr ⟨_, a1, S1, r1, q1, .ret, q3, q4, q5, q6⟩
      | panic v v' hv => exact pass (by simp) harr ⟨_, a1, S1, r1, q1, .panic _ _ hv, q3, q4, q5, q6⟩
    refine ⟨?_, hloop⟩
    intro c ic hc prot ro a S r A w Q h hA hR
    have hcall := callFn_ok (ext := ext) hF hL0 hE (w0 := w0) (ex := exec F ext n) ih
    cases c with
    | skip =>
      simp only [comp, Option.some.injEq] at hc; subst hc
      exact wpIn_skip ⟨.norm, a, S, r, h, .norm, Ext.refl _ _, Nat.le_refl _, hA, hR⟩
    | ret =>
      simp only [comp, Option.some.injEq] at hc; subst hc
      exact wpIn_ret ⟨.ret, a, S, r, h, .ret, Ext.refl _ _, Nat.le_refl _, hA, hR⟩
    | exit id =>
      simp only [comp, Option.some.injEq] at hc; subst hc
      exact wpIn_exit ⟨.exit id, a, S, r, h, .exit id, Ext.refl _ _, Nat.le_refl _, hA, hR⟩
    | region id opers draw =>
      simp only [comp] at hc
      split at hc
      · rename_i is his
        cases draw with
        | false =>
          simp only [Bool.false_eq_true, if_false, Option.some.injEq] at hc; subst hc
          refine wpIn_region ?_
          have := ops_wp (prot := prot) (ro := ro) hcall opers r S.next Q opers.toList is 0 S.next a (S.bump (nTakes is)) r A w (by simp) his h hA (hR.bump _) (Ext.refl _ _) (Nat.le_refl _)
            (fun m hm _ => hR.fresh m hm) (Nat.le_refl _)
          rw [List.range_eq_range']
          simpa using this
        | true =>
          simp only [if_true] at hc
          cases hd : drawOf opers is with
          | none => rw [hd] at hc; cases hc
          | some ds =>
            rw [hd] at hc; cases hc
            exact hD hcall prot ro id opers is ds a S r A w Q his hd h hA hR
      · cases hc
    | seq x y =>
      simp only [comp] at hc
      split at hc
      · rename_i ix iy hx hy
        cases hc
        simp only [exec] at h
        rw [T.all_bind] at h
        refine wpIn_seq (wpIn_mono (ih x ix hx prot ro a S r A w _ h hA hR) ?_)
        rintro e A1 w1 ⟨ex, a1, S1, r1, q1, q2, q3, q4, q5, q6⟩
        cases q2 with
        | norm =>
          exact wpIn_mono (ih y iy hy prot ro a1 S1 r1 A1 w1 Q q1 q5 q6) fun e A w hq => hq.mono q3 q4
        | exit id => exact ⟨_, a1, S1, r1, q1, .exit id, q3, q4, q5, q6⟩
        | ret => exact ⟨_, a1, S1, r1, q1, .ret, q3, q4, q5, q6⟩
        | panic v v' hv => exact ⟨_, a1, S1, r1, q1, .panic _ _ hv, q3, q4, q5, q6⟩
      · cases hc
    | cond cd x y =>
      simp only [comp] at hc
      split at hc
      · rename_i ix iy hok hx hy
        cases hc
        simp only [exec] at h
        split at h
        · rename_i b hb
          have hv := hA.ev cd hok
          rw [hb] at hv
          refine wpIn_cond hv.bool_inv ?_
          cases b
          · exact ih y iy hy prot ro a S r A w Q h hA hR
          · exact ih x ix hx prot ro a S r A w Q h hA hR
        · exact h.elim
      · cases hc
    | block id x =>
      simp only [comp] at hc
      cases hx : comp P x with
      | none => rw [hx] at hc; cases hc
      | some ix =>
        rw [hx] at hc; cases hc
        simp only [exec] at h
        rw [T.all_bind] at h
        refine wpIn_block (wpIn_mono (ih x ix hx prot ro a S r A w _ h hA hR) ?_)
        rintro e A1 w1 ⟨ex, a1, S1, r1, q1, q2, q3, q4, q5, q6⟩
        cases q2 with
        | norm => exact ⟨_, a1, S1, r1, q1, .norm, q3, q4, q5, q6⟩
        | exit id' =>
          simp only [Exit.inBlock]
          simp only [T.all_ret] at q1
          by_cases hid : id' = id
          · rw [if_pos hid]
            rw [if_pos hid] at q1
            exact ⟨_, a1, S1, r1, q1, .norm, q3, q4, q5, q6⟩
          · rw [if_neg hid]
            rw [if_neg hid] at q1
            exact ⟨_, a1, S1, r1, q1, .exit id', q3, q4, q5, q6⟩
        | ret => exact ⟨_, a1, S1, r1, q1, .ret, q3, q4, q5, q6⟩
        | panic v v' hv => exact ⟨_, a1, S1, r1, q1, .panic _ _ hv, q3, q4, q5, q6⟩
    | loop x =>
      simp only [comp] at hc
      cases hx : comp P x with
      | none => rw [hx] at hc; cases hc
      | some ix =>
        rw [hx] at hc; cases hc
        intro b k cs hro _ _
        obtain ⟨e2, A2, w2, hq2, harr2⟩ := hloop x ix hx prot ro a S r A w Q h hA hR b k cs hro
        exact ⟨e2, A2, w2, hq2, .of_steps (.one (fw_fenced _ _ _) stepR_loop) harr2⟩
    | rangeFunc f ps x y =>
      simp only [comp] at hc
      split at hc
      · rename_i ix iy hok hx hy
        cases hc
        simp only [exec] at h
        split at h
        · exact h.elim
        · rename_i hrn
          have hro : ro = none := by
            have := hA.rn
            rw [hrn] at this
            cases ro <;> simp_all
          subst hro
          split at h
          · rename_i k as hcal
            rw [T.all_bind] at h
            refine wpIn_rangeFunc fun fn _ => ?_
            have henter := run_enterLoop_outer (P := P) (w := w) fn A.tmps ps x y
            have hd0 : r S.next = none := hR.fresh _ (Nat.le_refl _)
            have hl0 : r (S.next + 1) = none := hR.fresh _ (Nat.le_succ _)
            have hR0 := hR.bump 2
            have hR1 := hR0.new (n := S.next) (o := .defd (some [])) (obj := .deferred (some [])) (L := ⟨w.heap.size, 0, 0, 0, 0⟩) hd0 (by simp) rfl ⟨rfl, .nil⟩
            have hle1 := Rho.le_add (r := r) (n := S.next) ⟨w.heap.size, 0, 0, 0, 0⟩ hd0
            have hl1 : (r.add S.next ⟨w.heap.size, 0, 0, 0, 0⟩) (S.next + 1) = none := by rw [Rho.add_ne _ _ (by omega)]; exact hl0
            have hle2 := Rho.le_add (r := r.add S.next ⟨w.heap.size, 0, 0, 0, 0⟩) (n := S.next + 1) ⟨w.heap.size + 1, 0, 0, 0, 0⟩ hl1
            have hR2 := hR1.new (n := S.next + 1) (o := .loop .ready none a.env ps.toList ix iy S.next) (obj := .loop { state := .ready, pending := none, fn, tmps := A.tmps, params := ps, assign := x, body := y, defers := w.heap.size })
              (L := ⟨w.heap.size + 1, 0, 0, 0, 0⟩) hl1 (by simp) (by simp [World.size_alloc])
              ⟨rfl, rfl, trivial, (hA.env.mono hle1).mono hle2, rfl, hx, hy, _, hle2 _ _ (Rho.add_self _ _ _), rfl, rfl⟩
            obtain ⟨as', d, k1, k2, k3⟩ := range_call hcal (((hA.ev f hok).mono hle1).mono hle2)
              (LR.cons (VR.yield (S.next + 1) _ (Rho.add_self _ _ _) rfl) .nil : LR P _ [.func (.yield (S.next + 1)) #[] #[]] (#[Value.func (.yield (w.heap.size + 1)) #[] #[]]).toList)
            obtain ⟨c1, c2⟩ := hcall.fn prot k as as' _ _ _ _ hR2 k1 h
            refine ⟨_, _, _, d, _, k, as'.toArray, _, henter, ?_, fun _ _ => trivial, (k3 _).trans c1, fun hd => by simp [fw] at hd, fw_calls.2 (Calls.mono c2 ?_)⟩
            · have : (resolve A.eval (rangeCall f (w.heap.size + 1)) 0) = Deferred.ofValue (A.eval f) #[Value.func (.yield (w.heap.size + 1)) #[] #[]] := by
                simp [resolve, rangeCall, Go.Act.eval]
              rw [this]; exact k2 _
            · rintro e w1 ⟨en, S1, r1, q1, q2, q3, q4, q5⟩
              have hdl : r1 S.next = some ⟨w.heap.size, 0, 0, 0, 0⟩ := q3.1 _ _ (hle2 _ _ (Rho.add_self _ _ _))
              have hll : r1 (S.next + 1) = some ⟨w.heap.size + 1, 0, 0, 0, 0⟩ := q3.1 _ _ (Rho.add_self _ _ _)
              have hler : r.le r1 := (hle1.trans hle2).trans q3.1
              have hext : Ext r r1 S.next := by
                refine ⟨hler, fun m hm e => q3.2 m (by simp; omega) ?_⟩
                rw [Rho.add_ne _ _ (by omega), Rho.add_ne _ _ (by omega)]; exact e
              have hnx : S.next ≤ S1.next := by
                have : ((((S.bump 2).put S.next (.defd (some []))).put (S.next + 1) (.loop .ready none a.env ps.toList ix iy S.next))).next = S.next + 2 := rfl
                omega
              have hdf : DsR P r1 ({ target := .collected S.next, args := #[] } :: a.defers) ([{ target := .collected w.heap.size, args := #[] }] ++ A.defers) :=
                .cons ⟨⟨_, hdl, rfl, rfl⟩, .nil⟩ (DsR.mono hler hA.df)
              have hA1 : ActR P r1 none { a with defers := { target := .collected S.next, args := #[] } :: a.defers } { A with defers := [{ target := .collected w.heap.size, args := #[] }] ++ A.defers } :=
                ⟨hA.env.mono hler, hdf, hA.rn⟩
              cases q2 with
              | ret v v' hv =>
                simp only at q1
                split at q1
                · rename_i st pend env2 ps2 asg2 body2 dblk2 hg2
                  split at q1
                  · exact q1.elim
                  · rename_i hst
                    obtain ⟨obj2, hob2, hor2⟩ := q5.at_ hg2 (by simp) hll
                    cases obj2 with
                    | loop lp2 =>
                      obtain ⟨g1, g2, g3, g4⟩ := hor2
                      have hR3 := q5.upd (o' := .loop .exhausted pend env2 ps2 asg2 body2 dblk2) (obj' := .loop { lp2 with state := .exhausted }) hg2 rfl hll ⟨g1, rfl, g3, g4⟩ rfl
                      refine ⟨lp2.pending, _, run_endLoop hob2 (by rw [g2]; exact hst), ?_⟩
                      revert g3
                      intro g3
                      split at q1
                      · cases hp : lp2.pending with
                        | none => rw [hp] at hR3; exact ⟨.norm, _, _, r1, q1, .norm, hext, hnx, hA1, hR3⟩
                        | some c => rw [hp] at g3; simp [JpR] at g3
                      · rename_i id
                        cases hp : lp2.pending with
                        | none => rw [hp] at g3; simp [JpR] at g3
                        | some c =>
                          rw [hp] at g3
                          cases c <;> simp [JpR] at g3
                          subst g3
                          rw [hp] at hR3
                          exact wpIn_exit ⟨.exit id, _, _, r1, q1, .exit id, hext, hnx, hA1, hR3⟩
                      · cases hp : lp2.pending with
                        | none => rw [hp] at g3; simp [JpR] at g3
                        | some c =>
                          rw [hp] at g3
                          cases c <;> simp [JpR] at g3
                          rw [hp] at hR3
                          exact wpIn_ret ⟨.ret, _, _, r1, q1, .ret, hext, hnx, hA1, hR3⟩
                    | _ => simp [ObjR] at hor2
                · exact q1.elim
              | panic v v' hv => exact ⟨.panic v, _, S1, r1, q1, .panic _ _ hv, hext, hnx, hA1.pan, q5⟩
          · exact h.elim
      · cases hc
    | scope x => cases hc
    | label l => cases hc
    | goto l => cases hc
    | refuse s => cases hc
end
end Go.Gx

/-
  Regions that draw their order: what an operation looks at; the order's words.
-/
namespace Go.Gx

/-! ## an operation depends on what it looks at -/
section
variable {ev ev2 : Operand → Value} {fr : Nat} {S : AS}

theorem map_congr' {l : List Operand} (h : ∀ x ∈ l, ev x = ev2 x) : l.map ev = l.map ev2 := List.map_congr_left h

theorem partsOf_congr : ∀ {l : List (Nat × Nat × Operand)}, (∀ x ∈ l.map (·.2.2), ev x = ev2 x) → partsOf ev l = partsOf ev2 l
  | [], _ => rfl
  | (off, n, x) :: rest, h => by
    simp only [partsOf]
    rw [h x (by simp), partsOf_congr (l := rest) (fun y hy => h y (by simp at hy ⊢; exact .inr hy))]

theorem opt_congr {o : Option Operand} (h : ∀ x ∈ o.toList, ev x = ev2 x) : o.map ev = o.map ev2 := by
  cases o with
  | none => rfl
  | some x => simp [h x (by simp)]

theorem newV_congr {i : I} (h : ∀ x ∈ i.opds, ev x = ev2 x) : i.newV ev fr = i.newV ev2 fr := by
  cases i <;> simp only [I.opds] at h <;> simp only [I.newV]
  case s2b e x => rw [h x (by simp)]
  case box e x => rw [h x (by simp)]
  case bslice e n cs len ps => rw [partsOf_congr h]
  case mksl e n b z l c => rw [h l (by simp), h c (by simp)]

theorem eval_congr {i : I} (h : ∀ x ∈ i.opds, ev x = ev2 x) : i.eval ev fr S = i.eval ev2 fr S := by
  have hn := newV_congr (fr := fr) h
  cases i <;> simp only [I.opds] at h <;> simp only [I.eval, hn]
  case build z ps => rw [partsOf_congr h]
  case mkfn fn xs ys => rw [map_congr' (l := xs) fun x hx => h x (by simp [hx]), map_congr' (l := ys) fun x hx => h x (by simp [hx])]
  case maxb xs => rw [map_congr' h]
  case minb xs => rw [map_congr' h]
  case aslc len esz x lo hi mx =>
    rw [h x (by simp), opt_congr (o := lo) fun y hy => h y (by simp [hy]), opt_congr (o := hi) fun y hy => h y (by simp [hy]), opt_congr (o := mx) fun y hy => h y (by simp [hy])]
  case slc e esz x lo hi mx =>
    rw [h x (by simp), opt_congr (o := lo) fun y hy => h y (by simp [hy]), opt_congr (o := hi) fun y hy => h y (by simp [hy]), opt_congr (o := mx) fun y hy => h y (by simp [hy])]
  case sslc x lo hi =>
    rw [h x (by simp), opt_congr (o := lo) fun y hy => h y (by simp [hy]), opt_congr (o := hi) fun y hy => h y (by simp [hy])]
  case idxA arr esz x i => cases arr <;> simp only [I.eval] <;> rw [h x (by simp), h i (by simp)]
  all_goals first
    | rfl
    | (rename_i x; rw [h x (by simp)]; done)
    | (rename_i x y; rw [h x (by simp), h y (by simp)]; done)
    | (rename_i x y z; rw [h x (by simp), h y (by simp), h z (by simp)]; done)
    | (simp only [List.forall_mem_cons] at h; simp only [h]; done)

theorem stepO_congr {call : Callee → AS → T (En × AS)} {o : O} {a b : Act} {Q : Ex × Act × AS → Prop} (hnd : isDfr o.i = false) (hev : ∀ x ∈ o.i.opds, a.ev x = b.ev x) (h : (stepO call o fr a S).all Q) :
    (stepO call o fr b S).all fun x => (x.1 = .norm ∧ ∃ v, x.2.1 = b.put o.dst v ∧ Q (.norm, a.put o.dst v, x.2.2)) ∨ (∃ p, x.1 = .panic p ∧ Q (.panic p, a, x.2.2)) := by
  unfold stepO at h ⊢
  split at h
  · rename_i f args hi
    rw [hi] at hev
    simp only [I.opds] at hev
    rw [← hev f (by simp), ← map_congr' (l := args) fun x hx => hev x (by simp [hx])]
    split at h
    · rename_i c hc
      rw [T.all_bind] at h ⊢
      refine T.all_mono ?_ h
      rintro ⟨e, S1⟩ hq
      cases e with
      | ret v => exact .inl ⟨rfl, v, rfl, hq⟩
      | panic v => exact .inr ⟨v, rfl, hq⟩
    · exact h.elim
  · rename_i f args hi
    rw [hi] at hnd; cases hnd
  · rename_i x hi
    rw [hi] at hev
    simp only [I.opds] at hev
    rw [← hev x (by simp)]
    split at h
    · rename_i t v hx
      exact .inr ⟨_, rfl, h⟩
    · exact h.elim
  · exact h.elim
  · rename_i i h1 h2 h3 h4
    rw [T.all_bind] at h ⊢
    rw [← eval_congr hev]
    refine T.all_mono ?_ h
    rintro ⟨v, S1⟩ hq
    exact .inl ⟨rfl, v, rfl, hq⟩
end

/-! ## acts, written one after another -/
def putAll (a : Act) : List (DO × Value) → Act
  | [] => a
  | (d, v) :: l => putAll (a.put d.o.dst v) l

theorem putAll_append (a : Act) (l m : List (DO × Value)) : putAll a (l ++ m) = putAll (putAll a l) m := by
  induction l generalizing a with
  | nil => rfl
  | cons e l ih => obtain ⟨d, v⟩ := e; exact ih _

theorem putAll_snoc (a : Act) (l : List (DO × Value)) (d : DO) (v : Value) : putAll a (l ++ [(d, v)]) = (putAll a l).put d.o.dst v := putAll_append a l _

theorem put_slot_ne {a : Act} {d : Option Nat} {v : Value} {t : Nat} (h : d ≠ some t) : (a.put d v).env.getD t undef = a.env.getD t undef := by
  cases d with
  | none => rfl
  | some d =>
    have : d ≠ t := fun e => h (by rw [e])
    simp [Act.put, List.getD_eq_getElem?_getD, List.getElem?_set_ne this]

theorem put_slot_congr {a b : Act} {d : Option Nat} {v : Value} {t : Nat} (hl : a.env.length = b.env.length) (h : a.env.getD t undef = b.env.getD t undef) : (a.put d v).env.getD t undef = (b.put d v).env.getD t undef := by
  cases d with
  | none => exact h
  | some d =>
    by_cases e : d = t
    · subst e
      simp only [Act.put, List.getD_eq_getElem?_getD, List.getElem?_set_self']
      by_cases hd : d < a.env.length
      · have hd' : d < b.env.length := hl ▸ hd
        simp [hd, hd']
      · have hd' : ¬ d < b.env.length := hl ▸ hd
        simp [hd, hd']
    · rw [put_slot_ne (by simpa using e), put_slot_ne (by simpa using e)]; exact h

theorem put_len (a : Act) (d : Option Nat) (v : Value) : (a.put d v).env.length = a.env.length := by
  cases d <;> simp [Act.put]

theorem putAll_len (a : Act) (l : List (DO × Value)) : (putAll a l).env.length = a.env.length := by
  induction l generalizing a with
  | nil => rfl
  | cons e l ih => obtain ⟨d, v⟩ := e; simp only [putAll]; rw [ih, put_len]

/-- what a slot holds depends on the writes to it alone -/
theorem putAll_slot (t : Nat) : ∀ (l : List (DO × Value)) (a : Act), (putAll a l).env.getD t undef = (putAll a (l.filter fun e => e.1.o.dst == some t)).env.getD t undef := by
  intro l
  induction l with
  | nil => intro a; rfl
  | cons e l ih =>
    intro a
    obtain ⟨d, v⟩ := e
    simp only [putAll, List.filter_cons]
    split
    · simp only [putAll]; exact ih _
    · rename_i hne
      rw [ih]
      have h1 : (a.put d.o.dst v).env.getD t undef = a.env.getD t undef := put_slot_ne (by simpa using hne)
      generalize l.filter (fun e => e.1.o.dst == some t) = m
      have : ∀ (m : List (DO × Value)) (a b : Act), a.env.length = b.env.length → a.env.getD t undef = b.env.getD t undef → (putAll a m).env.getD t undef = (putAll b m).env.getD t undef := by
        intro m
        induction m with
        | nil => intro a b _ h; exact h
        | cons e m ih2 =>
          intro a b hl h
          obtain ⟨d', v'⟩ := e
          exact ih2 _ _ (by rw [put_len, put_len, hl]) (put_slot_congr hl h)
      exact this m _ _ (put_len _ _ _) h1

theorem put_comm {a : Act} {d e : Option Nat} {v u : Value} (h : ∀ t, d = some t → e ≠ some t) : (a.put d v).put e u = (a.put e u).put d v := by
  cases d with
  | none => rfl
  | some d =>
    cases e with
    | none => rfl
    | some e =>
      have : d ≠ e := fun he => h d rfl (by rw [he])
      simp [Act.put, List.set_comm _ _ this]

theorem putAll_move (d : DO) (v : Value) : ∀ (l : List (DO × Value)) (a : Act), (∀ e ∈ l, ∀ t, d.o.dst = some t → e.1.o.dst ≠ some t) → putAll (a.put d.o.dst v) l = (putAll a l).put d.o.dst v := by
  intro l
  induction l with
  | nil => intro a _; rfl
  | cons e l ih =>
    intro a h
    obtain ⟨d', v'⟩ := e
    simp only [putAll]
    rw [put_comm (h (d', v') (by simp)), ih _ fun e he => h e (by simp [he])]

/-- the same values where an operation looks -/
def Agree (o : O) (a b : Act) : Prop := ∀ t ∈ readsO o, a.env.getD t undef = b.env.getD t undef

theorem Agree.ev {o : O} {a b : Act} (h : Agree o a b) : ∀ x ∈ o.i.opds, a.ev x = b.ev x := by
  intro x hx
  cases x with
  | tmp t => exact h t (by unfold readsO tmpsOf; exact List.mem_append_left _ (List.mem_filterMap.2 ⟨_, hx, rfl⟩))
  | _ => rfl

theorem wants_of_getD (a : Act) (d : Nat) (b : Bool) : wants a (some (d, b)) = (match a.env.getD d undef with | .bool c => c == b | _ => false) := by
  unfold wants
  rw [List.getD_eq_getElem?_getD]
  simp only
  cases a.env[d]? with
  | none => rfl
  | some v => cases v <;> rfl

theorem Agree.wants {o : O} {a b : Act} (h : Agree o a b) : wants a o.guard = wants b o.guard := by
  cases hg : o.guard with
  | none => rfl
  | some g =>
    obtain ⟨d, c⟩ := g
    rw [wants_of_getD, wants_of_getD, h d (by unfold readsO; rw [hg]; exact List.mem_append_right _ (by simp))]

end Go.Gx

/-
  What the check of a drawn order means.
-/
namespace Go.Gx

/-! ## what stands before what -/
def bits (acc : Array Nat) (o : Oper) : Nat := o.after.foldl (fun s e => if Region.binds .any e then s ||| 2 ^ e.on ||| acc.getD e.on 0 else s) 0

theorem bits_test (acc : Array Nat) (o : Oper) (m : Nat) : (bits acc o).testBit m = true ↔ ∃ e ∈ o.after, Region.binds .any e = true ∧ (m = e.on ∨ (acc.getD e.on 0).testBit m = true) := by
  unfold bits
  have key : ∀ (l : List Edge) (s : Nat), (l.foldl (fun s e => if Region.binds .any e then s ||| 2 ^ e.on ||| acc.getD e.on 0 else s) s).testBit m = true ↔
      s.testBit m = true ∨ ∃ e ∈ l, Region.binds .any e = true ∧ (m = e.on ∨ (acc.getD e.on 0).testBit m = true) := by
    intro l
    induction l with
    | nil => intro s; simp
    | cons e l ih =>
      intro s
      simp only [List.foldl_cons]
      rw [ih]
      by_cases hb : Region.binds .any e = true
      · simp only [hb, if_true, Nat.testBit_or, Nat.testBit_two_pow, Bool.or_eq_true, decide_eq_true_eq]
        constructor
        · rintro ((( h | h) | h) | ⟨e', h1, h2⟩)
          · exact .inl h
          · exact .inr ⟨e, by simp, hb, .inl h.symm⟩
          · exact .inr ⟨e, by simp, hb, .inr h⟩
          · exact .inr ⟨e', by simp [h1], h2⟩
        · rintro (h | ⟨e', h1, h2, h3⟩)
          · exact .inl (.inl (.inl h))
          · rcases List.mem_cons.1 h1 with rfl | h1
            · rcases h3 with h3 | h3
              · exact .inl (.inl (.inr h3.symm))
              · exact .inl (.inr h3)
            · exact .inr ⟨e', h1, h2, h3⟩
      · simp only [hb]
        constructor
        · rintro (h | ⟨e', h1, h2⟩)
          · exact .inl h
          · exact .inr ⟨e', by simp [h1], h2⟩
        · rintro (h | ⟨e', h1, h2, h3⟩)
          · exact .inl h
          · rcases List.mem_cons.1 h1 with rfl | h1
            · exact absurd h2 hb
            · exact .inr ⟨e', h1, h2, h3⟩
  rw [← Array.foldl_toList, key]
  simp [Nat.zero_testBit]

theorem before_spec (ops : Array Oper) (i : Nat) {o : Oper} (hi : ops[i]? = some o) (m : Nat) :
    ((Region.before ops).getD i 0).testBit m = true ↔ ∃ e ∈ o.after, Region.binds .any e = true ∧ (m = e.on ∨ (e.on < i ∧ ((Region.before ops).getD e.on 0).testBit m = true)) := by
  have key : ∀ (l : List Oper) (acc : Array Nat), (∀ k, k < acc.size → True) →
      (l.foldl (fun acc o => acc.push (bits acc o)) acc).size = acc.size + l.length ∧
      (∀ k, k < acc.size → (l.foldl (fun acc o => acc.push (bits acc o)) acc).getD k 0 = acc.getD k 0) ∧
      ∀ j o, l[j]? = some o → ∃ acc' : Array Nat, acc'.size = acc.size + j ∧ (∀ k, k < acc'.size → acc'.getD k 0 = (l.foldl (fun acc o => acc.push (bits acc o)) acc).getD k 0) ∧
        (l.foldl (fun acc o => acc.push (bits acc o)) acc).getD (acc.size + j) 0 = bits acc' o := by
    intro l
    induction l with
    | nil => intro acc _; exact ⟨by simp, fun _ _ => rfl, fun j o h => by simp at h⟩
    | cons o l ih =>
      intro acc _
      obtain ⟨h1, h2, h3⟩ := ih (acc.push (bits acc o)) (fun _ _ => trivial)
      simp only [List.foldl_cons]
      have pl : ∀ k, k < acc.size → (acc.push (bits acc o)).getD k 0 = acc.getD k 0 := fun k hk => by
        simp [Array.getD_eq_getD_getElem?, Array.getElem?_push, Nat.ne_of_lt hk]
      refine ⟨by rw [h1]; simp; omega, fun k hk => by rw [h2 k (by simp; omega), pl k hk], fun j p hj => ?_⟩
      cases j with
      | zero =>
        simp at hj; subst hj
        refine ⟨acc, by simp, fun k hk => by rw [h2 k (by simp; omega), pl k hk], ?_⟩
        rw [h2 _ (by simp)]
        simp [Array.getD_eq_getD_getElem?]
      | succ j =>
        simp at hj
        obtain ⟨acc', q1, q2, q3⟩ := h3 j p hj
        refine ⟨acc', by rw [q1]; simp; omega, q2, ?_⟩
        rw [← q3]
        congr 1
        simp; omega
  have hb : Region.before ops = ops.toList.foldl (fun acc o => acc.push (bits acc o)) #[] := by
    unfold Region.before
    rw [← Array.foldl_toList]
    rfl
  obtain ⟨h1, h2, h3⟩ := key ops.toList #[] (fun _ _ => trivial)
  obtain ⟨acc', q1, q2, q3⟩ := h3 i o (by simpa using hi)
  rw [← hb] at q2 q3
  simp only [List.size_toArray, List.length_nil, Nat.zero_add] at q1 q3
  rw [q3, bits_test]
  constructor
  · rintro ⟨e, e1, e2, e3⟩
    refine ⟨e, e1, e2, e3.imp id fun h => ?_⟩
    by_cases hlt : e.on < acc'.size
    · rw [q2 _ hlt] at h; exact ⟨by omega, h⟩
    · simp [Array.getD_eq_getD_getElem?, Array.getElem?_eq_none (Nat.le_of_not_lt hlt)] at h
  · rintro ⟨e, e1, e2, e3⟩
    refine ⟨e, e1, e2, e3.imp id fun h => ?_⟩
    rw [q2 _ (by omega)]; exact h.2

/-! ## the order -/
theorem early_mem : ∀ (n : Nat) (l : List DO) (done : Nat) (d : DO), d ∈ early n l done → d ∈ l
  | 0, _, _, _, h => by simp [early] at h
  | n + 1, l, done, d, h => by
    unfold early at h
    split at h
    · rename_i d' hd'
      rcases List.mem_cons.1 h with rfl | h
      · exact List.mem_of_find?_eq_some hd'
      · exact (List.mem_filter.1 (early_mem n _ _ d h)).1
    · split at h
      · rename_i d' hd'
        rcases List.mem_cons.1 h with rfl | h
        · exact List.mem_of_find?_eq_some hd'
        · exact (List.mem_filter.1 (early_mem n _ _ d h)).1
      · simp at h

def tk (o : O) : Nat := if o.i.takes then 1 else 0

theorem mkDO_mem (b : Array Nat) : ∀ (is : List O) (r id : Nat) (d : DO), d ∈ mkDO b is (ranks is r) id → ∃ k, d.id = id + k ∧ is[k]? = some d.o ∧ d.bef = b.getD d.id 0 ∧ d.nm = r + nTakes (is.take k)
  | [], _, _, _, h => by simp [mkDO] at h
  | o :: os, r, id, d, h => by
    simp only [ranks, mkDO, List.mem_cons] at h
    rcases h with rfl | h
    · exact ⟨0, by simp, by simp, rfl, by simp [nTakes]⟩
    · obtain ⟨k, h1, h2, h3, h4⟩ := mkDO_mem b os _ (id + 1) d h
      refine ⟨k + 1, by omega, by simpa using h2, h3, ?_⟩
      rw [h4]
      simp only [List.take_succ_cons, nTakes]
      split <;> omega

theorem nTakes_take_le : ∀ (l : List O) (k : Nat), nTakes (l.take k) ≤ nTakes l
  | [], k => by simp
  | o :: os, 0 => by simp [nTakes]
  | o :: os, k + 1 => by simp only [List.take_succ_cons, nTakes]; have := nTakes_take_le os k; omega

theorem nTakes_take_lt : ∀ (l : List O) (k : Nat) (o : O), l[k]? = some o → o.i.takes = true → ∀ m, k < m → nTakes (l.take k) < nTakes (l.take m)
  | [], _, _, h, _, _, _ => by simp at h
  | o :: os, 0, p, h, ht, m, hm => by
    simp at h; subst h
    obtain ⟨m, rfl⟩ : ∃ m', m = m' + 1 := ⟨m - 1, by omega⟩
    simp only [List.take_zero, List.take_succ_cons, nTakes, ht, if_true]; omega
  | o :: os, k + 1, p, h, ht, m, hm => by
    obtain ⟨m, rfl⟩ : ∃ m', m = m' + 1 := ⟨m - 1, by omega⟩
    simp only [List.take_succ_cons, nTakes]
    have := nTakes_take_lt os k p (by simpa using h) ht m (by omega)
    omega

def idsOf (done : Nat) (l : List DO) : Nat := l.foldl (fun s d => s ||| 2 ^ d.id) done

theorem readyD_iff (done : Nat) (d : DO) : readyD done d = true ↔ ∀ m, d.bef.testBit m = true → done.testBit m = true := by
  unfold readyD
  rw [beq_iff_eq]
  constructor
  · intro h m hm
    have := congrArg (fun n => n.testBit m) h
    simp only [Nat.testBit_and, hm, Bool.true_and] at this
    exact this
  · intro h
    apply Nat.eq_of_testBit_eq
    intro m
    rw [Nat.testBit_and]
    cases hb : d.bef.testBit m with
    | false => rfl
    | true => rw [h m hb]; rfl

theorem orderOK_spec : ∀ (ds : List DO) (done : Nat), orderOK ds done = true → ∀ pre d post, ds = pre ++ d :: post →
    (∀ m, d.bef.testBit m = true → done.testBit m = true ∨ ∃ e ∈ pre, e.id = m) ∧ (∀ e ∈ pre, e.id ≠ d.id) ∧ done.testBit d.id = false ∧
    (d.cls ≠ .other ∨ ∀ e ∈ post, e.cls = .other ∨ e.bef.testBit d.id = true)
  | [], _, _, pre, d, post, h => by simp at h
  | c :: ds, done, h, pre, d, post, e => by
    simp only [orderOK, Bool.and_eq_true, Bool.not_eq_true', Bool.or_eq_true, bne_iff_ne, List.all_eq_true, beq_iff_eq] at h
    obtain ⟨⟨⟨h1, h2⟩, h3⟩, h4⟩ := h
    cases pre with
    | nil =>
      simp at e
      obtain ⟨rfl, rfl⟩ := e
      refine ⟨fun m hm => .inl ((readyD_iff _ _).1 h1 m hm), by simp, h2, h3⟩
    | cons c' pre =>
      simp at e
      obtain ⟨rfl, rfl⟩ := e
      obtain ⟨q1, q2, q3, q4⟩ := orderOK_spec _ _ h4 pre d post rfl
      simp only [Nat.testBit_or, Nat.testBit_two_pow, Bool.or_eq_false_iff, Bool.or_eq_true, decide_eq_true_eq, decide_eq_false_iff_not] at q1 q3
      refine ⟨fun m hm => ?_, fun x hx => ?_, q3.1, q4⟩
      · rcases q1 m hm with (h | h) | ⟨x, hx, e⟩
        · exact .inl h
        · exact .inr ⟨c, by simp, h⟩
        · exact .inr ⟨x, by simp [hx], e⟩
      · rcases List.mem_cons.1 hx with rfl | hx
        · exact q3.2
        · exact q2 x hx

theorem pairsOK_spec : ∀ (ds : List DO), pairsOK ds = true → ∀ pre d post, ds = pre ++ d :: post → ∀ e ∈ post, e.bef.testBit d.id = true ∨ swapOK d e = true
  | [], _, pre, d, post, h => by simp at h
  | c :: ds, h, pre, d, post, e => by
    simp only [pairsOK, Bool.and_eq_true, List.all_eq_true, Bool.or_eq_true] at h
    cases pre with
    | nil =>
      simp at e
      obtain ⟨rfl, rfl⟩ := e
      exact h.1
    | cons c' pre =>
      simp at e
      obtain ⟨rfl, rfl⟩ := e
      exact pairsOK_spec _ h.2 pre d post rfl

structure DSpec (P : Program) (opers : Array Oper) (is : List O) (ds : List DO) : Prop where
  mem : ∀ d ∈ ds, ∃ oper, opers[d.id]? = some oper ∧ comp2 P opers oper = some d.o
  bef : ∀ d ∈ ds, d.bef = (Region.before opers).getD d.id 0
  all : ∀ i, i < opers.size → ∃ d ∈ ds, d.id = i
  nm : ∀ d ∈ ds, d.o.i.takes = true → d.nm < nTakes is
  nms : ∀ d ∈ ds, ∀ e ∈ ds, d.id ≠ e.id → d.o.i.takes = true → e.o.i.takes = true → d.nm ≠ e.nm
  up : ∀ pre d post, ds = pre ++ d :: post → ∀ m, d.bef.testBit m = true → ∃ e ∈ pre, e.id = m
  ids : ∀ pre d post, ds = pre ++ d :: post → ∀ e ∈ pre, e.id ≠ d.id
  oth : ∀ pre d post, ds = pre ++ d :: post → d.cls = .other → ∀ e ∈ post, e.cls = .other ∨ e.bef.testBit d.id = true
  pair : ∀ pre d post, ds = pre ++ d :: post → ∀ e ∈ post, e.bef.testBit d.id = true ∨ swapOK d e = true
  lit : ∀ d ∈ ds, ∀ i, d.lit = some i → d.o.guard = none ∧ d.bef.testBit i = true ∧ ∃ e ∈ ds, e.id = i ∧ e.lit = none ∧ e.o.i = .mkmap
  lit1 : ∀ d ∈ ds, ∀ e ∈ ds, ∀ i, d.lit = some i → e.lit = some i → e.id = d.id
  lit2 : ∀ d ∈ ds, ∀ i, d.lit = some i → ∀ c ∈ ds, c.cls = .other → c.bef.testBit i = true → c.bef.testBit d.id = true
  nod : ∀ d ∈ ds, isDfr d.o.i = false

theorem isMk_eq {i : I} (h : isMk i = true) : i = .mkmap := by cases i <;> first | rfl | cases h
theorem litsOK_spec {l : List DO} (h : litsOK l = true) : ∀ d ∈ l, ∀ i, d.lit = some i → d.o.guard = none ∧ d.bef.testBit i = true ∧ (∃ e ∈ l, e.id = i ∧ e.lit = none ∧ e.o.i = .mkmap) ∧
    (∀ e ∈ l, e.lit = some i → e.id = d.id) ∧ (∀ c ∈ l, c.cls = .other → c.bef.testBit i = true → c.bef.testBit d.id = true) := by
  intro d hd i hi
  unfold litsOK at h
  have := List.all_eq_true.1 h d hd
  rw [hi] at this
  simp only [Bool.and_eq_true, beq_iff_eq, List.any_eq_true, List.all_eq_true, Bool.or_eq_true, bne_iff_ne, Bool.not_eq_true'] at this
  obtain ⟨⟨⟨⟨h1, h2⟩, e, he, ⟨h3, h4⟩, h5⟩, h6⟩, h7⟩ := this
  refine ⟨h1, h2, ⟨e, he, h3, h4, isMk_eq h5⟩, fun e he hl => ?_, fun c hc ho hb => ?_⟩
  · rcases h6 e he with h | h
    · exact absurd hl h
    · exact h
  · rcases h7 c hc with (h | h) | h
    · exact absurd ho h
    · rw [hb] at h; cases h
    · exact h
theorem markL_mem {l : List DO} {d : DO} (h : d ∈ markL l) : ∃ e ∈ l, d.id = e.id ∧ d.nm = e.nm ∧ d.bef = e.bef ∧ d.o = e.o := by
  unfold markL at h
  simp only at h
  split at h
  · obtain ⟨e, he, rfl⟩ := List.mem_map.1 h
    exact ⟨e, he, rfl, rfl, rfl, rfl⟩
  · exact ⟨d, h, rfl, rfl, rfl, rfl⟩

theorem mapM_get {α β : Type} {f : α → Option β} : ∀ {l : List α} {r : List β}, l.mapM f = some r → ∀ (k : Nat) (y : β), r[k]? = some y → ∃ x, l[k]? = some x ∧ f x = some y
  | [], r, h, k, y, hk => by simp at h; subst h; simp at hk
  | x :: l, r, h, k, y, hk => by
    obtain ⟨y0, ys, h1, h2, rfl⟩ := mapM_cons_some h
    cases k with
    | zero => simp at hk; subst hk; exact ⟨x, by simp, h1⟩
    | succ k => simp at hk ⊢; exact mapM_get h2 k y hk

theorem drawOf_spec {P : Program} {opers : Array Oper} {is : List O} {ds : List DO} (his : opers.toList.mapM (comp2 P opers) = some is) (h : drawOf opers is = some ds) : DSpec P opers is ds := by
  unfold drawOf at h
  simp only at h
  split at h
  · rename_i hc
    obtain ⟨h1, h2, h3, h4, h5⟩ := hc
    have hmk : ∀ d ∈ ds, ∃ k, d.id = k ∧ is[k]? = some d.o ∧ d.bef = (Region.before opers).getD d.id 0 ∧ d.nm = nTakes (is.take k) := by
      intro d hd
      cases h
      obtain ⟨e, he, g1, g2, g3, g4⟩ := markL_mem (early_mem _ _ _ _ hd)
      obtain ⟨k, q1, q2, q3, q4⟩ := mkDO_mem _ _ _ _ _ he
      exact ⟨k, by omega, by rw [g4]; exact q2, by rw [g3, g1]; exact q3, by omega⟩
    cases h
    refine ⟨fun d hd => ?_, fun d hd => ?_, fun i hi => ?_, fun d hd ht => ?_, fun d hd e he hne ht ht' => ?_, ?_, ?_, ?_, ?_, fun d hd i hi => ?_, fun d hd e he i hi => (litsOK_spec h4 d hd i hi).2.2.2.1 e he, fun d hd i hi => (litsOK_spec h4 d hd i hi).2.2.2.2, fun d hd => by simpa using List.all_eq_true.1 h5 d hd⟩
    · obtain ⟨k, q1, q2, _, _⟩ := hmk d hd
      obtain ⟨x, hx, hy⟩ := mapM_get his k d.o q2
      exact ⟨x, by rw [q1, ← Array.getElem?_toList]; exact hx, hy⟩
    · obtain ⟨k, _, _, q3, _⟩ := hmk d hd; exact q3
    · rw [List.all_eq_true] at h1
      have := h1 i (by simpa using hi)
      rw [List.any_eq_true] at this
      obtain ⟨d, hd, e⟩ := this
      exact ⟨d, hd, by simpa using e⟩
    · obtain ⟨k, q1, q2, _, q4⟩ := hmk d hd
      rw [q4]
      have := nTakes_take_lt is k d.o q2 ht (k + 1) (by omega)
      have := nTakes_take_le is (k + 1)
      omega
    · obtain ⟨k, q1, q2, _, q4⟩ := hmk d hd
      obtain ⟨k', q1', q2', _, q4'⟩ := hmk e he
      rw [q4, q4']
      rcases Nat.lt_or_ge k k' with hlt | hge
      · have := nTakes_take_lt is k d.o q2 ht k' hlt; omega
      · have := nTakes_take_lt is k' e.o q2' ht' k (by omega); omega
    · intro pre d post e m hm
      rcases (orderOK_spec _ _ h2 pre d post e).1 m hm with h | h
      · simp at h
      · exact h
    · intro pre d post e; exact (orderOK_spec _ _ h2 pre d post e).2.1
    · intro pre d post e ho x hx
      rcases (orderOK_spec _ _ h2 pre d post e).2.2.2 with h | h
      · exact absurd ho h
      · exact h x hx
    · exact pairsOK_spec _ h3
    · obtain ⟨g1, g2, g3, _⟩ := litsOK_spec h4 d hd i hi
      exact ⟨g1, g2, g3⟩
  · cases h

theorem swapOK_spec {o p : DO} (h : swapOK o p = true) : (∀ d, o.o.dst = some d → d ∉ readsO p.o) ∧ (∀ d, o.o.dst = some d → p.o.dst ≠ some d) ∧ (∀ d, p.o.dst = some d → d ∉ readsO o.o) ∧ ¬ (o.cls = .other ∧ p.cls = .other) := by
  unfold swapOK at h
  rw [Bool.and_eq_true, Bool.and_eq_true] at h
  obtain ⟨⟨h1, h2⟩, h3⟩ := h
  refine ⟨fun d hd => ?_, fun d hd => ?_, fun d hd => ?_, fun hh => ?_⟩
  · simp [hd] at h1; exact h1.1
  · simp [hd] at h1; exact h1.2
  · simp [hd] at h2; exact h2
  · simp [hh.1, hh.2] at h3

end Go.Gx

/-
  Regions that draw their order: what is laid late.
-/
namespace Go.Gx

theorem eval_pure_any {i : I} (h : i.cls = .pure) (ev : Operand → Value) (fr fr' : Nat) (S S' : AS) :
    (i.eval ev fr S).bind (fun x => T.ret x.1) = (i.eval ev fr' S').bind (fun x => T.ret x.1) := by
  have hv : ∀ o : Option Value, ((T.ofOption (o.map fun v => (v, S)) : T (Value × AS)).bind fun x => T.ret x.1) = ((T.ofOption (o.map fun v => (v, S')) : T (Value × AS)).bind fun x => T.ret x.1) := by
    intro o; cases o <;> rfl
  cases i <;> first
    | (simp [I.cls] at h; done)
    | skip
  case idxA arr esz x i =>
    cases arr <;> simp only [I.eval]
    · split
      · split <;> rfl
      · rfl
    · split
      · split <;> rfl
      · rfl
  all_goals
    simp only [I.eval]
    (repeat' split) <;> first
      | exact hv _
      | rfl

theorem evalRead {i : I} (h : i.cls = .read) (ev : Operand → Value) (fr : Nat) (S : AS) : (∃ v, i.eval ev fr S = .ret (v, S)) ∨ i.eval ev fr S = .fail := by
  have hv : ∀ o : Option Value, (∃ v, (T.ofOption (o.map fun v => (v, S)) : T (Value × AS)) = .ret (v, S)) ∨ (T.ofOption (o.map fun v => (v, S)) : T (Value × AS)) = .fail := by
    intro o; cases o
    · exact .inr rfl
    · exact .inl ⟨_, rfl⟩
  cases i <;> first
    | (simp [I.cls] at h; done)
    | skip
  all_goals
    simp only [I.eval]
    repeat' split
    all_goals first
      | exact hv _
      | exact .inl ⟨_, rfl⟩
      | exact .inr rfl

theorem pure_any {i : I} (h : i.cls = .pure) {ev : Operand → Value} {fr : Nat} {S S1 : AS} {v : Value} (he : i.eval ev fr S = .ret (v, S1)) (fr' : Nat) (S' : AS) : i.eval ev fr' S' = .ret (v, S') := by
  have := eval_pure_any h ev fr fr' S S'
  rw [he] at this
  rcases evalPure (ev := ev) (fr := fr') (S := S') h with ⟨v', e⟩ | e
  · rw [e] at this ⊢
    simp only [T.bind_ret, T.ret.injEq] at this
    rw [this]
  · rw [e] at this; cases this

theorem newV_own {i : I} {ev : Operand → Value} {fr : Nat} {v : Value} {o : AObj} (h : i.newV ev fr = some (v, o)) : o.own = true := by
  cases i <;> simp only [I.newV] at h <;> first
    | (cases h; done)
    | (cases h; rfl)
    | skip
  all_goals
    (repeat' split at h) <;> first
      | (cases h; done)
      | (cases h; rfl)

theorem new_takes {i : I} (h : i.cls = .new) : i.takes = true := by
  cases i <;> first
    | rfl
    | (simp [I.cls] at h; done)
theorem read_takes {i : I} (h : i.cls = .read) : i.takes = false := by
  cases i <;> first
    | rfl
    | (simp [I.cls] at h; done)
theorem new_eval {i : I} (h : i.cls = .new) (ev : Operand → Value) (fr : Nat) (S : AS) : i.eval ev fr S = layV S fr (i.newV ev fr) := by
  cases i <;> first
    | rfl
    | (simp [I.cls] at h; done)

/-! ## laying late -/
def layIf (p : Nat → Bool) : List (Nat × Nat × AObj) → AS → AS
  | [], S => S
  | (id, n, o) :: rest, S => if p id then (layIf p rest S).put n o else layIf p rest S

theorem flush_eq (mask : Nat) (S : AS) : ∀ pend, flush mask pend S = (pend.filter (fun x => !mask.testBit x.1), layIf (fun i => mask.testBit i) pend S)
  | [] => rfl
  | (id, n, o) :: rest => by
    simp only [flush, layIf, flush_eq mask S rest, List.filter_cons]
    by_cases h : mask.testBit id = true <;> simp [h]

theorem flushAll_eq (S : AS) : ∀ pend, flushAll pend S = layIf (fun _ => true) pend S
  | [] => rfl
  | (id, n, o) :: rest => by simp only [flushAll, layIf, flushAll_eq S rest, if_true]

theorem layIf_next (p : Nat → Bool) (S : AS) : ∀ pend, (layIf p pend S).next = S.next
  | [] => rfl
  | (id, n, o) :: rest => by
    simp only [layIf]; split
    · simp [layIf_next p S rest]
    · exact layIf_next p S rest

section
variable {P : Program} {prot prot' : Nat → Option Obj} {w0 : World} {r : Rho} {S : AS} {w : World}

theorem Rel.weak (h : Rel P prot' w0 r S w) (hp : ∀ b o, prot b = some o → prot' b = some o) : Rel P prot w0 r S w :=
  ⟨h.os, h.tape, h.output, h.size, h.low, h.live, h.uniq, h.fresh, h.ro, fun b o e => h.prot b o (hp b o e)⟩

/-- what the model has made and the abstract memory has not -/
structure PendR (P : Program) (prot prot' : Nat → Option Obj) (w0 : World) (r : Rho) (X : Nat → Bool) (ob : Nat × Nat × AObj → AObj) (pend : List (Nat × Nat × AObj)) : Prop where
  has : ∀ x ∈ pend, X x.1 = true → ∃ L obj, r x.2.1 = some L ∧ prot' L.b = some obj ∧ ObjR P r L (ob x) obj ∧ prot L.b = none ∧ w0.heap.size ≤ L.b ∧ (ob x).own = true
  ne : ∀ x ∈ pend, ∀ y ∈ pend, X x.1 = true → X y.1 = true → x.2.1 ≠ y.2.1 → ∀ L M, r x.2.1 = some L → r y.2.1 = some M → L.b ≠ M.b

/-- blocks of what is laid -/
def Laid (r : Rho) (p : Nat → Bool) (pend : List (Nat × Nat × AObj)) (b : Nat) : Prop := ∃ x ∈ pend, p x.1 = true ∧ ∃ L, r x.2.1 = some L ∧ L.b = b

open Classical in
noncomputable def unprot (r : Rho) (p : Nat → Bool) (pend : List (Nat × Nat × AObj)) (prot : Nat → Option Obj) : Nat → Option Obj := fun b => if Laid r p pend b then none else prot b

theorem lay_rel {X p : Nat → Bool} {ob : Nat × Nat × AObj → AObj} (hpX : ∀ i, p i = true → X i = true) (h : Rel P prot' w0 r S w) : ∀ (pend : List (Nat × Nat × AObj)), PendR P prot prot' w0 r X ob pend → (∀ x ∈ pend, p x.1 = true → ob x = x.2.2) → pend.Pairwise (fun x y => x.1 ≠ y.1 ∧ x.2.1 ≠ y.2.1) →
    Rel P (unprot r p pend prot') w0 r (layIf p pend S) w
  | [], _, _, _ => h.weak fun b o e => by
      unfold unprot at e
      split at e
      · cases e
      · exact e
  | x :: rest, hp, hob, hu => by
    obtain ⟨id, n, o⟩ := x
    have hu' := List.pairwise_cons.1 hu
    have ih := lay_rel (X := X) (p := p) hpX h rest ⟨fun x hx => hp.has x (by simp [hx]), fun x hx y hy => hp.ne x (by simp [hx]) y (by simp [hy])⟩ (fun x hx => hob x (by simp [hx])) hu'.2
    have hsub : ∀ b obj, unprot r p ((id, n, o) :: rest) prot' b = some obj → unprot r p rest prot' b = some obj := by
      intro b obj e
      unfold unprot at e ⊢
      split at e
      · cases e
      · rename_i hn
        rw [if_neg]
        · exact e
        · rintro ⟨x, hx, q⟩; exact hn ⟨x, by simp [hx], q⟩
    simp only [layIf]
    split
    · rename_i hid
      obtain ⟨L, obj, h1, h2, h3, h4, h5, h6⟩ := hp.has (id, n, o) (by simp) (hpX _ hid)
      rw [hob (id, n, o) (by simp) hid] at h3 h6
      simp only at h1 h2 h3 h6
      have hrest : unprot r p rest prot' L.b = some obj := by
        unfold unprot
        rw [if_neg]
        · exact h2
        · rintro ⟨x, hx, q1, M, q2, q3⟩
          exact hp.ne x (by simp [hx]) (id, n, o) (by simp) (hpX _ q1) (hpX _ hid) (Ne.symm (hu'.1 x hx).2) M L q2 h1 q3
      refine (ih.weak hsub).lay h1 (h.prot _ _ h2).1 h3 h6 h5 ?_ ?_
      · intro m q M hm hq hmn hM
        cases ho : q.own with
        | true => exact Ne.symm (fun e => (ih.prot _ _ hrest).2 m q M hm ho hM e.symm)
        | false =>
          have := (ih.ro m q M hm hq hM).2 ho
          omega
      · intro obj' he
        unfold unprot at he
        rw [if_pos ⟨(id, n, o), by simp, hid, L, h1, rfl⟩] at he
        cases he
    · exact ih.weak hsub

theorem pw_ne : ∀ {l : List (Nat × Nat × AObj)}, l.Pairwise (fun x y => x.1 ≠ y.1 ∧ x.2.1 ≠ y.2.1) → ∀ x ∈ l, ∀ y ∈ l, x.1 ≠ y.1 → x.2.1 ≠ y.2.1
  | [], _, x, hx, _, _, _ => by simp at hx
  | z :: l, h, x, hx, y, hy, hne => by
    have h' := List.pairwise_cons.1 h
    rcases List.mem_cons.1 hx with e1 | hx' <;> rcases List.mem_cons.1 hy with e2 | hy'
    · subst e1; subst e2; exact absurd rfl hne
    · subst e1; exact (h'.1 y hy').2
    · subst e2; exact Ne.symm (h'.1 x hx').2
    · exact pw_ne h'.2 x hx' y hy' hne

theorem unprot_le {X p : Nat → Bool} {ob : Nat × Nat × AObj → AObj} (hpX : ∀ i, p i = true → X i = true) {pend : List (Nat × Nat × AObj)} (hp : PendR P prot prot' w0 r X ob pend) (hle : ∀ b o, prot b = some o → prot' b = some o) :
    ∀ b o, prot b = some o → unprot r p pend prot' b = some o := by
  intro b o e
  unfold unprot
  rw [if_neg]
  · exact hle b o e
  · rintro ⟨x, hx, h1, L, h2, rfl⟩
    obtain ⟨L', obj, q1, _, _, q4, _⟩ := hp.has x hx (hpX _ h1)
    rw [h2] at q1; cases q1
    rw [q4] at e; cases e

theorem pend_rest {X p : Nat → Bool} {ob : Nat × Nat × AObj → AObj} (hpX : ∀ i, p i = true → X i = true) {pend : List (Nat × Nat × AObj)} (hp : PendR P prot prot' w0 r X ob pend) (hu : pend.Pairwise (fun x y => x.1 ≠ y.1 ∧ x.2.1 ≠ y.2.1)) :
    PendR P prot (unprot r p pend prot') w0 r X ob (pend.filter fun x => !p x.1) := by
  have huu := pw_ne hu
  refine ⟨fun x hx hX => ?_, fun x hx y hy => hp.ne x (List.mem_filter.1 hx).1 y (List.mem_filter.1 hy).1⟩
  obtain ⟨L, obj, h1, h2, h3, h4, h5, h6⟩ := hp.has x (List.mem_filter.1 hx).1 hX
  refine ⟨L, obj, h1, ?_, h3, h4, h5, h6⟩
  unfold unprot
  rw [if_neg]
  · exact h2
  · rintro ⟨y, hy, q1, M, q2, q3⟩
    have hxp := (List.mem_filter.1 hx).2
    have hne : x.1 ≠ y.1 := by
      intro e; rw [e, q1] at hxp; cases hxp
    exact hp.ne x (List.mem_filter.1 hx).1 y hy hX (hpX _ q1) (huu x (List.mem_filter.1 hx).1 y hy hne) L M h1 q2 q3.symm

theorem PendR.mono {s : Rho} {w1 : World} {X : Nat → Bool} {ob : Nat × Nat × AObj → AObj} {pend : List (Nat × Nat × AObj)} (hp : PendR P prot prot' w0 r X ob pend) (hs : r.le s) : PendR P prot prot' w0 s X ob pend := by
  refine ⟨fun x hx hX => ?_, fun x hx y hy hX hY hne L M hL hM => ?_⟩
  · obtain ⟨L, obj, h1, h2, h3, h4, h5, h6⟩ := hp.has x hx hX
    exact ⟨L, obj, hs _ _ h1, h2, h3.mono hs, h4, h5, h6⟩
  · obtain ⟨L', _, h1, _⟩ := hp.has x hx hX
    obtain ⟨M', _, k1, _⟩ := hp.has y hy hY
    have e1 := hs _ _ h1
    have e2 := hs _ _ k1
    rw [hL] at e1; cases e1
    rw [hM] at e2; cases e2
    exact hp.ne x hx y hy hX hY hne _ _ h1 k1

/-- what has been laid is taken away again -/
theorem Rel.unlay {n : Nat} {o : AObj} (h : Rel P prot w0 r (S.put n o) w) (hown : o.own = true) (hS : ∀ p, S.get n = some p → p = .dead) :
    ∃ L obj, r n = some L ∧ ObjR P r L o obj ∧ prot L.b = none ∧ w0.heap.size ≤ L.b ∧ Rel P (fun b => if b = L.b then some obj else prot b) w0 r S w := by
  have hd : o ≠ .dead := by rintro rfl; cases hown
  rcases h.live n o (by simp) with e | ⟨L, obj, hL, hb, ho⟩
  · exact absurd e hd
  have hne : ∀ m p, S.get m = some p → p ≠ .dead → m ≠ n := by
    rintro m p hm hp rfl; exact hp (hS p hm)
  have get : ∀ m p, S.get m = some p → p ≠ .dead → (S.put n o).get m = some p := fun m p hm hp => by rw [AS.get_put_ne S o (hne m p hm hp)]; exact hm
  refine ⟨L, obj, hL, ho, ?_, (h.ro n o L (by simp) hd hL).1 hown, ?_⟩
  · cases e : prot L.b with
    | none => rfl
    | some q => exact absurd rfl ((h.prot _ _ e).2 n o L (by simp) hown hL)
  · refine ⟨h.os, h.tape, h.output, h.size, h.low, ?_, ?_, h.fresh, fun m p M hm hp hM => h.ro m p M (get m p hm hp) hp hM, ?_⟩
    · intro m p hm
      by_cases hp : p = .dead
      · exact .inl hp
      · exact h.live m p (get m p hm hp)
    · intro a b p q M N ha hb' ho1 ho2 hab hM hN
      exact h.uniq a b p q M N (get a p ha (by rintro rfl; cases ho1)) (get b q hb' ho2) ho1 ho2 hab hM hN
    · intro b q hq
      split at hq
      · rename_i e; subst e; cases hq
        refine ⟨hb, fun m p M hm hp hM => ?_⟩
        have hpd : p ≠ .dead := by rintro rfl; cases hp
        exact Ne.symm (h.uniq n m o p L M (by simp) (get m p hm hpd) hown hpd (Ne.symm (hne m p hm hpd)) hL hM)
      · obtain ⟨h1, h2⟩ := h.prot b q hq
        exact ⟨h1, fun m p M hm hp hM => h2 m p M (get m p hm (by rintro rfl; cases hp)) hp hM⟩
end
end Go.Gx

/-
  Regions that draw their order: the run.
-/
namespace Go.Gx

theorem DO.cls_eq {d : DO} {c : Cls} (h : d.cls = c) (hc : c ≠ .lit) : d.lit = none ∧ d.o.i.cls = c := by
  unfold DO.cls at h
  split at h
  · exact absurd h.symm hc
  · rename_i hl; exact ⟨hl, h⟩
theorem DO.cls_lit {d : DO} (h : d.cls = .lit) : ∃ i, d.lit = some i := by
  unfold DO.cls at h
  split at h
  · rename_i i hl; exact ⟨i, hl⟩
  · cases hi : d.o.i <;> rw [hi] at h <;> cases h
theorem DO.cls_some {d : DO} {i : Nat} (h : d.lit = some i) : d.cls = .lit := by unfold DO.cls; rw [h]

/-- what is known of an operation that the abstract run has done and the model has not -/
def PF (n0 : Nat) (a : Act) (pend : List (Nat × Nat × AObj)) (rds : List (DO × Act × Value)) (e : DO) (v : Value) : Prop :=
  (wants a e.o.guard = false ∧ v = undef) ∨
  (wants a e.o.guard = true ∧ (
    (e.cls = .pure ∧ ∃ S1 S2, e.o.i.eval a.ev 0 S1 = .ret (v, S2)) ∨
    (e.cls = .read ∧ (e, a, v) ∈ rds) ∨
    (e.cls = .new ∧ ∃ o o', e.o.i.newV a.ev (n0 + e.nm) = some (v, o) ∧ (e.id, n0 + e.nm, o') ∈ pend) ∨
    (e.cls = .lit ∧ v = undef ∧ ∃ i n o', e.lit = some i ∧ (i, n, o') ∈ pend ∧ litO e.o a.ev n (.map [] 0) = some o')))

theorem PF.mono {n0 : Nat} {a : Act} {pend pend' : List (Nat × Nat × AObj)} {rds rds' : List (DO × Act × Value)} {e : DO} {v : Value} (h : PF n0 a pend rds e v)
    (hp : ∀ x ∈ pend, x.1 = e.id → ∃ o', (x.1, x.2.1, o') ∈ pend') (hl : ∀ x ∈ pend, e.lit = some x.1 → x ∈ pend') (hr : ∀ x ∈ rds, x ∈ rds') : PF n0 a pend' rds' e v := by
  rcases h with h | ⟨h1, h | ⟨h2, h3⟩ | ⟨h2, o, o', h3, h4⟩ | ⟨h2, h3, i, n, o', h4, h5, h6⟩⟩
  · exact .inl h
  · exact .inr ⟨h1, .inl h⟩
  · exact .inr ⟨h1, .inr (.inl ⟨h2, hr _ h3⟩)⟩
  · obtain ⟨o2, h5⟩ := hp _ h4 rfl
    exact .inr ⟨h1, .inr (.inr (.inl ⟨h2, o, o2, h3, h5⟩))⟩
  · exact .inr ⟨h1, .inr (.inr (.inr ⟨h2, h3, i, n, o', h4, hl _ h5 h4, h6⟩))⟩

structure AInv (call : Callee → AS → T (En × AS)) (ds : List DO) (n0 : Nat) (a0 : Act) (Q : Ex × Act × AS → Prop) (X : Nat → Bool)
    (log : List (DO × Value)) (rest : List DO) (S : AS) (pend : List (Nat × Nat × AObj)) (rds : List (DO × Act × Value)) : Prop where
  split : ds = log.map (·.1) ++ rest
  run : (drawOs call ds rest n0 (putAll a0 log) S pend rds).all Q
  sub : ∀ i, X i = true → ∃ e ∈ log, e.1.id = i
  oth : ∀ e ∈ log, e.1.cls = .other → X e.1.id = true
  pf : ∀ l1 e v l2, log = l1 ++ (e, v) :: l2 → X e.id = false → PF n0 (putAll a0 l1) pend rds e v
  rd : ∀ x ∈ rds, X x.1.id = true ∨ ∃ S1, x.1.o.i.eval x.2.1.ev 0 S = .ret (x.2.2, S1)
  pe : ∀ x ∈ pend, ∃ l1 e v l2 o, log = l1 ++ (e, v) :: l2 ∧ wants (putAll a0 l1) e.o.guard = true ∧ e.cls = .new ∧ e.o.i.newV (putAll a0 l1).ev (n0 + e.nm) = some (v, o) ∧ x.1 = e.id ∧ x.2.1 = n0 + e.nm ∧ (x.2.2 = o ∨ ∃ d ∈ ds, d.lit = some x.1)
  pu : pend.Pairwise (fun x y => x.1 ≠ y.1 ∧ x.2.1 ≠ y.2.1)

/-- what the model has made: a map may lack its first entry -/
def atX (ds : List DO) (X : Nat → Bool) (x : Nat × Nat × AObj) : AObj := if ds.any (fun d => d.lit == some x.1 && !X d.id) = true then .map [] 0 else x.2.2

theorem atX_empty {ds : List DO} {X : Nat → Bool} {x : Nat × Nat × AObj} {d : DO} (hd : d ∈ ds) (hl : d.lit = some x.1) (hX : X d.id = false) : atX ds X x = .map [] 0 := by
  unfold atX
  rw [if_pos]
  rw [List.any_eq_true]
  exact ⟨d, hd, by simp [hl, hX]⟩
theorem atX_full {ds : List DO} {X : Nat → Bool} {x : Nat × Nat × AObj} (h : ∀ d ∈ ds, d.lit = some x.1 → X d.id = true) : atX ds X x = x.2.2 := by
  unfold atX
  rw [if_neg]
  rw [List.any_eq_true]
  rintro ⟨d, hd, hh⟩
  simp only [Bool.and_eq_true, beq_iff_eq, Bool.not_eq_true'] at hh
  rw [h d hd hh.1] at hh
  cases hh.2
theorem atX_same {ds : List DO} {X X' : Nat → Bool} {x y : Nat × Nat × AObj} (h1 : x.1 = y.1) (h2 : x.2.2 = y.2.2 ∨ ∃ d ∈ ds, d.lit = some x.1 ∧ X d.id = false) (h : ∀ d ∈ ds, d.lit = some x.1 → X' d.id = X d.id) : atX ds X' x = atX ds X y := by
  by_cases hh : ∃ d ∈ ds, d.lit = some x.1 ∧ X d.id = false
  · obtain ⟨d, hd, hl, hX⟩ := hh
    rw [atX_empty hd hl (by rw [h d hd hl]; exact hX), atX_empty hd (by rw [← h1]; exact hl) hX]
  · rcases h2 with h2 | h2
    · have hf : ∀ d ∈ ds, d.lit = some x.1 → X d.id = true := fun d hd hl => by
        cases e : X d.id with
        | true => rfl
        | false => exact absurd ⟨d, hd, hl, e⟩ hh
      rw [atX_full (fun d hd hl => by rw [h d hd hl]; exact hf d hd hl), atX_full (fun d hd hl => hf d hd (by rw [h1]; exact hl)), h2]
    · exact absurd h2 hh

theorem litP_spec {o : O} {ev : Operand → Value} {i : Nat} : ∀ {pend pend' : List (Nat × Nat × AObj)}, litP o ev i pend = some pend' → ∃ p1 n ob ob' p2, pend = p1 ++ (i, n, ob) :: p2 ∧ pend' = p1 ++ (i, n, ob') :: p2 ∧ litO o ev n ob = some ob' ∧ ∀ x ∈ p1, x.1 ≠ i
  | [], _, h => by simp [litP] at h
  | (id, n, ob) :: rest, pend', h => by
    unfold litP at h
    split at h
    · rename_i hid
      subst hid
      rw [Option.map_eq_some_iff] at h
      obtain ⟨ob', h1, rfl⟩ := h
      exact ⟨[], n, ob, ob', rest, rfl, rfl, h1, by simp⟩
    · rename_i hid
      rw [Option.map_eq_some_iff] at h
      obtain ⟨r, h1, rfl⟩ := h
      obtain ⟨p1, m, o1, o2, p2, rfl, rfl, h4, h5⟩ := litP_spec h1
      refine ⟨(id, n, ob) :: p1, m, o1, o2, p2, rfl, rfl, h4, fun x hx => ?_⟩
      rcases List.mem_cons.1 hx with rfl | hx
      · exact hid
      · exact h5 x hx
theorem litO_empty {o : O} {ev : Operand → Value} {n : Nat} {ob ob' : AObj} (h : litO o ev n ob = some ob') : ob = .map [] 0 := by
  unfold litO at h
  split at h
  · rfl
  · cases h

theorem snoc_split {α : Type} {l l1 l2 : List α} {x y : α} (h : l ++ [x] = l1 ++ y :: l2) : (l2 = [] ∧ l1 = l ∧ y = x) ∨ ∃ l2', l2 = l2' ++ [x] ∧ l = l1 ++ y :: l2' := by
  rcases List.eq_nil_or_concat l2 with rfl | ⟨l2', z, rfl⟩
  · have := List.append_inj' h rfl
    simp at this
    exact .inl ⟨rfl, this.1.symm, this.2.symm⟩
  · right
    have h2 : l ++ [x] = (l1 ++ y :: l2') ++ [z] := by simpa using h
    have := List.append_inj' h2 rfl
    simp at this
    exact ⟨l2', by rw [this.2]; simp, this.1⟩

section
variable {P : Program} {w0 : World} {call : Callee → AS → T (En × AS)} {opers : Array Oper} {is : List O} {ds : List DO} {n0 : Nat} {a0 : Act} {Q : Ex × Act × AS → Prop}

theorem ids_ne (hds : DSpec P opers is ds) {pre post : List DO} {d : DO} (e : ds = pre ++ d :: post) : (∀ x ∈ pre, x.id ≠ d.id) ∧ (∀ x ∈ post, x.id ≠ d.id) := by
  refine ⟨hds.ids pre d post e, fun x hx => ?_⟩
  obtain ⟨p, q, rfl⟩ := List.append_of_mem hx
  have := hds.ids (pre ++ d :: p) x q (by rw [e]; simp) d (by simp)
  exact Ne.symm this

theorem id_pos (hds : DSpec P opers is ds) {pre post pre' post' : List DO} {d d' : DO} (e : ds = pre ++ d :: post) (e' : ds = pre' ++ d' :: post') (h : d.id = d'.id) : pre = pre' ∧ d = d' ∧ post = post' := by
  obtain ⟨h1, h2⟩ := ids_ne hds e
  have hmem : d' ∈ pre ++ d :: post := by rw [← e, e']; simp
  have hlen : pre.length = pre'.length := by
    have g1 : ds[pre.length]? = some d := by rw [e]; simp
    have g2 : ds[pre'.length]? = some d' := by rw [e']; simp
    rcases Nat.lt_trichotomy pre.length pre'.length with hlt | he | hgt
    · exfalso
      have : d ∈ pre' := by
        rw [e', List.getElem?_append_left hlt] at g1
        exact List.mem_of_getElem? g1
      exact (ids_ne hds e').1 d this h
    · exact he
    · exfalso
      have : d' ∈ pre := by
        rw [e, List.getElem?_append_left hgt] at g2
        exact List.mem_of_getElem? g2
      exact h1 d' this h.symm
  have := List.append_inj (e.symm.trans e') hlen
  simp at this
  exact ⟨this.1, this.2.1, this.2.2⟩

theorem log_split {log : List (DO × Value)} {rest : List DO} (hs : ds = log.map (·.1) ++ rest) {l1 l2 : List (DO × Value)} {e : DO} {v : Value} (h : log = l1 ++ (e, v) :: l2) :
    ds = l1.map (·.1) ++ e :: (l2.map (·.1) ++ rest) := by
  rw [hs, h]; simp

/-- the abstract run goes on until it waits for the model -/
theorem adv (hds : DSpec P opers is ds) {X : Nat → Bool} {S : AS} : ∀ (rest : List DO) (log : List (DO × Value)) (pend : List (Nat × Nat × AObj)) (rds : List (DO × Act × Value)), AInv call ds n0 a0 Q X log rest S pend rds →
    ∃ log' rest' pend' rds', AInv call ds n0 a0 Q X log' rest' S pend' rds' ∧ (rest' = [] ∨ ∃ d t, rest' = d :: t ∧ d.cls = .other) ∧ (∀ x ∈ pend', X x.1 = true → ∃ y ∈ pend, y.1 = x.1 ∧ y.2.1 = x.2.1 ∧ atX ds X x = atX ds X y) ∧
      log'.filter (fun e => X e.1.id) = log.filter (fun e => X e.1.id)
  | [], log, pend, rds, h => ⟨log, [], pend, rds, h, .inl rfl, fun x hx _ => ⟨x, hx, rfl, rfl, rfl⟩, rfl⟩
  | d :: rest, log, pend, rds, h => by
    by_cases hoth : d.cls = .other
    · exact ⟨log, d :: rest, pend, rds, h, .inr ⟨d, rest, rfl, hoth⟩, fun x hx _ => ⟨x, hx, rfl, rfl, rfl⟩, rfl⟩
    have hsp := h.split
    have hids := ids_ne hds hsp
    have hX : X d.id = false := by
      cases e : X d.id with
      | false => rfl
      | true =>
        obtain ⟨x, hx, hxe⟩ := h.sub _ e
        exact absurd hxe (hids.1 x.1 (List.mem_map_of_mem hx))
    have hmemd : d ∈ ds := by rw [hsp]; simp
    -- the step: a value, more that is laid, more that is read
    have go : ∀ (v : Value) (pend' : List (Nat × Nat × AObj)) (rds' : List (DO × Act × Value)), (drawOs call ds rest n0 ((putAll a0 log).put d.o.dst v) S pend' rds').all Q →
        PF n0 (putAll a0 log) pend' rds' d v → (∀ x ∈ pend, ∃ o', (x.1, x.2.1, o') ∈ pend') → (∀ e ∈ log, ∀ x ∈ pend, e.1.lit = some x.1 → x ∈ pend') → (∀ x ∈ rds, x ∈ rds') →
        (∀ x ∈ pend', (∃ y ∈ pend, y.1 = x.1 ∧ y.2.1 = x.2.1 ∧ (x.2.2 = y.2.2 ∨ d.lit = some x.1)) ∨ (wants (putAll a0 log) d.o.guard = true ∧ d.cls = .new ∧ d.o.i.newV (putAll a0 log).ev (n0 + d.nm) = some (v, x.2.2) ∧ x.1 = d.id ∧ x.2.1 = n0 + d.nm)) →
        (∀ x ∈ rds', x ∈ rds ∨ ∃ S1, x.1.o.i.eval x.2.1.ev 0 S = .ret (x.2.2, S1)) → pend'.Pairwise (fun x y => x.1 ≠ y.1 ∧ x.2.1 ≠ y.2.1) →
        ∃ log' rest' pend2 rds2, AInv call ds n0 a0 Q X log' rest' S pend2 rds2 ∧ (rest' = [] ∨ ∃ d t, rest' = d :: t ∧ d.cls = .other) ∧ (∀ x ∈ pend2, X x.1 = true → ∃ y ∈ pend, y.1 = x.1 ∧ y.2.1 = x.2.1 ∧ atX ds X x = atX ds X y) ∧
          log'.filter (fun e => X e.1.id) = log.filter (fun e => X e.1.id) := by
      intro v pend' rds' hrun hpf hp hl hr hpe hrd hpu
      have hinv : AInv call ds n0 a0 Q X (log ++ [(d, v)]) rest S pend' rds' := by
        refine ⟨by rw [hsp]; simp, by rw [putAll_snoc]; exact hrun, fun i hi => ?_, fun e he ho => ?_, fun l1 e u l2 hl' hXe => ?_, fun x hx => ?_, fun x hx => ?_, hpu⟩
        · obtain ⟨e, he, q⟩ := h.sub i hi
          exact ⟨e, by simp [he], q⟩
        · rcases List.mem_append.1 he with he | he
          · exact h.oth e he ho
          · simp at he; subst he; exact absurd ho hoth
        · rcases snoc_split hl' with ⟨rfl, rfl, q⟩ | ⟨l2', rfl, q⟩
          · cases q; exact hpf
          · exact (h.pf l1 e u l2' q hXe).mono (fun x hx _ => hp x hx) (fun x hx hlx => hl (e, u) (by rw [q]; simp) x hx hlx) hr
        · rcases hrd x hx with hx | hx
          · exact h.rd x hx
          · exact .inr hx
        · rcases hpe x hx with ⟨y, hy, y1, y2, y3⟩ | ⟨q1, q2, q3, q4, q5⟩
          · obtain ⟨l1, e, u, l2, o, k1, k2, k3, k4, k5, k6, k7⟩ := h.pe y hy
            refine ⟨l1, e, u, l2 ++ [(d, v)], o, by rw [k1]; simp, k2, k3, k4, by rw [← y1]; exact k5, by rw [← y2]; exact k6, ?_⟩
            rcases y3 with y3 | y3
            · rw [y3]; rcases k7 with k7 | k7
              · exact .inl k7
              · rw [← y1]; exact .inr k7
            · exact .inr ⟨d, hmemd, y3⟩
          · exact ⟨log, d, v, [], x.2.2, rfl, q1, q2, q3, q4, q5, .inl rfl⟩
      obtain ⟨log', rest', pend2, rds2, k1, k2, k3, k4⟩ := adv hds rest _ pend' rds' hinv
      refine ⟨log', rest', pend2, rds2, k1, k2, fun x hx hXx => ?_, ?_⟩
      · obtain ⟨y, hy, y1, y2, y3⟩ := k3 x hx hXx
        rcases hpe y hy with ⟨z, hz, z1, z2, z3⟩ | ⟨_, _, _, q4, _⟩
        · refine ⟨z, hz, z1.trans y1, z2.trans y2, y3.trans ?_⟩
          refine atX_same z1.symm ?_ (fun _ _ _ => rfl)
          rcases z3 with z3 | z3
          · exact .inl z3
          · exact .inr ⟨d, hmemd, z3, hX⟩
        · rw [← y1, q4, hX] at hXx; cases hXx
      · rw [k4, List.filter_append]; simp [hX]
    have hrun := h.run
    rw [drawOs] at hrun
    split at hrun
    · rename_i hw
      split at hrun
      · rename_i hc
        rw [T.all_bind] at hrun
        rcases evalPure (ev := (putAll a0 log).ev) (fr := 0) (S := S) (DO.cls_eq hc (by simp)).2 with ⟨v, he⟩ | he
        · rw [he] at hrun
          exact go v pend rds hrun (.inr ⟨hw, .inl ⟨hc, _, _, he⟩⟩) (fun x h => ⟨_, h⟩) (fun _ _ _ h _ => h) (fun _ h => h) (fun x hx => .inl ⟨x, hx, rfl, rfl, .inl rfl⟩) (fun x hx => .inl hx) h.pu
        · rw [he] at hrun; exact hrun.elim
      · rename_i hc
        rw [T.all_bind] at hrun
        rcases evalRead (DO.cls_eq hc (by simp)).2 (putAll a0 log).ev 0 S with ⟨v, he⟩ | he
        · rw [he] at hrun
          refine go v pend ((d, putAll a0 log, v) :: rds) hrun (.inr ⟨hw, .inr (.inl ⟨hc, by simp⟩)⟩) (fun x h => ⟨_, h⟩) (fun _ _ _ h _ => h) (fun _ h => by simp [h]) (fun x hx => .inl ⟨x, hx, rfl, rfl, .inl rfl⟩) (fun x hx => ?_) h.pu
          rcases List.mem_cons.1 hx with rfl | hx
          · exact .inr ⟨S, he⟩
          · exact .inl hx
        · rw [he] at hrun; exact hrun.elim
      · rename_i hc
        split at hrun
        · rename_i v o hv
          refine go v ((d.id, n0 + d.nm, o) :: pend) rds hrun (.inr ⟨hw, .inr (.inr (.inl ⟨hc, o, o, hv, by simp⟩))⟩) (fun x h => ⟨x.2.2, by simp [h]⟩) (fun _ _ _ h _ => by simp [h]) (fun _ h => h) (fun x hx => ?_) (fun x hx => .inl hx) ?_
          · rcases List.mem_cons.1 hx with rfl | hx
            · exact .inr ⟨hw, hc, hv, rfl, rfl⟩
            · exact .inl ⟨x, hx, rfl, rfl, .inl rfl⟩
          · refine List.pairwise_cons.2 ⟨fun x hx => ?_, h.pu⟩
            obtain ⟨l1, e, u, l2, o', k1, _, k3, _, k5, k6, _⟩ := h.pe x hx
            have hmem : e ∈ log.map (·.1) := by rw [k1]; simp
            have hne := hids.1 e hmem
            have hmeme : e ∈ ds := by rw [hsp]; exact List.mem_append_left _ hmem
            refine ⟨by rw [k5]; exact Ne.symm hne, ?_⟩
            rw [k6]
            have := hds.nms d hmemd e hmeme (Ne.symm hne) (new_takes (DO.cls_eq hc (by simp)).2) (new_takes (DO.cls_eq k3 (by simp)).2)
            simp only; omega
        · exact hrun.elim
      · rename_i hc
        obtain ⟨i, hi⟩ := DO.cls_lit hc
        split at hrun
        · rename_i pend' hv
          rw [hi] at hv
          obtain ⟨p1, n, ob, ob', p2, rfl, rfl, hlo, hne⟩ := litP_spec hv
          have hob := litO_empty hlo
          subst hob
          refine go undef _ rds hrun (.inr ⟨hw, .inr (.inr (.inr ⟨hc, rfl, i, n, ob', hi, by simp, hlo⟩))⟩) (fun x hx => ?_) (fun e he x hx hlx => ?_) (fun _ h => h) (fun x hx => ?_) (fun x hx => .inl hx) ?_
          · rcases List.mem_append.1 hx with hx | hx
            · exact ⟨x.2.2, by simp [hx]⟩
            · rcases List.mem_cons.1 hx with rfl | hx
              · exact ⟨ob', by simp⟩
              · exact ⟨x.2.2, by simp [hx]⟩
          · have hxi : x.1 ≠ i := by
              intro hxe
              rw [hxe] at hlx
              have hme : e.1 ∈ ds := by rw [hsp]; exact List.mem_append_left _ (List.mem_map_of_mem he)
              exact hids.1 e.1 (List.mem_map_of_mem he) (hds.lit1 d hmemd e.1 hme i hi hlx)
            rcases List.mem_append.1 hx with hx | hx
            · simp [hx]
            · rcases List.mem_cons.1 hx with rfl | hx
              · exact absurd rfl hxi
              · simp [hx]
          · rcases List.mem_append.1 hx with hx | hx
            · exact .inl ⟨x, by simp [hx], rfl, rfl, .inl rfl⟩
            · rcases List.mem_cons.1 hx with rfl | hx
              · exact .inl ⟨(i, n, .map [] 0), by simp, rfl, rfl, .inr hi⟩
              · exact .inl ⟨x, by simp [hx], rfl, rfl, .inl rfl⟩
          · have := h.pu
            rw [List.pairwise_append, List.pairwise_cons] at this ⊢
            refine ⟨this.1, ⟨fun x hx => this.2.1.1 x hx, this.2.1.2⟩, fun x hx y hy => ?_⟩
            rcases List.mem_cons.1 hy with rfl | hy
            · exact this.2.2 x hx (i, n, .map [] 0) (by simp)
            · exact this.2.2 x hx y (by simp [hy])
        · exact hrun.elim
      · rename_i hc; exact absurd hc hoth
    · rename_i hw
      exact go undef pend rds hrun (.inl ⟨by simpa using hw, rfl⟩) (fun x h => ⟨_, h⟩) (fun _ _ _ h _ => h) (fun _ h => h) (fun x hx => .inl ⟨x, hx, rfl, rfl, .inl rfl⟩) (fun x hx => .inl hx) h.pu

/-- the model's operands have the values that the abstract run saw -/
theorem agree (hds : DSpec P opers is ds) {X : Nat → Bool} {l1 l2 : List (DO × Value)} {d : DO} {rest : List DO} (hsp : ds = l1.map (·.1) ++ d :: (l2.map (·.1) ++ rest)) (hX : X d.id = false)
    (hbef : ∀ m, d.bef.testBit m = true → X m = true) (hdown : ∀ e ∈ ds, X e.id = true → ∀ m, e.bef.testBit m = true → X m = true) :
    Agree d.o (putAll a0 l1) (putAll a0 ((l1 ++ l2).filter fun e => X e.1.id)) := by
  intro t ht
  rw [putAll_slot t l1, putAll_slot t ((l1 ++ l2).filter _)]
  congr 2
  congr 1
  rw [List.filter_filter, List.filter_append]
  have e2 : l2.filter (fun e => (e.1.o.dst == some t) && X e.1.id) = [] := by
    rw [List.filter_eq_nil_iff]
    intro e he
    simp only [Bool.and_eq_true, beq_iff_eq, not_and]
    intro hd hXe
    have hmem : e.1 ∈ l2.map (·.1) ++ rest := List.mem_append_left _ (List.mem_map_of_mem he)
    rcases hds.pair _ _ _ hsp e.1 hmem with hb | hb
    · have := hdown e.1 (by rw [hsp]; exact List.mem_append_right _ (List.mem_cons_of_mem _ hmem)) hXe _ hb
      rw [hX] at this; cases this
    · exact (swapOK_spec hb).2.2.1 t hd ht
  rw [e2, List.append_nil]
  apply List.filter_congr
  intro e he
  cases hd : e.1.o.dst == some t with
  | false => simp
  | true =>
    simp only [Bool.true_and]
    obtain ⟨p, q, hpq⟩ := List.append_of_mem he
    have hsp2 : ds = p.map (·.1) ++ e.1 :: (q.map (·.1) ++ d :: (l2.map (·.1) ++ rest)) := by rw [hsp, hpq]; simp
    rcases hds.pair _ _ _ hsp2 d (by simp) with hb | hb
    · rw [hbef _ hb]
    · exact absurd ht ((swapOK_spec hb).1 t (by simpa using hd))

/-- one more of the log has been done by the model -/
theorem log_put (hds : DSpec P opers is ds) {X : Nat → Bool} {l1 l2 : List (DO × Value)} {d : DO} {v : Value} {rest : List DO} (hsp : ds = l1.map (·.1) ++ d :: (l2.map (·.1) ++ rest)) (hX : X d.id = false)
    (hdown : ∀ e ∈ ds, X e.id = true → ∀ m, e.bef.testBit m = true → X m = true) :
    putAll a0 ((l1 ++ (d, v) :: l2).filter fun e => X e.1.id || decide (e.1.id = d.id)) = (putAll a0 ((l1 ++ l2).filter fun e => X e.1.id)).put d.o.dst v := by
  obtain ⟨h1, h2⟩ := ids_ne hds hsp
  have f1 : l1.filter (fun e => X e.1.id || decide (e.1.id = d.id)) = l1.filter (fun e => X e.1.id) := by
    apply List.filter_congr
    intro e he
    have := h1 e.1 (List.mem_map_of_mem he)
    simp [this]
  have f2 : l2.filter (fun e => X e.1.id || decide (e.1.id = d.id)) = l2.filter (fun e => X e.1.id) := by
    apply List.filter_congr
    intro e he
    have := h2 e.1 (List.mem_append_left _ (List.mem_map_of_mem he))
    simp [this]
  rw [List.filter_append, List.filter_cons, f1, f2, List.filter_append]
  simp only [decide_true, Bool.or_true, if_true]
  rw [putAll_append, putAll_append]
  simp only [putAll]
  apply putAll_move
  intro e he t hd hd'
  obtain ⟨he1, he2⟩ := List.mem_filter.1 he
  have hmem : e.1 ∈ l2.map (·.1) ++ rest := List.mem_append_left _ (List.mem_map_of_mem he1)
  rcases hds.pair _ _ _ hsp e.1 hmem with hb | hb
  · have := hdown e.1 (by rw [hsp]; exact List.mem_append_right _ (List.mem_cons_of_mem _ hmem)) he2 _ hb
    rw [hX] at this; cases this
  · exact (swapOK_spec hb).2.1 t hd hd'

theorem filter_skip {X : Nat → Bool} {l1 l2 : List (DO × Value)} {d : DO} {v : Value} (hX : X d.id = false) : (l1 ++ (d, v) :: l2).filter (fun e => X e.1.id) = (l1 ++ l2).filter fun e => X e.1.id := by
  simp [List.filter_append, List.filter_cons, hX]

/-- the abstract facts, when the model has done one more -/
theorem AInv.more {X : Nat → Bool} {log : List (DO × Value)} {rest : List DO} {S : AS} {pend : List (Nat × Nat × AObj)} {rds : List (DO × Act × Value)} (h : AInv call ds n0 a0 Q X log rest S pend rds) {i : Nat} (hi : ∃ e ∈ log, e.1.id = i) :
    AInv call ds n0 a0 Q (fun k => X k || decide (k = i)) log rest S pend rds := by
  refine ⟨h.split, h.run, fun k hk => ?_, fun e he ho => by simp [h.oth e he ho], fun l1 e v l2 hl hXe => ?_, fun x hx => ?_, h.pe, h.pu⟩
  · simp only [Bool.or_eq_true, decide_eq_true_eq] at hk
    rcases hk with hk | rfl
    · exact h.sub k hk
    · exact hi
  · simp only [Bool.or_eq_false_iff] at hXe
    exact h.pf l1 e v l2 hl hXe.1
  · rcases h.rd x hx with h | h
    · exact .inl (by simp [h])
    · exact .inr h

structure CInv (P : Program) (prot : Nat → Option Obj) (w0 : World) (ro : Option Nat) (r0 : Rho) (ds : List DO) (n0 N : Nat) (a0 : Act) (X : Nat → Bool) (log : List (DO × Value)) (S : AS) (pend : List (Nat × Nat × AObj)) (r : Rho) (A : Go.Act) (w : World) : Prop where
  act : ActR P r ro (putAll a0 (log.filter fun e => X e.1.id)) A
  rel : ∃ prot', (∀ b o, prot b = some o → prot' b = some o) ∧ Rel P prot' w0 r S w ∧ PendR P prot prot' w0 r X (atX ds X) pend
  ext : Ext r0 r n0
  nx : n0 + N ≤ S.next
  fre : ∀ d ∈ ds, d.o.i.takes = true → X d.id = false → r (n0 + d.nm) = none

end
end Go.Gx

/-
  Regions that draw their order: every order gives what the abstract one gives.
-/
namespace Go.Gx

section
variable {P : Program} {prot : Nat → Option Obj} {w0 : World} {call : Callee → AS → T (En × AS)} {opers : Array Oper} {is : List O} {ds : List DO} {n0 : Nat} {a0 : Act} {Q : Ex × Act × AS → Prop} {r0 : Rho} {ro : Option Nat}

theorem Rel.get_ext {r : Rho} {S T : AS} {w : World} (h : Rel P prot w0 r S w) (hg : ∀ m, T.get m = S.get m) (hn : T.next = S.next) : Rel P prot w0 r T w :=
  ⟨h.os, h.tape, h.output, h.size, h.low, fun n o e => h.live n o (by rw [← hg]; exact e), fun n m o o' L M e e' => h.uniq n m o o' L M (by rw [← hg]; exact e) (by rw [← hg]; exact e'),
    fun n hn' => h.fresh n (by omega), fun n o L e => h.ro n o L (by rw [← hg]; exact e), fun b obj e => ⟨(h.prot b obj e).1, fun n o L e' => (h.prot b obj e).2 n o L (by rw [← hg]; exact e')⟩⟩

theorem DSpec.uniq (hds : DSpec P opers is ds) {d e : DO} (hd : d ∈ ds) (he : e ∈ ds) (h : d.id = e.id) : d = e := by
  obtain ⟨p, q, hpq⟩ := List.append_of_mem hd
  obtain ⟨h1, h2⟩ := ids_ne hds hpq
  rw [hpq] at he
  rcases List.mem_append.1 he with he | he
  · exact absurd h.symm (h1 e he)
  · rcases List.mem_cons.1 he with he | he
    · exact he.symm
    · exact absurd h.symm (h2 e he)

theorem atX_more (hds : DSpec P opers is ds) {X : Nat → Bool} {e : DO} (he : e ∈ ds) {x : Nat × Nat × AObj} (h : e.lit ≠ some x.1) : atX ds (fun k => X k || decide (k = e.id)) x = atX ds X x :=
  atX_same rfl (.inl rfl) fun d hd hl => by
    have : d.id ≠ e.id := fun h' => h (by rw [← hds.uniq hd he h']; exact hl)
    simp [this]

theorem litO_eval {o : O} {ev : Operand → Value} {n : Nat} {o' : AObj} (h : litO o ev n (.map [] 0) = some o') (fr : Nat) (S : AS) :
    o.i.eval ev fr (S.put n (.map [] 0)) = .ret (undef, (S.put n (.map [] 0)).put n o') ∧ o'.own = true ∧ o.i.takes = false := by
  unfold litO at h
  simp only at h
  split at h
  · rename_i ks agg m k v hi
    split at h
    · rename_i hc
      cases h
      rw [hi]
      refine ⟨?_, rfl, rfl⟩
      simp only [I.eval, hc.1, AS.get_put_self, findC, hc.2, if_true, findK, List.nil_append]
    · cases h
  · cases h
theorem litO_congr {o : O} {ev ev2 : Operand → Value} (h : ∀ x ∈ o.i.opds, ev x = ev2 x) (n : Nat) (ob : AObj) : litO o ev n ob = litO o ev2 n ob := by
  unfold litO
  split
  · split
    · rename_i ks agg m k v hi
      rw [hi] at h
      rw [h m (by simp [I.opds]), h k (by simp [I.opds]), h v (by simp [I.opds])]
    · rfl
  · rfl

theorem pend_pos (hds : DSpec P opers is ds) {X : Nat → Bool} {log : List (DO × Value)} {rest : List DO} {S : AS} {pend : List (Nat × Nat × AObj)} {rds : List (DO × Act × Value)} (h : AInv call ds n0 a0 Q X log rest S pend rds)
    {l1 l2 : List (DO × Value)} {e : DO} {v : Value} (hl : log = l1 ++ (e, v) :: l2) {x : Nat × Nat × AObj} (hx : x ∈ pend) (hid : x.1 = e.id) :
    ∃ o, wants (putAll a0 l1) e.o.guard = true ∧ e.cls = .new ∧ e.o.i.newV (putAll a0 l1).ev (n0 + e.nm) = some (v, o) ∧ x.2.1 = n0 + e.nm ∧ (x.2.2 = o ∨ ∃ d ∈ ds, d.lit = some x.1) := by
  obtain ⟨k1, e', v', k2, o, q1, q2, q3, q4, q5, q6, q7⟩ := h.pe x hx
  obtain ⟨g1, g2, g3⟩ := id_pos hds (log_split h.split q1) (log_split h.split hl) (by rw [← q5, hid])
  have hlen : k1.length = l1.length := by simpa using congrArg List.length g1
  have := List.append_inj (q1.symm.trans hl) hlen
  simp only [List.cons.injEq, Prod.mk.injEq] at this
  obtain ⟨rfl, ⟨rfl, rfl⟩, rfl⟩ := this
  exact ⟨o, q2, q3, q4, q6, q7⟩

theorem PendR.congr {prot' : Nat → Option Obj} {r : Rho} {X X' : Nat → Bool} {ob ob' : Nat × Nat × AObj → AObj} {pend : List (Nat × Nat × AObj)} (hp : PendR P prot prot' w0 r X ob pend) (h : ∀ x ∈ pend, X' x.1 = true → X x.1 = true) (hob : ∀ x ∈ pend, X' x.1 = true → ob' x = ob x) : PendR P prot prot' w0 r X' ob' pend :=
  ⟨fun x hx hX => by rw [hob x hx hX]; exact hp.has x hx (h x hx hX), fun x hx y hy hX hY => hp.ne x hx y hy (h x hx hX) (h y hy hY)⟩

theorem or_false_of {a b : Bool} (h : (a || b) = false) : a = false := by cases a <;> simp_all

theorem nd_of_cls {oper : Oper} {i : I} (h : comp1 P oper.op = some i) (hc : i.cls ≠ .other) : ∀ c, oper.op ≠ .defer c := by
  intro c hd
  rw [hd] at h
  obtain ⟨callee, as, ats⟩ := c
  cases callee <;> simp [comp1] at h
  subst h
  exact hc rfl

theorem putAll_defers (a : Act) (l : List (DO × Value)) : (putAll a l).defers = a.defers := by
  induction l generalizing a with
  | nil => rfl
  | cons e l ih =>
    obtain ⟨d, v⟩ := e
    simp only [putAll]; rw [ih]
    cases d.o.dst <;> rfl

theorem putAll_env {ds : List DO} {t : Nat} (hn : ∀ d ∈ ds, d.o.dst ≠ some t) : ∀ (l : List (DO × Value)) (a : Act), (∀ e ∈ l, e.1 ∈ ds) → (putAll a l).env[t]? = a.env[t]?
  | [], a, _ => rfl
  | (d, v) :: l, a, h => by
    simp only [putAll]
    rw [putAll_env hn l _ fun e he => h e (by simp [he])]
    have h1 := hn d (h (d, v) (by simp))
    cases hd : d.o.dst with
    | none => rfl
    | some u =>
      have hne : u ≠ t := fun e => h1 (by rw [hd, e])
      simp only [Act.put, List.getElem?_set_ne hne]
theorem forget_env {t : Nat} {v : Value} : ∀ (ds : List DO) (env : List Value), (forget ds env)[t]? = some v → v = undef ∨ ((∀ d ∈ ds, d.o.dst ≠ some t) ∧ env[t]? = some v)
  | [], env, h => .inr ⟨by simp, h⟩
  | d :: ds, env, h => by
    unfold forget at h
    cases hd : d.o.dst with
    | none =>
      rw [hd] at h
      rcases forget_env ds env h with e | ⟨h1, h2⟩
      · exact .inl e
      · refine .inr ⟨fun x hx => ?_, h2⟩
        rcases List.mem_cons.1 hx with rfl | hx
        · rw [hd]; simp
        · exact h1 x hx
    | some u =>
      rw [hd] at h
      rcases forget_env ds (env.set u undef) h with e | ⟨h1, h2⟩
      · exact .inl e
      · by_cases hu : u = t
        · subst hu
          left
          rw [List.getElem?_set] at h2
          simp only [if_true] at h2
          split at h2
          · exact (Option.some.inj h2).symm
          · cases h2
        · rw [List.getElem?_set_ne hu] at h2
          refine .inr ⟨fun x hx => ?_, h2⟩
          rcases List.mem_cons.1 hx with rfl | hx
          · rw [hd]; intro e; exact hu (Option.some.inj e)
          · exact h1 x hx
theorem pan_forget {r : Rho} {ds : List DO} {a0 : Act} {l l2 : List (DO × Value)} {A : Go.Act} (h1 : ∀ e ∈ l, e.1 ∈ ds) (h2 : ∀ e ∈ l2, e.1 ∈ ds) (h : ActR P r ro (putAll a0 l2) A) : PanR P r { putAll a0 l with env := forget ds (putAll a0 l).env } A := by
  refine ⟨fun i v hv => ?_, by have := h.df; rw [putAll_defers] at this; simp only [putAll_defers]; exact this⟩
  rcases forget_env ds _ hv with e | ⟨hn, he⟩
  · exact .inl e
  · right
    rw [putAll_env hn l a0 h1, ← putAll_env hn l2 a0 h2] at he
    obtain ⟨v', e', k⟩ := h.env.get? he
    exact ⟨v', by rw [← Array.getElem?_toList]; exact e', k⟩

/-- the model does what the abstract run has done -/
theorem pend_step (hds : DSpec P opers is ds) {X : Nat → Bool} {log : List (DO × Value)} {rest : List DO} {S : AS} {pend : List (Nat × Nat × AObj)} {rds : List (DO × Act × Value)} {r : Rho} {A : Go.Act} {w : World}
    (h : AInv call ds n0 a0 Q X log rest S pend rds) (hc : CInv P prot w0 ro r0 ds n0 (nTakes is) a0 X log S pend r A w) (hdown : ∀ e ∈ ds, X e.id = true → ∀ m, e.bef.testBit m = true → X m = true)
    {l1 l2 : List (DO × Value)} {e : DO} {v : Value} (hl : log = l1 ++ (e, v) :: l2) (hX : X e.id = false) (hbef : ∀ m, e.bef.testBit m = true → X m = true) {K : Go.Act → World → Prop} {QX : Exit → Go.Act → World → Prop}
    (hK : ∀ r' A' w', CInv P prot w0 ro r0 ds n0 (nTakes is) a0 (fun k => X k || decide (k = e.id)) log S pend r' A' w' → K A' w') : wpOpIn (fw ro) 0 P opers QX e.id K A w := by
  have hsp := log_split h.split hl
  have hmem : e ∈ ds := by rw [hsp]; simp
  obtain ⟨oper, ho, hco⟩ := hds.mem e hmem
  obtain ⟨hdst, hc1, hg, hops⟩ := comp2_spec hco
  have hag : Agree e.o (putAll a0 l1) (putAll a0 (log.filter fun e => X e.1.id)) := by
    rw [hl, filter_skip (X := X) hX]; exact agree hds hsp hX hbef hdown
  have hput : putAll a0 (log.filter fun x => X x.1.id || decide (x.1.id = e.id)) = (putAll a0 (log.filter fun e => X e.1.id)).put e.o.dst v := by
    have := log_put (a0 := a0) (v := v) hds hsp hX hdown
    rw [← filter_skip (v := v) (X := X) hX, ← hl] at this
    exact this
  have hA' : ∀ r' v', r.le r' → VR P r' v v' → ActR P r' ro (putAll a0 (log.filter fun x => X x.1.id || decide (x.1.id = e.id))) (A.put oper.dst v') := fun r' v' hle hv => by
    rw [hput, ← hdst]; exact (hc.act.mono hle).put _ hv
  obtain ⟨prot', hpp, hR, hP⟩ := hc.rel
  have nop : ¬ (wants (putAll a0 l1) e.o.guard = true ∧ e.cls = .new) → ∀ x ∈ pend, (X x.1 || decide (x.1 = e.id)) = true → X x.1 = true := by
    intro hn x hx hXx
    simp only [Bool.or_eq_true, decide_eq_true_eq] at hXx
    rcases hXx with hXx | hid
    · exact hXx
    · obtain ⟨_, q1, q2, _⟩ := pend_pos hds h hl hx hid
      exact absurd ⟨q1, q2⟩ hn
  have hat : e.lit = none → ∀ x ∈ pend, (X x.1 || decide (x.1 = e.id)) = true → atX ds (fun k => X k || decide (k = e.id)) x = atX ds X x := fun hn x _ _ => atX_more hds hmem (by rw [hn]; simp)
  have hnx := hc.nx
  unfold wpOpIn
  simp only [ho]
  rw [wants_eq hg hc.act, ← hag.wants]
  rcases h.pf l1 e v l2 hl hX with ⟨hw, rfl⟩ | ⟨hw, hcase⟩
  · rw [if_neg (by simp [hw])]
    refine ⟨fun _ _ => trivial, ?_⟩
    have hln : e.lit = none := by
      cases hle : e.lit with
      | none => rfl
      | some i =>
        rw [(hds.lit e hmem i hle).1] at hw
        cases hw
    exact hK r _ w ⟨hA' r undef (.refl r) VR.undef, ⟨prot', hpp, hR, hP.congr (nop (by simp [hw])) (hat hln)⟩, hc.ext, hc.nx, fun d hd ht hXd => hc.fre d hd ht (or_false_of hXd)⟩
  · rw [if_pos hw]
    unfold Oper.wpIn
    refine ⟨fun _ _ => trivial, ?_⟩
    have hcls : ∀ c, oper.op ≠ .defer c := by
      rcases hcase with ⟨hcl, _⟩ | ⟨hcl, _⟩ | ⟨hcl, _⟩ | ⟨hcl, _, i, n, o', _, _, hlo⟩
      · exact nd_of_cls hc1 (by rw [(DO.cls_eq hcl (by simp)).2]; simp)
      · exact nd_of_cls hc1 (by rw [(DO.cls_eq hcl (by simp)).2]; simp)
      · exact nd_of_cls hc1 (by rw [(DO.cls_eq hcl (by simp)).2]; simp)
      · intro c hd
        rw [hd] at hc1
        obtain ⟨callee, as, ats⟩ := c
        cases callee <;> simp [comp1] at hc1
        unfold litO at hlo
        simp only [← hc1] at hlo
        cases hlo
    rw [Oper.semAt_eq (fw ro).round A.eval oper hcls]
    rcases hcase with ⟨hcl', S1, S2, he⟩ | ⟨hcl', hrd⟩ | ⟨hcl', o, o', hnv, hpm⟩ | ⟨hcl', rfl, i, n, o', hi, hpm, hlo⟩
    · obtain ⟨hln, hcl⟩ := DO.cls_eq hcl' (by simp)
      rw [eval_congr hag.ev] at he
      obtain ⟨_, v', hrun, hv⟩ := simP (w := w) oper hc1 hcl hops hc.act.ev (pure_any hcl he 0 S)
      rw [hrun]
      exact hK r _ w ⟨hA' r v' (.refl r) hv, ⟨prot', hpp, hR, hP.congr (nop (by simp [hcl'])) (hat hln)⟩, hc.ext, hc.nx, fun d hd ht hXd => hc.fre d hd ht (or_false_of hXd)⟩
    · obtain ⟨hln, hcl⟩ := DO.cls_eq hcl' (by simp)
      rcases h.rd _ hrd with hb | ⟨S1, he⟩
      · simp only at hb; rw [hX] at hb; cases hb
      · simp only at he
        rw [eval_congr hag.ev, eval_fr (read_takes hcl) _ 0 S.next] at he
        have hS : S1 = S := by
          rcases evalRead hcl (putAll a0 (log.filter fun e => X e.1.id)).ev S.next S with ⟨u, k⟩ | k
          · rw [k] at he; cases he; rfl
          · rw [k] at he; cases he
        subst hS
        obtain ⟨u, v', S2, r1, w1, hq, hrun, hv, hle, hkeep, hnext, hR1⟩ := simAll (Q := fun x => x = (v, S1)) oper hc1 hops hc.act.ev hR (fun ht => by rw [read_takes hcl] at ht; cases ht) (by rw [he]; rfl)
        cases hq
        have fin := hK r1 _ w1 ⟨hA' r1 v' hle hv, ⟨prot', hpp, hR1, (hP.mono (w1 := w1) hle).congr (nop (by simp [hcl'])) (hat hln)⟩, ⟨hc.ext.1.trans hle, fun m hm e0 => hkeep m (by omega) (hc.ext.2 m hm e0)⟩, hc.nx,
          fun d hd ht hXd => hkeep _ (by have := hds.nm d hd ht; omega) (hc.fre d hd ht (or_false_of hXd))⟩
        rcases hrun with hrun | ⟨hrun, rfl⟩
        · rw [hrun]; exact fin
        · rw [hrun]; exact fin
    · obtain ⟨hln, hcl⟩ := DO.cls_eq hcl' (by simp)
      rw [newV_congr hag.ev] at hnv
      have hfre := hc.fre e hmem (new_takes hcl) hX
      have hnm := hds.nm e hmem (new_takes hcl)
      obtain ⟨u, v', S2, r1, w1, hq, hrun, hv, hle, hkeep, hnext, hR1⟩ := simAll (fr := n0 + e.nm) (Q := fun x => x = (v, S.put (n0 + e.nm) o)) oper hc1 hops hc.act.ev hR (fun _ => ⟨hfre, by omega⟩)
        (by rw [new_eval hcl, hnv]; rfl)
      cases hq
      have hown := newV_own hnv
      obtain ⟨L, obj, hL, hobj, hpn, hhi, hR2⟩ := hR1.unlay hown (fun p hp => by
        rcases hR.live _ p hp with e' | ⟨M, _, hM, _⟩
        · exact e'
        · rw [hfre] at hM; cases hM)
      have hpn0 : prot L.b = none := by
        cases e0 : prot L.b with
        | none => rfl
        | some q => rw [hpp _ _ e0] at hpn; cases hpn
      have hpos : ∀ x ∈ pend, (X x.1 || decide (x.1 = e.id)) = true → X x.1 = true ∨ (x.2.1 = n0 + e.nm ∧ atX ds (fun k => X k || decide (k = e.id)) x = o) := by
        intro x hx hXx
        simp only [Bool.or_eq_true, decide_eq_true_eq] at hXx
        rcases hXx with hXx | hid
        · exact .inl hXx
        · obtain ⟨o2, _, _, q3, q4, q5⟩ := pend_pos hds h hl hx hid
          rw [newV_congr hag.ev, hnv] at q3
          cases q3
          refine .inr ⟨q4, ?_⟩
          by_cases hlit : ∃ d ∈ ds, d.lit = some x.1
          · obtain ⟨d, hd, hdl⟩ := hlit
            obtain ⟨_, g2, e1, g3, g4, _, g5⟩ := hds.lit d hd _ hdl
            have := hds.uniq g3 hmem (g4.trans hid)
            subst this
            rw [g5] at hnv
            have hon : o = .map [] 0 := by
              simp only [I.newV, Option.some.injEq, Prod.mk.injEq] at hnv
              exact hnv.2.symm
            have hdX : X d.id = false := by
              cases hdx : X d.id with
              | false => rfl
              | true =>
                have := hdown d hd hdx _ g2
                rw [hid, hX] at this; cases this
            have hde : d.id ≠ e1.id := by
              intro h'
              have := hds.uniq hd g3 h'
              subst this
              rw [hln] at hdl; cases hdl
            rw [hon]
            exact atX_empty hd hdl (by simp [hdX, hde])
          · rcases q5 with q5 | q5
            · rw [← q5]
              exact atX_full fun d hd hdl => absurd ⟨d, hd, hdl⟩ hlit
            · exact absurd q5 hlit
      have old : ∀ x ∈ pend, X x.1 = true → ∃ M ob, r1 x.2.1 = some M ∧ prot' M.b = some ob ∧ ObjR P r1 M (atX ds (fun k => X k || decide (k = e.id)) x) ob ∧ prot M.b = none ∧ w0.heap.size ≤ M.b ∧ (atX ds (fun k => X k || decide (k = e.id)) x).own = true ∧ M.b ≠ L.b := by
        intro x hx hXx
        obtain ⟨M, ob, q1, q2, q3, q4, q5, q6⟩ := (hP.mono (w1 := w1) hle).has x hx hXx
        rw [hat hln x hx (by simp [hXx])]
        exact ⟨M, ob, q1, q2, q3, q4, q5, q6, fun e0 => by rw [e0, hpn] at q2; cases q2⟩
      have fin := hK r1 _ w1 ⟨hA' r1 v' hle hv, ⟨_, fun b q hb => ?_, hR2, ⟨fun x hx hXx => ?_, fun x hx y hy hXx hXy hne M M' hM hM' => ?_⟩⟩, ⟨hc.ext.1.trans hle, fun m hm e0 => hkeep m (by omega) (hc.ext.2 m hm e0)⟩, hc.nx,
          fun d hd ht hXd => ?_⟩
      · rcases hrun with hrun | ⟨hrun, rfl⟩
        · rw [hrun]; exact fin
        · rw [hrun]; exact fin
      · show (if b = L.b then some obj else prot' b) = some q
        rw [if_neg]
        · exact hpp b q hb
        · rintro rfl; rw [hpn0] at hb; cases hb
      · rcases hpos x hx hXx with hXx | ⟨h1, h2⟩
        · obtain ⟨M, ob, q1, q2, q3, q4, q5, q6, q7⟩ := old x hx hXx
          exact ⟨M, ob, q1, by show (if M.b = L.b then some obj else prot' M.b) = some ob; rw [if_neg q7]; exact q2, q3, q4, q5, q6⟩
        · exact ⟨L, obj, by rw [h1]; exact hL, by show (if L.b = L.b then some obj else prot' L.b) = some obj; rw [if_pos rfl], by rw [h2]; exact hobj, hpn0, hhi, by rw [h2]; exact hown⟩
      · rcases hpos x hx hXx with hXx | ⟨h1, h2⟩ <;> rcases hpos y hy hXy with hXy | ⟨h3, h4⟩
        · exact (hP.mono (w1 := w1) hle).ne x hx y hy hXx hXy hne M M' hM hM'
        · obtain ⟨N, ob, q1, q2, q3, q4, q5, q6, q7⟩ := old x hx hXx
          rw [hM] at q1; cases q1
          rw [h3, hL] at hM'; cases hM'
          exact q7
        · obtain ⟨N, ob, q1, q2, q3, q4, q5, q6, q7⟩ := old y hy hXy
          rw [hM'] at q1; cases q1
          rw [h1, hL] at hM; cases hM
          exact Ne.symm q7
        · exact absurd (h1.trans h3.symm) hne
      · simp only [Bool.or_eq_false_iff, decide_eq_false_iff_not] at hXd
        refine hkeep _ ?_ (hc.fre d hd ht hXd.1)
        have := hds.nms d hd e hmem hXd.2 ht (new_takes hcl)
        omega
    · -- an entry of a map that has been made
      obtain ⟨hgn, hbi, e0, he0, he0i, he0l, he0m⟩ := hds.lit e hmem i hi
      have hXi : X i = true := hbef i hbi
      obtain ⟨L, obj, hL, hpl, hob, hpn, hhi, hown⟩ := hP.has (i, n, o') hpm hXi
      rw [atX_empty hmem hi hX] at hob hown
      simp only at hL
      have hfree : ∀ m p M, S.get m = some p → p ≠ .dead → r m = some M → M.b ≠ L.b := by
        intro m p M hm hp hM
        cases hpo : p.own with
        | true => exact (hR.prot _ _ hpl).2 m p M hm hpo hM
        | false =>
          have := (hR.ro m p M hm hp hM).2 hpo
          omega
      have hRl : Rel P (fun b => if b = L.b then none else prot' b) w0 r (S.put n (.map [] 0)) w := by
        refine (hR.weak (prot := fun b => if b = L.b then none else prot' b) fun b q hq => ?_).lay hL (hR.prot _ _ hpl).1 hob hown hhi (fun m p M hm hp _ hM => hfree m p M hm hp hM) (fun q hq => ?_)
        · split at hq
          · cases hq
          · exact hq
        · rw [if_pos rfl] at hq; cases hq
      rw [litO_congr hag.ev] at hlo
      obtain ⟨hev, hown', htk⟩ := litO_eval hlo S.next S
      obtain ⟨u, v', S2, r1, w1, hq, hrun, hv, hle, hkeep, hnext, hR1⟩ := simAll (Q := fun x => x = (undef, (S.put n (.map [] 0)).put n o')) oper hc1 hops hc.act.ev hRl (fun ht => by rw [htk] at ht; cases ht) (by rw [hev]; rfl)
      cases hq
      have hR1' : Rel P (fun b => if b = L.b then none else prot' b) w0 r1 (S.put n o') w1 := hR1.get_ext (fun m => by
        by_cases hm : m = n
        · subst hm; simp
        · rw [AS.get_put_ne _ _ hm, AS.get_put_ne _ _ hm, AS.get_put_ne _ _ hm]) (by simp)
      obtain ⟨L1, obj1, hL1, hobj1, _, hhi1, hR2⟩ := hR1'.unlay hown' (fun p hp => by
        by_cases hpd : p = .dead
        · exact hpd
        · exact absurd rfl (hfree n p L hp hpd hL))
      have hLL : L1 = L := by
        have := hle _ _ hL
        rw [hL1] at this; cases this; rfl
      subst hLL
      have hpX : ∀ x ∈ pend, (X x.1 || decide (x.1 = e.id)) = true → X x.1 = true := nop (by rw [hcl']; simp)
      have hxe : ∀ x ∈ pend, x.1 = i → x = (i, n, o') := by
        intro x hx hxi
        by_cases hxx : x = (i, n, o')
        · exact hxx
        · have hpw : ∀ {l : List (Nat × Nat × AObj)}, l.Pairwise (fun x y => x.1 ≠ y.1 ∧ x.2.1 ≠ y.2.1) → ∀ x ∈ l, ∀ y ∈ l, x.1 = y.1 → x = y := by
            intro l
            induction l with
            | nil => intro _ x hx; simp at hx
            | cons z l ih =>
              intro hp x hx y hy hxy
              have hp' := List.pairwise_cons.1 hp
              rcases List.mem_cons.1 hx with hx1 | hx1 <;> rcases List.mem_cons.1 hy with hy1 | hy1
              · rw [hx1, hy1]
              · exact absurd (by rw [← hx1]; exact hxy) (hp'.1 y hy1).1
              · exact absurd (by rw [← hy1]; exact hxy.symm) (hp'.1 x hx1).1
              · exact ih hp'.2 x hx1 y hy1 hxy
          exact hpw h.pu x hx _ hpm hxi
      have hnew : atX ds (fun k => X k || decide (k = e.id)) (i, n, o') = o' := atX_full fun d hd hdl => by
        have := hds.lit1 e hmem d hd i hi hdl
        simp [this]
      have oldb : ∀ x ∈ pend, X x.1 = true → x.1 ≠ i → ∀ M, r x.2.1 = some M → M.b ≠ L1.b := by
        intro x hx hXx hxi M hM
        exact hP.ne x hx (i, n, o') hpm hXx hXi (pw_ne h.pu x hx _ hpm hxi) M L1 hM hL
      have hlt : ∀ m, m < S.next → m < (S.put n (.map [] 0)).next := fun m hm => by simpa using hm
      have fin := hK r1 _ w1 ⟨hA' r1 v' hle hv, ⟨_, fun b q hb => ?_, hR2, ⟨fun x hx hXx => ?_, fun x hx y hy hXx hXy hne M M' hM hM' => ?_⟩⟩, ⟨hc.ext.1.trans hle, fun m hm e0 => hkeep m (by omega) (hc.ext.2 m hm e0)⟩, hc.nx,
          fun d hd ht hXd => ?_⟩
      · rcases hrun with hrun | ⟨hrun, rfl⟩
        · rw [hrun]; exact fin
        · rw [hrun]; exact fin
      · show (if b = L1.b then some obj1 else if b = L1.b then none else prot' b) = some q
        have : b ≠ L1.b := by rintro rfl; rw [hpn] at hb; cases hb
        rw [if_neg this, if_neg this]
        exact hpp b q hb
      · have hXx' := hpX x hx hXx
        by_cases hxi : x.1 = i
        · rw [hxe x hx hxi, hnew]
          exact ⟨L1, obj1, hL1, by show (if L1.b = L1.b then some obj1 else _) = some obj1; rw [if_pos rfl], hobj1, hpn, hhi, hown'⟩
        · obtain ⟨M, ob, q1, q2, q3, q4, q5, q6⟩ := hP.has x hx hXx'
          have hMb := oldb x hx hXx' hxi M q1
          have hax := atX_more (X := X) hds hmem (x := x) (by rw [hi]; simpa using Ne.symm hxi)
          rw [hax]
          exact ⟨M, ob, hle _ _ q1, by show (if M.b = L1.b then some obj1 else if M.b = L1.b then none else prot' M.b) = some ob; rw [if_neg hMb, if_neg hMb]; exact q2, q3.mono hle, q4, q5, q6⟩
      · exact (hP.mono (w1 := w1) hle).ne x hx y hy (hpX x hx hXx) (hpX y hy hXy) hne M M' hM hM'
      · have hXd' := or_false_of hXd
        refine hkeep _ ?_ (hc.fre d hd ht hXd')
        have h1 := hds.nm d hd ht
        omega

theorem still_spec {S : AS} {mask : Nat} : ∀ {rds : List (DO × Act × Value)}, still S mask rds = true → ∀ x ∈ rds, mask.testBit x.1.id = true ∨ ∃ S1, x.1.o.i.eval x.2.1.ev 0 S = .ret (x.2.2, S1)
  | [], _, x, hx => by simp at hx
  | (d, a, v) :: rest, h, x, hx => by
    simp only [still, Bool.and_eq_true, Bool.or_eq_true] at h
    rcases List.mem_cons.1 hx with rfl | hx
    · rcases h.1 with h | h
      · exact .inl h
      · right
        split at h
        · rename_i v' S' he
          simp only [decide_eq_true_eq] at h; subst h
          exact ⟨S', he⟩
        · cases h
    · exact still_spec h.2 x hx

/-- the model does what the abstract run has waited for -/
theorem other_step (hcall : CallOK P w0 call) (hds : DSpec P opers is ds) {X : Nat → Bool} {log : List (DO × Value)} {d : DO} {rest : List DO} {S : AS} {pend : List (Nat × Nat × AObj)}
    {rds : List (DO × Act × Value)} {r : Rho} {A : Go.Act} {w : World}
    (h : AInv call ds n0 a0 Q X log (d :: rest) S pend rds) (hoth : d.cls = .other) (hc : CInv P prot w0 ro r0 ds n0 (nTakes is) a0 X log S pend r A w) (hdown : ∀ e ∈ ds, X e.id = true → ∀ m, e.bef.testBit m = true → X m = true)
    (hX : X d.id = false) (hbef : ∀ m, d.bef.testBit m = true → X m = true) {K : Go.Act → World → Prop} {QX : Exit → Go.Act → World → Prop}
    (hK : ∀ log' S' pend' r' A' w', AInv call ds n0 a0 Q (fun k => X k || decide (k = d.id)) log' rest S' pend' rds → CInv P prot w0 ro r0 ds n0 (nTakes is) a0 (fun k => X k || decide (k = d.id)) log' S' pend' r' A' w' → K A' w')
    (hQX : ∀ e A' w', QC P prot w0 ro r0 n0 Q e A' w' → QX e A' w') : wpOpIn (fw ro) 0 P opers QX d.id K A w := by
  have hsp : ds = log.map (·.1) ++ d :: (([] : List (DO × Value)).map (·.1) ++ rest) := h.split
  have hmem : d ∈ ds := by rw [hsp]; simp
  obtain ⟨oper, ho, hco⟩ := hds.mem d hmem
  obtain ⟨hdst, hc1, hg, hops⟩ := comp2_spec hco
  have hag : Agree d.o (putAll a0 log) (putAll a0 (log.filter fun e => X e.1.id)) := by
    have := agree (a0 := a0) hds hsp hX hbef hdown
    simpa using this
  obtain ⟨prot', hpp, hR, hP⟩ := hc.rel
  have hnx := hc.nx
  obtain ⟨hi1, hi2⟩ := ids_ne hds hsp
  have hlogX : (log.filter fun x => X x.1.id || decide (x.1.id = d.id)) = log.filter fun x => X x.1.id := by
    apply List.filter_congr
    intro e he
    have := hi1 e.1 (List.mem_map_of_mem he)
    simp [this]
  have hsnoc : ∀ v, putAll a0 ((log ++ [(d, v)]).filter fun x => X x.1.id || decide (x.1.id = d.id)) = (putAll a0 (log.filter fun x => X x.1.id)).put d.o.dst v := fun v => by
    rw [List.filter_append, hlogX]
    simp only [List.filter_cons, decide_true, Bool.or_true, if_true, List.filter_nil]
    exact putAll_snoc _ _ _ _
  -- the abstract facts afterwards
  have hinv : ∀ (v : Value) (S' : AS) (pend' : List (Nat × Nat × AObj)), (drawOs call ds rest n0 ((putAll a0 log).put d.o.dst v) S' pend' rds).all Q →
      (∀ x ∈ pend', x ∈ pend) → (∀ x ∈ pend, (X x.1 = false ∨ ∃ e ∈ ds, e.lit = some x.1 ∧ X e.id = false) → x ∈ pend') → (∀ x ∈ rds, X x.1.id = true ∨ ∃ S1, x.1.o.i.eval x.2.1.ev 0 S' = .ret (x.2.2, S1)) →
      pend'.Pairwise (fun x y => x.1 ≠ y.1 ∧ x.2.1 ≠ y.2.1) → AInv call ds n0 a0 Q (fun k => X k || decide (k = d.id)) (log ++ [(d, v)]) rest S' pend' rds := by
    intro v S' pend' hrun hsub hkeep hrd hpu
    refine ⟨by rw [hsp]; simp, by rw [putAll_snoc]; exact hrun, fun i hi => ?_, fun e he ho => ?_, fun l1 e u l2 hl hXe => ?_, fun x hx => ?_, fun x hx => ?_, hpu⟩
    · simp only [Bool.or_eq_true, decide_eq_true_eq] at hi
      rcases hi with hi | rfl
      · obtain ⟨e, he, q⟩ := h.sub i hi
        exact ⟨e, by simp [he], q⟩
      · exact ⟨(d, v), by simp, rfl⟩
    · rcases List.mem_append.1 he with he | he
      · simp [h.oth e he ho]
      · simp at he; subst he; simp
    · simp only [Bool.or_eq_false_iff, decide_eq_false_iff_not] at hXe
      rcases snoc_split hl with ⟨rfl, rfl, q⟩ | ⟨l2', rfl, q⟩
      · cases q; exact absurd rfl hXe.2
      · refine (h.pf l1 e u l2' q hXe.1).mono (fun x hx hid => ⟨x.2.2, hkeep x hx (.inl (by rw [hid]; exact hXe.1))⟩) (fun x hx hlx => hkeep x hx (.inr ⟨e, ?_, hlx, hXe.1⟩)) (fun _ h => h)
        rw [hsp, q]; simp
    · rcases hrd x hx with h | h
      · exact .inl (by simp [h])
      · exact .inr h
    · obtain ⟨l1, e, u, l2, o, k1, k2⟩ := h.pe x (hsub x hx)
      exact ⟨l1, e, u, l2 ++ [(d, v)], o, by rw [k1]; simp, k2⟩
  have hdl : d.lit = none := (DO.cls_eq hoth (by simp)).1
  have hat : ∀ x ∈ pend, (X x.1 || decide (x.1 = d.id)) = true → atX ds (fun k => X k || decide (k = d.id)) x = atX ds X x := fun x _ _ => atX_more hds hmem (by rw [hdl]; simp)
  have hfull : ∀ x ∈ pend, d.bef.testBit x.1 = true → atX ds X x = x.2.2 := fun x hx hb => atX_full fun e he hel => hbef _ (hds.lit2 e he _ hel d hmem hoth hb)
  have hcX : ∀ x ∈ pend, (X x.1 || decide (x.1 = d.id)) = true → X x.1 = true := by
    intro x hx hXx
    simp only [Bool.or_eq_true, decide_eq_true_eq] at hXx
    rcases hXx with hXx | hid
    · exact hXx
    · obtain ⟨l1, e, u, l2, _, k1, _, _, _, k5, _⟩ := h.pe x hx
      exact absurd (k5.symm.trans hid) (hi1 e (by rw [k1]; simp))
  have hrun := h.run
  rw [drawOs] at hrun
  unfold wpOpIn
  simp only [ho]
  rw [wants_eq hg hc.act, ← hag.wants]
  split at hrun
  · rename_i hw
    rw [if_pos hw]
    simp only [hoth] at hrun
    rw [T.all_bind] at hrun
    have hstep := stepO_congr (hds.nod d hmem) hag.ev hrun
    have hmaskX : ∀ i, d.bef.testBit i = true → X i = true := hbef
    have hR2 := lay_rel hmaskX hR pend hP hfull h.pu
    have hle2 := unprot_le hmaskX hP hpp
    have hP2 := pend_rest hmaskX hP h.pu
    have hf := flush_eq d.bef S pend
    rw [hf] at hstep
    simp only at hstep
    have hln := layIf_next (fun i => d.bef.testBit i) S pend
    refine stepO_wp hcall hco hstep hc.act hR2 ?_ ?_ ?_
    · intro ht
      have := hds.nm d hmem ht
      exact ⟨hc.fre d hmem ht hX, by rw [hln]; omega⟩
    · intro a1 S1 r1 A1 w1 q1 q2 q3 q4 q5 q6
      rw [hln] at q3 q4
      rcases q1 with ⟨_, v, ha1, hq⟩ | ⟨p, hp, _⟩
      · simp only at ha1 hq
        split at hq
        · rename_i hst
          refine hK _ S1 _ r1 A1 w1 (hinv v S1 _ hq (fun x hx => ?_) (fun x hx hXx => ?_) (fun x hx => ?_) ?_) ⟨?_, ⟨_, hle2, q6, ?_⟩, ⟨hc.ext.1.trans q2, fun m hm e0 => q3 m (by omega) (fun _ => by omega) (hc.ext.2 m hm e0)⟩, by omega, fun e he ht hXe => ?_⟩
          · exact (List.mem_filter.1 hx).1
          · refine List.mem_filter.2 ⟨hx, ?_⟩
            cases hb : d.bef.testBit x.1 with
            | false => rfl
            | true =>
              rcases hXx with hXx | ⟨e, he, hel, hXe⟩
              · rw [hbef _ hb] at hXx; cases hXx
              · rw [hbef _ (hds.lit2 e he _ hel d hmem hoth hb)] at hXe; cases hXe
          · rcases still_spec hst x hx with hb | hb
            · exact .inl (hbef _ hb)
            · exact .inr hb
          · exact h.pu.filter _
          · rw [hsnoc, ← ha1]; exact q5
          · exact (hP2.mono (w1 := w1) q2).congr (fun x hx => hcX x (List.mem_filter.1 hx).1) (fun x hx => hat x (List.mem_filter.1 hx).1)
          · simp only [Bool.or_eq_false_iff, decide_eq_false_iff_not] at hXe
            refine q3 _ (by have := hds.nm e he ht; omega) (fun ht' => ?_) (hc.fre e he ht hXe.1)
            have := hds.nms e he d hmem hXe.2 ht ht'
            omega
        · exact hq.elim
      · cases hp
    · intro v a1 S1 r1 v' w1 q0 q1 q2 q3 q4 q5 q6
      rw [hln] at q3 q4
      rcases q1 with ⟨hp, _⟩ | ⟨p, hp, hq⟩
      · cases hp
      · simp only at hp hq
        cases hp
        exact hQX _ _ _ ⟨_, _, S1, r1, hq, .panic _ _ q5, ⟨hc.ext.1.trans q2, fun m hm e0 => q3 m (by omega) (fun _ => by omega) (hc.ext.2 m hm e0)⟩, by omega, pan_forget (fun e he => by rw [h.split]; exact List.mem_append_left _ (List.mem_map_of_mem he)) (fun e he => by rw [h.split]; exact List.mem_append_left _ (List.mem_map_of_mem (List.mem_filter.1 he).1)) (hc.act.mono q2), q6.weak hle2⟩
  · rename_i hw
    rw [if_neg hw]
    refine ⟨fun _ _ => trivial, ?_⟩
    refine hK _ S pend r _ w (hinv undef S pend hrun (fun _ h => h) (fun _ h _ => h) h.rd h.pu) ⟨?_, ⟨prot', hpp, hR, hP.congr hcX hat⟩, hc.ext, hc.nx, fun e he ht hXe => hc.fre e he ht (or_false_of hXe)⟩
    rw [hsnoc, ← hdst]
    exact hc.act.put _ VR.undef

theorem PendR.via {prot' : Nat → Option Obj} {r : Rho} {X : Nat → Bool} {ob : Nat × Nat × AObj → AObj} {pend pend2 : List (Nat × Nat × AObj)} (hp : PendR P prot prot' w0 r X ob pend)
    (k : ∀ x ∈ pend2, X x.1 = true → ∃ y ∈ pend, y.1 = x.1 ∧ y.2.1 = x.2.1 ∧ ob x = ob y) : PendR P prot prot' w0 r X ob pend2 := by
  refine ⟨fun x hx hX => ?_, fun x hx y hy hX hY hne L M hL hM => ?_⟩
  · obtain ⟨z, hz, z1, z2, z3⟩ := k x hx hX
    have := hp.has z hz (by rw [z1]; exact hX)
    rw [z2, ← z3] at this
    exact this
  · obtain ⟨z, hz, z1, z2, _⟩ := k x hx hX
    obtain ⟨u, hu, u1, u2, _⟩ := k y hy hY
    exact hp.ne z hz u hu (by rw [z1]; exact hX) (by rw [u1]; exact hY) (by rw [z2, u2]; exact hne) L M (by rw [z2]; exact hL) (by rw [u2]; exact hM)

theorem exists_first {X : Nat → Bool} : ∀ (l : List DO), (∃ d ∈ l, X d.id = false) → ∃ pre d post, l = pre ++ d :: post ∧ X d.id = false ∧ ∀ e ∈ pre, X e.id = true
  | [], h => by obtain ⟨d, hd, _⟩ := h; simp at hd
  | c :: l, h => by
    cases hc : X c.id with
    | false => exact ⟨[], c, l, rfl, hc, by simp⟩
    | true =>
      obtain ⟨d, hd, hX⟩ := h
      rcases List.mem_cons.1 hd with rfl | hd
      · rw [hc] at hX; cases hX
      · obtain ⟨pre, e, post, h1, h2, h3⟩ := exists_first l ⟨d, hd, hX⟩
        refine ⟨c :: pre, e, post, by rw [h1]; rfl, h2, fun x hx => ?_⟩
        rcases List.mem_cons.1 hx with rfl | hx
        · exact hc
        · exact h3 x hx

/-- all orders -/
theorem draw_any (hcall : CallOK P w0 call) (hds : DSpec P opers is ds) : ∀ (fuel : Nat) (listed : Array Bool) (U : List Nat)
    (log : List (DO × Value)) (rest : List DO) (S : AS) (pend : List (Nat × Nat × AObj)) (rds : List (DO × Act × Value)) (r : Rho) (A : Go.Act) (w : World),
    listed.size = opers.size → (∀ i, i < opers.size → listed.getD i false = false → i ∈ U) → U.length ≤ fuel →
    AInv call ds n0 a0 Q (fun i => listed.getD i false) log rest S pend rds → (rest = [] ∨ ∃ d t, rest = d :: t ∧ d.cls = .other) →
    CInv P prot w0 ro r0 ds n0 (nTakes is) a0 (fun i => listed.getD i false) log S pend r A w → (∀ e ∈ ds, listed.getD e.id false = true → ∀ m, e.bef.testBit m = true → listed.getD m false = true) →
    wpAnyIn (fw ro) 0 P .any opers (QC P prot w0 ro r0 n0 Q) fuel listed A w := by
  intro fuel
  induction fuel with
  | zero =>
    intro listed U log rest S pend rds r A w hsz hU hlen h hhd hc hdown
    have hU0 : U = [] := List.eq_nil_of_length_eq_zero (by omega)
    subst hU0
    have hall : ∀ i, i < opers.size → listed.getD i false = true := fun i hi => by
      cases e : listed.getD i false with
      | true => rfl
      | false => exact absurd (hU i hi e) (by simp)
    have hready : Region.ready .any opers listed = [] := by
      cases hr : Region.ready .any opers listed with
      | nil => rfl
      | cons j l =>
        have hj : j ∈ Region.ready .any opers listed := by rw [hr]; simp
        obtain ⟨h1, o, h2, _⟩ := mem_ready.1 hj
        have hlt := (Array.getElem?_eq_some_iff.1 h2).1
        have := hall j hlt
        have hlt' : j < listed.size := by omega
        simp [hlt'] at h1 this
        rw [h1] at this; cases this
    refine ⟨hready, ?_⟩
    exact fin_ok hds hsz h hc hready hdown
  | succ fuel ih =>
    intro listed U log rest S pend rds r A w hsz hU hlen h hhd hc hdown
    refine ⟨fun hready => fin_ok hds hsz h hc hready hdown, fun i hi => ?_⟩
    obtain ⟨h1, o, h2, hedges⟩ := mem_ready.1 hi
    have hlt := (Array.getElem?_eq_some_iff.1 h2).1
    have hXi : listed.getD i false = false := by
      have hlt' : i < listed.size := by omega
      simp [hlt'] at h1 ⊢; exact h1
    obtain ⟨d, hd, hid⟩ := hds.all i hlt
    have hbef : ∀ m, d.bef.testBit m = true → listed.getD m false = true := by
      intro m hm
      rw [hds.bef d hd, hid, before_spec opers i h2] at hm
      obtain ⟨e, he1, he2, he3⟩ := hm
      have hX := hedges e he1 he2
      rcases he3 with rfl | ⟨hlt2, hb⟩
      · exact hX
      · obtain ⟨d', hd', hid'⟩ := hds.all e.on (by omega)
        exact hdown d' hd' (by rw [hid']; exact hX) m (by rw [hds.bef d' hd', hid']; exact hb)
    have hset : (fun k => (listed.setIfInBounds i true).getD k false) = fun k => listed.getD k false || decide (k = d.id) := by
      funext k
      rw [hid]
      by_cases hk : k = i
      · subst hk
        have hlt' : k < listed.size := by omega
        simp [hlt']
      · simp [Array.getElem?_setIfInBounds_ne (Ne.symm hk), hk]
    have hU' : ∀ k, k < opers.size → (listed.setIfInBounds i true).getD k false = false → k ∈ U.erase i := by
      intro k hk hke
      have := congrFun hset k
      rw [this] at hke
      simp only [Bool.or_eq_false_iff, decide_eq_false_iff_not] at hke
      exact (List.mem_erase_of_ne (by rw [← hid]; exact hke.2)).2 (hU k hk hke.1)
    have hlen' : (U.erase i).length ≤ fuel := by
      rw [List.length_erase_of_mem (hU i hlt hXi)]; omega
    have hdown' : ∀ e ∈ ds, (listed.setIfInBounds i true).getD e.id false = true → ∀ m, e.bef.testBit m = true → (listed.setIfInBounds i true).getD m false = true := by
      intro e he hX m hm
      have e1 := congrFun hset e.id
      have e2 := congrFun hset m
      rw [e1] at hX
      rw [e2]
      simp only [Bool.or_eq_true, decide_eq_true_eq] at hX ⊢
      rcases hX with hX | hX
      · exact .inl (hdown e he hX m hm)
      · refine .inl (hbef m ?_)
        rw [hds.bef d hd, ← hX, ← hds.bef e he]; exact hm
    have hdmem : d ∈ log.map (·.1) ++ rest := by rw [← h.split]; exact hd
    have hXd : listed.getD d.id false = false := by rw [hid]; exact hXi
    rcases List.mem_append.1 hdmem with hdl | hdr
    · obtain ⟨⟨d', v⟩, hmem, rfl⟩ := List.mem_map.1 hdl
      simp only at hid hXd hbef hset
      obtain ⟨l1, l2, hl⟩ := List.append_of_mem hmem
      have := pend_step (QX := QC P prot w0 ro r0 n0 Q) (K := wpAnyIn (fw ro) 0 P .any opers (QC P prot w0 ro r0 n0 Q) fuel (listed.setIfInBounds i true)) hds h hc hdown hl hXd hbef (fun r' A' w' hc' => by
        refine ih (listed.setIfInBounds i true) (U.erase i) log rest S pend rds r' A' w' (by simpa using hsz) hU' hlen' ?_ hhd ?_ hdown'
        · rw [hset]; exact h.more ⟨_, hmem, rfl⟩
        · rw [hset]; exact hc')
      rw [hid] at this
      exact this
    · rcases hhd with hn | ⟨d0, t, hrest, hoth⟩
      · rw [hn] at hdr; simp at hdr
      · subst hrest
        have hsp := h.split
        have hX0 : listed.getD d0.id false = false := by
          cases e : listed.getD d0.id false with
          | false => rfl
          | true =>
            obtain ⟨x, hx, hxe⟩ := h.sub _ e
            exact absurd hxe ((ids_ne hds hsp).1 x.1 (List.mem_map_of_mem hx))
        have hdd : d = d0 := by
          rcases List.mem_cons.1 hdr with e | hdt
          · exact e
          · exfalso
            have hno : d.bef.testBit d0.id = true → False := fun hb => by
              rw [hbef _ hb] at hX0; cases hX0
            rcases hds.oth _ _ _ hsp hoth d hdt with ho | hb
            · rcases hds.pair _ _ _ hsp d hdt with hb | hb
              · exact hno hb
              · exact (swapOK_spec hb).2.2.2 ⟨hoth, ho⟩
            · exact hno hb
        subst hdd
        have := other_step (QX := QC P prot w0 ro r0 n0 Q) (K := wpAnyIn (fw ro) 0 P .any opers (QC P prot w0 ro r0 n0 Q) fuel (listed.setIfInBounds i true)) hcall hds h hoth hc hdown hXd hbef (fun log' S' pend' r' A' w' h' hc' => by
          obtain ⟨log2, rest2, pend2, rds2, k1, k2, k3, k4⟩ := adv hds t log' pend' rds h'
          obtain ⟨prot', p1, p2, p3⟩ := hc'.rel
          refine ih (listed.setIfInBounds i true) (U.erase i) log2 rest2 S' pend2 rds2 r' A' w' (by simpa using hsz) hU' hlen' ?_ k2 ?_ hdown'
          · rw [hset]; exact k1
          · rw [hset]
            exact ⟨by rw [k4]; exact hc'.act, ⟨prot', p1, p2, PendR.via p3 k3⟩, hc'.ext, hc'.nx, hc'.fre⟩)
          (fun _ _ _ h => h)
        rw [hid] at this
        exact this
where
  fin_ok {listed : Array Bool} {log : List (DO × Value)} {rest : List DO} {S : AS} {pend : List (Nat × Nat × AObj)} {rds : List (DO × Act × Value)} {r : Rho} {A : Go.Act} {w : World}
      (hds : DSpec P opers is ds) (hsz : listed.size = opers.size) (h : AInv call ds n0 a0 Q (fun i => listed.getD i false) log rest S pend rds)
      (hc : CInv P prot w0 ro r0 ds n0 (nTakes is) a0 (fun i => listed.getD i false) log S pend r A w) (hready : Region.ready .any opers listed = [])
      (hdown : ∀ e ∈ ds, listed.getD e.id false = true → ∀ m, e.bef.testBit m = true → listed.getD m false = true) : QC P prot w0 ro r0 n0 Q .normal A w := by
    have hall : ∀ d ∈ ds, listed.getD d.id false = true := by
      intro d hd
      cases e : listed.getD d.id false with
      | true => rfl
      | false =>
        exfalso
        obtain ⟨pre, d', post, h1, h2, h3⟩ := exists_first (X := fun i => listed.getD i false) ds ⟨d, hd, e⟩
        have hd' : d' ∈ ds := by rw [h1]; simp
        obtain ⟨oper, ho, _⟩ := hds.mem d' hd'
        have hlt := (Array.getElem?_eq_some_iff.1 ho).1
        have : d'.id ∈ Region.ready .any opers listed := by
          rw [mem_ready]
          refine ⟨?_, oper, ho, fun e he hb => ?_⟩
          · have hlt' : d'.id < listed.size := by omega
            simp [hlt'] at h2 ⊢; exact h2
          · have hbit : d'.bef.testBit e.on = true := by
              rw [hds.bef d' hd', before_spec opers d'.id ho]
              exact ⟨e, he, hb, .inl rfl⟩
            obtain ⟨x, hx, hxe⟩ := hds.up pre d' post h1 _ hbit
            rw [← hxe]; exact h3 x hx
        rw [hready] at this
        simp at this
    have hrest : rest = [] := by
      cases hr : rest with
      | nil => rfl
      | cons d t =>
        exfalso
        have hsp := h.split
        rw [hr] at hsp
        obtain ⟨x, hx, hxe⟩ := h.sub d.id (hall d (by rw [hsp]; simp))
        exact (ids_ne hds hsp).1 x.1 (List.mem_map_of_mem hx) hxe
    have hfil : (log.filter fun e => listed.getD e.1.id false) = log := by
      rw [List.filter_eq_self]
      intro e he
      exact hall e.1 (by rw [h.split]; exact List.mem_append_left _ (List.mem_map_of_mem he))
    have hrun := h.run
    rw [hrest, drawOs] at hrun
    obtain ⟨prot', hpp, hR, hP⟩ := hc.rel
    have hXp : ∀ x ∈ pend, listed.getD x.1 false = true := by
      intro x hx
      obtain ⟨l1, e, u, l2, _, k1, _, _, _, k5, _⟩ := h.pe x hx
      rw [k5]
      exact hall e (by rw [h.split, k1]; simp)
    have hP' : PendR P prot prot' w0 r (fun _ => true) (fun x => x.2.2) pend := hP.congr (fun x hx _ => hXp x hx) (fun x hx _ => (atX_full fun d hd _ => hall d hd).symm)
    have hR2 := lay_rel (X := fun _ => true) (p := fun _ => true) (fun _ h => h) hR pend hP' (fun _ _ _ => rfl) h.pu
    have hle := unprot_le (p := fun _ => true) (fun _ h => h) hP' hpp
    have hact := hc.act
    rw [hfil] at hact
    rw [flushAll_eq] at hrun
    refine ⟨.norm, _, _, r, hrun, .norm, hc.ext, ?_, hact, hR2.weak hle⟩
    rw [layIf_next]
    have := hc.nx
    omega

/-- a region that draws its order -/
theorem draw_ok (hm : P.follows .mixedOrders = true) : DrawOK P w0 := by
  intro call hcall prot ro id opers is ds a S r A w Q his hd h hA hR
  have hds := drawOf_spec his hd
  refine wpIn_region_any hm ?_
  have hX : (fun i => (Array.replicate opers.size false).getD i false) = fun _ => false := by
    funext i
    rw [Array.getD_eq_getD_getElem?, Array.getElem?_replicate]
    split <;> rfl
  have h0 : AInv call ds S.next a Q (fun i => (Array.replicate opers.size false).getD i false) [] ds (S.bump (nTakes is)) [] [] := by
    rw [hX]
    exact ⟨rfl, h, fun i hi => by simp at hi, fun e he => by simp at he, fun l1 e v l2 hl => by simp at hl, fun x hx => by simp at hx, fun x hx => by simp at hx, .nil⟩
  obtain ⟨log, rest, pend, rds, k1, k2, k3, k4⟩ := adv hds ds [] [] [] h0
  refine draw_any hcall hds opers.size _ (List.range opers.size) log rest (S.bump (nTakes is)) pend rds r A _ (by simp) (fun i hi _ => by simpa using hi) (by simp) k1 k2 ?_ ?_
  · refine ⟨by rw [k4]; exact hA, ⟨prot, fun _ _ h => h, (hR.bump _).drawn _, ⟨fun x hx hX' => by obtain ⟨y, hy, _⟩ := k3 x hx hX'; simp at hy, fun x hx y hy hX' => by obtain ⟨z, hz, _⟩ := k3 x hx hX'; simp at hz⟩⟩, .refl _ _, by simp, fun d hd' ht _ => hR.fresh _ (by omega)⟩
  · intro e he hX'
    have := congrFun hX e.id
    rw [this] at hX'; cases hX'
end
end Go.Gx
