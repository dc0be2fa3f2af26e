/-
  Control: from the abstract run to the model's weakest preconditions.
-/
import Derived.Test.YtegjacoooihpgaaGc
import Derived.Orders

set_option linter.all false
set_option linter.deprecated false
set_option linter.unusedSimpArgs false
set_option linter.unusedVariables false

namespace Go.Gx

structure ActR (P : Program) (r : Rho) (a : Act) (A : Go.Act) : Prop where
  env : LR P r a.env A.tmps.toList
  d1 : a.defers = []
  d2 : A.defers = []

inductive ExR (P : Program) (r : Rho) : Ex → Exit → Prop where
  | norm : ExR P r .norm .normal
  | exit (id : Nat) : ExR P r (.exit id) (.exit id)
  | ret : ExR P r .ret .ret
  | panic (v v' : Value) : VR P r v v' → ExR P r (.panic v) (.panic [{ v := v', recovered := false }])

inductive EnR (P : Program) (r : Rho) : En → Ending → Prop where
  | ret (v v' : Value) : VR P r v v' → EnR P r (.ret v) (.returned v')
  | panic (v v' : Value) : VR P r v v' → EnR P r (.panic v) (.panicked [{ v := v', recovered := false }])

def Ext (r r' : Rho) (N : Nat) : Prop := r.le r' ∧ ∀ m, m < N → r m = none → r' m = none
theorem Ext.refl (r : Rho) (N : Nat) : Ext r r N := ⟨.refl r, fun _ _ h => h⟩
theorem Ext.trans {r s t : Rho} {N M : Nat} (h : Ext r s N) (k : Ext s t M) (hN : N ≤ M) : Ext r t N := ⟨h.1.trans k.1, fun m hm e => k.2 m (by omega) (h.2 m hm e)⟩

/-- what the model's end of a piece of code has to do with the abstract one's -/
def QC (P : Program) (prot : Nat → Option Obj) (w0 : World) (r : Rho) (N : Nat) (Q : Ex × Act × AS → Prop) : Exit → Go.Act → World → Prop :=
  fun e A w => ∃ ex a S r', Q (ex, a, S) ∧ ExR P r' ex e ∧ Ext r r' N ∧ N ≤ S.next ∧ (match ex with | .panic _ => A.defers = [] | _ => ActR P r' a A) ∧ Rel P prot w0 r' S w

theorem QC.mono {P : Program} {prot : Nat → Option Obj} {w0 : World} {r s : Rho} {N M : Nat} {Q : Ex × Act × AS → Prop} (h : Ext r s N) (hN : N ≤ M) {e : Exit} {A : Go.Act} {w : World} (k : QC P prot w0 s M Q e A w) : QC P prot w0 r N Q e A w := by
  obtain ⟨ex, a, S, r', h1, h2, h3, h4, h5, h6⟩ := k
  exact ⟨ex, a, S, r', h1, h2, h.trans h3 hN, by omega, h5, h6⟩

/-- a call: the abstract one speaks of the model's -/
def CallOK (P : Program) (w0 : World) (call : Callee → AS → T (En × AS)) : Prop :=
  ∀ (prot : Nat → Option Obj) (k : Nat) (args args' : List Value) (S : AS) (w : World) (r : Rho) (Q : En × AS → Prop), Rel P prot w0 r S w → LR P r args args' → (call (.fn k args) S).all Q →
    (callFunc k args'.toArray).run P w = .ok (.enter k args'.toArray) w ∧
    Calls P k args'.toArray w fun e w' => ∃ en S' r', Q (en, S') ∧ EnR P r' en e ∧ Ext r r' S.next ∧ S.next ≤ S'.next ∧ Rel P prot w0 r' S' w'

section
variable {P : Program} {prot : Nat → Option Obj} {w0 : World}

theorem ActR.put {r : Rho} {a : Act} {A : Go.Act} (h : ActR P r a A) (d : Option Nat) {v v' : Value} (hv : VR P r v v') : ActR P r (a.put d v) (A.put d v') := by
  cases d with
  | none => exact h
  | some d => exact ⟨by simpa [Act.put, Go.Act.put] using h.env.set d hv, h.d1, h.d2⟩
theorem ActR.mono {r s : Rho} {a : Act} {A : Go.Act} (h : ActR P r a A) (k : r.le s) : ActR P s a A := ⟨h.env.mono k, h.d1, h.d2⟩
theorem ActR.ev {r : Rho} {a : Act} {A : Go.Act} (h : ActR P r a A) : ∀ x, okO x = true → VR P r (a.ev x) (A.eval x) := by
  intro x hx
  cases x with
  | tmp t =>
    have := h.env.getD t
    simpa [Act.ev, Go.Act.eval] using this
  | const v => exact VR.closed hx
  | global g => cases hx
  | func f => exact .func f #[] #[] #[] #[] rfl rfl (fun i v v' h => by simp at h) (fun i v v' h => by simp at h)

theorem wants_eq {opers : Array Oper} {o : Oper} {g : Option (Nat × Bool)} (hg : guardOf opers o.guard = some g) {r : Rho} {a : Act} {A : Go.Act} (h : ActR P r a A) : Region.wanted o (yielded opers A.tmps) = wants a g := by
  unfold guardOf at hg
  unfold Region.wanted
  split at hg
  · rename_i hn; cases hg; rw [hn]; rfl
  · rename_i j b hj
    split at hg
    · rename_i d hd
      cases hg
      rw [hj]
      simp only [wants, yielded, hd, Option.bind_some]
      cases e : a.env[d]? with
      | none =>
        have : A.tmps[d]? = none := by
          rw [List.getElem?_eq_none_iff] at e
          rw [← Array.getElem?_toList, List.getElem?_eq_none_iff, ← h.env.1]; exact e
        rw [this]; rfl
      | some v =>
        obtain ⟨v', e', hv⟩ := h.env.get? e
        have e2 : A.tmps[d]? = some v' := by rw [← Array.getElem?_toList]; exact e'
        rw [e2]
        cases hv <;> rfl
    · cases hg

theorem comp2_spec {opers : Array Oper} {oper : Oper} {o : O} (h : comp2 P opers oper = some o) : o.dst = oper.dst ∧ comp1 P oper.op = some o.i ∧ guardOf opers oper.guard = some o.guard ∧ oper.op.operands.toList.all okO = true := by
  unfold comp2 at h
  split at h
  · rename_i hok
    split at h
    · rename_i i g hi hg
      cases h
      exact ⟨rfl, hi, hg, hok⟩
    · cases h
  · cases h

/-- what a call of a function value runs -/
theorem call_run {r : Rho} {f f' : Value} {args : List Value} {args' : Array Value} {c : Callee} (hc : calleeOf f args = some c) (hf : VR P r f f') (ha : LR P r args args'.toList) (w : World)
    (hfn : ∀ k as, c = .fn k as → True) : (∃ k as as', c = .fn k as ∧ LR P r as as' ∧ ∀ w, (do let d ← Deferred.ofValue f' args'; invoke d.target d.args : Sem Next).run P w = (callFunc k as'.toArray).run P w) ∨ (∃ l as, c = .round l as) := by
  unfold calleeOf at hc
  split at hc
  · rename_i k first captured
    cases hc
    obtain ⟨first', cap', e, h1, h2⟩ := hf.func_inv
    refine .inl ⟨k, _, first'.toList ++ args'.toList ++ cap'.toList, rfl, (h1.append ha).append h2, fun w => ?_⟩
    rw [e]
    simp only [Deferred.ofValue, Sem.run_bind, Sem.run_pure, Result.andThen_ok, invoke]
    have : first' ++ args' ++ cap' = (first'.toList ++ args'.toList ++ cap'.toList).toArray := by
      apply Array.ext'; simp
    rw [this]
  · cases hc; exact .inr ⟨_, _, rfl⟩
  · cases hc

theorem eqn_none {x y : Operand} {bop : BinOp} {nk : NK} {i : I} (h : ((isEqOp bop).bind fun neg => if isC x || isC y then some (I.eqn nk neg x y) else none) = some i) : ∃ neg, i = .eqn nk neg x y := by
  simp only [Option.bind_eq_some_iff] at h
  obtain ⟨neg, _, h⟩ := h
  split at h
  · cases h; exact ⟨neg, rfl⟩
  · cases h

theorem comp1_call {op : Op} {f : Operand} {args : List Operand} (h : comp1 P op = some (.call f args)) : ∃ ca : Call, op = .call ca ∧ ca.callee = .value f ∧ ca.args.toList = args := by
  cases op with
  | call ca =>
    obtain ⟨callee, as, ats⟩ := ca
    cases callee with
    | value g => simp only [comp1, Option.some.injEq, I.call.injEq] at h; exact ⟨_, rfl, by rw [h.1], h.2⟩
    | invoke g m => simp only [comp1] at h; cases h
    | builtin b =>
      exfalso
      simp only [comp1] at h
      unfold compBuiltin at h
      (repeat' split at h) <;> first
        | (cases h; done)
        | (simp only [Option.map_eq_some_iff] at h; obtain ⟨_, _, h⟩ := h; cases h; done)
  | defer ca =>
    obtain ⟨callee, as, ats⟩ := ca
    cases callee <;> simp only [comp1, Option.some.injEq] at h <;> cases h
  | makeFunc fn a b => cases fn <;> simp only [comp1, Option.some.injEq] at h <;> cases h
  | makeMap t x => cases x <;> simp only [comp1, Option.some.injEq] at h <;> cases h
  | next it b => cases b <;> simp only [comp1, Option.some.injEq] at h <;> cases h
  | binOp bop t x y u =>
    exfalso
    simp only [comp1] at h
    unfold compBin at h
    split at h <;> first
      | (cases h; done)
      | (obtain ⟨_, h⟩ := eqn_none h; cases h; done)
      | (split at h <;> cases h; done)
  | _ =>
    exfalso
    simp only [comp1] at h
    try unfold compConv at h
    try unfold compBuild at h
    try unfold compSlice at h
    (repeat' split at h) <;> first
      | (cases h; done)
      | (simp only [Option.map_eq_some_iff] at h; obtain ⟨_, _, h⟩ := h; cases h; done)

theorem comp1_panic {op : Op} {x : Operand} (h : comp1 P op = some (.panic x)) : op = .panic x ∨ ∃ ca : Call, op = .call ca ∧ ca.callee = .builtin .panic ∧ ca.args.toList = [x] := by
  cases op with
  | panic y => simp only [comp1, Option.some.injEq, I.panic.injEq] at h; subst h; exact .inl rfl
  | call ca =>
    obtain ⟨callee, as, ats⟩ := ca
    cases callee with
    | value g => simp only [comp1, Option.some.injEq] at h; cases h
    | invoke g m => simp only [comp1] at h; cases h
    | builtin b =>
      simp only [comp1] at h
      unfold compBuiltin at h
      split at h
      all_goals first
        | (cases h; done)
        | (cases h; exact .inr ⟨_, rfl, rfl, by assumption⟩)
        | (exfalso
           (repeat' split at h) <;> first
            | (cases h; done)
            | (simp only [Option.map_eq_some_iff] at h; obtain ⟨_, _, h⟩ := h; cases h; done))
  | defer ca =>
    obtain ⟨callee, as, ats⟩ := ca
    cases callee <;> simp only [comp1, Option.some.injEq] at h <;> cases h
  | makeFunc fn a b => cases fn <;> simp only [comp1, Option.some.injEq] at h <;> cases h
  | makeMap t x => cases x <;> simp only [comp1, Option.some.injEq] at h <;> cases h
  | next it b => cases b <;> simp only [comp1, Option.some.injEq] at h <;> cases h
  | binOp bop t x y u =>
    exfalso
    simp only [comp1] at h
    unfold compBin at h
    split at h <;> first
      | (cases h; done)
      | (obtain ⟨_, h⟩ := eqn_none h; cases h; done)
      | (split at h <;> cases h; done)
  | _ =>
    exfalso
    simp only [comp1] at h
    try unfold compConv at h
    try unfold compBuild at h
    try unfold compSlice at h
    (repeat' split at h) <;> first
      | (cases h; done)
      | (simp only [Option.map_eq_some_iff] at h; obtain ⟨_, _, h⟩ := h; cases h; done)

theorem eval_fr {i : I} (h : i.takes = false) (ev : Operand → Value) (fr fr2 : Nat) (S : AS) : i.eval ev fr S = i.eval ev fr2 S := by
  cases i <;> first
    | rfl
    | (cases h; done)
    | (rename_i arr _ _ _; cases arr <;> rfl)

/-- one operation -/
theorem stepO_wp {call : Callee → AS → T (En × AS)} (hcall : CallOK P w0 call) (hround : ∀ l as S Q, ¬ (call (.round l as) S).all Q) {opers : Array Oper} {oper : Oper} {o : O} (hco : comp2 P opers oper = some o)
    {fr : Nat} {a : Act} {S : AS} {r : Rho} {A : Go.Act} {w : World} {Q : Ex × Act × AS → Prop} (h : (stepO call o fr a S).all Q) (hA : ActR P r a A) (hR : Rel P prot w0 r S w)
    (hfr : o.i.takes = true → r fr = none ∧ fr < S.next) {K : Go.Act → World → Prop} {QX : Exit → Go.Act → World → Prop}
    (hK : ∀ a1 S1 r1 A1 w1, Q (.norm, a1, S1) → r.le r1 → (∀ m, m < S.next → (o.i.takes = true → m ≠ fr) → r m = none → r1 m = none) → S.next ≤ S1.next → ActR P r1 a1 A1 → Rel P prot w0 r1 S1 w1 → K A1 w1)
    (hX : ∀ v a1 S1 r1 v' w1, Q (.panic v, a1, S1) → r.le r1 → (∀ m, m < S.next → (o.i.takes = true → m ≠ fr) → r m = none → r1 m = none) → S.next ≤ S1.next → VR P r1 v v' → Rel P prot w0 r1 S1 w1 → QX (.panic [{ v := v', recovered := false }]) A w1) :
    oper.wp P A w K QX := by
  obtain ⟨hdst, hc1, hg, hops⟩ := comp2_spec hco
  have hev := hA.ev
  unfold Oper.wp
  have other : (o.i.eval a.ev fr S).all (fun x => Q (.norm, a.put o.dst x.1, x.2)) → oper.upon P A K QX ((execOp A.eval oper).run P w) := by
    intro hq
    have hsim : ∃ v v' S1 r1 w1, Q (.norm, a.put o.dst v, S1) ∧ ((execOp A.eval oper).run P w = .ok (.value v') w1 ∨ ((execOp A.eval oper).run P w = .ok .skip w1 ∧ v' = undef)) ∧ VR P r1 v v' ∧ r.le r1 ∧
        (∀ m, m < S.next → (o.i.takes = true → m ≠ fr) → r m = none → r1 m = none) ∧ S1.next = S.next ∧ Rel P prot w0 r1 S1 w1 := by
      cases ht : o.i.takes with
      | true =>
        obtain ⟨v, v', S1, r1, w1, q1, q2, q3, q4, q5, q6, q7⟩ := simAll oper hc1 hops hev hR hfr hq
        exact ⟨v, v', S1, r1, w1, q1, q2, q3, q4, fun m _ hm he => q5 m (hm rfl) he, q6, q7⟩
      | false =>
        rw [eval_fr ht a.ev fr S.next S] at hq
        obtain ⟨v, v', S1, r1, w1, q1, q2, q3, q4, q5, q6, q7⟩ := simAll oper hc1 hops hev hR (fun h => by rw [ht] at h; cases h) hq
        exact ⟨v, v', S1, r1, w1, q1, q2, q3, q4, fun m hlt _ he => q5 m (by omega) he, q6, q7⟩
    obtain ⟨v, v', S1, r1, w1, q1, q2, q3, q4, q5, q6, q7⟩ := hsim
    have hA1 : ActR P r1 (a.put o.dst v) (A.put oper.dst v') := by rw [← hdst]; exact (hA.mono q4).put o.dst q3
    have hk := hK _ S1 r1 _ w1 q1 q4 q5 (by omega) hA1 q7
    rcases q2 with q2 | ⟨q2, rfl⟩
    · rw [q2]; exact hk
    · rw [q2]; exact hk
  unfold stepO at h
  split at h
  · rename_i f args hi
    split at h
    · rename_i c hcc
      -- a call
      rw [T.all_bind] at h
      obtain ⟨dst, op, type, pos, after, guard⟩ := oper
      simp only at hc1 hops hdst
      have hop := comp1_call (hi ▸ hc1)
      obtain ⟨ca, rfl, hcallee, hargs⟩ := hop
      obtain ⟨callee, as, ats⟩ := ca
      simp only at hcallee hargs
      subst hcallee
      have hmem : ∀ x, x ∈ as.toList → okO x = true := fun x hm => List.all_eq_true.1 hops x (by simp [Op.operands, Call.operands]; exact .inr (by simpa using hm))
      have hfo : okO f = true := List.all_eq_true.1 hops f (by simp [Op.operands, Call.operands])
      have hla : LR P r (args.map a.ev) (as.map A.eval).toList := by
        have := mapLR (r := r) (P := P) (ev := a.ev) (ev' := A.eval) as.toList (fun x hm => hev x (hmem x hm))
        rw [hargs] at this
        simpa [hargs] using this
      rcases call_run hcc (hev f hfo) hla w (fun _ _ _ => trivial) with ⟨k, cs, cs', rfl, hcs, hrun⟩ | ⟨l, cs, rfl⟩
      · obtain ⟨h1, h2⟩ := hcall prot k cs cs' S w r _ hR hcs h
        have hex : (execOp A.eval { dst, op := .call { callee := .value f, args := as, argTypes := ats }, type, pos, after, guard }).run P w = .ok (.enter k cs'.toArray) w := by
          have : (execOp A.eval { dst, op := .call { callee := .value f, args := as, argTypes := ats }, type, pos, after, guard }).run P w = (do let d ← Deferred.ofValue (A.eval f) (as.map A.eval); invoke d.target d.args : Sem Next).run P w := by
            simp only [execOp, resolve]
          rw [this, hrun, h1]
        rw [hex]
        refine Calls.mono h2 ?_
        rintro e w1 ⟨en, S1, r1, q1, q2, q3, q4, q5⟩
        cases q2 with
        | ret v v' hv =>
          refine hK _ S1 r1 _ w1 q1 q3.1 (fun m hm _ he => q3.2 m hm he) q4 ?_ q5
          rw [hdst]
          exact (hA.mono q3.1).put dst hv
        | panic v v' hv =>
          exact hX v a S1 r1 v' w1 q1 q3.1 (fun m hm _ he => q3.2 m hm he) q4 hv q5
      · exact absurd h (hround _ _ _ _)
    · exact h.elim
  · exact h.elim
  · rename_i x hi
    split at h
    · rename_i t v hx
      obtain ⟨dst, op, type, pos, after, guard⟩ := oper
      simp only at hc1 hops hdst
      have hxo : ∃ x' : Operand, okO x' = true ∧ x' = x ∧ ∀ w, (execOp A.eval { dst, op, type, pos, after, guard }).run P w = (do let a ← Instr.panic (A.eval x); pure (Next.value a) : Sem Next).run P w := by
        rw [hi] at hc1
        rcases comp1_panic hc1 with rfl | ⟨ca, rfl, hca, har⟩
        · exact ⟨x, List.all_eq_true.1 hops x (by simp [Op.operands]), rfl, fun w => rfl⟩
        · obtain ⟨callee, as, ats⟩ := ca
          simp only at hca har
          subst hca
          refine ⟨x, List.all_eq_true.1 hops x (by simp [Op.operands, Call.operands]; have : x ∈ as.toList := by rw [har]; simp
                                                   simpa using this), rfl, fun w => ?_⟩
          have h0 : (as.map A.eval).getD 0 .nilIface = A.eval x := by
            have := opArgs0 (ev' := A.eval) har
            simp [Array.getD_eq_getD_getElem?, this]
          simp only [execOp, resolve, Sem.run_bind, Sem.run_pure, Result.andThen_ok, invoke, builtin, h0]
      obtain ⟨x', hok, rfl, hrun⟩ := hxo
      have hvx := hev x' hok
      rw [hx] at hvx
      obtain ⟨u, e, hu⟩ := hvx.iface_inv
      have : (execOp A.eval { dst, op, type, pos, after, guard }).run P w = .halt (.panic (.iface t u)) w := by
        rw [hrun, e]; simp [Instr.panic]
      rw [this]
      exact hX _ a S r _ w h (.refl r) (fun m _ _ he => he) (Nat.le_refl _) (.iface t v u hu) hR
    · exact h.elim
  · exact h.elim
  · rename_i i _ _ _ _
    rw [T.all_bind] at h
    exact other h
end
end Go.Gx

/-
  Regions in the order of the text; results; code; calls.
-/
namespace Go.Gx

section
variable {P : Program} {prot : Nat → Option Obj} {w0 : World}

theorem mapM_cons_some {α β : Type} {f : α → Option β} {x : α} {l : List α} {r : List β} (h : (x :: l).mapM f = some r) : ∃ y ys, f x = some y ∧ l.mapM f = some ys ∧ r = y :: ys := by
  simp only [List.mapM_cons, Option.bind_eq_bind, Option.bind_eq_some_iff, Option.pure_def, Option.some.injEq] at h
  obtain ⟨y, h1, ys, h2, h3⟩ := h
  exact ⟨y, ys, h1, h2, h3.symm⟩

theorem drop_get {α : Type} {l : List α} {i : Nat} {x : α} {r : List α} (h : l.drop i = x :: r) : l[i]? = some x ∧ l.drop (i + 1) = r := by
  have hi : i < l.length := by
    rcases Nat.lt_or_ge i l.length with h1 | h1
    · exact h1
    · rw [List.drop_eq_nil_of_le h1] at h; cases h
  rw [List.drop_eq_getElem_cons hi] at h
  cases h
  exact ⟨by simp [hi], rfl⟩

theorem ops_wp {call : Callee → AS → T (En × AS)} (hcall : CallOK P w0 call) (hround : ∀ l as S Q, ¬ (call (.round l as) S).all Q) (opers : Array Oper) (r0 : Rho) (n0 : Nat) (Q : Ex × Act × AS → Prop) :
    ∀ (l : List Oper) (ops : List O) (i : Nat) (fr : Nat) (a : Act) (S : AS) (r : Rho) (A : Go.Act) (w : World), opers.toList.drop i = l → l.mapM (comp2 P opers) = some ops →
      (stepOs call ops fr a S).all Q → ActR P r a A → Rel P prot w0 r S w → Ext r0 r n0 → n0 ≤ fr → (∀ m, fr ≤ m → m < fr + nTakes ops → r m = none) → fr + nTakes ops ≤ S.next →
      wpOps P opers (QC P prot w0 r0 n0 Q) (List.range' i (opers.size - i)) A w
  | [], ops, i, fr, a, S, r, A, w, hd, hm, h, hA, hR, hE, hn, hf, hfn => by
    simp only [List.mapM_nil, Option.pure_def, Option.some.injEq] at hm
    subst hm
    have : opers.size - i = 0 := by
      have := congrArg List.length hd
      simp at this; omega
    rw [this]
    simp only [List.range'_zero, wpOps]
    exact ⟨.norm, a, S, r, h, .norm, hE, by simp [nTakes] at hfn; omega, hA, hR⟩
  | oper :: l, ops, i, fr, a, S, r, A, w, hd, hm, h, hA, hR, hE, hn, hf, hfn => by
    obtain ⟨o, os, ho, hos, rfl⟩ := mapM_cons_some hm
    obtain ⟨hgi, hdi⟩ := drop_get hd
    have hgi' : opers[i]? = some oper := by rw [← Array.getElem?_toList]; exact hgi
    have hsz : opers.size - i = (opers.size - (i + 1)) + 1 := by
      have := (Array.getElem?_eq_some_iff.1 hgi').1; omega
    obtain ⟨hdst, hc1, hg, hops⟩ := comp2_spec ho
    rw [hsz, List.range'_succ]
    simp only [wpOps, hgi', wants_eq hg hA]
    simp only [nTakes] at hf hfn
    unfold stepOs at h
    simp only at h
    have hfr' : (if o.i.takes then fr + 1 else fr) + nTakes os = fr + ((if o.i.takes then 1 else 0) + nTakes os) := by split <;> omega
    split at h
    · rename_i hw
      rw [if_pos hw]
      left
      rw [T.all_bind] at h
      refine stepO_wp hcall hround ho h hA hR ?_ ?_ ?_
      · intro ht
        rw [ht] at hf hfn
        simp only [if_true] at hf hfn
        exact ⟨hf fr (Nat.le_refl _) (by omega), by omega⟩
      · intro a1 S1 r1 A1 w1 q1 q2 q3 q4 q5 q6
        refine ops_wp hcall hround opers r0 n0 Q l os (i + 1) _ a1 S1 r1 A1 w1 hdi hos q1 q5 q6 ?_ ?_ ?_ ?_
        · exact ⟨hE.1.trans q2, fun m hm e => q3 m (by omega) (fun _ => by omega) (hE.2 m hm e)⟩
        · split <;> omega
        · intro m hm1 hm2
          refine q3 m (by omega) ?_ (hf m (by split at hm1 <;> omega) (by omega))
          intro ht
          rw [if_pos ht] at hm1
          omega
        · omega
      · intro v a1 S1 r1 v' w1 q1 q2 q3 q4 q5 q6
        refine ⟨.panic v, a1, S1, r1, q1, .panic _ _ q5, ⟨hE.1.trans q2, fun m hm e => q3 m (by omega) (fun _ => by omega) (hE.2 m hm e)⟩, by omega, hA.d2, q6⟩
    · rename_i hw
      rw [if_neg hw]
      have hA1 : ActR P r (a.put o.dst undef) (A.put oper.dst undef) := by rw [← hdst]; exact hA.put o.dst VR.undef
      refine ops_wp hcall hround opers r0 n0 Q l os (i + 1) _ _ S r _ w hdi hos h hA1 hR hE ?_ ?_ ?_
      · split <;> omega
      · intro m hm1 hm2
        exact hf m (by split at hm1 <;> omega) (by omega)
      · omega

def rvSem (tmps : Array Value) : ResultVar → Sem Value
  | .tmp t => pure (tmps.getD t undef)
  | .cell a t => do loadVar t (← asAddr (tmps.getD a undef))

theorem results_eq (fn : Func) (tmps : Array Value) : results fn tmps = (do let vs ← fn.results.mapM (rvSem tmps); pure (if h : vs.size = 1 then vs[0] else .tuple vs)) := by
  unfold results
  congr 1

/-- results -/
theorem resV_run {fn : Func} {rs : List RV} (hrs : fn.results.toList.mapM (compRV P) = some rs) {r : Rho} {a : Act} {A : Go.Act} {S : AS} {w : World} (hA : ActR P r a A) (hR : Rel P prot w0 r S w) {v : Value}
    (h : resV rs a.env S = some v) : ∃ v', (results fn A.tmps).run P w = .ok v' w ∧ VR P r v v' := by
  have each : ∀ (l : List ResultVar) (rs : List RV) (vs : List Value), l.mapM (compRV P) = some rs → rs.mapM (loadRV a.env S) = some vs →
      ∃ vs', (l.mapM (rvSem A.tmps)).run P w = .ok vs' w ∧ LR P r vs vs' := by
    intro l
    induction l with
    | nil =>
      intro rs vs h1 h2
      simp at h1; subst h1
      simp at h2; subst h2
      exact ⟨[], by simp, .nil⟩
    | cons rv l ih =>
      intro rs vs h1 h2
      obtain ⟨y, ys, hy, hys, rfl⟩ := mapM_cons_some h1
      obtain ⟨u, us, hu, hus, rfl⟩ := mapM_cons_some h2
      obtain ⟨us', k1, k2⟩ := ih ys us hys hus
      have one : ∃ u', (rvSem A.tmps rv).run P w = .ok u' w ∧ VR P r u u' := by
        cases rv with
        | tmp t =>
          simp only [compRV, Option.some.injEq] at hy; subst hy
          simp only [loadRV, Option.some.injEq] at hu; subst hu
          refine ⟨_, rfl, ?_⟩
          have := hA.env.getD t
          simpa using this
        | cell ad t =>
          simp only [compRV] at hy
          cases hg : aggOf P t with
          | none => rw [hg] at hy; cases hy
          | some g =>
            rw [hg] at hy; simp at hy; subst hy
            simp only [loadRV] at hu
            have hva := hA.env.getD ad
            split at hu
            · rename_i n o hn
              rw [hn] at hva
              obtain ⟨L, hL, e⟩ := hva.ptr_inv
              split at hu
              · rename_i cells et wr ex hs
                obtain ⟨u', q1, q2⟩ := run_loadVar hg hR hs hL hu
                refine ⟨u', ?_, q2⟩
                have e2 : A.tmps.getD ad undef = .pointer (some ⟨L.b, L.base + o, none⟩) := by rw [← e]; simp
                simp only [rvSem, e2, asAddr, Sem.run_bind, Sem.run_pure, Result.andThen_ok]
                exact q1
              · cases hu
            · cases hu
      obtain ⟨u', q1, q2⟩ := one
      refine ⟨u' :: us', ?_, LR.cons q2 k2⟩
      simp only [List.mapM_cons, Sem.run_bind, q1, k1, Result.andThen_ok, Sem.run_pure]
  unfold resV at h
  have fin : ∀ vs, rs.mapM (loadRV a.env S) = some vs → ∃ v', (results fn A.tmps).run P w = .ok v' w ∧ VR P r (match vs with | [v] => v | us => .tuple us.toArray) v' := by
    intro vs hvs
    obtain ⟨vs', k1, k2⟩ := each fn.results.toList rs vs hrs hvs
    have hrun : (results fn A.tmps).run P w = .ok (if h : vs'.toArray.size = 1 then vs'.toArray[0] else .tuple vs'.toArray) w := by
      rw [results_eq, Array.mapM_eq_mapM_toList]
      simp only [Sem.run_bind, Sem.run_map, k1, Result.andThen_ok, Sem.run_pure]
    refine ⟨_, hrun, ?_⟩
    cases vs with
    | nil =>
      have := k2.nil_inv; subst this
      exact VR.undef
    | cons v1 l =>
      obtain ⟨v1', l', rfl, q1, q2⟩ := k2.cons_inv
      cases l with
      | nil =>
        have := q2.nil_inv; subst this
        simpa using q1
      | cons v2 l2 =>
        obtain ⟨v2', l2', rfl, q3, q4⟩ := q2.cons_inv
        simp only [List.size_toArray, List.length_cons]
        rw [dif_neg (by omega)]
        exact VR.tuple_of k2
  split at h
  · rename_i u hu
    cases h
    exact fin _ hu
  · rename_i us hne hus
    cases h
    obtain ⟨v', q1, q2⟩ := fin _ hus
    refine ⟨v', q1, ?_⟩
    cases us with
    | nil => exact q2
    | cons x l => cases l with
      | nil => exact absurd rfl (hne x)
      | cons y l => exact q2
  · cases h

/-- the table of functions is the program's -/
def TableOK (P : Program) (F : Nat → Option IFn) : Prop := ∀ k ifn, F k = some ifn → ∃ fn, P.funcs[k]? = some fn ∧ compF P fn = some ifn

/-- what is known of some calls from elsewhere -/
def ExtOK (P : Program) (ext : Nat → List Value → Option Value) : Prop := ∀ k args v, ext k args = some v →
  args.all closed = true ∧ closed v = true ∧ (∃ fn, P.funcs[k]? = some fn ∧ fn.body.isSome = true ∧ (fn.name == "runtime.NumGoroutine") = false) ∧
  ∀ w, Calls P k args.toArray w fun e w' => e = .returned v ∧ RowKit.Below w.heap.size w w'

theorem Rel.below {r : Rho} {S : AS} {w w' : World} (h : Rel P prot w0 r S w) (hb : RowKit.Below w.heap.size w w') : Rel P prot w0 r S w' := by
  have key : ∀ (b : Nat) (q : Obj), w.heap[b]? = some q → w'.heap[b]? = some q := fun b q hq => by rw [hb.block b (lt_of_get hq)]; exact hq
  refine ⟨hb.os.trans h.os, hb.tape.trans h.tape, hb.output.trans h.output, Nat.le_trans h.size hb.size, ?_, h.uniq, h.fresh, h.ro, ?_⟩
  · intro n o hn
    rcases h.live n o hn with e | ⟨L, q, hL, hq, ho⟩
    · exact .inl e
    · exact .inr ⟨L, q, hL, key _ _ hq, ho⟩
  · intro b q hp
    obtain ⟨h1, h2⟩ := h.prot b q hp
    exact ⟨key _ _ h1, h2⟩

theorem closed_LR {r : Rho} {args args' : List Value} (hc : args.all closed = true) (h : LR P r args args') : args' = args := by
  have one : ∀ (d : Nat) (v v' : Value), closedV d v = true → VR P r v v' → v' = v := by
    intro d
    induction d with
    | zero => intro v v' h; simp [closedV] at h
    | succ d ih =>
      have arr : ∀ (a a' : Array Value), a.toList.all (closedV d) = true → LR P r a.toList a'.toList → a' = a := by
        intro a a' ha hl
        apply Array.ext'
        apply List.ext_getElem?
        intro i
        cases e : a.toList[i]? with
        | none =>
          rw [List.getElem?_eq_none_iff] at e ⊢
          rw [← hl.1]; exact e
        | some v =>
          obtain ⟨v', e', hv⟩ := hl.get? e
          rw [e', ih v v' (List.all_eq_true.1 ha v (List.mem_of_getElem? e)) hv]
      intro v v' h hv
      cases v with
      | bool b => exact hv.bool_inv
      | int k n => exact hv.int_inv
      | string s => exact hv.str_inv
      | pointer a => cases a with
        | none => exact hv.ptrNil_inv
        | some a => simp [closedV] at h
      | slice a n c => cases a with
        | none => obtain ⟨e, rfl, rfl⟩ := hv.sliceNil_inv; exact e
        | some a => simp [closedV] at h
      | map m => cases m with
        | none => exact hv.mapNil_inv
        | some a => simp [closedV] at h
      | nilFunc => exact hv.nilFunc_inv
      | nilIface => exact hv.nilIface_inv
      | iface t v =>
        obtain ⟨u, rfl, hu⟩ := hv.iface_inv
        rw [ih v u (by simpa [closedV] using h) hu]
      | agg cs =>
        obtain ⟨cs', rfl, hl⟩ := hv.agg_inv
        rw [arr cs cs' (by simpa [closedV] using h) hl]
      | tuple cs =>
        obtain ⟨cs', rfl, hl⟩ := hv.tuple_inv
        rw [arr cs cs' (by simpa [closedV] using h) hl]
      | float _ _ => simp [closedV] at h
      | complex _ _ _ => simp [closedV] at h
      | chan _ => simp [closedV] at h
      | func _ _ _ => simp [closedV] at h
  apply List.ext_getElem?
  intro i
  cases e : args[i]? with
  | none =>
    rw [List.getElem?_eq_none_iff] at e ⊢
    rw [← h.1]; exact e
  | some v =>
    obtain ⟨v', e', hv⟩ := h.get? e
    rw [e', one 10 v v' (List.all_eq_true.1 hc v (List.mem_of_getElem? e)) hv]
end
end Go.Gx

/-
  The run of code and of calls: from the abstract machine to the model.
-/
namespace Go.Gx

section
variable {P : Program} {prot : Nat → Option Obj} {w0 : World}

/-- a region that draws its order: proved apart -/
def DrawOK (P : Program) (w0 : World) : Prop :=
  ∀ {call : Callee → AS → T (En × AS)}, CallOK P w0 call → (∀ l as S Q, ¬ (call (.round l as) S).all Q) → ∀ (prot : Nat → Option Obj) (id : Nat) (opers : Array Oper) (is : List O) (ds : List DO) (a : Act) (S : AS) (r : Rho) (A : Go.Act) (w : World) (Q : Ex × Act × AS → Prop),
    opers.toList.mapM (comp2 P opers) = some is → drawOf opers is = some ds → (drawOs call ds ds S.next a (S.bump (nTakes is)) [] []).all Q → ActR P r a A → Rel P prot w0 r S w →
    (Code.region id opers true).wp P (QC P prot w0 r S.next Q) A w

variable {F : Nat → Option IFn} {ext : Nat → List Value → Option Value}

theorem callFn_ok (hF : TableOK P F) (hE : ExtOK P ext) {ex : C → Act → AS → R}
    (hex : ∀ (c : Code) (ic : C), comp P c = some ic → ∀ (prot : Nat → Option Obj) (a : Act) (S : AS) (r : Rho) (A : Go.Act) (w : World) (Q : Ex × Act × AS → Prop), (ex ic a S).all Q → ActR P r a A → Rel P prot w0 r S w →
      c.wp P (QC P prot w0 r S.next Q) A w) : CallOK P w0 (callAny F ext ex) := by
  intro prot k args args' S w r Q hR hl h
  have enter : ∀ fn, P.funcs[k]? = some fn → fn.body.isSome = true → (fn.name == "runtime.NumGoroutine") = false → (callFunc k args'.toArray).run P w = .ok (.enter k args'.toArray) w := by
    intro fn h1 h2 h3
    obtain ⟨c, hc⟩ := Option.isSome_iff_exists.1 h2
    have h3' : ¬ fn.name = "runtime.NumGoroutine" := by simpa using h3
    simp [callFunc, h1, hc, h3']
  unfold callAny callFn at h
  simp only at h
  split at h
  · rename_i v hv
    obtain ⟨h1, h2, ⟨fn, h3, h4, h5⟩, h6⟩ := hE k args v hv
    refine ⟨enter fn h3 h4 h5, ?_⟩
    rw [closed_LR h1 hl]
    refine (h6 w).mono ?_
    rintro e w' ⟨rfl, hb⟩
    exact ⟨_, S, r, h, .ret _ _ (VR.closed h2), Ext.refl _ _, Nat.le_refl _, hR.below hb⟩
  · split at h
    · exact h.elim
    · rename_i ifn hifn
      obtain ⟨fn, hfn, hcf⟩ := hF k ifn hifn
      unfold compF at hcf
      split at hcf
      · rename_i c hbody
        split at hcf
        · cases hcf
        · rename_i hname
          split at hcf
          · rename_i body rs hb hrs
            cases hcf
            refine ⟨enter fn hfn (by rw [hbody]; rfl) (by simpa using hname), ?_⟩
            rw [T.all_bind] at h
            have hA : ActR P r { env := args ++ List.replicate (fn.ntmps - args.length) undef, defers := [] } { tmps := args'.toArray ++ Array.replicate (fn.ntmps - args'.toArray.size) undef, defers := [] } := by
              refine ⟨?_, rfl, rfl⟩
              simp only [Array.toList_append, Array.toList_replicate, List.size_toArray]
              rw [← hl.1]
              exact hl.append (LR.replicate _ VR.undef)
            refine calls_of_wp hfn hbody (wp_mono (hex c body hb prot _ S r _ w _ h hA hR) ?_)
            rintro e A' w' ⟨exx, a', S', r', q1, q2, q3, q4, q5, q6⟩
            have norm : (∀ v, exx ≠ .panic v) → (match resV rs a'.env S' with | some v => (T.ret (En.ret v, S') : T (En × AS)) | none => .fail).all Q → ActR P r' a' A' →
                A'.defers = [] ∧ ∃ v, (results fn A'.tmps).run P w' = .ok v w' ∧ ∃ en S'' r'', Q (en, S'') ∧ EnR P r'' en (.returned v) ∧ Ext r r'' S.next ∧ S.next ≤ S''.next ∧ Rel P prot w0 r'' S'' w' := by
              intro _ hq hA'
              split at hq
              · rename_i v hv
                obtain ⟨v', k1, k2⟩ := resV_run hrs hA' q6 hv
                exact ⟨hA'.d2, v', k1, _, S', r', hq, .ret _ _ k2, q3, q4, q6⟩
              · exact hq.elim
            cases q2 with
            | norm => exact norm (by simp) q1 q5
            | ret => exact norm (by simp) q1 q5
            | exit id => exact q1.elim
            | panic v v' hv => exact ⟨q5, _, S', r', q1, .panic _ _ hv, q3, q4, q6⟩
          · cases hcf
      · cases hcf

/-- a loop, from the head of a round on -/
def LoopWP (P : Program) (x : Code) (R : Exit → Go.Act → World → Prop) (A : Go.Act) (w : World) : Prop :=
  ∀ (b : Frame) (k : List Item) (cs : List Frame), ∃ e a' w', R e a' w' ∧ Arrives P (lone (b.at A (.code x :: .inLoop x :: k)) cs w) b k cs e a' w'

theorem exec_wp2 (hF : TableOK P F) (hE : ExtOK P ext) (hD : DrawOK P w0) : ∀ (n : Nat),
    (∀ (c : Code) (ic : C), comp P c = some ic → ∀ (prot : Nat → Option Obj) (a : Act) (S : AS) (r : Rho) (A : Go.Act) (w : World) (Q : Ex × Act × AS → Prop),
      (exec F ext n ic a S).all Q → ActR P r a A → Rel P prot w0 r S w → c.wp P (QC P prot w0 r S.next Q) A w) ∧
    (∀ (x : Code) (ix : C), comp P x = some ix → ∀ (prot : Nat → Option Obj) (a : Act) (S : AS) (r : Rho) (A : Go.Act) (w : World) (Q : Ex × Act × AS → Prop),
      (exec F ext n (.loop ix) a S).all Q → ActR P r a A → Rel P prot w0 r S w → LoopWP P x (QC P prot w0 r S.next Q) A w) := by
  intro n
  induction n with
  | zero => exact ⟨fun c ic hc prot a S r A w Q h => h.elim, fun c ic hc prot a S r A w Q h => h.elim⟩
  | succ n ih2 =>
    obtain ⟨ih, ihl⟩ := ih2
    have hloop : ∀ (x : Code) (ix : C), comp P x = some ix → ∀ (prot : Nat → Option Obj) (a : Act) (S : AS) (r : Rho) (A : Go.Act) (w : World) (Q : Ex × Act × AS → Prop),
        (exec F ext (n + 1) (.loop ix) a S).all Q → ActR P r a A → Rel P prot w0 r S w → LoopWP P x (QC P prot w0 r S.next Q) A w := by
      intro x ix hx prot a S r A w Q h hA hR b k cs
      simp only [exec] at h
      rw [T.all_bind] at h
      obtain ⟨e, A1, w1, hq, harr⟩ := ih x ix hx prot a S r A w _ h hA hR b (.inLoop x :: k) cs
      obtain ⟨ex, a1, S1, r1, q1, q2, q3, q4, q5, q6⟩ := hq
      have pass : ∀ {e : Exit}, e ≠ .normal → Arrives P (lone (b.at A (.code x :: .inLoop x :: k)) cs w) b (.inLoop x :: k) cs e A1 w1 → QC P prot w0 r S.next Q e A1 w1 →
          ∃ e a' w', QC P prot w0 r S.next Q e a' w' ∧ Arrives P (lone (b.at A (.code x :: .inLoop x :: k)) cs w) b k cs e a' w' := fun hne harr hq =>
        ⟨_, A1, w1, hq, .pass (x := .inLoop x) rfl (fun _ _ => .inl hne) harr⟩
      cases q2 with
      | norm =>
        obtain ⟨e2, A2, w2, hq2, harr2⟩ := ihl x ix hx prot a1 S1 r1 A1 w1 Q q1 q5 q6 b k cs
        exact ⟨e2, A2, w2, hq2.mono q3 q4, .of_steps (Steps.trans harr (.one step_inLoop)) harr2⟩
      | exit id => exact pass (by simp) harr ⟨_, a1, S1, r1, q1, .exit id, q3, q4, q5, q6⟩
      | ret => exact pass (by simp) harr ⟨_, a1, S1, r1, q1, .ret, q3, q4, q5, q6⟩
      | panic v v' hv => exact pass (by simp) harr ⟨_, a1, S1, r1, q1, .panic _ _ hv, q3, q4, q5, q6⟩
    refine ⟨?_, hloop⟩
    intro c ic hc prot a S r A w Q h hA hR
    have hcall := callFn_ok (ext := ext) hF hE (w0 := w0) (ex := exec F ext n) ih
    have hround : ∀ l as S Q, ¬ (callAny F ext (exec F ext n) (.round l as) S).all Q := fun l as S Q h => h
    have keep : ∀ (ex : Ex) (a1 : Act) (S1 : AS), ex ≠ .norm → Q (ex, a1, S1) → Q (ex, a1, S1) := fun _ _ _ _ h => h
    cases c with
    | skip =>
      simp only [comp, Option.some.injEq] at hc; subst hc
      exact wp_skip ⟨.norm, a, S, r, h, .norm, Ext.refl _ _, Nat.le_refl _, hA, hR⟩
    | ret =>
      simp only [comp, Option.some.injEq] at hc; subst hc
      exact wp_ret ⟨.ret, a, S, r, h, .ret, Ext.refl _ _, Nat.le_refl _, hA, hR⟩
    | exit id =>
      simp only [comp, Option.some.injEq] at hc; subst hc
      exact wp_exit ⟨.exit id, a, S, r, h, .exit id, Ext.refl _ _, Nat.le_refl _, hA, hR⟩
    | region id opers draw =>
      simp only [comp] at hc
      split at hc
      · rename_i is his
        cases draw with
        | false =>
          simp only [Bool.false_eq_true, if_false, Option.some.injEq] at hc; subst hc
          refine wp_region ?_
          have := ops_wp (prot := prot) hcall hround opers r S.next Q opers.toList is 0 S.next a (S.bump (nTakes is)) r A w (by simp) his h hA (hR.bump _) (Ext.refl _ _) (Nat.le_refl _)
            (fun m hm _ => hR.fresh m hm) (Nat.le_refl _)
          rw [List.range_eq_range']
          simpa using this
        | true =>
          simp only [if_true] at hc
          cases hd : drawOf opers is with
          | none => rw [hd] at hc; cases hc
          | some ds =>
            rw [hd] at hc; cases hc
            exact hD hcall hround prot id opers is ds a S r A w Q his hd h hA hR
      · cases hc
    | seq x y =>
      simp only [comp] at hc
      split at hc
      · rename_i ix iy hx hy
        cases hc
        simp only [exec] at h
        rw [T.all_bind] at h
        refine wp_seq (wp_mono (ih x ix hx prot a S r A w _ h hA hR) ?_)
        rintro e A1 w1 ⟨ex, a1, S1, r1, q1, q2, q3, q4, q5, q6⟩
        cases q2 with
        | norm =>
          exact wp_mono (ih y iy hy prot a1 S1 r1 A1 w1 Q q1 q5 q6) fun e A w hq => hq.mono q3 q4
        | exit id => exact ⟨_, a1, S1, r1, q1, .exit id, q3, q4, q5, q6⟩
        | ret => exact ⟨_, a1, S1, r1, q1, .ret, q3, q4, q5, q6⟩
        | panic v v' hv => exact ⟨_, a1, S1, r1, q1, .panic _ _ hv, q3, q4, q5, q6⟩
      · cases hc
    | cond cd x y =>
      simp only [comp] at hc
      split at hc
      · rename_i ix iy hok hx hy
        cases hc
        simp only [exec] at h
        split at h
        · rename_i b hb
          have hv := hA.ev cd hok
          rw [hb] at hv
          refine wp_cond hv.bool_inv ?_
          cases b
          · exact ih y iy hy prot a S r A w Q h hA hR
          · exact ih x ix hx prot a S r A w Q h hA hR
        · exact h.elim
      · cases hc
    | block id x =>
      simp only [comp] at hc
      cases hx : comp P x with
      | none => rw [hx] at hc; cases hc
      | some ix =>
        rw [hx] at hc; cases hc
        simp only [exec] at h
        rw [T.all_bind] at h
        refine wp_block (wp_mono (ih x ix hx prot a S r A w _ h hA hR) ?_)
        rintro e A1 w1 ⟨ex, a1, S1, r1, q1, q2, q3, q4, q5, q6⟩
        cases q2 with
        | norm => exact ⟨_, a1, S1, r1, q1, .norm, q3, q4, q5, q6⟩
        | exit id' =>
          simp only [Exit.inBlock]
          simp only [T.all_ret] at q1
          by_cases hid : id' = id
          · rw [if_pos hid]
            rw [if_pos hid] at q1
            exact ⟨_, a1, S1, r1, q1, .norm, q3, q4, q5, q6⟩
          · rw [if_neg hid]
            rw [if_neg hid] at q1
            exact ⟨_, a1, S1, r1, q1, .exit id', q3, q4, q5, q6⟩
        | ret => exact ⟨_, a1, S1, r1, q1, .ret, q3, q4, q5, q6⟩
        | panic v v' hv => exact ⟨_, a1, S1, r1, q1, .panic _ _ hv, q3, q4, q5, q6⟩
    | loop x =>
      simp only [comp] at hc
      cases hx : comp P x with
      | none => rw [hx] at hc; cases hc
      | some ix =>
        rw [hx] at hc; cases hc
        intro b k cs
        obtain ⟨e2, A2, w2, hq2, harr2⟩ := hloop x ix hx prot a S r A w Q h hA hR b k cs
        exact ⟨e2, A2, w2, hq2, .of_steps (.one step_loop) harr2⟩
    | rangeFunc f ps x y =>
      simp only [comp] at hc
      split at hc
      · cases hc; exact h.elim
      · cases hc
    | scope x => cases hc
    | label l => cases hc
    | goto l => cases hc
    | refuse s => cases hc
end
end Go.Gx

/-
  Regions that draw their order: what an operation looks at; the order's words.
-/
namespace Go.Gx

/-! ## an operation depends on what it looks at -/
section
variable {ev ev2 : Operand → Value} {fr : Nat} {S : AS}

theorem map_congr' {l : List Operand} (h : ∀ x ∈ l, ev x = ev2 x) : l.map ev = l.map ev2 := List.map_congr_left h

theorem partsOf_congr : ∀ {l : List (Nat × Nat × Operand)}, (∀ x ∈ l.map (·.2.2), ev x = ev2 x) → partsOf ev l = partsOf ev2 l
  | [], _ => rfl
  | (off, n, x) :: rest, h => by
    simp only [partsOf]
    rw [h x (by simp), partsOf_congr (l := rest) (fun y hy => h y (by simp at hy ⊢; exact .inr hy))]

theorem opt_congr {o : Option Operand} (h : ∀ x ∈ o.toList, ev x = ev2 x) : o.map ev = o.map ev2 := by
  cases o with
  | none => rfl
  | some x => simp [h x (by simp)]

theorem newV_congr {i : I} (h : ∀ x ∈ i.opds, ev x = ev2 x) : i.newV ev fr = i.newV ev2 fr := by
  cases i <;> simp only [I.opds] at h <;> simp only [I.newV]
  case s2b e x => rw [h x (by simp)]
  case box e x => rw [h x (by simp)]
  case bslice e n cs len ps => rw [partsOf_congr h]
  case mksl e n b z l c => rw [h l (by simp), h c (by simp)]

theorem eval_congr {i : I} (h : ∀ x ∈ i.opds, ev x = ev2 x) : i.eval ev fr S = i.eval ev2 fr S := by
  have hn := newV_congr (fr := fr) h
  cases i <;> simp only [I.opds] at h <;> simp only [I.eval, hn]
  case build z ps => rw [partsOf_congr h]
  case mkfn fn xs ys => rw [map_congr' (l := xs) fun x hx => h x (by simp [hx]), map_congr' (l := ys) fun x hx => h x (by simp [hx])]
  case maxb xs => rw [map_congr' h]
  case minb xs => rw [map_congr' h]
  case aslc len esz x lo hi mx =>
    rw [h x (by simp), opt_congr (o := lo) fun y hy => h y (by simp [hy]), opt_congr (o := hi) fun y hy => h y (by simp [hy]), opt_congr (o := mx) fun y hy => h y (by simp [hy])]
  case slc e esz x lo hi mx =>
    rw [h x (by simp), opt_congr (o := lo) fun y hy => h y (by simp [hy]), opt_congr (o := hi) fun y hy => h y (by simp [hy]), opt_congr (o := mx) fun y hy => h y (by simp [hy])]
  case sslc x lo hi =>
    rw [h x (by simp), opt_congr (o := lo) fun y hy => h y (by simp [hy]), opt_congr (o := hi) fun y hy => h y (by simp [hy])]
  case idxA arr esz x i => cases arr <;> simp only [I.eval] <;> rw [h x (by simp), h i (by simp)]
  all_goals first
    | rfl
    | (rename_i x; rw [h x (by simp)]; done)
    | (rename_i x y; rw [h x (by simp), h y (by simp)]; done)
    | (rename_i x y z; rw [h x (by simp), h y (by simp), h z (by simp)]; done)
    | (simp only [List.forall_mem_cons] at h; simp only [h]; done)

theorem stepO_congr {call : Callee → AS → T (En × AS)} {o : O} {a b : Act} {Q : Ex × Act × AS → Prop} (hev : ∀ x ∈ o.i.opds, a.ev x = b.ev x) (h : (stepO call o fr a S).all Q) :
    (stepO call o fr b S).all fun x => (x.1 = .norm ∧ ∃ v, x.2.1 = b.put o.dst v ∧ Q (.norm, a.put o.dst v, x.2.2)) ∨ (∃ p, x.1 = .panic p ∧ Q (.panic p, a, x.2.2)) := by
  unfold stepO at h ⊢
  split at h
  · rename_i f args hi
    rw [hi] at hev
    simp only [I.opds] at hev
    rw [← hev f (by simp), ← map_congr' (l := args) fun x hx => hev x (by simp [hx])]
    split at h
    · rename_i c hc
      rw [T.all_bind] at h ⊢
      refine T.all_mono ?_ h
      rintro ⟨e, S1⟩ hq
      cases e with
      | ret v => exact .inl ⟨rfl, v, rfl, hq⟩
      | panic v => exact .inr ⟨v, rfl, hq⟩
    · exact h.elim
  · exact h.elim
  · rename_i x hi
    rw [hi] at hev
    simp only [I.opds] at hev
    rw [← hev x (by simp)]
    split at h
    · rename_i t v hx
      exact .inr ⟨_, rfl, h⟩
    · exact h.elim
  · exact h.elim
  · rename_i i h1 h2 h3 h4
    rw [T.all_bind] at h ⊢
    rw [← eval_congr hev]
    refine T.all_mono ?_ h
    rintro ⟨v, S1⟩ hq
    exact .inl ⟨rfl, v, rfl, hq⟩
end

/-! ## acts, written one after another -/
def putAll (a : Act) : List (DO × Value) → Act
  | [] => a
  | (d, v) :: l => putAll (a.put d.o.dst v) l

theorem putAll_append (a : Act) (l m : List (DO × Value)) : putAll a (l ++ m) = putAll (putAll a l) m := by
  induction l generalizing a with
  | nil => rfl
  | cons e l ih => obtain ⟨d, v⟩ := e; exact ih _

theorem putAll_snoc (a : Act) (l : List (DO × Value)) (d : DO) (v : Value) : putAll a (l ++ [(d, v)]) = (putAll a l).put d.o.dst v := putAll_append a l _

theorem put_slot_ne {a : Act} {d : Option Nat} {v : Value} {t : Nat} (h : d ≠ some t) : (a.put d v).env.getD t undef = a.env.getD t undef := by
  cases d with
  | none => rfl
  | some d =>
    have : d ≠ t := fun e => h (by rw [e])
    simp [Act.put, List.getD_eq_getElem?_getD, List.getElem?_set_ne this]

theorem put_slot_congr {a b : Act} {d : Option Nat} {v : Value} {t : Nat} (hl : a.env.length = b.env.length) (h : a.env.getD t undef = b.env.getD t undef) : (a.put d v).env.getD t undef = (b.put d v).env.getD t undef := by
  cases d with
  | none => exact h
  | some d =>
    by_cases e : d = t
    · subst e
      simp only [Act.put, List.getD_eq_getElem?_getD, List.getElem?_set_self']
      by_cases hd : d < a.env.length
      · have hd' : d < b.env.length := hl ▸ hd
        simp [hd, hd']
      · have hd' : ¬ d < b.env.length := hl ▸ hd
        simp [hd, hd']
    · rw [put_slot_ne (by simpa using e), put_slot_ne (by simpa using e)]; exact h

theorem put_len (a : Act) (d : Option Nat) (v : Value) : (a.put d v).env.length = a.env.length := by
  cases d <;> simp [Act.put]

theorem putAll_len (a : Act) (l : List (DO × Value)) : (putAll a l).env.length = a.env.length := by
  induction l generalizing a with
  | nil => rfl
  | cons e l ih => obtain ⟨d, v⟩ := e; simp only [putAll]; rw [ih, put_len]

/-- what a slot holds depends on the writes to it alone -/
theorem putAll_slot (t : Nat) : ∀ (l : List (DO × Value)) (a : Act), (putAll a l).env.getD t undef = (putAll a (l.filter fun e => e.1.o.dst == some t)).env.getD t undef := by
  intro l
  induction l with
  | nil => intro a; rfl
  | cons e l ih =>
    intro a
    obtain ⟨d, v⟩ := e
    simp only [putAll, List.filter_cons]
    split
    · simp only [putAll]; exact ih _
    · rename_i hne
      rw [ih]
      have h1 : (a.put d.o.dst v).env.getD t undef = a.env.getD t undef := put_slot_ne (by simpa using hne)
      generalize l.filter (fun e => e.1.o.dst == some t) = m
      have : ∀ (m : List (DO × Value)) (a b : Act), a.env.length = b.env.length → a.env.getD t undef = b.env.getD t undef → (putAll a m).env.getD t undef = (putAll b m).env.getD t undef := by
        intro m
        induction m with
        | nil => intro a b _ h; exact h
        | cons e m ih2 =>
          intro a b hl h
          obtain ⟨d', v'⟩ := e
          exact ih2 _ _ (by rw [put_len, put_len, hl]) (put_slot_congr hl h)
      exact this m _ _ (put_len _ _ _) h1

theorem put_comm {a : Act} {d e : Option Nat} {v u : Value} (h : ∀ t, d = some t → e ≠ some t) : (a.put d v).put e u = (a.put e u).put d v := by
  cases d with
  | none => rfl
  | some d =>
    cases e with
    | none => rfl
    | some e =>
      have : d ≠ e := fun he => h d rfl (by rw [he])
      simp [Act.put, List.set_comm _ _ this]

theorem putAll_move (d : DO) (v : Value) : ∀ (l : List (DO × Value)) (a : Act), (∀ e ∈ l, ∀ t, d.o.dst = some t → e.1.o.dst ≠ some t) → putAll (a.put d.o.dst v) l = (putAll a l).put d.o.dst v := by
  intro l
  induction l with
  | nil => intro a _; rfl
  | cons e l ih =>
    intro a h
    obtain ⟨d', v'⟩ := e
    simp only [putAll]
    rw [put_comm (h (d', v') (by simp)), ih _ fun e he => h e (by simp [he])]

/-- the same values where an operation looks -/
def Agree (o : O) (a b : Act) : Prop := ∀ t ∈ readsO o, a.env.getD t undef = b.env.getD t undef

theorem Agree.ev {o : O} {a b : Act} (h : Agree o a b) : ∀ x ∈ o.i.opds, a.ev x = b.ev x := by
  intro x hx
  cases x with
  | tmp t => exact h t (by unfold readsO tmpsOf; exact List.mem_append_left _ (List.mem_filterMap.2 ⟨_, hx, rfl⟩))
  | _ => rfl

theorem wants_of_getD (a : Act) (d : Nat) (b : Bool) : wants a (some (d, b)) = (match a.env.getD d undef with | .bool c => c == b | _ => false) := by
  unfold wants
  rw [List.getD_eq_getElem?_getD]
  simp only
  cases a.env[d]? with
  | none => rfl
  | some v => cases v <;> rfl

theorem Agree.wants {o : O} {a b : Act} (h : Agree o a b) : wants a o.guard = wants b o.guard := by
  cases hg : o.guard with
  | none => rfl
  | some g =>
    obtain ⟨d, c⟩ := g
    rw [wants_of_getD, wants_of_getD, h d (by unfold readsO; rw [hg]; exact List.mem_append_right _ (by simp))]

end Go.Gx

/-
  What the check of a drawn order means.
-/
namespace Go.Gx

/-! ## what stands before what -/
def bits (acc : Array Nat) (o : Oper) : Nat := o.after.foldl (fun s e => if Region.binds .any e then s ||| 2 ^ e.on ||| acc.getD e.on 0 else s) 0

theorem bits_test (acc : Array Nat) (o : Oper) (m : Nat) : (bits acc o).testBit m = true ↔ ∃ e ∈ o.after, Region.binds .any e = true ∧ (m = e.on ∨ (acc.getD e.on 0).testBit m = true) := by
  unfold bits
  have key : ∀ (l : List Edge) (s : Nat), (l.foldl (fun s e => if Region.binds .any e then s ||| 2 ^ e.on ||| acc.getD e.on 0 else s) s).testBit m = true ↔
      s.testBit m = true ∨ ∃ e ∈ l, Region.binds .any e = true ∧ (m = e.on ∨ (acc.getD e.on 0).testBit m = true) := by
    intro l
    induction l with
    | nil => intro s; simp
    | cons e l ih =>
      intro s
      simp only [List.foldl_cons]
      rw [ih]
      by_cases hb : Region.binds .any e = true
      · simp only [hb, if_true, Nat.testBit_or, Nat.testBit_two_pow, Bool.or_eq_true, decide_eq_true_eq]
        constructor
        · rintro ((( h | h) | h) | ⟨e', h1, h2⟩)
          · exact .inl h
          · exact .inr ⟨e, by simp, hb, .inl h.symm⟩
          · exact .inr ⟨e, by simp, hb, .inr h⟩
          · exact .inr ⟨e', by simp [h1], h2⟩
        · rintro (h | ⟨e', h1, h2, h3⟩)
          · exact .inl (.inl (.inl h))
          · rcases List.mem_cons.1 h1 with rfl | h1
            · rcases h3 with h3 | h3
              · exact .inl (.inl (.inr h3.symm))
              · exact .inl (.inr h3)
            · exact .inr ⟨e', h1, h2, h3⟩
      · simp only [hb]
        constructor
        · rintro (h | ⟨e', h1, h2⟩)
          · exact .inl h
          · exact .inr ⟨e', by simp [h1], h2⟩
        · rintro (h | ⟨e', h1, h2, h3⟩)
          · exact .inl h
          · rcases List.mem_cons.1 h1 with rfl | h1
            · exact absurd h2 hb
            · exact .inr ⟨e', h1, h2, h3⟩
  rw [← Array.foldl_toList, key]
  simp [Nat.zero_testBit]

theorem before_spec (ops : Array Oper) (i : Nat) {o : Oper} (hi : ops[i]? = some o) (m : Nat) :
    ((Region.before ops).getD i 0).testBit m = true ↔ ∃ e ∈ o.after, Region.binds .any e = true ∧ (m = e.on ∨ (e.on < i ∧ ((Region.before ops).getD e.on 0).testBit m = true)) := by
  have key : ∀ (l : List Oper) (acc : Array Nat), (∀ k, k < acc.size → True) →
      (l.foldl (fun acc o => acc.push (bits acc o)) acc).size = acc.size + l.length ∧
      (∀ k, k < acc.size → (l.foldl (fun acc o => acc.push (bits acc o)) acc).getD k 0 = acc.getD k 0) ∧
      ∀ j o, l[j]? = some o → ∃ acc' : Array Nat, acc'.size = acc.size + j ∧ (∀ k, k < acc'.size → acc'.getD k 0 = (l.foldl (fun acc o => acc.push (bits acc o)) acc).getD k 0) ∧
        (l.foldl (fun acc o => acc.push (bits acc o)) acc).getD (acc.size + j) 0 = bits acc' o := by
    intro l
    induction l with
    | nil => intro acc _; exact ⟨by simp, fun _ _ => rfl, fun j o h => by simp at h⟩
    | cons o l ih =>
      intro acc _
      obtain ⟨h1, h2, h3⟩ := ih (acc.push (bits acc o)) (fun _ _ => trivial)
      simp only [List.foldl_cons]
      have pl : ∀ k, k < acc.size → (acc.push (bits acc o)).getD k 0 = acc.getD k 0 := fun k hk => by
        simp [Array.getD_eq_getD_getElem?, Array.getElem?_push, Nat.ne_of_lt hk]
      refine ⟨by rw [h1]; simp; omega, fun k hk => by rw [h2 k (by simp; omega), pl k hk], fun j p hj => ?_⟩
      cases j with
      | zero =>
        simp at hj; subst hj
        refine ⟨acc, by simp, fun k hk => by rw [h2 k (by simp; omega), pl k hk], ?_⟩
        rw [h2 _ (by simp)]
        simp [Array.getD_eq_getD_getElem?]
      | succ j =>
        simp at hj
        obtain ⟨acc', q1, q2, q3⟩ := h3 j p hj
        refine ⟨acc', by rw [q1]; simp; omega, q2, ?_⟩
        rw [← q3]
        congr 1
        simp; omega
  have hb : Region.before ops = ops.toList.foldl (fun acc o => acc.push (bits acc o)) #[] := by
    unfold Region.before
    rw [← Array.foldl_toList]
    rfl
  obtain ⟨h1, h2, h3⟩ := key ops.toList #[] (fun _ _ => trivial)
  obtain ⟨acc', q1, q2, q3⟩ := h3 i o (by simpa using hi)
  rw [← hb] at q2 q3
  simp only [List.size_toArray, List.length_nil, Nat.zero_add] at q1 q3
  rw [q3, bits_test]
  constructor
  · rintro ⟨e, e1, e2, e3⟩
    refine ⟨e, e1, e2, e3.imp id fun h => ?_⟩
    by_cases hlt : e.on < acc'.size
    · rw [q2 _ hlt] at h; exact ⟨by omega, h⟩
    · simp [Array.getD_eq_getD_getElem?, Array.getElem?_eq_none (Nat.le_of_not_lt hlt)] at h
  · rintro ⟨e, e1, e2, e3⟩
    refine ⟨e, e1, e2, e3.imp id fun h => ?_⟩
    rw [q2 _ (by omega)]; exact h.2

/-! ## the order -/
theorem early_mem : ∀ (n : Nat) (l : List DO) (done : Nat) (d : DO), d ∈ early n l done → d ∈ l
  | 0, _, _, _, h => by simp [early] at h
  | n + 1, l, done, d, h => by
    unfold early at h
    split at h
    · rename_i d' hd'
      rcases List.mem_cons.1 h with rfl | h
      · exact List.mem_of_find?_eq_some hd'
      · exact (List.mem_filter.1 (early_mem n _ _ d h)).1
    · split at h
      · rename_i d' hd'
        rcases List.mem_cons.1 h with rfl | h
        · exact List.mem_of_find?_eq_some hd'
        · exact (List.mem_filter.1 (early_mem n _ _ d h)).1
      · simp at h

def tk (o : O) : Nat := if o.i.takes then 1 else 0

theorem mkDO_mem (b : Array Nat) : ∀ (is : List O) (r id : Nat) (d : DO), d ∈ mkDO b is (ranks is r) id → ∃ k, d.id = id + k ∧ is[k]? = some d.o ∧ d.bef = b.getD d.id 0 ∧ d.nm = r + nTakes (is.take k)
  | [], _, _, _, h => by simp [mkDO] at h
  | o :: os, r, id, d, h => by
    simp only [ranks, mkDO, List.mem_cons] at h
    rcases h with rfl | h
    · exact ⟨0, by simp, by simp, rfl, by simp [nTakes]⟩
    · obtain ⟨k, h1, h2, h3, h4⟩ := mkDO_mem b os _ (id + 1) d h
      refine ⟨k + 1, by omega, by simpa using h2, h3, ?_⟩
      rw [h4]
      simp only [List.take_succ_cons, nTakes]
      split <;> omega

theorem nTakes_take_le : ∀ (l : List O) (k : Nat), nTakes (l.take k) ≤ nTakes l
  | [], k => by simp
  | o :: os, 0 => by simp [nTakes]
  | o :: os, k + 1 => by simp only [List.take_succ_cons, nTakes]; have := nTakes_take_le os k; omega

theorem nTakes_take_lt : ∀ (l : List O) (k : Nat) (o : O), l[k]? = some o → o.i.takes = true → ∀ m, k < m → nTakes (l.take k) < nTakes (l.take m)
  | [], _, _, h, _, _, _ => by simp at h
  | o :: os, 0, p, h, ht, m, hm => by
    simp at h; subst h
    obtain ⟨m, rfl⟩ : ∃ m', m = m' + 1 := ⟨m - 1, by omega⟩
    simp only [List.take_zero, List.take_succ_cons, nTakes, ht, if_true]; omega
  | o :: os, k + 1, p, h, ht, m, hm => by
    obtain ⟨m, rfl⟩ : ∃ m', m = m' + 1 := ⟨m - 1, by omega⟩
    simp only [List.take_succ_cons, nTakes]
    have := nTakes_take_lt os k p (by simpa using h) ht m (by omega)
    omega

def idsOf (done : Nat) (l : List DO) : Nat := l.foldl (fun s d => s ||| 2 ^ d.id) done

theorem readyD_iff (done : Nat) (d : DO) : readyD done d = true ↔ ∀ m, d.bef.testBit m = true → done.testBit m = true := by
  unfold readyD
  rw [beq_iff_eq]
  constructor
  · intro h m hm
    have := congrArg (fun n => n.testBit m) h
    simp only [Nat.testBit_and, hm, Bool.true_and] at this
    exact this
  · intro h
    apply Nat.eq_of_testBit_eq
    intro m
    rw [Nat.testBit_and]
    cases hb : d.bef.testBit m with
    | false => rfl
    | true => rw [h m hb]; rfl

theorem orderOK_spec : ∀ (ds : List DO) (done : Nat), orderOK ds done = true → ∀ pre d post, ds = pre ++ d :: post →
    (∀ m, d.bef.testBit m = true → done.testBit m = true ∨ ∃ e ∈ pre, e.id = m) ∧ (∀ e ∈ pre, e.id ≠ d.id) ∧ done.testBit d.id = false ∧
    (d.o.i.cls ≠ .other ∨ ∀ e ∈ post, e.o.i.cls = .other ∨ e.bef.testBit d.id = true)
  | [], _, _, pre, d, post, h => by simp at h
  | c :: ds, done, h, pre, d, post, e => by
    simp only [orderOK, Bool.and_eq_true, Bool.not_eq_true', Bool.or_eq_true, bne_iff_ne, List.all_eq_true, beq_iff_eq] at h
    obtain ⟨⟨⟨h1, h2⟩, h3⟩, h4⟩ := h
    cases pre with
    | nil =>
      simp at e
      obtain ⟨rfl, rfl⟩ := e
      refine ⟨fun m hm => .inl ((readyD_iff _ _).1 h1 m hm), by simp, h2, h3⟩
    | cons c' pre =>
      simp at e
      obtain ⟨rfl, rfl⟩ := e
      obtain ⟨q1, q2, q3, q4⟩ := orderOK_spec _ _ h4 pre d post rfl
      simp only [Nat.testBit_or, Nat.testBit_two_pow, Bool.or_eq_false_iff, Bool.or_eq_true, decide_eq_true_eq, decide_eq_false_iff_not] at q1 q3
      refine ⟨fun m hm => ?_, fun x hx => ?_, q3.1, q4⟩
      · rcases q1 m hm with (h | h) | ⟨x, hx, e⟩
        · exact .inl h
        · exact .inr ⟨c, by simp, h⟩
        · exact .inr ⟨x, by simp [hx], e⟩
      · rcases List.mem_cons.1 hx with rfl | hx
        · exact q3.2
        · exact q2 x hx

theorem pairsOK_spec : ∀ (ds : List DO), pairsOK ds = true → ∀ pre d post, ds = pre ++ d :: post → ∀ e ∈ post, e.bef.testBit d.id = true ∨ swapOK d.o e.o = true
  | [], _, pre, d, post, h => by simp at h
  | c :: ds, h, pre, d, post, e => by
    simp only [pairsOK, Bool.and_eq_true, List.all_eq_true, Bool.or_eq_true] at h
    cases pre with
    | nil =>
      simp at e
      obtain ⟨rfl, rfl⟩ := e
      exact h.1
    | cons c' pre =>
      simp at e
      obtain ⟨rfl, rfl⟩ := e
      exact pairsOK_spec _ h.2 pre d post rfl

structure DSpec (P : Program) (opers : Array Oper) (is : List O) (ds : List DO) : Prop where
  mem : ∀ d ∈ ds, ∃ oper, opers[d.id]? = some oper ∧ comp2 P opers oper = some d.o
  bef : ∀ d ∈ ds, d.bef = (Region.before opers).getD d.id 0
  all : ∀ i, i < opers.size → ∃ d ∈ ds, d.id = i
  nm : ∀ d ∈ ds, d.o.i.takes = true → d.nm < nTakes is
  nms : ∀ d ∈ ds, ∀ e ∈ ds, d.id ≠ e.id → d.o.i.takes = true → e.o.i.takes = true → d.nm ≠ e.nm
  up : ∀ pre d post, ds = pre ++ d :: post → ∀ m, d.bef.testBit m = true → ∃ e ∈ pre, e.id = m
  ids : ∀ pre d post, ds = pre ++ d :: post → ∀ e ∈ pre, e.id ≠ d.id
  oth : ∀ pre d post, ds = pre ++ d :: post → d.o.i.cls = .other → ∀ e ∈ post, e.o.i.cls = .other ∨ e.bef.testBit d.id = true
  pair : ∀ pre d post, ds = pre ++ d :: post → ∀ e ∈ post, e.bef.testBit d.id = true ∨ swapOK d.o e.o = true

theorem mapM_get {α β : Type} {f : α → Option β} : ∀ {l : List α} {r : List β}, l.mapM f = some r → ∀ (k : Nat) (y : β), r[k]? = some y → ∃ x, l[k]? = some x ∧ f x = some y
  | [], r, h, k, y, hk => by simp at h; subst h; simp at hk
  | x :: l, r, h, k, y, hk => by
    obtain ⟨y0, ys, h1, h2, rfl⟩ := mapM_cons_some h
    cases k with
    | zero => simp at hk; subst hk; exact ⟨x, by simp, h1⟩
    | succ k => simp at hk ⊢; exact mapM_get h2 k y hk

theorem drawOf_spec {P : Program} {opers : Array Oper} {is : List O} {ds : List DO} (his : opers.toList.mapM (comp2 P opers) = some is) (h : drawOf opers is = some ds) : DSpec P opers is ds := by
  unfold drawOf at h
  simp only at h
  split at h
  · rename_i hc
    obtain ⟨h1, h2, h3⟩ := hc
    have hmk : ∀ d ∈ ds, ∃ k, d.id = k ∧ is[k]? = some d.o ∧ d.bef = (Region.before opers).getD d.id 0 ∧ d.nm = nTakes (is.take k) := by
      intro d hd
      cases h
      obtain ⟨k, q1, q2, q3, q4⟩ := mkDO_mem _ _ _ _ _ (early_mem _ _ _ _ hd)
      exact ⟨k, by omega, q2, q3, by omega⟩
    cases h
    refine ⟨fun d hd => ?_, fun d hd => ?_, fun i hi => ?_, fun d hd ht => ?_, fun d hd e he hne ht ht' => ?_, ?_, ?_, ?_, ?_⟩
    · obtain ⟨k, q1, q2, _, _⟩ := hmk d hd
      obtain ⟨x, hx, hy⟩ := mapM_get his k d.o q2
      exact ⟨x, by rw [q1, ← Array.getElem?_toList]; exact hx, hy⟩
    · obtain ⟨k, _, _, q3, _⟩ := hmk d hd; exact q3
    · rw [List.all_eq_true] at h1
      have := h1 i (by simpa using hi)
      rw [List.any_eq_true] at this
      obtain ⟨d, hd, e⟩ := this
      exact ⟨d, hd, by simpa using e⟩
    · obtain ⟨k, q1, q2, _, q4⟩ := hmk d hd
      rw [q4]
      have := nTakes_take_lt is k d.o q2 ht (k + 1) (by omega)
      have := nTakes_take_le is (k + 1)
      omega
    · obtain ⟨k, q1, q2, _, q4⟩ := hmk d hd
      obtain ⟨k', q1', q2', _, q4'⟩ := hmk e he
      rw [q4, q4']
      rcases Nat.lt_or_ge k k' with hlt | hge
      · have := nTakes_take_lt is k d.o q2 ht k' hlt; omega
      · have := nTakes_take_lt is k' e.o q2' ht' k (by omega); omega
    · intro pre d post e m hm
      rcases (orderOK_spec _ _ h2 pre d post e).1 m hm with h | h
      · simp at h
      · exact h
    · intro pre d post e; exact (orderOK_spec _ _ h2 pre d post e).2.1
    · intro pre d post e ho x hx
      rcases (orderOK_spec _ _ h2 pre d post e).2.2.2 with h | h
      · exact absurd ho h
      · exact h x hx
    · exact pairsOK_spec _ h3
  · cases h

theorem swapOK_spec {o p : O} (h : swapOK o p = true) : (∀ d, o.dst = some d → d ∉ readsO p) ∧ (∀ d, o.dst = some d → p.dst ≠ some d) ∧ (∀ d, p.dst = some d → d ∉ readsO o) ∧ ¬ (o.i.cls = .other ∧ p.i.cls = .other) := by
  unfold swapOK at h
  rw [Bool.and_eq_true, Bool.and_eq_true] at h
  obtain ⟨⟨h1, h2⟩, h3⟩ := h
  refine ⟨fun d hd => ?_, fun d hd => ?_, fun d hd => ?_, fun hh => ?_⟩
  · simp [hd] at h1; exact h1.1
  · simp [hd] at h1; exact h1.2
  · simp [hd] at h2; exact h2
  · simp [hh.1, hh.2] at h3

end Go.Gx

/-
  Regions that draw their order: what is laid late.
-/
namespace Go.Gx

theorem eval_pure_any {i : I} (h : i.cls = .pure) (ev : Operand → Value) (fr fr' : Nat) (S S' : AS) :
    (i.eval ev fr S).bind (fun x => T.ret x.1) = (i.eval ev fr' S').bind (fun x => T.ret x.1) := by
  have hv : ∀ o : Option Value, ((T.ofOption (o.map fun v => (v, S)) : T (Value × AS)).bind fun x => T.ret x.1) = ((T.ofOption (o.map fun v => (v, S')) : T (Value × AS)).bind fun x => T.ret x.1) := by
    intro o; cases o <;> rfl
  cases i <;> first
    | (simp [I.cls] at h; done)
    | skip
  case idxA arr esz x i =>
    cases arr <;> simp only [I.eval]
    · split
      · split <;> rfl
      · rfl
    · split
      · split <;> rfl
      · rfl
  all_goals
    simp only [I.eval]
    (repeat' split) <;> first
      | exact hv _
      | rfl

theorem evalRead {i : I} (h : i.cls = .read) (ev : Operand → Value) (fr : Nat) (S : AS) : (∃ v, i.eval ev fr S = .ret (v, S)) ∨ i.eval ev fr S = .fail := by
  have hv : ∀ o : Option Value, (∃ v, (T.ofOption (o.map fun v => (v, S)) : T (Value × AS)) = .ret (v, S)) ∨ (T.ofOption (o.map fun v => (v, S)) : T (Value × AS)) = .fail := by
    intro o; cases o
    · exact .inr rfl
    · exact .inl ⟨_, rfl⟩
  cases i <;> first
    | (simp [I.cls] at h; done)
    | skip
  all_goals
    simp only [I.eval]
    repeat' split
    all_goals first
      | exact hv _
      | exact .inl ⟨_, rfl⟩
      | exact .inr rfl

theorem pure_any {i : I} (h : i.cls = .pure) {ev : Operand → Value} {fr : Nat} {S S1 : AS} {v : Value} (he : i.eval ev fr S = .ret (v, S1)) (fr' : Nat) (S' : AS) : i.eval ev fr' S' = .ret (v, S') := by
  have := eval_pure_any h ev fr fr' S S'
  rw [he] at this
  rcases evalPure (ev := ev) (fr := fr') (S := S') h with ⟨v', e⟩ | e
  · rw [e] at this ⊢
    simp only [T.bind_ret, T.ret.injEq] at this
    rw [this]
  · rw [e] at this; cases this

theorem newV_own {i : I} {ev : Operand → Value} {fr : Nat} {v : Value} {o : AObj} (h : i.newV ev fr = some (v, o)) : o.own = true := by
  cases i <;> simp only [I.newV] at h <;> first
    | (cases h; done)
    | (cases h; rfl)
    | skip
  all_goals
    (repeat' split at h) <;> first
      | (cases h; done)
      | (cases h; rfl)

theorem new_takes {i : I} (h : i.cls = .new) : i.takes = true := by
  cases i <;> first
    | rfl
    | (simp [I.cls] at h; done)
theorem read_takes {i : I} (h : i.cls = .read) : i.takes = false := by
  cases i <;> first
    | rfl
    | (simp [I.cls] at h; done)
theorem new_eval {i : I} (h : i.cls = .new) (ev : Operand → Value) (fr : Nat) (S : AS) : i.eval ev fr S = layV S fr (i.newV ev fr) := by
  cases i <;> first
    | rfl
    | (simp [I.cls] at h; done)

/-! ## laying late -/
def layIf (p : Nat → Bool) : List (Nat × Nat × AObj) → AS → AS
  | [], S => S
  | (id, n, o) :: rest, S => if p id then (layIf p rest S).put n o else layIf p rest S

theorem flush_eq (mask : Nat) (S : AS) : ∀ pend, flush mask pend S = (pend.filter (fun x => !mask.testBit x.1), layIf (fun i => mask.testBit i) pend S)
  | [] => rfl
  | (id, n, o) :: rest => by
    simp only [flush, layIf, flush_eq mask S rest, List.filter_cons]
    by_cases h : mask.testBit id = true <;> simp [h]

theorem flushAll_eq (S : AS) : ∀ pend, flushAll pend S = layIf (fun _ => true) pend S
  | [] => rfl
  | (id, n, o) :: rest => by simp only [flushAll, layIf, flushAll_eq S rest, if_true]

theorem layIf_next (p : Nat → Bool) (S : AS) : ∀ pend, (layIf p pend S).next = S.next
  | [] => rfl
  | (id, n, o) :: rest => by
    simp only [layIf]; split
    · simp [layIf_next p S rest]
    · exact layIf_next p S rest

section
variable {P : Program} {prot prot' : Nat → Option Obj} {w0 : World} {r : Rho} {S : AS} {w : World}

theorem Rel.weak (h : Rel P prot' w0 r S w) (hp : ∀ b o, prot b = some o → prot' b = some o) : Rel P prot w0 r S w :=
  ⟨h.os, h.tape, h.output, h.size, h.live, h.uniq, h.fresh, h.ro, fun b o e => h.prot b o (hp b o e)⟩

/-- what the model has made and the abstract memory has not -/
structure PendR (P : Program) (prot prot' : Nat → Option Obj) (w0 : World) (r : Rho) (X : Nat → Bool) (pend : List (Nat × Nat × AObj)) : Prop where
  has : ∀ x ∈ pend, X x.1 = true → ∃ L obj, r x.2.1 = some L ∧ prot' L.b = some obj ∧ ObjR P r L x.2.2 obj ∧ prot L.b = none ∧ w0.heap.size ≤ L.b ∧ x.2.2.own = true
  ne : ∀ x ∈ pend, ∀ y ∈ pend, X x.1 = true → X y.1 = true → x.2.1 ≠ y.2.1 → ∀ L M, r x.2.1 = some L → r y.2.1 = some M → L.b ≠ M.b

/-- blocks of what is laid -/
def Laid (r : Rho) (p : Nat → Bool) (pend : List (Nat × Nat × AObj)) (b : Nat) : Prop := ∃ x ∈ pend, p x.1 = true ∧ ∃ L, r x.2.1 = some L ∧ L.b = b

open Classical in
noncomputable def unprot (r : Rho) (p : Nat → Bool) (pend : List (Nat × Nat × AObj)) (prot : Nat → Option Obj) : Nat → Option Obj := fun b => if Laid r p pend b then none else prot b

theorem lay_rel {X p : Nat → Bool} (hpX : ∀ i, p i = true → X i = true) (h : Rel P prot' w0 r S w) : ∀ (pend : List (Nat × Nat × AObj)), PendR P prot prot' w0 r X pend → pend.Pairwise (fun x y => x.1 ≠ y.1 ∧ x.2.1 ≠ y.2.1) →
    Rel P (unprot r p pend prot') w0 r (layIf p pend S) w
  | [], _, _ => h.weak fun b o e => by
      unfold unprot at e
      split at e
      · cases e
      · exact e
  | x :: rest, hp, hu => by
    obtain ⟨id, n, o⟩ := x
    have hu' := List.pairwise_cons.1 hu
    have ih := lay_rel (X := X) (p := p) hpX h rest ⟨fun x hx => hp.has x (by simp [hx]), fun x hx y hy => hp.ne x (by simp [hx]) y (by simp [hy])⟩ hu'.2
    have hsub : ∀ b obj, unprot r p ((id, n, o) :: rest) prot' b = some obj → unprot r p rest prot' b = some obj := by
      intro b obj e
      unfold unprot at e ⊢
      split at e
      · cases e
      · rename_i hn
        rw [if_neg]
        · exact e
        · rintro ⟨x, hx, q⟩; exact hn ⟨x, by simp [hx], q⟩
    simp only [layIf]
    split
    · rename_i hid
      obtain ⟨L, obj, h1, h2, h3, h4, h5, h6⟩ := hp.has (id, n, o) (by simp) (hpX _ hid)
      simp only at h1 h2 h3
      have hrest : unprot r p rest prot' L.b = some obj := by
        unfold unprot
        rw [if_neg]
        · exact h2
        · rintro ⟨x, hx, q1, M, q2, q3⟩
          exact hp.ne x (by simp [hx]) (id, n, o) (by simp) (hpX _ q1) (hpX _ hid) (Ne.symm (hu'.1 x hx).2) M L q2 h1 q3
      refine (ih.weak hsub).lay h1 (h.prot _ _ h2).1 h3 h6 h5 ?_ ?_
      · intro m q M hm hq hmn hM
        cases ho : q.own with
        | true => exact Ne.symm (fun e => (ih.prot _ _ hrest).2 m q M hm ho hM e.symm)
        | false =>
          have := (ih.ro m q M hm hq hM).2 ho
          omega
      · intro obj' he
        unfold unprot at he
        rw [if_pos ⟨(id, n, o), by simp, hid, L, h1, rfl⟩] at he
        cases he
    · exact ih.weak hsub

theorem pw_ne : ∀ {l : List (Nat × Nat × AObj)}, l.Pairwise (fun x y => x.1 ≠ y.1 ∧ x.2.1 ≠ y.2.1) → ∀ x ∈ l, ∀ y ∈ l, x.1 ≠ y.1 → x.2.1 ≠ y.2.1
  | [], _, x, hx, _, _, _ => by simp at hx
  | z :: l, h, x, hx, y, hy, hne => by
    have h' := List.pairwise_cons.1 h
    rcases List.mem_cons.1 hx with e1 | hx' <;> rcases List.mem_cons.1 hy with e2 | hy'
    · subst e1; subst e2; exact absurd rfl hne
    · subst e1; exact (h'.1 y hy').2
    · subst e2; exact Ne.symm (h'.1 x hx').2
    · exact pw_ne h'.2 x hx' y hy' hne

theorem unprot_le {X p : Nat → Bool} (hpX : ∀ i, p i = true → X i = true) {pend : List (Nat × Nat × AObj)} (hp : PendR P prot prot' w0 r X pend) (hle : ∀ b o, prot b = some o → prot' b = some o) :
    ∀ b o, prot b = some o → unprot r p pend prot' b = some o := by
  intro b o e
  unfold unprot
  rw [if_neg]
  · exact hle b o e
  · rintro ⟨x, hx, h1, L, h2, rfl⟩
    obtain ⟨L', obj, q1, _, _, q4, _⟩ := hp.has x hx (hpX _ h1)
    rw [h2] at q1; cases q1
    rw [q4] at e; cases e

theorem pend_rest {X p : Nat → Bool} (hpX : ∀ i, p i = true → X i = true) {pend : List (Nat × Nat × AObj)} (hp : PendR P prot prot' w0 r X pend) (hu : pend.Pairwise (fun x y => x.1 ≠ y.1 ∧ x.2.1 ≠ y.2.1)) :
    PendR P prot (unprot r p pend prot') w0 r X (pend.filter fun x => !p x.1) := by
  have huu := pw_ne hu
  refine ⟨fun x hx hX => ?_, fun x hx y hy => hp.ne x (List.mem_filter.1 hx).1 y (List.mem_filter.1 hy).1⟩
  obtain ⟨L, obj, h1, h2, h3, h4, h5, h6⟩ := hp.has x (List.mem_filter.1 hx).1 hX
  refine ⟨L, obj, h1, ?_, h3, h4, h5, h6⟩
  unfold unprot
  rw [if_neg]
  · exact h2
  · rintro ⟨y, hy, q1, M, q2, q3⟩
    have hxp := (List.mem_filter.1 hx).2
    have hne : x.1 ≠ y.1 := by
      intro e; rw [e, q1] at hxp; cases hxp
    exact hp.ne x (List.mem_filter.1 hx).1 y hy hX (hpX _ q1) (huu x (List.mem_filter.1 hx).1 y hy hne) L M h1 q2 q3.symm

theorem PendR.mono {s : Rho} {w1 : World} {X : Nat → Bool} {pend : List (Nat × Nat × AObj)} (hp : PendR P prot prot' w0 r X pend) (hs : r.le s) : PendR P prot prot' w0 s X pend := by
  refine ⟨fun x hx hX => ?_, fun x hx y hy hX hY hne L M hL hM => ?_⟩
  · obtain ⟨L, obj, h1, h2, h3, h4, h5, h6⟩ := hp.has x hx hX
    exact ⟨L, obj, hs _ _ h1, h2, h3.mono hs, h4, h5, h6⟩
  · obtain ⟨L', _, h1, _⟩ := hp.has x hx hX
    obtain ⟨M', _, k1, _⟩ := hp.has y hy hY
    have e1 := hs _ _ h1
    have e2 := hs _ _ k1
    rw [hL] at e1; cases e1
    rw [hM] at e2; cases e2
    exact hp.ne x hx y hy hX hY hne _ _ h1 k1

/-- what has been laid is taken away again -/
theorem Rel.unlay {n : Nat} {o : AObj} (h : Rel P prot w0 r (S.put n o) w) (hown : o.own = true) (hS : ∀ p, S.get n = some p → p = .dead) :
    ∃ L obj, r n = some L ∧ ObjR P r L o obj ∧ prot L.b = none ∧ w0.heap.size ≤ L.b ∧ Rel P (fun b => if b = L.b then some obj else prot b) w0 r S w := by
  have hd : o ≠ .dead := by rintro rfl; cases hown
  rcases h.live n o (by simp) with e | ⟨L, obj, hL, hb, ho⟩
  · exact absurd e hd
  have hne : ∀ m p, S.get m = some p → p ≠ .dead → m ≠ n := by
    rintro m p hm hp rfl; exact hp (hS p hm)
  have get : ∀ m p, S.get m = some p → p ≠ .dead → (S.put n o).get m = some p := fun m p hm hp => by rw [AS.get_put_ne S o (hne m p hm hp)]; exact hm
  refine ⟨L, obj, hL, ho, ?_, (h.ro n o L (by simp) hd hL).1 hown, ?_⟩
  · cases e : prot L.b with
    | none => rfl
    | some q => exact absurd rfl ((h.prot _ _ e).2 n o L (by simp) hown hL)
  · refine ⟨h.os, h.tape, h.output, h.size, ?_, ?_, h.fresh, fun m p M hm hp hM => h.ro m p M (get m p hm hp) hp hM, ?_⟩
    · intro m p hm
      by_cases hp : p = .dead
      · exact .inl hp
      · exact h.live m p (get m p hm hp)
    · intro a b p q M N ha hb' ho1 ho2 hab hM hN
      exact h.uniq a b p q M N (get a p ha (by rintro rfl; cases ho1)) (get b q hb' ho2) ho1 ho2 hab hM hN
    · intro b q hq
      split at hq
      · rename_i e; subst e; cases hq
        refine ⟨hb, fun m p M hm hp hM => ?_⟩
        have hpd : p ≠ .dead := by rintro rfl; cases hp
        exact Ne.symm (h.uniq n m o p L M (by simp) (get m p hm hpd) hown hpd (Ne.symm (hne m p hm hpd)) hL hM)
      · obtain ⟨h1, h2⟩ := h.prot b q hq
        exact ⟨h1, fun m p M hm hp hM => h2 m p M (get m p hm (by rintro rfl; cases hp)) hp hM⟩
end
end Go.Gx

/-
  Regions that draw their order: the run.
-/
namespace Go.Gx

/-- what is known of an operation that the abstract run has done and the model has not -/
def PF (n0 : Nat) (a : Act) (pend : List (Nat × Nat × AObj)) (rds : List (DO × Act × Value)) (e : DO) (v : Value) : Prop :=
  (wants a e.o.guard = false ∧ v = undef) ∨
  (wants a e.o.guard = true ∧ (
    (e.o.i.cls = .pure ∧ ∃ S1 S2, e.o.i.eval a.ev 0 S1 = .ret (v, S2)) ∨
    (e.o.i.cls = .read ∧ (e, a, v) ∈ rds) ∨
    (e.o.i.cls = .new ∧ ∃ o, e.o.i.newV a.ev (n0 + e.nm) = some (v, o) ∧ (e.id, n0 + e.nm, o) ∈ pend)))

theorem PF.mono {n0 : Nat} {a : Act} {pend pend' : List (Nat × Nat × AObj)} {rds rds' : List (DO × Act × Value)} {e : DO} {v : Value} (h : PF n0 a pend rds e v)
    (hp : ∀ x ∈ pend, x.1 = e.id → x ∈ pend') (hr : ∀ x ∈ rds, x ∈ rds') : PF n0 a pend' rds' e v := by
  rcases h with h | ⟨h1, h | ⟨h2, h3⟩ | ⟨h2, o, h3, h4⟩⟩
  · exact .inl h
  · exact .inr ⟨h1, .inl h⟩
  · exact .inr ⟨h1, .inr (.inl ⟨h2, hr _ h3⟩)⟩
  · exact .inr ⟨h1, .inr (.inr ⟨h2, o, h3, hp _ h4 rfl⟩)⟩

structure AInv (call : Callee → AS → T (En × AS)) (ds : List DO) (n0 : Nat) (a0 : Act) (Q : Ex × Act × AS → Prop) (X : Nat → Bool)
    (log : List (DO × Value)) (rest : List DO) (S : AS) (pend : List (Nat × Nat × AObj)) (rds : List (DO × Act × Value)) : Prop where
  split : ds = log.map (·.1) ++ rest
  run : (drawOs call ds rest n0 (putAll a0 log) S pend rds).all Q
  sub : ∀ i, X i = true → ∃ e ∈ log, e.1.id = i
  oth : ∀ e ∈ log, e.1.o.i.cls = .other → X e.1.id = true
  pf : ∀ l1 e v l2, log = l1 ++ (e, v) :: l2 → X e.id = false → PF n0 (putAll a0 l1) pend rds e v
  rd : ∀ x ∈ rds, X x.1.id = true ∨ ∃ S1, x.1.o.i.eval x.2.1.ev 0 S = .ret (x.2.2, S1)
  pe : ∀ x ∈ pend, ∃ l1 e v l2, log = l1 ++ (e, v) :: l2 ∧ wants (putAll a0 l1) e.o.guard = true ∧ e.o.i.cls = .new ∧ e.o.i.newV (putAll a0 l1).ev (n0 + e.nm) = some (v, x.2.2) ∧ x.1 = e.id ∧ x.2.1 = n0 + e.nm
  pu : pend.Pairwise (fun x y => x.1 ≠ y.1 ∧ x.2.1 ≠ y.2.1)

theorem snoc_split {α : Type} {l l1 l2 : List α} {x y : α} (h : l ++ [x] = l1 ++ y :: l2) : (l2 = [] ∧ l1 = l ∧ y = x) ∨ ∃ l2', l2 = l2' ++ [x] ∧ l = l1 ++ y :: l2' := by
  rcases List.eq_nil_or_concat l2 with rfl | ⟨l2', z, rfl⟩
  · have := List.append_inj' h rfl
    simp at this
    exact .inl ⟨rfl, this.1.symm, this.2.symm⟩
  · right
    have h2 : l ++ [x] = (l1 ++ y :: l2') ++ [z] := by simpa using h
    have := List.append_inj' h2 rfl
    simp at this
    exact ⟨l2', by rw [this.2]; simp, this.1⟩

section
variable {P : Program} {w0 : World} {call : Callee → AS → T (En × AS)} {opers : Array Oper} {is : List O} {ds : List DO} {n0 : Nat} {a0 : Act} {Q : Ex × Act × AS → Prop}

theorem ids_ne (hds : DSpec P opers is ds) {pre post : List DO} {d : DO} (e : ds = pre ++ d :: post) : (∀ x ∈ pre, x.id ≠ d.id) ∧ (∀ x ∈ post, x.id ≠ d.id) := by
  refine ⟨hds.ids pre d post e, fun x hx => ?_⟩
  obtain ⟨p, q, rfl⟩ := List.append_of_mem hx
  have := hds.ids (pre ++ d :: p) x q (by rw [e]; simp) d (by simp)
  exact Ne.symm this

theorem id_pos (hds : DSpec P opers is ds) {pre post pre' post' : List DO} {d d' : DO} (e : ds = pre ++ d :: post) (e' : ds = pre' ++ d' :: post') (h : d.id = d'.id) : pre = pre' ∧ d = d' ∧ post = post' := by
  obtain ⟨h1, h2⟩ := ids_ne hds e
  have hmem : d' ∈ pre ++ d :: post := by rw [← e, e']; simp
  have hlen : pre.length = pre'.length := by
    have g1 : ds[pre.length]? = some d := by rw [e]; simp
    have g2 : ds[pre'.length]? = some d' := by rw [e']; simp
    rcases Nat.lt_trichotomy pre.length pre'.length with hlt | he | hgt
    · exfalso
      have : d ∈ pre' := by
        rw [e', List.getElem?_append_left hlt] at g1
        exact List.mem_of_getElem? g1
      exact (ids_ne hds e').1 d this h
    · exact he
    · exfalso
      have : d' ∈ pre := by
        rw [e, List.getElem?_append_left hgt] at g2
        exact List.mem_of_getElem? g2
      exact h1 d' this h.symm
  have := List.append_inj (e.symm.trans e') hlen
  simp at this
  exact ⟨this.1, this.2.1, this.2.2⟩

theorem log_split {log : List (DO × Value)} {rest : List DO} (hs : ds = log.map (·.1) ++ rest) {l1 l2 : List (DO × Value)} {e : DO} {v : Value} (h : log = l1 ++ (e, v) :: l2) :
    ds = l1.map (·.1) ++ e :: (l2.map (·.1) ++ rest) := by
  rw [hs, h]; simp

/-- the abstract run goes on until it waits for the model -/
theorem adv (hds : DSpec P opers is ds) {X : Nat → Bool} {S : AS} : ∀ (rest : List DO) (log : List (DO × Value)) (pend : List (Nat × Nat × AObj)) (rds : List (DO × Act × Value)), AInv call ds n0 a0 Q X log rest S pend rds →
    ∃ log' rest' pend' rds', AInv call ds n0 a0 Q X log' rest' S pend' rds' ∧ (rest' = [] ∨ ∃ d t, rest' = d :: t ∧ d.o.i.cls = .other) ∧ (∀ x ∈ pend', X x.1 = true → x ∈ pend) ∧
      log'.filter (fun e => X e.1.id) = log.filter (fun e => X e.1.id)
  | [], log, pend, rds, h => ⟨log, [], pend, rds, h, .inl rfl, fun _ hx _ => hx, rfl⟩
  | d :: rest, log, pend, rds, h => by
    by_cases hoth : d.o.i.cls = .other
    · exact ⟨log, d :: rest, pend, rds, h, .inr ⟨d, rest, rfl, hoth⟩, fun _ hx _ => hx, rfl⟩
    have hsp := h.split
    have hids := ids_ne hds hsp
    have hX : X d.id = false := by
      cases e : X d.id with
      | false => rfl
      | true =>
        obtain ⟨x, hx, hxe⟩ := h.sub _ e
        exact absurd hxe (hids.1 x.1 (List.mem_map_of_mem hx))
    have hmemd : d ∈ ds := by rw [hsp]; simp
    -- the step: a value, more that is laid, more that is read
    have go : ∀ (v : Value) (pend' : List (Nat × Nat × AObj)) (rds' : List (DO × Act × Value)), (drawOs call ds rest n0 ((putAll a0 log).put d.o.dst v) S pend' rds').all Q →
        PF n0 (putAll a0 log) pend' rds' d v → (∀ x ∈ pend, x ∈ pend') → (∀ x ∈ rds, x ∈ rds') →
        (∀ x ∈ pend', x ∈ pend ∨ (wants (putAll a0 log) d.o.guard = true ∧ d.o.i.cls = .new ∧ d.o.i.newV (putAll a0 log).ev (n0 + d.nm) = some (v, x.2.2) ∧ x.1 = d.id ∧ x.2.1 = n0 + d.nm)) →
        (∀ x ∈ rds', x ∈ rds ∨ ∃ S1, x.1.o.i.eval x.2.1.ev 0 S = .ret (x.2.2, S1)) → pend'.Pairwise (fun x y => x.1 ≠ y.1 ∧ x.2.1 ≠ y.2.1) →
        ∃ log' rest' pend2 rds2, AInv call ds n0 a0 Q X log' rest' S pend2 rds2 ∧ (rest' = [] ∨ ∃ d t, rest' = d :: t ∧ d.o.i.cls = .other) ∧ (∀ x ∈ pend2, X x.1 = true → x ∈ pend) ∧
          log'.filter (fun e => X e.1.id) = log.filter (fun e => X e.1.id) := by
      intro v pend' rds' hrun hpf hp hr hpe hrd hpu
      have hinv : AInv call ds n0 a0 Q X (log ++ [(d, v)]) rest S pend' rds' := by
        refine ⟨by rw [hsp]; simp, by rw [putAll_snoc]; exact hrun, fun i hi => ?_, fun e he ho => ?_, fun l1 e u l2 hl hXe => ?_, fun x hx => ?_, fun x hx => ?_, hpu⟩
        · obtain ⟨e, he, q⟩ := h.sub i hi
          exact ⟨e, by simp [he], q⟩
        · rcases List.mem_append.1 he with he | he
          · exact h.oth e he ho
          · simp at he; subst he; exact absurd ho hoth
        · rcases snoc_split hl with ⟨rfl, rfl, q⟩ | ⟨l2', rfl, q⟩
          · cases q; exact hpf
          · exact (h.pf l1 e u l2' q hXe).mono (fun x hx _ => hp x hx) hr
        · rcases hrd x hx with hx | hx
          · exact h.rd x hx
          · exact .inr hx
        · rcases hpe x hx with hx | ⟨q1, q2, q3, q4, q5⟩
          · obtain ⟨l1, e, u, l2, k1, k2⟩ := h.pe x hx
            exact ⟨l1, e, u, l2 ++ [(d, v)], by rw [k1]; simp, k2⟩
          · exact ⟨log, d, v, [], rfl, q1, q2, q3, q4, q5⟩
      obtain ⟨log', rest', pend2, rds2, k1, k2, k3, k4⟩ := adv hds rest _ pend' rds' hinv
      refine ⟨log', rest', pend2, rds2, k1, k2, fun x hx hXx => ?_, ?_⟩
      · rcases hpe x (k3 x hx hXx) with hx' | ⟨_, _, _, q4, _⟩
        · exact hx'
        · rw [q4, hX] at hXx; cases hXx
      · rw [k4, List.filter_append]; simp [hX]
    have hrun := h.run
    rw [drawOs] at hrun
    split at hrun
    · rename_i hw
      split at hrun
      · rename_i hc
        rw [T.all_bind] at hrun
        rcases evalPure (ev := (putAll a0 log).ev) (fr := 0) (S := S) hc with ⟨v, he⟩ | he
        · rw [he] at hrun
          exact go v pend rds hrun (.inr ⟨hw, .inl ⟨hc, _, _, he⟩⟩) (fun _ h => h) (fun _ h => h) (fun x hx => .inl hx) (fun x hx => .inl hx) h.pu
        · rw [he] at hrun; exact hrun.elim
      · rename_i hc
        rw [T.all_bind] at hrun
        rcases evalRead hc (putAll a0 log).ev 0 S with ⟨v, he⟩ | he
        · rw [he] at hrun
          refine go v pend ((d, putAll a0 log, v) :: rds) hrun (.inr ⟨hw, .inr (.inl ⟨hc, by simp⟩)⟩) (fun _ h => h) (fun _ h => by simp [h]) (fun x hx => .inl hx) (fun x hx => ?_) h.pu
          rcases List.mem_cons.1 hx with rfl | hx
          · exact .inr ⟨S, he⟩
          · exact .inl hx
        · rw [he] at hrun; exact hrun.elim
      · rename_i hc
        split at hrun
        · rename_i v o hv
          refine go v ((d.id, n0 + d.nm, o) :: pend) rds hrun (.inr ⟨hw, .inr (.inr ⟨hc, o, hv, by simp⟩)⟩) (fun _ h => by simp [h]) (fun _ h => h) (fun x hx => ?_) (fun x hx => .inl hx) ?_
          · rcases List.mem_cons.1 hx with rfl | hx
            · exact .inr ⟨hw, hc, hv, rfl, rfl⟩
            · exact .inl hx
          · refine List.pairwise_cons.2 ⟨fun x hx => ?_, h.pu⟩
            obtain ⟨l1, e, u, l2, k1, _, k3, _, k5, k6⟩ := h.pe x hx
            have hmem : e ∈ log.map (·.1) := by rw [k1]; simp
            have hne := hids.1 e hmem
            have hmeme : e ∈ ds := by rw [hsp]; exact List.mem_append_left _ hmem
            refine ⟨by rw [k5]; exact Ne.symm hne, ?_⟩
            rw [k6]
            have := hds.nms d hmemd e hmeme (Ne.symm hne) (new_takes hc) (new_takes k3)
            simp only; omega
        · exact hrun.elim
      · rename_i hc; exact absurd hc hoth
    · rename_i hw
      exact go undef pend rds hrun (.inl ⟨by simpa using hw, rfl⟩) (fun _ h => h) (fun _ h => h) (fun x hx => .inl hx) (fun x hx => .inl hx) h.pu

/-- the model's operands have the values that the abstract run saw -/
theorem agree (hds : DSpec P opers is ds) {X : Nat → Bool} {l1 l2 : List (DO × Value)} {d : DO} {rest : List DO} (hsp : ds = l1.map (·.1) ++ d :: (l2.map (·.1) ++ rest)) (hX : X d.id = false)
    (hbef : ∀ m, d.bef.testBit m = true → X m = true) (hdown : ∀ e ∈ ds, X e.id = true → ∀ m, e.bef.testBit m = true → X m = true) :
    Agree d.o (putAll a0 l1) (putAll a0 ((l1 ++ l2).filter fun e => X e.1.id)) := by
  intro t ht
  rw [putAll_slot t l1, putAll_slot t ((l1 ++ l2).filter _)]
  congr 2
  congr 1
  rw [List.filter_filter, List.filter_append]
  have e2 : l2.filter (fun e => (e.1.o.dst == some t) && X e.1.id) = [] := by
    rw [List.filter_eq_nil_iff]
    intro e he
    simp only [Bool.and_eq_true, beq_iff_eq, not_and]
    intro hd hXe
    have hmem : e.1 ∈ l2.map (·.1) ++ rest := List.mem_append_left _ (List.mem_map_of_mem he)
    rcases hds.pair _ _ _ hsp e.1 hmem with hb | hb
    · have := hdown e.1 (by rw [hsp]; exact List.mem_append_right _ (List.mem_cons_of_mem _ hmem)) hXe _ hb
      rw [hX] at this; cases this
    · exact (swapOK_spec hb).2.2.1 t hd ht
  rw [e2, List.append_nil]
  apply List.filter_congr
  intro e he
  cases hd : e.1.o.dst == some t with
  | false => simp
  | true =>
    simp only [Bool.true_and]
    obtain ⟨p, q, hpq⟩ := List.append_of_mem he
    have hsp2 : ds = p.map (·.1) ++ e.1 :: (q.map (·.1) ++ d :: (l2.map (·.1) ++ rest)) := by rw [hsp, hpq]; simp
    rcases hds.pair _ _ _ hsp2 d (by simp) with hb | hb
    · rw [hbef _ hb]
    · exact absurd ht ((swapOK_spec hb).1 t (by simpa using hd))

/-- one more of the log has been done by the model -/
theorem log_put (hds : DSpec P opers is ds) {X : Nat → Bool} {l1 l2 : List (DO × Value)} {d : DO} {v : Value} {rest : List DO} (hsp : ds = l1.map (·.1) ++ d :: (l2.map (·.1) ++ rest)) (hX : X d.id = false)
    (hdown : ∀ e ∈ ds, X e.id = true → ∀ m, e.bef.testBit m = true → X m = true) :
    putAll a0 ((l1 ++ (d, v) :: l2).filter fun e => X e.1.id || decide (e.1.id = d.id)) = (putAll a0 ((l1 ++ l2).filter fun e => X e.1.id)).put d.o.dst v := by
  obtain ⟨h1, h2⟩ := ids_ne hds hsp
  have f1 : l1.filter (fun e => X e.1.id || decide (e.1.id = d.id)) = l1.filter (fun e => X e.1.id) := by
    apply List.filter_congr
    intro e he
    have := h1 e.1 (List.mem_map_of_mem he)
    simp [this]
  have f2 : l2.filter (fun e => X e.1.id || decide (e.1.id = d.id)) = l2.filter (fun e => X e.1.id) := by
    apply List.filter_congr
    intro e he
    have := h2 e.1 (List.mem_append_left _ (List.mem_map_of_mem he))
    simp [this]
  rw [List.filter_append, List.filter_cons, f1, f2, List.filter_append]
  simp only [decide_true, Bool.or_true, if_true]
  rw [putAll_append, putAll_append]
  simp only [putAll]
  apply putAll_move
  intro e he t hd hd'
  obtain ⟨he1, he2⟩ := List.mem_filter.1 he
  have hmem : e.1 ∈ l2.map (·.1) ++ rest := List.mem_append_left _ (List.mem_map_of_mem he1)
  rcases hds.pair _ _ _ hsp e.1 hmem with hb | hb
  · have := hdown e.1 (by rw [hsp]; exact List.mem_append_right _ (List.mem_cons_of_mem _ hmem)) he2 _ hb
    rw [hX] at this; cases this
  · exact (swapOK_spec hb).2.1 t hd hd'

theorem filter_skip {X : Nat → Bool} {l1 l2 : List (DO × Value)} {d : DO} {v : Value} (hX : X d.id = false) : (l1 ++ (d, v) :: l2).filter (fun e => X e.1.id) = (l1 ++ l2).filter fun e => X e.1.id := by
  simp [List.filter_append, List.filter_cons, hX]

/-- the abstract facts, when the model has done one more -/
theorem AInv.more {X : Nat → Bool} {log : List (DO × Value)} {rest : List DO} {S : AS} {pend : List (Nat × Nat × AObj)} {rds : List (DO × Act × Value)} (h : AInv call ds n0 a0 Q X log rest S pend rds) {i : Nat} (hi : ∃ e ∈ log, e.1.id = i) :
    AInv call ds n0 a0 Q (fun k => X k || decide (k = i)) log rest S pend rds := by
  refine ⟨h.split, h.run, fun k hk => ?_, fun e he ho => by simp [h.oth e he ho], fun l1 e v l2 hl hXe => ?_, fun x hx => ?_, h.pe, h.pu⟩
  · simp only [Bool.or_eq_true, decide_eq_true_eq] at hk
    rcases hk with hk | rfl
    · exact h.sub k hk
    · exact hi
  · simp only [Bool.or_eq_false_iff] at hXe
    exact h.pf l1 e v l2 hl hXe.1
  · rcases h.rd x hx with h | h
    · exact .inl (by simp [h])
    · exact .inr h

structure CInv (P : Program) (prot : Nat → Option Obj) (w0 : World) (r0 : Rho) (ds : List DO) (n0 N : Nat) (a0 : Act) (X : Nat → Bool) (log : List (DO × Value)) (S : AS) (pend : List (Nat × Nat × AObj)) (r : Rho) (A : Go.Act) (w : World) : Prop where
  act : ActR P r (putAll a0 (log.filter fun e => X e.1.id)) A
  rel : ∃ prot', (∀ b o, prot b = some o → prot' b = some o) ∧ Rel P prot' w0 r S w ∧ PendR P prot prot' w0 r X pend
  ext : Ext r0 r n0
  nx : n0 + N ≤ S.next
  fre : ∀ d ∈ ds, d.o.i.takes = true → X d.id = false → r (n0 + d.nm) = none

end
end Go.Gx

/-
  Regions that draw their order: every order gives what the abstract one gives.
-/
namespace Go.Gx

section
variable {P : Program} {prot : Nat → Option Obj} {w0 : World} {call : Callee → AS → T (En × AS)} {opers : Array Oper} {is : List O} {ds : List DO} {n0 : Nat} {a0 : Act} {Q : Ex × Act × AS → Prop} {r0 : Rho}

theorem pend_pos (hds : DSpec P opers is ds) {X : Nat → Bool} {log : List (DO × Value)} {rest : List DO} {S : AS} {pend : List (Nat × Nat × AObj)} {rds : List (DO × Act × Value)} (h : AInv call ds n0 a0 Q X log rest S pend rds)
    {l1 l2 : List (DO × Value)} {e : DO} {v : Value} (hl : log = l1 ++ (e, v) :: l2) {x : Nat × Nat × AObj} (hx : x ∈ pend) (hid : x.1 = e.id) :
    wants (putAll a0 l1) e.o.guard = true ∧ e.o.i.cls = .new ∧ e.o.i.newV (putAll a0 l1).ev (n0 + e.nm) = some (v, x.2.2) ∧ x.2.1 = n0 + e.nm := by
  obtain ⟨k1, e', v', k2, q1, q2, q3, q4, q5, q6⟩ := h.pe x hx
  obtain ⟨g1, g2, g3⟩ := id_pos hds (log_split h.split q1) (log_split h.split hl) (by rw [← q5, hid])
  have hlen : k1.length = l1.length := by simpa using congrArg List.length g1
  have := List.append_inj (q1.symm.trans hl) hlen
  simp only [List.cons.injEq, Prod.mk.injEq] at this
  obtain ⟨rfl, ⟨rfl, rfl⟩, rfl⟩ := this
  exact ⟨q2, q3, q4, q6⟩

theorem PendR.congr {prot' : Nat → Option Obj} {r : Rho} {X X' : Nat → Bool} {pend : List (Nat × Nat × AObj)} (hp : PendR P prot prot' w0 r X pend) (h : ∀ x ∈ pend, X' x.1 = true → X x.1 = true) : PendR P prot prot' w0 r X' pend :=
  ⟨fun x hx hX => hp.has x hx (h x hx hX), fun x hx y hy hX hY => hp.ne x hx y hy (h x hx hX) (h y hy hY)⟩

theorem or_false_of {a b : Bool} (h : (a || b) = false) : a = false := by cases a <;> simp_all

/-- the model does what the abstract run has done -/
theorem pend_step (hds : DSpec P opers is ds) {X : Nat → Bool} {log : List (DO × Value)} {rest : List DO} {S : AS} {pend : List (Nat × Nat × AObj)} {rds : List (DO × Act × Value)} {r : Rho} {A : Go.Act} {w : World}
    (h : AInv call ds n0 a0 Q X log rest S pend rds) (hc : CInv P prot w0 r0 ds n0 (nTakes is) a0 X log S pend r A w) (hdown : ∀ e ∈ ds, X e.id = true → ∀ m, e.bef.testBit m = true → X m = true)
    {l1 l2 : List (DO × Value)} {e : DO} {v : Value} (hl : log = l1 ++ (e, v) :: l2) (hX : X e.id = false) (hbef : ∀ m, e.bef.testBit m = true → X m = true) {K : Go.Act → World → Prop} {QX : Exit → Go.Act → World → Prop}
    (hK : ∀ r' A' w', CInv P prot w0 r0 ds n0 (nTakes is) a0 (fun k => X k || decide (k = e.id)) log S pend r' A' w' → K A' w') : wpOp P opers QX e.id K A w := by
  have hsp := log_split h.split hl
  have hmem : e ∈ ds := by rw [hsp]; simp
  obtain ⟨oper, ho, hco⟩ := hds.mem e hmem
  obtain ⟨hdst, hc1, hg, hops⟩ := comp2_spec hco
  have hag : Agree e.o (putAll a0 l1) (putAll a0 (log.filter fun e => X e.1.id)) := by
    rw [hl, filter_skip (X := X) hX]; exact agree hds hsp hX hbef hdown
  have hput : putAll a0 (log.filter fun x => X x.1.id || decide (x.1.id = e.id)) = (putAll a0 (log.filter fun e => X e.1.id)).put e.o.dst v := by
    have := log_put (a0 := a0) (v := v) hds hsp hX hdown
    rw [← filter_skip (v := v) (X := X) hX, ← hl] at this
    exact this
  have hA' : ∀ r' v', r.le r' → VR P r' v v' → ActR P r' (putAll a0 (log.filter fun x => X x.1.id || decide (x.1.id = e.id))) (A.put oper.dst v') := fun r' v' hle hv => by
    rw [hput, ← hdst]; exact (hc.act.mono hle).put _ hv
  obtain ⟨prot', hpp, hR, hP⟩ := hc.rel
  have nop : ¬ (wants (putAll a0 l1) e.o.guard = true ∧ e.o.i.cls = .new) → ∀ x ∈ pend, (X x.1 || decide (x.1 = e.id)) = true → X x.1 = true := by
    intro hn x hx hXx
    simp only [Bool.or_eq_true, decide_eq_true_eq] at hXx
    rcases hXx with hXx | hid
    · exact hXx
    · obtain ⟨q1, q2, _⟩ := pend_pos hds h hl hx hid
      exact absurd ⟨q1, q2⟩ hn
  have hnx := hc.nx
  unfold wpOp
  simp only [ho]
  rw [wants_eq hg hc.act, ← hag.wants]
  rcases h.pf l1 e v l2 hl hX with ⟨hw, rfl⟩ | ⟨hw, hcase⟩
  · rw [if_neg (by simp [hw])]
    exact hK r _ w ⟨hA' r undef (.refl r) VR.undef, ⟨prot', hpp, hR, hP.congr (nop (by simp [hw]))⟩, hc.ext, hc.nx, fun d hd ht hXd => hc.fre d hd ht (or_false_of hXd)⟩
  · rw [if_pos hw]
    left
    unfold Oper.wp
    rcases hcase with ⟨hcl, S1, S2, he⟩ | ⟨hcl, hrd⟩ | ⟨hcl, o, hnv, hpm⟩
    · rw [eval_congr hag.ev] at he
      obtain ⟨_, v', hrun, hv⟩ := simP (w := w) oper hc1 hcl hops hc.act.ev (pure_any hcl he 0 S)
      rw [hrun]
      exact hK r _ w ⟨hA' r v' (.refl r) hv, ⟨prot', hpp, hR, hP.congr (nop (by simp [hcl]))⟩, hc.ext, hc.nx, fun d hd ht hXd => hc.fre d hd ht (or_false_of hXd)⟩
    · rcases h.rd _ hrd with hb | ⟨S1, he⟩
      · simp only at hb; rw [hX] at hb; cases hb
      · simp only at he
        rw [eval_congr hag.ev, eval_fr (read_takes hcl) _ 0 S.next] at he
        have hS : S1 = S := by
          rcases evalRead hcl (putAll a0 (log.filter fun e => X e.1.id)).ev S.next S with ⟨u, k⟩ | k
          · rw [k] at he; cases he; rfl
          · rw [k] at he; cases he
        subst hS
        obtain ⟨u, v', S2, r1, w1, hq, hrun, hv, hle, hkeep, hnext, hR1⟩ := simAll (Q := fun x => x = (v, S1)) oper hc1 hops hc.act.ev hR (fun ht => by rw [read_takes hcl] at ht; cases ht) (by rw [he]; rfl)
        cases hq
        have fin := hK r1 _ w1 ⟨hA' r1 v' hle hv, ⟨prot', hpp, hR1, (hP.mono (w1 := w1) hle).congr (nop (by simp [hcl]))⟩, ⟨hc.ext.1.trans hle, fun m hm e0 => hkeep m (by omega) (hc.ext.2 m hm e0)⟩, hc.nx,
          fun d hd ht hXd => hkeep _ (by have := hds.nm d hd ht; omega) (hc.fre d hd ht (or_false_of hXd))⟩
        rcases hrun with hrun | ⟨hrun, rfl⟩
        · rw [hrun]; exact fin
        · rw [hrun]; exact fin
    · rw [newV_congr hag.ev] at hnv
      have hfre := hc.fre e hmem (new_takes hcl) hX
      have hnm := hds.nm e hmem (new_takes hcl)
      obtain ⟨u, v', S2, r1, w1, hq, hrun, hv, hle, hkeep, hnext, hR1⟩ := simAll (fr := n0 + e.nm) (Q := fun x => x = (v, S.put (n0 + e.nm) o)) oper hc1 hops hc.act.ev hR (fun _ => ⟨hfre, by omega⟩)
        (by rw [new_eval hcl, hnv]; rfl)
      cases hq
      have hown := newV_own hnv
      obtain ⟨L, obj, hL, hobj, hpn, hhi, hR2⟩ := hR1.unlay hown (fun p hp => by
        rcases hR.live _ p hp with e' | ⟨M, _, hM, _⟩
        · exact e'
        · rw [hfre] at hM; cases hM)
      have hpn0 : prot L.b = none := by
        cases e0 : prot L.b with
        | none => rfl
        | some q => rw [hpp _ _ e0] at hpn; cases hpn
      have hpos : ∀ x ∈ pend, (X x.1 || decide (x.1 = e.id)) = true → X x.1 = true ∨ (x.2.1 = n0 + e.nm ∧ x.2.2 = o) := by
        intro x hx hXx
        simp only [Bool.or_eq_true, decide_eq_true_eq] at hXx
        rcases hXx with hXx | hid
        · exact .inl hXx
        · obtain ⟨_, _, q3, q4⟩ := pend_pos hds h hl hx hid
          rw [newV_congr hag.ev, hnv] at q3
          cases q3
          exact .inr ⟨q4, rfl⟩
      have old : ∀ x ∈ pend, X x.1 = true → ∃ M ob, r1 x.2.1 = some M ∧ prot' M.b = some ob ∧ ObjR P r1 M x.2.2 ob ∧ prot M.b = none ∧ w0.heap.size ≤ M.b ∧ x.2.2.own = true ∧ M.b ≠ L.b := by
        intro x hx hXx
        obtain ⟨M, ob, q1, q2, q3, q4, q5, q6⟩ := (hP.mono (w1 := w1) hle).has x hx hXx
        exact ⟨M, ob, q1, q2, q3, q4, q5, q6, fun e0 => by rw [e0, hpn] at q2; cases q2⟩
      have fin := hK r1 _ w1 ⟨hA' r1 v' hle hv, ⟨_, fun b q hb => ?_, hR2, ⟨fun x hx hXx => ?_, fun x hx y hy hXx hXy hne M M' hM hM' => ?_⟩⟩, ⟨hc.ext.1.trans hle, fun m hm e0 => hkeep m (by omega) (hc.ext.2 m hm e0)⟩, hc.nx,
          fun d hd ht hXd => ?_⟩
      · rcases hrun with hrun | ⟨hrun, rfl⟩
        · rw [hrun]; exact fin
        · rw [hrun]; exact fin
      · show (if b = L.b then some obj else prot' b) = some q
        rw [if_neg]
        · exact hpp b q hb
        · rintro rfl; rw [hpn0] at hb; cases hb
      · rcases hpos x hx hXx with hXx | ⟨h1, h2⟩
        · obtain ⟨M, ob, q1, q2, q3, q4, q5, q6, q7⟩ := old x hx hXx
          exact ⟨M, ob, q1, by show (if M.b = L.b then some obj else prot' M.b) = some ob; rw [if_neg q7]; exact q2, q3, q4, q5, q6⟩
        · exact ⟨L, obj, by rw [h1]; exact hL, by show (if L.b = L.b then some obj else prot' L.b) = some obj; rw [if_pos rfl], by rw [h2]; exact hobj, hpn0, hhi, by rw [h2]; exact hown⟩
      · rcases hpos x hx hXx with hXx | ⟨h1, h2⟩ <;> rcases hpos y hy hXy with hXy | ⟨h3, h4⟩
        · exact (hP.mono (w1 := w1) hle).ne x hx y hy hXx hXy hne M M' hM hM'
        · obtain ⟨N, ob, q1, q2, q3, q4, q5, q6, q7⟩ := old x hx hXx
          rw [hM] at q1; cases q1
          rw [h3, hL] at hM'; cases hM'
          exact q7
        · obtain ⟨N, ob, q1, q2, q3, q4, q5, q6, q7⟩ := old y hy hXy
          rw [hM'] at q1; cases q1
          rw [h1, hL] at hM; cases hM
          exact Ne.symm q7
        · exact absurd (h1.trans h3.symm) hne
      · simp only [Bool.or_eq_false_iff, decide_eq_false_iff_not] at hXd
        refine hkeep _ ?_ (hc.fre d hd ht hXd.1)
        have := hds.nms d hd e hmem hXd.2 ht (new_takes hcl)
        omega

theorem still_spec {S : AS} {mask : Nat} : ∀ {rds : List (DO × Act × Value)}, still S mask rds = true → ∀ x ∈ rds, mask.testBit x.1.id = true ∨ ∃ S1, x.1.o.i.eval x.2.1.ev 0 S = .ret (x.2.2, S1)
  | [], _, x, hx => by simp at hx
  | (d, a, v) :: rest, h, x, hx => by
    simp only [still, Bool.and_eq_true, Bool.or_eq_true] at h
    rcases List.mem_cons.1 hx with rfl | hx
    · rcases h.1 with h | h
      · exact .inl h
      · right
        split at h
        · rename_i v' S' he
          simp only [decide_eq_true_eq] at h; subst h
          exact ⟨S', he⟩
        · cases h
    · exact still_spec h.2 x hx

/-- the model does what the abstract run has waited for -/
theorem other_step (hcall : CallOK P w0 call) (hround : ∀ l as S Q, ¬ (call (.round l as) S).all Q) (hds : DSpec P opers is ds) {X : Nat → Bool} {log : List (DO × Value)} {d : DO} {rest : List DO} {S : AS} {pend : List (Nat × Nat × AObj)}
    {rds : List (DO × Act × Value)} {r : Rho} {A : Go.Act} {w : World}
    (h : AInv call ds n0 a0 Q X log (d :: rest) S pend rds) (hoth : d.o.i.cls = .other) (hc : CInv P prot w0 r0 ds n0 (nTakes is) a0 X log S pend r A w) (hdown : ∀ e ∈ ds, X e.id = true → ∀ m, e.bef.testBit m = true → X m = true)
    (hX : X d.id = false) (hbef : ∀ m, d.bef.testBit m = true → X m = true) {K : Go.Act → World → Prop} {QX : Exit → Go.Act → World → Prop}
    (hK : ∀ log' S' pend' r' A' w', AInv call ds n0 a0 Q (fun k => X k || decide (k = d.id)) log' rest S' pend' rds → CInv P prot w0 r0 ds n0 (nTakes is) a0 (fun k => X k || decide (k = d.id)) log' S' pend' r' A' w' → K A' w')
    (hQX : ∀ e A' w', QC P prot w0 r0 n0 Q e A' w' → QX e A' w') : wpOp P opers QX d.id K A w := by
  have hsp : ds = log.map (·.1) ++ d :: (([] : List (DO × Value)).map (·.1) ++ rest) := h.split
  have hmem : d ∈ ds := by rw [hsp]; simp
  obtain ⟨oper, ho, hco⟩ := hds.mem d hmem
  obtain ⟨hdst, hc1, hg, hops⟩ := comp2_spec hco
  have hag : Agree d.o (putAll a0 log) (putAll a0 (log.filter fun e => X e.1.id)) := by
    have := agree (a0 := a0) hds hsp hX hbef hdown
    simpa using this
  obtain ⟨prot', hpp, hR, hP⟩ := hc.rel
  have hnx := hc.nx
  obtain ⟨hi1, hi2⟩ := ids_ne hds hsp
  have hlogX : (log.filter fun x => X x.1.id || decide (x.1.id = d.id)) = log.filter fun x => X x.1.id := by
    apply List.filter_congr
    intro e he
    have := hi1 e.1 (List.mem_map_of_mem he)
    simp [this]
  have hsnoc : ∀ v, putAll a0 ((log ++ [(d, v)]).filter fun x => X x.1.id || decide (x.1.id = d.id)) = (putAll a0 (log.filter fun x => X x.1.id)).put d.o.dst v := fun v => by
    rw [List.filter_append, hlogX]
    simp only [List.filter_cons, decide_true, Bool.or_true, if_true, List.filter_nil]
    exact putAll_snoc _ _ _ _
  -- the abstract facts afterwards
  have hinv : ∀ (v : Value) (S' : AS) (pend' : List (Nat × Nat × AObj)), (drawOs call ds rest n0 ((putAll a0 log).put d.o.dst v) S' pend' rds).all Q →
      (∀ x ∈ pend', x ∈ pend) → (∀ x ∈ pend, X x.1 = false → x ∈ pend') → (∀ x ∈ rds, X x.1.id = true ∨ ∃ S1, x.1.o.i.eval x.2.1.ev 0 S' = .ret (x.2.2, S1)) →
      pend'.Pairwise (fun x y => x.1 ≠ y.1 ∧ x.2.1 ≠ y.2.1) → AInv call ds n0 a0 Q (fun k => X k || decide (k = d.id)) (log ++ [(d, v)]) rest S' pend' rds := by
    intro v S' pend' hrun hsub hkeep hrd hpu
    refine ⟨by rw [hsp]; simp, by rw [putAll_snoc]; exact hrun, fun i hi => ?_, fun e he ho => ?_, fun l1 e u l2 hl hXe => ?_, fun x hx => ?_, fun x hx => ?_, hpu⟩
    · simp only [Bool.or_eq_true, decide_eq_true_eq] at hi
      rcases hi with hi | rfl
      · obtain ⟨e, he, q⟩ := h.sub i hi
        exact ⟨e, by simp [he], q⟩
      · exact ⟨(d, v), by simp, rfl⟩
    · rcases List.mem_append.1 he with he | he
      · simp [h.oth e he ho]
      · simp at he; subst he; simp
    · simp only [Bool.or_eq_false_iff, decide_eq_false_iff_not] at hXe
      rcases snoc_split hl with ⟨rfl, rfl, q⟩ | ⟨l2', rfl, q⟩
      · cases q; exact absurd rfl hXe.2
      · exact (h.pf l1 e u l2' q hXe.1).mono (fun x hx hid => hkeep x hx (by rw [hid]; exact hXe.1)) (fun _ h => h)
    · rcases hrd x hx with h | h
      · exact .inl (by simp [h])
      · exact .inr h
    · obtain ⟨l1, e, u, l2, k1, k2⟩ := h.pe x (hsub x hx)
      exact ⟨l1, e, u, l2 ++ [(d, v)], by rw [k1]; simp, k2⟩
  have hcX : ∀ x ∈ pend, (X x.1 || decide (x.1 = d.id)) = true → X x.1 = true := by
    intro x hx hXx
    simp only [Bool.or_eq_true, decide_eq_true_eq] at hXx
    rcases hXx with hXx | hid
    · exact hXx
    · obtain ⟨l1, e, u, l2, k1, _, _, _, k5, _⟩ := h.pe x hx
      exact absurd (k5.symm.trans hid) (hi1 e (by rw [k1]; simp))
  have hrun := h.run
  rw [drawOs] at hrun
  unfold wpOp
  simp only [ho]
  rw [wants_eq hg hc.act, ← hag.wants]
  split at hrun
  · rename_i hw
    rw [if_pos hw]
    left
    simp only [hoth] at hrun
    rw [T.all_bind] at hrun
    have hstep := stepO_congr hag.ev hrun
    have hmaskX : ∀ i, d.bef.testBit i = true → X i = true := hbef
    have hR2 := lay_rel hmaskX hR pend hP h.pu
    have hle2 := unprot_le hmaskX hP hpp
    have hP2 := pend_rest hmaskX hP h.pu
    have hf := flush_eq d.bef S pend
    rw [hf] at hstep
    simp only at hstep
    have hln := layIf_next (fun i => d.bef.testBit i) S pend
    refine stepO_wp hcall hround hco hstep hc.act hR2 ?_ ?_ ?_
    · intro ht
      have := hds.nm d hmem ht
      exact ⟨hc.fre d hmem ht hX, by rw [hln]; omega⟩
    · intro a1 S1 r1 A1 w1 q1 q2 q3 q4 q5 q6
      rw [hln] at q3 q4
      rcases q1 with ⟨_, v, ha1, hq⟩ | ⟨p, hp, _⟩
      · simp only at ha1 hq
        split at hq
        · rename_i hst
          refine hK _ S1 _ r1 A1 w1 (hinv v S1 _ hq (fun x hx => ?_) (fun x hx hXx => ?_) (fun x hx => ?_) ?_) ⟨?_, ⟨_, hle2, q6, ?_⟩, ⟨hc.ext.1.trans q2, fun m hm e0 => q3 m (by omega) (fun _ => by omega) (hc.ext.2 m hm e0)⟩, by omega, fun e he ht hXe => ?_⟩
          · exact (List.mem_filter.1 hx).1
          · refine List.mem_filter.2 ⟨hx, ?_⟩
            cases hb : d.bef.testBit x.1 with
            | false => rfl
            | true => rw [hbef _ hb] at hXx; cases hXx
          · rcases still_spec hst x hx with hb | hb
            · exact .inl (hbef _ hb)
            · exact .inr hb
          · exact h.pu.filter _
          · rw [hsnoc, ← ha1]; exact q5
          · exact (hP2.mono (w1 := w1) q2).congr fun x hx => hcX x (List.mem_filter.1 hx).1
          · simp only [Bool.or_eq_false_iff, decide_eq_false_iff_not] at hXe
            refine q3 _ (by have := hds.nm e he ht; omega) (fun ht' => ?_) (hc.fre e he ht hXe.1)
            have := hds.nms e he d hmem hXe.2 ht ht'
            omega
        · exact hq.elim
      · cases hp
    · intro v a1 S1 r1 v' w1 q1 q2 q3 q4 q5 q6
      rw [hln] at q3 q4
      rcases q1 with ⟨hp, _⟩ | ⟨p, hp, hq⟩
      · cases hp
      · simp only at hp hq
        cases hp
        exact hQX _ _ _ ⟨_, _, S1, r1, hq, .panic _ _ q5, ⟨hc.ext.1.trans q2, fun m hm e0 => q3 m (by omega) (fun _ => by omega) (hc.ext.2 m hm e0)⟩, by omega, hc.act.d2, q6.weak hle2⟩
  · rename_i hw
    rw [if_neg hw]
    refine hK _ S pend r _ w (hinv undef S pend hrun (fun _ h => h) (fun _ h _ => h) h.rd h.pu) ⟨?_, ⟨prot', hpp, hR, hP.congr hcX⟩, hc.ext, hc.nx, fun e he ht hXe => hc.fre e he ht (or_false_of hXe)⟩
    rw [hsnoc, ← hdst]
    exact hc.act.put _ VR.undef

theorem exists_first {X : Nat → Bool} : ∀ (l : List DO), (∃ d ∈ l, X d.id = false) → ∃ pre d post, l = pre ++ d :: post ∧ X d.id = false ∧ ∀ e ∈ pre, X e.id = true
  | [], h => by obtain ⟨d, hd, _⟩ := h; simp at hd
  | c :: l, h => by
    cases hc : X c.id with
    | false => exact ⟨[], c, l, rfl, hc, by simp⟩
    | true =>
      obtain ⟨d, hd, hX⟩ := h
      rcases List.mem_cons.1 hd with rfl | hd
      · rw [hc] at hX; cases hX
      · obtain ⟨pre, e, post, h1, h2, h3⟩ := exists_first l ⟨d, hd, hX⟩
        refine ⟨c :: pre, e, post, by rw [h1]; rfl, h2, fun x hx => ?_⟩
        rcases List.mem_cons.1 hx with rfl | hx
        · exact hc
        · exact h3 x hx

/-- all orders -/
theorem draw_any (hcall : CallOK P w0 call) (hround : ∀ l as S Q, ¬ (call (.round l as) S).all Q) (hds : DSpec P opers is ds) : ∀ (fuel : Nat) (listed : Array Bool) (U : List Nat)
    (log : List (DO × Value)) (rest : List DO) (S : AS) (pend : List (Nat × Nat × AObj)) (rds : List (DO × Act × Value)) (r : Rho) (A : Go.Act) (w : World),
    listed.size = opers.size → (∀ i, i < opers.size → listed.getD i false = false → i ∈ U) → U.length ≤ fuel →
    AInv call ds n0 a0 Q (fun i => listed.getD i false) log rest S pend rds → (rest = [] ∨ ∃ d t, rest = d :: t ∧ d.o.i.cls = .other) →
    CInv P prot w0 r0 ds n0 (nTakes is) a0 (fun i => listed.getD i false) log S pend r A w → (∀ e ∈ ds, listed.getD e.id false = true → ∀ m, e.bef.testBit m = true → listed.getD m false = true) →
    wpAny P .any opers (QC P prot w0 r0 n0 Q) fuel listed A w := by
  intro fuel
  induction fuel with
  | zero =>
    intro listed U log rest S pend rds r A w hsz hU hlen h hhd hc hdown
    have hU0 : U = [] := List.eq_nil_of_length_eq_zero (by omega)
    subst hU0
    have hall : ∀ i, i < opers.size → listed.getD i false = true := fun i hi => by
      cases e : listed.getD i false with
      | true => rfl
      | false => exact absurd (hU i hi e) (by simp)
    have hready : Region.ready .any opers listed = [] := by
      cases hr : Region.ready .any opers listed with
      | nil => rfl
      | cons j l =>
        have hj : j ∈ Region.ready .any opers listed := by rw [hr]; simp
        obtain ⟨h1, o, h2, _⟩ := mem_ready.1 hj
        have hlt := (Array.getElem?_eq_some_iff.1 h2).1
        have := hall j hlt
        have hlt' : j < listed.size := by omega
        simp [hlt'] at h1 this
        rw [h1] at this; cases this
    refine ⟨hready, ?_⟩
    exact fin_ok hds hsz h hc hready hdown
  | succ fuel ih =>
    intro listed U log rest S pend rds r A w hsz hU hlen h hhd hc hdown
    refine ⟨fun hready => fin_ok hds hsz h hc hready hdown, fun i hi => ?_⟩
    obtain ⟨h1, o, h2, hedges⟩ := mem_ready.1 hi
    have hlt := (Array.getElem?_eq_some_iff.1 h2).1
    have hXi : listed.getD i false = false := by
      have hlt' : i < listed.size := by omega
      simp [hlt'] at h1 ⊢; exact h1
    obtain ⟨d, hd, hid⟩ := hds.all i hlt
    have hbef : ∀ m, d.bef.testBit m = true → listed.getD m false = true := by
      intro m hm
      rw [hds.bef d hd, hid, before_spec opers i h2] at hm
      obtain ⟨e, he1, he2, he3⟩ := hm
      have hX := hedges e he1 he2
      rcases he3 with rfl | ⟨hlt2, hb⟩
      · exact hX
      · obtain ⟨d', hd', hid'⟩ := hds.all e.on (by omega)
        exact hdown d' hd' (by rw [hid']; exact hX) m (by rw [hds.bef d' hd', hid']; exact hb)
    have hset : (fun k => (listed.setIfInBounds i true).getD k false) = fun k => listed.getD k false || decide (k = d.id) := by
      funext k
      rw [hid]
      by_cases hk : k = i
      · subst hk
        have hlt' : k < listed.size := by omega
        simp [hlt']
      · simp [Array.getElem?_setIfInBounds_ne (Ne.symm hk), hk]
    have hU' : ∀ k, k < opers.size → (listed.setIfInBounds i true).getD k false = false → k ∈ U.erase i := by
      intro k hk hke
      have := congrFun hset k
      rw [this] at hke
      simp only [Bool.or_eq_false_iff, decide_eq_false_iff_not] at hke
      exact (List.mem_erase_of_ne (by rw [← hid]; exact hke.2)).2 (hU k hk hke.1)
    have hlen' : (U.erase i).length ≤ fuel := by
      rw [List.length_erase_of_mem (hU i hlt hXi)]; omega
    have hdown' : ∀ e ∈ ds, (listed.setIfInBounds i true).getD e.id false = true → ∀ m, e.bef.testBit m = true → (listed.setIfInBounds i true).getD m false = true := by
      intro e he hX m hm
      have e1 := congrFun hset e.id
      have e2 := congrFun hset m
      rw [e1] at hX
      rw [e2]
      simp only [Bool.or_eq_true, decide_eq_true_eq] at hX ⊢
      rcases hX with hX | hX
      · exact .inl (hdown e he hX m hm)
      · refine .inl (hbef m ?_)
        rw [hds.bef d hd, ← hX, ← hds.bef e he]; exact hm
    have hdmem : d ∈ log.map (·.1) ++ rest := by rw [← h.split]; exact hd
    have hXd : listed.getD d.id false = false := by rw [hid]; exact hXi
    rcases List.mem_append.1 hdmem with hdl | hdr
    · obtain ⟨⟨d', v⟩, hmem, rfl⟩ := List.mem_map.1 hdl
      simp only at hid hXd hbef hset
      obtain ⟨l1, l2, hl⟩ := List.append_of_mem hmem
      have := pend_step (QX := QC P prot w0 r0 n0 Q) (K := wpAny P .any opers (QC P prot w0 r0 n0 Q) fuel (listed.setIfInBounds i true)) hds h hc hdown hl hXd hbef (fun r' A' w' hc' => by
        refine ih (listed.setIfInBounds i true) (U.erase i) log rest S pend rds r' A' w' (by simpa using hsz) hU' hlen' ?_ hhd ?_ hdown'
        · rw [hset]; exact h.more ⟨_, hmem, rfl⟩
        · rw [hset]; exact hc')
      rw [hid] at this
      exact this
    · rcases hhd with hn | ⟨d0, t, hrest, hoth⟩
      · rw [hn] at hdr; simp at hdr
      · subst hrest
        have hsp := h.split
        have hX0 : listed.getD d0.id false = false := by
          cases e : listed.getD d0.id false with
          | false => rfl
          | true =>
            obtain ⟨x, hx, hxe⟩ := h.sub _ e
            exact absurd hxe ((ids_ne hds hsp).1 x.1 (List.mem_map_of_mem hx))
        have hdd : d = d0 := by
          rcases List.mem_cons.1 hdr with e | hdt
          · exact e
          · exfalso
            have hno : d.bef.testBit d0.id = true → False := fun hb => by
              rw [hbef _ hb] at hX0; cases hX0
            rcases hds.oth _ _ _ hsp hoth d hdt with ho | hb
            · rcases hds.pair _ _ _ hsp d hdt with hb | hb
              · exact hno hb
              · exact (swapOK_spec hb).2.2.2 ⟨hoth, ho⟩
            · exact hno hb
        subst hdd
        have := other_step (QX := QC P prot w0 r0 n0 Q) (K := wpAny P .any opers (QC P prot w0 r0 n0 Q) fuel (listed.setIfInBounds i true)) hcall hround hds h hoth hc hdown hXd hbef (fun log' S' pend' r' A' w' h' hc' => by
          obtain ⟨log2, rest2, pend2, rds2, k1, k2, k3, k4⟩ := adv hds t log' pend' rds h'
          obtain ⟨prot', p1, p2, p3⟩ := hc'.rel
          refine ih (listed.setIfInBounds i true) (U.erase i) log2 rest2 S' pend2 rds2 r' A' w' (by simpa using hsz) hU' hlen' ?_ k2 ?_ hdown'
          · rw [hset]; exact k1
          · rw [hset]
            exact ⟨by rw [k4]; exact hc'.act, ⟨prot', p1, p2, ⟨fun x hx hX => p3.has x (k3 x hx hX) hX, fun x hx y hy hX hY => p3.ne x (k3 x hx hX) y (k3 y hy hY) hX hY⟩⟩, hc'.ext, hc'.nx, hc'.fre⟩)
          (fun _ _ _ h => h)
        rw [hid] at this
        exact this
where
  fin_ok {listed : Array Bool} {log : List (DO × Value)} {rest : List DO} {S : AS} {pend : List (Nat × Nat × AObj)} {rds : List (DO × Act × Value)} {r : Rho} {A : Go.Act} {w : World}
      (hds : DSpec P opers is ds) (hsz : listed.size = opers.size) (h : AInv call ds n0 a0 Q (fun i => listed.getD i false) log rest S pend rds)
      (hc : CInv P prot w0 r0 ds n0 (nTakes is) a0 (fun i => listed.getD i false) log S pend r A w) (hready : Region.ready .any opers listed = [])
      (hdown : ∀ e ∈ ds, listed.getD e.id false = true → ∀ m, e.bef.testBit m = true → listed.getD m false = true) : QC P prot w0 r0 n0 Q .normal A w := by
    have hall : ∀ d ∈ ds, listed.getD d.id false = true := by
      intro d hd
      cases e : listed.getD d.id false with
      | true => rfl
      | false =>
        exfalso
        obtain ⟨pre, d', post, h1, h2, h3⟩ := exists_first (X := fun i => listed.getD i false) ds ⟨d, hd, e⟩
        have hd' : d' ∈ ds := by rw [h1]; simp
        obtain ⟨oper, ho, _⟩ := hds.mem d' hd'
        have hlt := (Array.getElem?_eq_some_iff.1 ho).1
        have : d'.id ∈ Region.ready .any opers listed := by
          rw [mem_ready]
          refine ⟨?_, oper, ho, fun e he hb => ?_⟩
          · have hlt' : d'.id < listed.size := by omega
            simp [hlt'] at h2 ⊢; exact h2
          · have hbit : d'.bef.testBit e.on = true := by
              rw [hds.bef d' hd', before_spec opers d'.id ho]
              exact ⟨e, he, hb, .inl rfl⟩
            obtain ⟨x, hx, hxe⟩ := hds.up pre d' post h1 _ hbit
            rw [← hxe]; exact h3 x hx
        rw [hready] at this
        simp at this
    have hrest : rest = [] := by
      cases hr : rest with
      | nil => rfl
      | cons d t =>
        exfalso
        have hsp := h.split
        rw [hr] at hsp
        obtain ⟨x, hx, hxe⟩ := h.sub d.id (hall d (by rw [hsp]; simp))
        exact (ids_ne hds hsp).1 x.1 (List.mem_map_of_mem hx) hxe
    have hfil : (log.filter fun e => listed.getD e.1.id false) = log := by
      rw [List.filter_eq_self]
      intro e he
      exact hall e.1 (by rw [h.split]; exact List.mem_append_left _ (List.mem_map_of_mem he))
    have hrun := h.run
    rw [hrest, drawOs] at hrun
    obtain ⟨prot', hpp, hR, hP⟩ := hc.rel
    have hXp : ∀ x ∈ pend, listed.getD x.1 false = true := by
      intro x hx
      obtain ⟨l1, e, u, l2, k1, _, _, _, k5, _⟩ := h.pe x hx
      rw [k5]
      exact hall e (by rw [h.split, k1]; simp)
    have hP' : PendR P prot prot' w0 r (fun _ => true) pend := hP.congr fun x hx _ => hXp x hx
    have hR2 := lay_rel (X := fun _ => true) (p := fun _ => true) (fun _ h => h) hR pend hP' h.pu
    have hle := unprot_le (p := fun _ => true) (fun _ h => h) hP' hpp
    have hact := hc.act
    rw [hfil] at hact
    rw [flushAll_eq] at hrun
    refine ⟨.norm, _, _, r, hrun, .norm, hc.ext, ?_, hact, hR2.weak hle⟩
    rw [layIf_next]
    have := hc.nx
    omega

/-- a region that draws its order -/
theorem draw_ok (hm : P.follows .mixedOrders = true) : DrawOK P w0 := by
  intro call hcall hround prot id opers is ds a S r A w Q his hd h hA hR
  have hds := drawOf_spec his hd
  refine wp_region_any hm ?_
  have hX : (fun i => (Array.replicate opers.size false).getD i false) = fun _ => false := by
    funext i
    rw [Array.getD_eq_getD_getElem?, Array.getElem?_replicate]
    split <;> rfl
  have h0 : AInv call ds S.next a Q (fun i => (Array.replicate opers.size false).getD i false) [] ds (S.bump (nTakes is)) [] [] := by
    rw [hX]
    exact ⟨rfl, h, fun i hi => by simp at hi, fun e he => by simp at he, fun l1 e v l2 hl => by simp at hl, fun x hx => by simp at hx, fun x hx => by simp at hx, .nil⟩
  obtain ⟨log, rest, pend, rds, k1, k2, k3, k4⟩ := adv hds ds [] [] [] h0
  refine draw_any hcall hround hds opers.size _ (List.range opers.size) log rest (S.bump (nTakes is)) pend rds r A _ (by simp) (fun i hi _ => by simpa using hi) (by simp) k1 k2 ?_ ?_
  · refine ⟨by rw [k4]; exact hA, ⟨prot, fun _ _ h => h, (hR.bump _).drawn _, ⟨fun x hx hX' => absurd (k3 x hx hX') (by simp), fun x hx y hy hX' => absurd (k3 x hx hX') (by simp)⟩⟩, .refl _ _, by simp, fun d hd' ht _ => hR.fresh _ (by omega)⟩
  · intro e he hX'
    have := congrFun hX e.id
    rw [this] at hX'; cases hX'
end
end Go.Gx
