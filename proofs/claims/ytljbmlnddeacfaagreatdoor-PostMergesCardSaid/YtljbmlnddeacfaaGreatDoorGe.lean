/-
  Fuel-free rules: what a piece of code, a region and a call give.
-/
import Derived.Test.YtljbmlnddeacfaaGreatDoorGa

set_option linter.all false
set_option linter.deprecated false

namespace Go.Gx

/-- many times the same -/
def reps {α : Type} (n : Nat) (v : α) : List α := List.replicate n v

/-- the functions, and what is known of calls from elsewhere -/
structure Tab where
  F : Nat → Option IFn
  ext : Nat → List Value → AS → Option (Value × AS)

abbrev Post := Ex → Act → AS → Prop

def Tab.call (G : Tab) (n : Nat) : Callee → AS → T (En × AS) := callAny G.F G.ext (exec G.F G.ext n)

def Call (G : Tab) (k : Nat) (args : List Value) (S : AS) (Q : En → AS → Prop) : Prop := ∃ n, (G.call n (.fn k args) S).all fun r => Q r.1 r.2
/-- a round of a range over a function -/
def CallRd (G : Tab) (l : Nat) (args : List Value) (S : AS) (Q : En → AS → Prop) : Prop := ∃ n, (G.call n (.round l args) S).all fun r => Q r.1 r.2
def WP (G : Tab) (c : C) (a : Act) (S : AS) (Q : Post) : Prop := ∃ n, (exec G.F G.ext n c a S).all fun r => Q r.1 r.2.1 r.2.2

/-! ## more fuel gives no less -/
def SubT {α : Type} (t u : T α) : Prop := ∀ Q : α → Prop, t.all Q → u.all Q
theorem SubT.refl {α : Type} (t : T α) : SubT t t := fun _ h => h
theorem SubT.bind {α β : Type} {t u : T α} {f g : α → T β} (h : SubT t u) (k : ∀ a, SubT (f a) (g a)) : SubT (t.bind f) (u.bind g) := fun Q hq => by
  rw [T.all_bind] at hq ⊢
  exact T.all_mono (fun a ha => k a Q ha) (h _ hq)

def SubC (c d : Callee → AS → T (En × AS)) : Prop := ∀ x S, SubT (c x S) (d x S)

theorem stepO_sub {c d : Callee → AS → T (En × AS)} (h : SubC c d) (o : O) (fr : Nat) (a : Act) (S : AS) : SubT (stepO c o fr a S) (stepO d o fr a S) := by
  unfold stepO
  split
  · split
    · exact (h _ _).bind fun _ => .refl _
    · exact .refl _
  all_goals exact .refl _

theorem stepOs_sub {c d : Callee → AS → T (En × AS)} (h : SubC c d) : ∀ (os : List O) (fr : Nat) (a : Act) (S : AS), SubT (stepOs c os fr a S) (stepOs d os fr a S)
  | [], _, _, _ => .refl _
  | o :: os, fr, a, S => by
    unfold stepOs
    simp only
    split
    · refine (stepO_sub h o fr a S).bind fun r => ?_
      split
      · exact stepOs_sub h os _ _ _
      · exact .refl _
    · exact stepOs_sub h os _ _ _

theorem drawOs_sub {c d : Callee → AS → T (En × AS)} (h : SubC c d) (all : List DO) : ∀ (os : List DO) (n0 : Nat) (a : Act) (S : AS) (pend : List (Nat × Nat × AObj)) (rds : List (DO × Act × Value)),
    SubT (drawOs c all os n0 a S pend rds) (drawOs d all os n0 a S pend rds)
  | [], _, _, _, _, _ => by unfold drawOs; exact .refl _
  | o :: os, n0, a, S, pend, rds => by
    unfold drawOs
    split
    · split
      · exact (SubT.refl _).bind fun _ => drawOs_sub h all os _ _ _ _ _
      · exact (SubT.refl _).bind fun _ => drawOs_sub h all os _ _ _ _ _
      · split
        · exact drawOs_sub h all os _ _ _ _ _
        · exact .refl _
      · split
        · exact drawOs_sub h all os _ _ _ _ _
        · exact .refl _
      · refine (stepO_sub h _ _ _ _).bind fun r => ?_
        split
        · split
          · exact drawOs_sub h all os _ _ _ _ _
          · exact .refl _
        · exact .refl _
        · exact .refl _
    · exact drawOs_sub h all os _ _ _ _ _

theorem execD_sub {e f : C → Act → AS → R} (h : ∀ c a S, SubT (e c a S) (f c a S)) (p : Option Value) (c : C) (a : Act) (S : AS) : SubT (execD e p c a S) (execD f p c a S) := by
  unfold execD
  split
  · exact (h _ _ _).bind fun _ => .refl _
  · exact (h _ _ _).bind fun _ => .refl _
theorem leaveD_sub {F : Nat → Option IFn} {e f : C → Act → AS → R} (h : ∀ c a S, SubT (e c a S) (f c a S)) : ∀ (ds : List Deferred) (p : Option Value) (S : AS), SubT (leaveD F e ds p S) (leaveD F f ds p S)
  | [], _, _ => by unfold leaveD; exact .refl _
  | d :: ds, p, S => by
    unfold leaveD
    split
    · split
      · exact leaveD_sub h ds _ _
      · exact .refl _
    · split
      · refine (execD_sub h _ _ _ _).bind fun r => ?_
        split
        · split
          · exact leaveD_sub h ds _ _
          · exact .refl _
        · split
          · exact leaveD_sub h ds _ _
          · exact .refl _
        · exact .refl _
      · exact .refl _
    · exact .refl _
theorem callAny_sub {F : Nat → Option IFn} {ext : Nat → List Value → AS → Option (Value × AS)} {e f : C → Act → AS → R} (h : ∀ c a S, SubT (e c a S) (f c a S)) : SubC (callAny F ext e) (callAny F ext f) := by
  intro x S
  cases x with
  | round l as =>
    unfold callAny callRound
    simp only
    split
    · split
      · refine (h _ _ _).bind fun r => ?_
        split
        · split
          · exact (h _ _ _).bind fun _ => .refl _
          · exact .refl _
        · exact .refl _
      · exact .refl _
    · exact .refl _
  | fn k as =>
    unfold callAny callFn
    simp only
    split
    · exact .refl _
    · split
      · exact .refl _
      · refine (h _ _ _).bind fun r => ?_
        split
        · split
          · exact .refl _
          · exact (leaveD_sub h _ _ _).bind fun _ => .refl _
        · split
          · exact .refl _
          · exact (leaveD_sub h _ _ _).bind fun _ => .refl _
        · split
          · exact .refl _
          · exact (leaveD_sub h _ _ _).bind fun _ => .refl _
        · exact .refl _

theorem exec_sub {F : Nat → Option IFn} {ext : Nat → List Value → AS → Option (Value × AS)} : ∀ (n m : Nat), n ≤ m → ∀ c a S, SubT (exec F ext n c a S) (exec F ext m c a S)
  | 0, _, _, _, _, _ => fun _ h => h.elim
  | n + 1, m, hm, c, a, S => by
    obtain ⟨m, rfl⟩ : ∃ m', m = m' + 1 := ⟨m - 1, by omega⟩
    have ih := exec_sub (F := F) (ext := ext) n m (by omega)
    cases c <;> simp only [exec] <;> first
      | exact .refl _
      | exact stepOs_sub (callAny_sub ih) _ _ _ _
      | exact drawOs_sub (callAny_sub ih) _ _ _ _ _ _ _
      | skip
    · refine (ih _ _ _).bind fun r => ?_
      split
      · exact ih _ _ _
      · exact .refl _
    · split
      · exact ih _ _ _
      · exact .refl _
    · refine (ih _ _ _).bind fun r => ?_
      split <;> exact .refl _
    · refine (ih _ _ _).bind fun r => ?_
      split
      · exact ih _ _ _
      · exact .refl _
    · split
      · exact .refl _
      · split
        · exact (callAny_sub ih _ _).bind fun _ => .refl _
        · exact .refl _

theorem Tab.call_sub (G : Tab) {n m : Nat} (h : n ≤ m) : SubC (G.call n) (G.call m) := callAny_sub (exec_sub n m h)

/-- one fuel for all choices -/
theorem T.all_ex {α : Type} {R : Nat → α → Prop} (hm : ∀ n m a, n ≤ m → R n a → R m a) : ∀ (t : T α), (t.all fun a => ∃ n, R n a) → ∃ n, t.all (R n)
  | .ret a, h => h
  | .fail, h => h.elim
  | .choose k f, h => by
    have one : ∀ j, j ≤ k → ∃ n, ∀ i, i < j → (f i).all (R n) := by
      intro j
      induction j with
      | zero => exact fun _ => ⟨0, fun i hi => absurd hi (Nat.not_lt_zero _)⟩
      | succ j ih =>
        intro hj
        obtain ⟨n, hn⟩ := ih (by omega)
        obtain ⟨m, hm'⟩ := T.all_ex hm (f j) (h j (by omega))
        refine ⟨max n m, fun i hi => ?_⟩
        rcases Nat.lt_succ_iff_lt_or_eq.1 hi with hlt | rfl
        · exact T.all_mono (fun a => hm n _ a (Nat.le_max_left _ _)) (hn i hlt)
        · exact T.all_mono (fun a => hm m _ a (Nat.le_max_right _ _)) hm'
    exact one k (Nat.le_refl _)

section
variable {G : Tab}

theorem Call.mono {k : Nat} {args : List Value} {S : AS} {Q R : En → AS → Prop} (h : Call G k args S Q) (hq : ∀ e S', Q e S' → R e S') : Call G k args S R := by
  obtain ⟨n, h⟩ := h
  exact ⟨n, T.all_mono (fun r hr => hq _ _ hr) h⟩
theorem WP.mono {c : C} {a : Act} {S : AS} {Q R : Post} (h : WP G c a S Q) (hq : ∀ e a S', Q e a S' → R e a S') : WP G c a S R := by
  obtain ⟨n, h⟩ := h
  exact ⟨n, T.all_mono (fun r hr => hq _ _ _ hr) h⟩

/-! ## code -/
theorem wp_skip' {a : Act} {S : AS} {Q : Post} (h : Q .norm a S) : WP G .skip a S Q := ⟨1, h⟩
theorem wp_ret' {a : Act} {S : AS} {Q : Post} (h : Q .ret a S) : WP G .ret a S Q := ⟨1, h⟩
theorem wp_exit' {id : Nat} {a : Act} {S : AS} {Q : Post} (h : Q (.exit id) a S) : WP G (.exit id) a S Q := ⟨1, h⟩

/-- what follows, if nothing has left -/
def Then (G : Tab) (y : C) (Q : Post) : Post
  | .norm, a, S => WP G y a S Q
  | e, a, S => Q e a S
@[simp] theorem then_norm {y : C} {Q : Post} {a : Act} {S : AS} : Then G y Q .norm a S = WP G y a S Q := rfl
@[simp] theorem then_ret {y : C} {Q : Post} {a : Act} {S : AS} : Then G y Q .ret a S = Q .ret a S := rfl
@[simp] theorem then_exit {y : C} {Q : Post} {id : Nat} {a : Act} {S : AS} : Then G y Q (.exit id) a S = Q (.exit id) a S := rfl
@[simp] theorem then_panic {y : C} {Q : Post} {v : Value} {a : Act} {S : AS} : Then G y Q (.panic v) a S = Q (.panic v) a S := rfl

theorem wp_seq' {x y : C} {a : Act} {S : AS} {Q : Post} (h : WP G x a S (Then G y Q)) : WP G (.seq x y) a S Q := by
  obtain ⟨n, h⟩ := h
  have h2 : (exec G.F G.ext n x a S).all fun r => ∃ m, (match r with | (.norm, a', S') => exec G.F G.ext m y a' S' | r => .ret r : R).all fun r => Q r.1 r.2.1 r.2.2 := by
    refine T.all_mono ?_ h
    rintro ⟨e, a', S'⟩ hr
    cases e with
    | norm => exact hr
    | exit id => exact ⟨0, hr⟩
    | ret => exact ⟨0, hr⟩
    | panic v => exact ⟨0, hr⟩
  obtain ⟨m, hm⟩ := T.all_ex (fun n m r hnm hr => by
    obtain ⟨e, a', S'⟩ := r
    cases e with
    | norm => exact exec_sub n m hnm _ _ _ _ hr
    | exit id => exact hr
    | ret => exact hr
    | panic v => exact hr) _ h2
  refine ⟨max n m + 1, ?_⟩
  show ((exec G.F G.ext (max n m) x a S).bind _).all _
  rw [T.all_bind]
  refine T.all_mono ?_ (exec_sub n (max n m) (Nat.le_max_left _ _) _ _ _ _ hm)
  rintro ⟨e, a', S'⟩ hr
  cases e with
  | norm => exact exec_sub m _ (Nat.le_max_right _ _) _ _ _ _ hr
  | exit id => exact hr
  | ret => exact hr
  | panic v => exact hr

theorem wp_cond' {c : Operand} {x y : C} {a : Act} {S : AS} {Q : Post} {b : Bool} (hb : a.ev c = .bool b) (h : WP G (if b then x else y) a S Q) : WP G (.cond c x y) a S Q := by
  obtain ⟨n, h⟩ := h
  refine ⟨n + 1, ?_⟩
  simp only [exec, hb]
  exact h

def unblock (id : Nat) : Ex → Ex
  | .exit i => if i = id then .norm else .exit i
  | e => e

theorem wp_block' {id : Nat} {x : C} {a : Act} {S : AS} {Q : Post} (h : WP G x a S fun e a' S' => Q (unblock id e) a' S') : WP G (.block id x) a S Q := by
  obtain ⟨n, h⟩ := h
  refine ⟨n + 1, ?_⟩
  simp only [exec]
  rw [T.all_bind]
  refine T.all_mono ?_ h
  rintro ⟨e, a', S'⟩ hr
  cases e <;> exact hr

/-- a loop: an invariant that comes down -/
def Round (I : Nat → Act → AS → Prop) (k : Nat) (Q : Post) : Post
  | .norm, a, S => ∃ k', k' < k ∧ I k' a S
  | e, a, S => Q e a S

theorem wp_loop' {x : C} {Q : Post} (I : Nat → Act → AS → Prop) (h : ∀ k a S, I k a S → WP G x a S (Round I k Q)) : ∀ k a S, I k a S → WP G (.loop x) a S Q := by
  intro k
  induction k using Nat.strongRecOn with
  | _ k ih =>
    intro a S hI
    obtain ⟨n, hn⟩ := h k a S hI
    have h2 : (exec G.F G.ext n x a S).all fun r => ∃ m, (match r with | (.norm, a', S') => exec G.F G.ext m (.loop x) a' S' | r => .ret r : R).all fun r => Q r.1 r.2.1 r.2.2 := by
      refine T.all_mono ?_ hn
      rintro ⟨e, a', S'⟩ hr
      cases e with
      | norm =>
        obtain ⟨k', hk, hI'⟩ := hr
        exact ih k' hk a' S' hI'
      | exit id => exact ⟨0, hr⟩
      | ret => exact ⟨0, hr⟩
      | panic v => exact ⟨0, hr⟩
    obtain ⟨m, hm⟩ := T.all_ex (fun n m r hnm hr => by
      obtain ⟨e, a', S'⟩ := r
      cases e with
      | norm => exact exec_sub n m hnm _ _ _ _ hr
      | exit id => exact hr
      | ret => exact hr
      | panic v => exact hr) _ h2
    refine ⟨max n m + 1, ?_⟩
    show ((exec G.F G.ext (max n m) x a S).bind _).all _
    rw [T.all_bind]
    refine T.all_mono ?_ (exec_sub n (max n m) (Nat.le_max_left _ _) _ _ _ _ hm)
    rintro ⟨e, a', S'⟩ hr
    cases e with
    | norm => exact exec_sub m _ (Nat.le_max_right _ _) _ _ _ _ hr
    | exit id => exact hr
    | ret => exact hr
    | panic v => exact hr

/-! ## calls -/
theorem call_ext {k : Nat} {args : List Value} {S : AS} {Q : En → AS → Prop} {v : Value} {S' : AS} (h : G.ext k args S = some (v, S')) (hq : Q (.ret v) S') : Call G k args S Q := ⟨0, by
  simp only [Tab.call, callAny, callFn, h]; exact hq⟩

/-- what a body's end gives to the caller -/
def OutD (rs : List RV) (env : List Value) (Q : En → AS → Prop) : Option AS → Prop
  | some S => ∃ v, resV rs env S = some v ∧ Q (.ret v) S
  | none => False
def OutP (p : Prop) : List Deferred → Prop
  | [] => p
  | _ => False
def Out (rs : List RV) (Q : En → AS → Prop) : Post
  | .norm, a, S => OutD rs a.env Q (drain a.defers S)
  | .ret, a, S => OutD rs a.env Q (drain a.defers S)
  | .panic v, a, S => OutP (Q (.panic v) S) a.defers
  | .exit _, _, _ => False

theorem call_fn {k : Nat} {args : List Value} {S : AS} {Q : En → AS → Prop} {fn : IFn} (hF : G.F k = some fn) (he : G.ext k args S = none)
    (h : WP G fn.body { env := args ++ List.replicate (fn.ntmps - args.length) undef, defers := [] } S (Out fn.results Q)) : Call G k args S Q := by
  obtain ⟨n, h⟩ := h
  refine ⟨n, ?_⟩
  simp only [Tab.call, callAny, callFn, he, hF]
  rw [T.all_bind]
  refine T.all_mono ?_ h
  rintro ⟨e, a, S'⟩ hr
  have dn : OutD fn.results a.env Q (drain a.defers S') → T.all (fun r => Q r.1 r.2) (match drain a.defers S' with
      | some S2 => match resV fn.results a.env S2 with
        | some v => (T.ret (En.ret v, S2) : T (En × AS))
        | none => .fail
      | none => (leaveD G.F (exec G.F G.ext n) a.defers none S').bind fun
        | (none, S2) => match resV fn.results a.env S2 with
          | some v => .ret (.ret v, S2)
          | none => .fail
        | (some _, _) => .fail) := by
    intro hd
    cases hdr : drain a.defers S' with
    | none => rw [hdr] at hd; exact hd.elim
    | some S2 =>
      rw [hdr] at hd
      obtain ⟨v, h1, h2⟩ := hd
      simp only [h1]; exact h2
  cases e with
  | norm => exact dn hr
  | ret => exact dn hr
  | exit id => exact hr.elim
  | panic v =>
    simp only [Out] at hr
    cases hds : a.defers with
    | nil => rw [hds] at hr; simp only [hds]; exact hr
    | cons d ds => rw [hds] at hr; exact hr.elim

/-! ## deferred calls -/
/-- the deferred calls of a function that leaves: what is left of the panic -/
def LeaveP (G : Tab) (ds : List Deferred) (p : Option Value) (S : AS) (Q : Option Value → AS → Prop) : Prop := ∃ n, (leaveD G.F (exec G.F G.ext n) ds p S).all fun r => Q r.1 r.2
theorem leaveG_sub (n m : Nat) (h : n ≤ m) (ds : List Deferred) (p : Option Value) (S : AS) : SubT (leaveD G.F (exec G.F G.ext n) ds p S) (leaveD G.F (exec G.F G.ext m) ds p S) := leaveD_sub (exec_sub n m h) ds p S
theorem leave_nil {p : Option Value} {S : AS} {Q : Option Value → AS → Prop} (h : Q p S) : LeaveP G [] p S Q := ⟨0, h⟩
theorem leave_coll {n : Nat} {as : Array Value} {ds : List Deferred} {p : Option Value} {S : AS} {Q : Option Value → AS → Prop} (hg : S.get n = some (.defd (some []))) (h : LeaveP G ds p (S.put n (.defd none)) Q) : LeaveP G ({ target := .collected n, args := as } :: ds) p S Q := by
  obtain ⟨m, h⟩ := h
  refine ⟨m, ?_⟩
  unfold leaveD
  simp only [hg]
  exact h
/-- a deferred function's end -/
def DOut (rs : List RV) (K : AS → Prop) : Post
  | .norm, a, S => a.defers = [] ∧ (∃ v, resV rs a.env S = some v) ∧ K S
  | .ret, a, S => a.defers = [] ∧ (∃ v, resV rs a.env S = some v) ∧ K S
  | _, _, _ => False
theorem leave_all {k : Nat} {cap as : Array Value} {ds : List Deferred} {p : Option Value} {S : AS} {Q : Option Value → AS → Prop} {fn : IFn} {c : C} {a0 : Act} {rc : Bool} (hF : G.F k = some fn)
    (he : ∀ n, execD (exec G.F G.ext n) p fn.body { env := (as.toList ++ cap.toList) ++ List.replicate (fn.ntmps - (as.toList ++ cap.toList).length) undef, defers := [] } S = (exec G.F G.ext n c a0 S).bind fun r => .ret (rc, r))
    (h : WP G c a0 S (DOut fn.results fun S' => LeaveP G ds (if rc then none else p) S' Q)) : LeaveP G ({ target := .fn (.func k) cap, args := as } :: ds) p S Q := by
  obtain ⟨n, h⟩ := h
  have h2 : (exec G.F G.ext n c a0 S).all fun r => ∃ m, (match (r : Ex × Act × AS) with
      | (.norm, a, S') | (.ret, a, S') => match a.defers, resV fn.results a.env S' with
        | [], some _ => leaveD G.F (exec G.F G.ext m) ds (if rc then none else p) S'
        | _, _ => .fail
      | _ => .fail : T (Option Value × AS)).all fun r => Q r.1 r.2 := by
    refine T.all_mono ?_ h
    rintro ⟨e, a, S'⟩ hr
    cases e with
    | norm =>
      obtain ⟨h1, ⟨v, h2⟩, m, h3⟩ := hr
      have h1' : a.defers = [] := h1
      have h2' : resV fn.results a.env S' = some v := h2
      exact ⟨m, by simp only [h1', h2']; exact h3⟩
    | ret =>
      obtain ⟨h1, ⟨v, h2⟩, m, h3⟩ := hr
      have h1' : a.defers = [] := h1
      have h2' : resV fn.results a.env S' = some v := h2
      exact ⟨m, by simp only [h1', h2']; exact h3⟩
    | exit id => exact hr.elim
    | panic v => exact hr.elim
  obtain ⟨m, hm⟩ := T.all_ex (fun n m r hnm hr => by
    obtain ⟨e, a, S'⟩ := r
    cases e with
    | norm =>
      simp only at hr ⊢
      split at hr
      · exact leaveG_sub n m hnm _ _ _ _ hr
      · exact hr.elim
    | ret =>
      simp only at hr ⊢
      split at hr
      · exact leaveG_sub n m hnm _ _ _ _ hr
      · exact hr.elim
    | exit id => exact hr.elim
    | panic v => exact hr.elim) _ h2
  refine ⟨max n m, ?_⟩
  unfold leaveD
  simp only [hF]
  rw [he, T.all_bind, T.all_bind]
  refine T.all_mono ?_ (exec_sub n (max n m) (Nat.le_max_left _ _) _ _ _ _ hm)
  rintro ⟨e, a, S'⟩ hr
  cases e with
  | norm =>
    simp only at hr
    show T.all _ (match a.defers, resV fn.results a.env S' with
      | [], some _ => leaveD G.F (exec G.F G.ext (max n m)) ds (if rc then none else p) S'
      | _, _ => .fail)
    split at hr
    · exact leaveG_sub m _ (Nat.le_max_right _ _) _ _ _ _ hr
    · exact hr.elim
  | ret =>
    simp only at hr
    show T.all _ (match a.defers, resV fn.results a.env S' with
      | [], some _ => leaveD G.F (exec G.F G.ext (max n m)) ds (if rc then none else p) S'
      | _, _ => .fail)
    split at hr
    · exact leaveG_sub m _ (Nat.le_max_right _ _) _ _ _ _ hr
    · exact hr.elim
  | exit id => exact hr.elim
  | panic v => exact hr.elim
theorem leave_plain {k : Nat} {cap as : Array Value} {ds : List Deferred} {p : Option Value} {S : AS} {Q : Option Value → AS → Prop} {fn : IFn} (hF : G.F k = some fn) (hh : headRec fn.body = none)
    (h : WP G fn.body { env := (as.toList ++ cap.toList) ++ List.replicate (fn.ntmps - (as.toList ++ cap.toList).length) undef, defers := [] } S (DOut fn.results fun S' => LeaveP G ds p S' Q)) : LeaveP G ({ target := .fn (.func k) cap, args := as } :: ds) p S Q :=
  leave_all (rc := false) hF (fun n => by unfold execD; rw [hh]) h
theorem leave_rec {k : Nat} {cap as : Array Value} {ds : List Deferred} {p : Option Value} {S : AS} {Q : Option Value → AS → Prop} {fn : IFn} {d : Option Nat} {y : C} (hF : G.F k = some fn) (hh : headRec fn.body = some (d, y))
    (h : WP G y (({ env := (as.toList ++ cap.toList) ++ List.replicate (fn.ntmps - (as.toList ++ cap.toList).length) undef, defers := [] } : Act).put d (p.getD .nilIface)) S (DOut fn.results fun S' => LeaveP G ds none S' Q)) : LeaveP G ({ target := .fn (.func k) cap, args := as } :: ds) p S Q :=
  leave_all (rc := p.isSome) hF (fun n => by unfold execD; rw [hh]) (by cases p <;> exact h)
theorem drain_leave {ex : C → Act → AS → R} {F : Nat → Option IFn} {p : Option Value} : ∀ {ds : List Deferred} {S S2 : AS}, drain ds S = some S2 → leaveD F ex ds p S = .ret (p, S2)
  | [], S, S2, h => by simp only [drain, Option.some.injEq] at h; subst h; rfl
  | d :: ds, S, S2, h => by
    simp only [drain] at h
    split at h
    · rename_i n hn
      split at h
      · rename_i hg
        unfold leaveD
        simp only [hn, hg]
        exact drain_leave h
      · cases h
    · cases h
/-- what a body's end gives to the caller, deferred calls and all -/
def OutX (G : Tab) (rs : List RV) (Q : En → AS → Prop) : Post
  | .norm, a, S => LeaveP G a.defers none S fun p S2 => p = none ∧ ∃ v, resV rs a.env S2 = some v ∧ Q (.ret v) S2
  | .ret, a, S => LeaveP G a.defers none S fun p S2 => p = none ∧ ∃ v, resV rs a.env S2 = some v ∧ Q (.ret v) S2
  | .panic v, a, S => LeaveP G a.defers (some v) S fun p S2 => match p with
    | none => cellsOnly rs = true ∧ ∃ u, resV rs a.env S2 = some u ∧ Q (.ret u) S2
    | some w => Q (.panic w) S2
  | .exit _, _, _ => False
theorem call_dfr {k : Nat} {args : List Value} {S : AS} {Q : En → AS → Prop} {fn : IFn} (hF : G.F k = some fn) (he : G.ext k args S = none)
    (h : WP G fn.body { env := args ++ List.replicate (fn.ntmps - args.length) undef, defers := [] } S (OutX G fn.results Q)) : Call G k args S Q := by
  obtain ⟨n, h⟩ := h
  obtain ⟨m, hm⟩ := T.all_ex (R := fun m (r : Ex × Act × AS) => match r with
    | (.norm, a, S') | (.ret, a, S') => (leaveD G.F (exec G.F G.ext m) a.defers none S').all fun r => r.1 = none ∧ ∃ v, resV fn.results a.env r.2 = some v ∧ Q (.ret v) r.2
    | (.panic v, a, S') => (leaveD G.F (exec G.F G.ext m) a.defers (some v) S').all fun r => match r.1 with
      | none => cellsOnly fn.results = true ∧ ∃ u, resV fn.results a.env r.2 = some u ∧ Q (.ret u) r.2
      | some w => Q (.panic w) r.2
    | _ => False) (fun n m r hnm hr => by
      obtain ⟨e, a, S'⟩ := r
      cases e with
      | norm => exact leaveG_sub n m hnm _ _ _ _ hr
      | ret => exact leaveG_sub n m hnm _ _ _ _ hr
      | panic v => exact leaveG_sub n m hnm _ _ _ _ hr
      | exit id => exact hr.elim) _ (T.all_mono (fun r hr => by
      obtain ⟨e, a, S'⟩ := r
      cases e with
      | norm => exact hr
      | ret => exact hr
      | panic v => exact hr
      | exit id => exact hr.elim) h)
  refine ⟨max n m, ?_⟩
  simp only [Tab.call, callAny, callFn, he, hF]
  rw [T.all_bind]
  refine T.all_mono ?_ (exec_sub n (max n m) (Nat.le_max_left _ _) _ _ _ _ hm)
  rintro ⟨e, a, S'⟩ hr
  have norm : ((leaveD G.F (exec G.F G.ext m) a.defers none S').all fun r => r.1 = none ∧ ∃ v, resV fn.results a.env r.2 = some v ∧ Q (.ret v) r.2) → T.all (fun r => Q r.1 r.2) (match drain a.defers S' with
      | some S2 => match resV fn.results a.env S2 with
        | some v => (T.ret (En.ret v, S2) : T (En × AS))
        | none => .fail
      | none => (leaveD G.F (exec G.F G.ext (max n m)) a.defers none S').bind fun
        | (none, S2) => match resV fn.results a.env S2 with
          | some v => .ret (.ret v, S2)
          | none => .fail
        | (some _, _) => .fail) := by
    intro hr
    split
    · rename_i S2 hS2
      rw [drain_leave hS2] at hr
      obtain ⟨_, v, h1, h2⟩ := hr
      simp only at h1
      simp only [h1]
      exact h2
    · rw [T.all_bind]
      refine T.all_mono ?_ (leaveG_sub m _ (Nat.le_max_right _ _) _ _ _ _ hr)
      rintro ⟨p, S2⟩ ⟨h0, v, h1, h2⟩
      simp only at h0 h1 h2
      subst h0
      simp only [h1]
      exact h2
  cases e with
  | norm => exact norm hr
  | ret => exact norm hr
  | exit id => exact hr.elim
  | panic v =>
    simp only at hr ⊢
    split
    · rename_i hds
      rw [hds] at hr
      exact hr
    · rename_i d0 ds0 hds
      rw [hds] at hr
      rw [T.all_bind]
      refine T.all_mono ?_ (leaveG_sub m _ (Nat.le_max_right _ _) _ _ _ _ hr)
      rintro ⟨p, S2⟩ hp
      cases p with
      | none =>
        obtain ⟨h0, u, h1, h2⟩ := hp
        simp only at h1 h2 ⊢
        rw [if_pos h0, h1]
        exact h2
      | some w => exact hp

/-! ## ranges over functions -/
/-- what a round's body gives to who yields -/
def KRd (l : Nat) (Q : En → AS → Prop) : Ex → Option AObj → AS → Prop
  | .norm, some (.loop _ _ env ps asg body dblk), S => Q (.ret (.bool true)) (S.put l (.loop .ready none env ps asg body dblk))
  | .exit id, some (.loop _ _ env ps asg body dblk), S => Q (.ret (.bool false)) (S.put l (.loop .done (some (.exit id)) env ps asg body dblk))
  | .ret, some (.loop _ _ env ps asg body dblk), S => Q (.ret (.bool false)) (S.put l (.loop .done (some .ret) env ps asg body dblk))
  | _, _, _ => False
def KRa (G : Tab) (l : Nat) (body : C) (Q : En → AS → Prop) : Ex → Act → Option AObj → AS → Prop
  | .norm, a, some (.loop .ready pend env ps asg body1 dblk), S => WP G body a (S.put l (.loop .busy pend env ps asg body1 dblk)) (fun e _ S2 => KRd l Q e (S2.get l) S2)
  | _, _, _, _ => False

theorem callRd {l : Nat} {args : List Value} {S : AS} {Q : En → AS → Prop} {pend : Option Jump} {env : List Value} {ps : List Nat} {asg body : C} {dblk : Nat} (hl : S.get l = some (.loop .ready pend env ps asg body dblk)) (hn : args.length = ps.length)
    (h : WP G asg { env := setParams ps args env, defers := [], rnd := some l } S (fun e a S1 => KRa G l body Q e a (S1.get l) S1)) : CallRd G l args S Q := by
  obtain ⟨n, h⟩ := h
  have h2 : (exec G.F G.ext n asg { env := setParams ps args env, defers := [], rnd := some l } S).all fun r => ∃ m, (match r with
      | (.norm, a, S1) => match S1.get l with
        | some (.loop .ready pend1 env1 ps1 asg1 body1 dblk1) => exec G.F G.ext m body a (S1.put l (.loop .busy pend1 env1 ps1 asg1 body1 dblk1))
        | _ => .fail
      | _ => .fail : R).all fun r => KRd l Q r.1 (r.2.2.get l) r.2.2 := by
    refine T.all_mono ?_ h
    rintro ⟨e, a, S1⟩ hr
    simp only at hr
    unfold KRa at hr
    split at hr
    · rename_i heq
      obtain ⟨m, hm⟩ := hr
      exact ⟨m, by simp only [heq]; exact hm⟩
    · exact hr.elim
  obtain ⟨m, hm⟩ := T.all_ex (fun n m r hnm hr => by
    obtain ⟨e, a, S1⟩ := r
    cases e with
    | norm =>
      simp only at hr ⊢
      split at hr
      · rename_i heq
        exact exec_sub n m hnm _ _ _ _ hr
      · exact hr.elim
    | _ => exact hr.elim) _ h2
  refine ⟨max n m, ?_⟩
  simp only [Tab.call, callAny, callRound, hl, hn, if_true]
  rw [T.all_bind]
  refine T.all_mono ?_ (exec_sub n (max n m) (Nat.le_max_left _ _) _ _ _ _ hm)
  rintro ⟨e, a, S1⟩ hr
  cases e with
  | norm =>
    simp only at hr ⊢
    split at hr
    · rename_i heq
      simp only [heq]
      rw [T.all_bind]
      refine T.all_mono ?_ (exec_sub m (max n m) (Nat.le_max_right _ _) _ _ _ _ hr)
      rintro ⟨e2, a2, S2⟩ hk
      simp only at hk ⊢
      unfold KRd at hk
      split at hk
      · rename_i h3; simp only [h3]; exact hk
      · rename_i h3; simp only [h3]; exact hk
      · rename_i h3; simp only [h3]; exact hk
      · exact hk.elim
    · exact hr.elim
  | _ => exact hr.elim

def jumpEx : Option Jump → Ex
  | none => .norm
  | some (.exit id) => .exit id
  | some .ret => .ret
/-- behind the function that is ranged over -/
def KRe (l : Nat) (a : Act) (Q : Post) : Option AObj → AS → Prop
  | some (.loop st pend env ps asg body dblk), S => st ≠ .busy ∧ Q (jumpEx pend) a (S.put l (.loop .exhausted pend env ps asg body dblk))
  | _, _ => False
def KRg (l : Nat) (a : Act) (Q : Post) : En → AS → Prop
  | .ret _, S => KRe l a Q (S.get l) S
  | .panic v, S => Q (.panic v) a S
theorem wp_range {f : Operand} {ps : List Nat} {asg body : C} {a : Act} {S : AS} {Q : Post} {k : Nat} {as : List Value} (hr : a.rnd = none) (hc : calleeOf (a.ev f) [.func (.yield (S.next + 1)) #[] #[]] = some (.fn k as))
    (h : Call G k as (((S.bump 2).put S.next (.defd (some []))).put (S.next + 1) (.loop .ready none a.env ps asg body S.next)) (KRg (S.next + 1) { a with defers := { target := .collected S.next, args := #[] } :: a.defers } Q)) :
    WP G (.rangeF f ps asg body) a S Q := by
  obtain ⟨aenv, ads, apan, arecd, arnd⟩ := a
  simp only at hr
  subst hr
  obtain ⟨n, h⟩ := h
  refine ⟨n + 1, ?_⟩
  simp only [exec, hc]
  rw [T.all_bind]
  refine T.all_mono ?_ h
  rintro ⟨e, S2⟩ hk
  cases e with
  | panic v => exact hk
  | ret v =>
    simp only [KRg] at hk
    unfold KRe at hk
    split at hk
    · rename_i h3
      simp only [h3]
      rw [if_neg hk.1]
      have := hk.2
      unfold jumpEx at this
      split at this <;> exact this
    · exact hk.elim

/-! ## operations -/
def Back (K : Value → AS → Prop) (QP : Value → AS → Prop) : En → AS → Prop
  | .ret v, S => K v S
  | .panic v, S => QP v S
@[simp] theorem back_ret {K QP : Value → AS → Prop} {v : Value} {S : AS} : Back K QP (.ret v) S = K v S := rfl
@[simp] theorem back_panic {K QP : Value → AS → Prop} {v : Value} {S : AS} : Back K QP (.panic v) S = QP v S := rfl

def vcCall (G : Tab) (S : AS) (K : Value → AS → Prop) (QP : Value → AS → Prop) : Option Callee → Prop
  | some (.fn k as) => Call G k as S (Back K QP)
  | some (.round l as) => CallRd G l as S (Back K QP)
  | none => False

def vcPanic (Q : Value → Prop) : Value → Prop
  | .iface t v => Q (.iface t v)
  | _ => False

def vcO (G : Tab) (o : O) (fr : Nat) (a : Act) (S : AS) (K : Act → AS → Prop) (Q : Post) : Prop :=
  match o.i with
  | .call f args => vcCall G S (fun v S' => K (a.put o.dst v) S') (fun v S' => Q (.panic v) a S') (calleeOf (a.ev f) (args.map a.ev))
  | .panic x => vcPanic (fun v => Q (.panic v) a S) (a.ev x)
  | .defer _ _ => False
  | .recover => False
  | i => (i.eval a.ev fr S).all fun r => K (a.put o.dst r.1) r.2

theorem vcO_sound {o : O} {fr : Nat} {a : Act} {S : AS} {K : Act → AS → Prop} {Q : Post} (h : vcO G o fr a S K Q) :
    ∃ n, (stepO (G.call n) o fr a S).all fun r => (match r with | (.norm, a', S') => K a' S' | (.panic v, a', S') => Q (.panic v) a' S' | _ => False) := by
  obtain ⟨dst, i, g⟩ := o
  cases i
  case call f args =>
    simp only [vcO] at h
    simp only [stepO]
    cases hc : calleeOf (a.ev f) (args.map a.ev) with
    | none => rw [hc] at h; exact h.elim
    | some c =>
      rw [hc] at h
      cases c with
      | round l as =>
        obtain ⟨n, hn⟩ := h
        refine ⟨n, ?_⟩
        simp only
        rw [T.all_bind]
        refine T.all_mono ?_ hn
        rintro ⟨e, S'⟩ hr
        cases e <;> exact hr
      | fn k as =>
        obtain ⟨n, hn⟩ := h
        refine ⟨n, ?_⟩
        simp only
        rw [T.all_bind]
        refine T.all_mono ?_ hn
        rintro ⟨e, S'⟩ hr
        cases e <;> exact hr
  case panic x =>
    simp only [vcO] at h
    unfold vcPanic at h
    split at h
    · rename_i t v hx
      refine ⟨0, ?_⟩
      simp only [stepO, hx]
      exact h
    · exact h.elim
  case defer f args => exact h.elim
  case recover => exact h.elim
  all_goals
    refine ⟨0, ?_⟩
    simp only [vcO] at h
    simp only [stepO]
    rw [T.all_bind]
    exact h

def vcOps (G : Tab) : List O → Nat → Act → AS → Post → Prop
  | [], _, a, S, Q => Q .norm a S
  | o :: os, fr, a, S, Q =>
    if wants a o.guard then vcO G o fr a S (fun a' S' => vcOps G os (if o.i.takes then fr + 1 else fr) a' S' Q) Q
    else vcOps G os (if o.i.takes then fr + 1 else fr) (a.put o.dst undef) S Q

theorem vcOps_sound : ∀ {os : List O} {fr : Nat} {a : Act} {S : AS} {Q : Post}, vcOps G os fr a S Q → ∃ n, (stepOs (G.call n) os fr a S).all fun r => Q r.1 r.2.1 r.2.2
  | [], _, _, _, _, h => ⟨0, h⟩
  | o :: os, fr, a, S, Q, h => by
    simp only [vcOps] at h
    split at h
    · rename_i hw
      obtain ⟨n, hn⟩ := vcO_sound h
      have h2 : (stepO (G.call n) o fr a S).all fun r => ∃ m, (match r with | (.norm, a', S') => stepOs (G.call m) os (if o.i.takes then fr + 1 else fr) a' S' | r => .ret r : R).all fun r => Q r.1 r.2.1 r.2.2 := by
        refine T.all_mono ?_ hn
        rintro ⟨e, a', S'⟩ hr
        cases e with
        | norm => exact vcOps_sound hr
        | exit id => exact hr.elim
        | ret => exact hr.elim
        | panic v => exact ⟨0, hr⟩
      obtain ⟨m, hm⟩ := T.all_ex (fun n m r hnm hr => by
        obtain ⟨e, a', S'⟩ := r
        cases e with
        | norm => exact stepOs_sub (G.call_sub hnm) _ _ _ _ _ hr
        | exit id => exact hr
        | ret => exact hr
        | panic v => exact hr) _ h2
      refine ⟨max n m, ?_⟩
      unfold stepOs
      simp only [hw, if_true]
      rw [T.all_bind]
      refine T.all_mono ?_ (stepO_sub (G.call_sub (Nat.le_max_left n m)) _ _ _ _ _ hm)
      rintro ⟨e, a', S'⟩ hr
      cases e with
      | norm => exact stepOs_sub (G.call_sub (Nat.le_max_right n m)) _ _ _ _ _ hr
      | exit id => exact hr
      | ret => exact hr
      | panic v => exact hr
    · rename_i hw
      obtain ⟨n, hn⟩ := vcOps_sound h
      refine ⟨n, ?_⟩
      unfold stepOs
      simp only [hw]
      exact hn

theorem wp_region' {na : Nat} {os : List O} {a : Act} {S : AS} {Q : Post} (h : vcOps G os S.next a (S.bump na) Q) : WP G (.region na os) a S Q := by
  obtain ⟨n, hn⟩ := vcOps_sound h
  exact ⟨n + 1, hn⟩

end
end Go.Gx

/-
  What code wants, reckoned by simp: what follows is kept as data, so that simp looks at the state alone.
-/
namespace Go.Gx

inductive Fr where
  | seq (y : C)
  | block (id : Nat)

def unwind (G : Tab) : List Fr → Post → Post
  | [], Q => Q
  | .seq y :: st, Q => Then G y (unwind G st Q)
  | .block id :: st, Q => fun e a S => unwind G st Q (unblock id e) a S

/-- what has been left, on its way out -/
def Unw (G : Tab) (st : List Fr) (e : Ex) (a : Act) (S : AS) (Q : Post) : Prop := unwind G st Q e a S
def Run (G : Tab) (c : C) (st : List Fr) (a : Act) (S : AS) (Q : Post) : Prop := WP G c a S (unwind G st Q)
def RunIf (G : Tab) (v : Value) (x y : C) (st : List Fr) (a : Act) (S : AS) (Q : Post) : Prop :=
  match v with
  | .bool true => Run G x st a S Q
  | .bool false => Run G y st a S Q
  | _ => False
def RunOps (G : Tab) (os : List O) (fr : Nat) (st : List Fr) (a : Act) (S : AS) (Q : Post) : Prop :=
  ∃ n, (stepOs (G.call n) os fr a S).all fun r => unwind G st Q r.1 r.2.1 r.2.2
def RunO (G : Tab) (o : O) (os : List O) (fr : Nat) (st : List Fr) (a : Act) (S : AS) (Q : Post) : Prop :=
  ∃ n, ((stepO (G.call n) o fr a S).bind fun
        | (.norm, a', S') => stepOs (G.call n) os (if o.i.takes then fr + 1 else fr) a' S'
        | r => .ret r).all fun r => unwind G st Q r.1 r.2.1 r.2.2
def RunW (G : Tab) (b : Bool) (o : O) (os : List O) (fr : Nat) (st : List Fr) (a : Act) (S : AS) (Q : Post) : Prop :=
  match b with
  | true => RunO G o os fr st a S Q
  | false => RunOps G os (if o.i.takes then fr + 1 else fr) st (a.put o.dst undef) S Q
def RunT (G : Tab) (t : T (Value × AS)) (dst : Option Nat) (os : List O) (fr : Nat) (st : List Fr) (a : Act) (Q : Post) : Prop :=
  ∃ n, (t.bind fun x => stepOs (G.call n) os fr (a.put dst x.1) x.2).all fun r => unwind G st Q r.1 r.2.1 r.2.2
/-- behind a call -/
def KCall (G : Tab) (dst : Option Nat) (os : List O) (fr : Nat) (st : List Fr) (a : Act) (Q : Post) : En → AS → Prop
  | .ret v, S => RunOps G os fr st (a.put dst v) S Q
  | .panic v, S => Unw G st (.panic v) a S Q
def RunCall (G : Tab) (c : Option Callee) (dst : Option Nat) (os : List O) (fr : Nat) (st : List Fr) (a : Act) (S : AS) (Q : Post) : Prop :=
  match c with
  | some (.fn k as) => Call G k as S (KCall G dst os fr st a Q)
  | some (.round l as) => CallRd G l as S (KCall G dst os fr st a Q)
  | none => False

/-! drawn regions -/
abbrev Pend := List (Nat × Nat × AObj)
abbrev Rds := List (DO × Act × Value)
def RunDs (G : Tab) (all ds : List DO) (n0 : Nat) (pend : Pend) (rds : Rds) (st : List Fr) (a : Act) (S : AS) (Q : Post) : Prop :=
  ∃ n, (drawOs (G.call n) all ds n0 a S pend rds).all fun r => unwind G st Q r.1 r.2.1 r.2.2
/-- a value for the one, then the others -/
def RunDV (G : Tab) (t : T (Value × AS)) (rd : Option DO) (dst : Option Nat) (all ds : List DO) (n0 : Nat) (pend : Pend) (rds : Rds) (st : List Fr) (a : Act) (S : AS) (Q : Post) : Prop :=
  ∃ n, (t.bind fun x => drawOs (G.call n) all ds n0 (a.put dst x.1) S pend (match rd with | some d => (d, a, x.1) :: rds | none => rds)).all fun r => unwind G st Q r.1 r.2.1 r.2.2
def RunDN (G : Tab) (x : Option (Value × AObj)) (id nm : Nat) (dst : Option Nat) (all ds : List DO) (n0 : Nat) (pend : Pend) (rds : Rds) (st : List Fr) (a : Act) (S : AS) (Q : Post) : Prop :=
  match x with
  | some (v, o) => RunDs G all ds n0 ((id, nm, o) :: pend) rds st (a.put dst v) S Q
  | none => False
def RunDL (G : Tab) (p : Option Pend) (dst : Option Nat) (all ds : List DO) (n0 : Nat) (rds : Rds) (st : List Fr) (a : Act) (S : AS) (Q : Post) : Prop :=
  match p with
  | some pend => RunDs G all ds n0 pend rds st (a.put dst undef) S Q
  | none => False
/-- what has been read reads so still; then the others -/
def RunDS (G : Tab) (b : Bool) (all ds : List DO) (n0 : Nat) (pend : Pend) (rds : Rds) (st : List Fr) (a : Act) (S : AS) (Q : Post) : Prop :=
  match b with
  | true => RunDs G all ds n0 pend rds st a S Q
  | false => False
def RunDT (G : Tab) (t : T (Value × AS)) (bef : Nat) (dst : Option Nat) (all ds : List DO) (n0 : Nat) (pend : Pend) (rds : Rds) (st : List Fr) (a : Act) (Q : Post) : Prop :=
  ∃ n, (t.bind fun x => if still x.2 bef rds then drawOs (G.call n) all ds n0 (a.put dst x.1) x.2 pend rds else .fail).all fun r => unwind G st Q r.1 r.2.1 r.2.2
def KDCall (G : Tab) (bef : Nat) (dst : Option Nat) (all ds : List DO) (n0 : Nat) (pend : Pend) (rds : Rds) (st : List Fr) (a : Act) (Q : Post) : En → AS → Prop
  | .ret v, S => RunDS G (still S bef rds) all ds n0 pend rds st (a.put dst v) S Q
  | .panic v, S => Unw G st (.panic v) { a with env := forget all a.env } S Q
def RunDCall (G : Tab) (c : Option Callee) (bef : Nat) (dst : Option Nat) (all ds : List DO) (n0 : Nat) (pend : Pend) (rds : Rds) (st : List Fr) (a : Act) (S : AS) (Q : Post) : Prop :=
  match c with
  | some (.fn k as) => Call G k as S (KDCall G bef dst all ds n0 pend rds st a Q)
  | some (.round l as) => CallRd G l as S (KDCall G bef dst all ds n0 pend rds st a Q)
  | none => False
def RunDO (G : Tab) (d : DO) (all ds : List DO) (n0 : Nat) (pend : Pend) (rds : Rds) (st : List Fr) (a : Act) (S : AS) (Q : Post) : Prop :=
  ∃ n, ((stepO (G.call n) d.o (n0 + d.nm) a S).bind fun
          | (.norm, a', S') => if still S' d.bef rds then drawOs (G.call n) all ds n0 a' S' pend rds else .fail
          | (.panic v, a', S') => .ret (.panic v, { a' with env := forget all a'.env }, S')
          | _ => .fail).all fun r => unwind G st Q r.1 r.2.1 r.2.2
def RunDW (G : Tab) (b : Bool) (c : Cls) (d : DO) (all ds : List DO) (n0 : Nat) (pend : Pend) (rds : Rds) (st : List Fr) (a : Act) (S : AS) (Q : Post) : Prop :=
  match b, c with
  | false, _ => RunDs G all ds n0 pend rds st (a.put d.o.dst undef) S Q
  | true, .pure => RunDV G (d.o.i.eval a.ev 0 S) none d.o.dst all ds n0 pend rds st a S Q
  | true, .read => RunDV G (d.o.i.eval a.ev 0 S) (some d) d.o.dst all ds n0 pend rds st a S Q
  | true, .lit => RunDL G (litP d.o a.ev (d.lit.getD 0) pend) d.o.dst all ds n0 rds st a S Q
  | true, .new => RunDN G (d.o.i.newV a.ev (n0 + d.nm)) d.id (n0 + d.nm) d.o.dst all ds n0 pend rds st a S Q
  | true, .other => RunDO G d all ds n0 (flush d.bef pend S).1 rds st a (flush d.bef pend S).2 Q

section
variable {G : Tab} {st : List Fr} {a : Act} {S : AS} {Q : Post} {fr n0 : Nat}

@[simp] theorem unw_nil {e : Ex} : Unw G [] e a S Q = Q e a S := _root_.id rfl
@[simp] theorem unw_seq_norm {y : C} : Unw G (.seq y :: st) .norm a S Q = Run G y st a S Q := _root_.id rfl
@[simp] theorem unw_seq_ret {y : C} : Unw G (.seq y :: st) .ret a S Q = Unw G st .ret a S Q := _root_.id rfl
@[simp] theorem unw_seq_exit {y : C} {id : Nat} : Unw G (.seq y :: st) (.exit id) a S Q = Unw G st (.exit id) a S Q := _root_.id rfl
@[simp] theorem unw_seq_panic {y : C} {v : Value} : Unw G (.seq y :: st) (.panic v) a S Q = Unw G st (.panic v) a S Q := _root_.id rfl
@[simp] theorem unw_block {id : Nat} {e : Ex} : Unw G (.block id :: st) e a S Q = Unw G st (unblock id e) a S Q := _root_.id rfl
@[simp] theorem unblock_norm {id : Nat} : unblock id .norm = .norm := _root_.id rfl
@[simp] theorem unblock_ret {id : Nat} : unblock id .ret = .ret := _root_.id rfl
@[simp] theorem unblock_panic {id : Nat} {v : Value} : unblock id (.panic v) = .panic v := _root_.id rfl
@[simp] theorem unblock_exit {id i : Nat} : unblock id (.exit i) = if i = id then .norm else .exit i := _root_.id rfl

theorem wp_iff {c : C} {n : Nat} (h : (exec G.F G.ext n c a S).all fun r => Q r.1 r.2.1 r.2.2) : ∃ m, n = m + 1 := by
  cases n with
  | zero => exact h.elim
  | succ m => exact ⟨m, rfl⟩

@[simp] theorem run_skip : Run G .skip st a S Q = Unw G st .norm a S Q := propext ⟨fun ⟨n, h⟩ => by obtain ⟨m, rfl⟩ := wp_iff h; exact h, fun h => wp_skip' h⟩
@[simp] theorem run_ret : Run G .ret st a S Q = Unw G st .ret a S Q := propext ⟨fun ⟨n, h⟩ => by obtain ⟨m, rfl⟩ := wp_iff h; exact h, fun h => wp_ret' h⟩
@[simp] theorem run_exit {id : Nat} : Run G (.exit id) st a S Q = Unw G st (.exit id) a S Q := propext ⟨fun ⟨n, h⟩ => by obtain ⟨m, rfl⟩ := wp_iff h; exact h, fun h => wp_exit' h⟩
@[simp] theorem run_seq {x y : C} : Run G (.seq x y) st a S Q = Run G x (.seq y :: st) a S Q := propext ⟨fun ⟨n, h⟩ => by
    obtain ⟨m, rfl⟩ := wp_iff h
    simp only [exec] at h
    rw [T.all_bind] at h
    refine ⟨m, T.all_mono ?_ h⟩
    rintro ⟨e, a', S'⟩ hr
    cases e with
    | norm => exact ⟨m, hr⟩
    | exit id => exact hr
    | ret => exact hr
    | panic v => exact hr, fun h => wp_seq' h⟩
@[simp] theorem run_block {id : Nat} {x : C} : Run G (.block id x) st a S Q = Run G x (.block id :: st) a S Q := propext ⟨fun ⟨n, h⟩ => by
    obtain ⟨m, rfl⟩ := wp_iff h
    simp only [exec] at h
    rw [T.all_bind] at h
    refine ⟨m, T.all_mono ?_ h⟩
    rintro ⟨e, a', S'⟩ hr
    cases e <;> exact hr, fun h => wp_block' h⟩
@[simp] theorem run_cond {c : Operand} {x y : C} : Run G (.cond c x y) st a S Q = RunIf G (a.ev c) x y st a S Q := propext ⟨fun ⟨n, h⟩ => by
    obtain ⟨m, rfl⟩ := wp_iff h
    simp only [exec] at h
    unfold RunIf
    split at h
    · rename_i b hb
      rw [hb]
      cases b <;> exact ⟨m, h⟩
    · exact h.elim, fun h => by
    unfold RunIf at h
    split at h
    · rename_i hb; exact wp_cond' hb h
    · rename_i hb; exact wp_cond' hb h
    · exact h.elim⟩
@[simp] theorem runIf_true {x y : C} : RunIf G (.bool true) x y st a S Q = Run G x st a S Q := _root_.id rfl
@[simp] theorem runIf_false {x y : C} : RunIf G (.bool false) x y st a S Q = Run G y st a S Q := _root_.id rfl
theorem runIf_bool {b : Bool} {x y : C} : RunIf G (.bool b) x y st a S Q = ((b = true → Run G x st a S Q) ∧ (b = false → Run G y st a S Q)) := by cases b <;> simp
@[simp] theorem run_region {na : Nat} {os : List O} : Run G (.region na os) st a S Q = RunOps G os S.next st a (S.bump na) Q := propext ⟨fun ⟨n, h⟩ => by
    obtain ⟨m, rfl⟩ := wp_iff h
    exact ⟨m, h⟩, fun ⟨n, h⟩ => ⟨n + 1, h⟩⟩
@[simp] theorem run_draw {na : Nat} {os : List DO} : Run G (.draw na os) st a S Q = RunDs G os os S.next [] [] st a (S.bump na) Q := propext ⟨fun ⟨n, h⟩ => by
    obtain ⟨m, rfl⟩ := wp_iff h
    exact ⟨m, h⟩, fun ⟨n, h⟩ => ⟨n + 1, h⟩⟩
@[simp] theorem runOps_nil : RunOps G [] fr st a S Q = Unw G st .norm a S Q := propext ⟨fun ⟨_, h⟩ => h, fun h => ⟨0, h⟩⟩
@[simp] theorem runOps_cons {o : O} {os : List O} : RunOps G (o :: os) fr st a S Q = RunW G (wants a o.guard) o os fr st a S Q := by
  unfold RunOps RunW RunO
  simp only [stepOs]
  cases wants a o.guard with
  | true => rfl
  | false => rfl
@[simp] theorem runW_true {o : O} {os : List O} : RunW G true o os fr st a S Q = RunO G o os fr st a S Q := _root_.id rfl
@[simp] theorem runW_false {o : O} {os : List O} : RunW G false o os fr st a S Q = RunOps G os (if o.i.takes then fr + 1 else fr) st (a.put o.dst undef) S Q := _root_.id rfl
theorem runW_bool {b : Bool} {o : O} {os : List O} : RunW G b o os fr st a S Q =
    ((b = true → RunO G o os fr st a S Q) ∧ (b = false → RunOps G os (if o.i.takes then fr + 1 else fr) st (a.put o.dst undef) S Q)) := by cases b <;> simp

def notCall : I → Bool
  | .call .. | .panic _ | .defer .. | .recover => false
  | _ => true

theorem stepO_eval {call : Callee → AS → T (En × AS)} {dst : Option Nat} {i : I} {g : Option (Nat × Bool)} (h : notCall i = true) : stepO call ⟨dst, i, g⟩ fr a S = (i.eval a.ev fr S).bind fun x => .ret (.norm, a.put dst x.1, x.2) := by
  cases i <;> first | rfl | (cases h; done)
theorem T.bind_assoc {α β γ : Type} {f : α → T β} {g : β → T γ} : ∀ (t : T α), (t.bind f).bind g = t.bind fun a => (f a).bind g
  | .ret _ => rfl
  | .fail => rfl
  | .choose n k => by
    show T.choose n _ = T.choose n _
    congr 1
    funext i
    exact T.bind_assoc (k i)

theorem runO_eval {dst : Option Nat} {i : I} {g : Option (Nat × Bool)} {os : List O} (h : notCall i = true) : RunO G ⟨dst, i, g⟩ os fr st a S Q = RunT G (i.eval a.ev fr S) dst os (if i.takes then fr + 1 else fr) st a Q := by
  unfold RunO RunT
  simp only [stepO_eval h, T.bind_assoc, T.bind_ret]
@[simp] theorem runT_ret {v : Value} {dst : Option Nat} {os : List O} : RunT G (.ret (v, S)) dst os fr st a Q = RunOps G os fr st (a.put dst v) S Q := _root_.id rfl
@[simp] theorem runT_fail {dst : Option Nat} {os : List O} : RunT G .fail dst os fr st a Q = False := propext ⟨fun ⟨_, h⟩ => h, fun h => h.elim⟩

@[simp] theorem kcall_ret {dst : Option Nat} {os : List O} {v : Value} : KCall G dst os fr st a Q (.ret v) S = RunOps G os fr st (a.put dst v) S Q := _root_.id rfl
@[simp] theorem kcall_panic {dst : Option Nat} {os : List O} {v : Value} : KCall G dst os fr st a Q (.panic v) S = Unw G st (.panic v) a S Q := _root_.id rfl
@[simp] theorem runCall_round {l : Nat} {as : List Value} {dst : Option Nat} {os : List O} : RunCall G (some (.round l as)) dst os fr st a S Q = CallRd G l as S (KCall G dst os fr st a Q) := _root_.id rfl
@[simp] theorem runCall_fn {k : Nat} {as : List Value} {dst : Option Nat} {os : List O} : RunCall G (some (.fn k as)) dst os fr st a S Q = Call G k as S (KCall G dst os fr st a Q) := _root_.id rfl

theorem all_ex2 {β : Type} {R : Nat → β → Prop} {t : Nat → T β} (ht : ∀ n m, n ≤ m → SubT (t n) (t m)) (hm : ∀ n m b, n ≤ m → R n b → R m b) (h : ∃ n, (t n).all fun b => ∃ m, R m b) : ∃ n, (t n).all (R n) := by
  obtain ⟨n, h⟩ := h
  obtain ⟨m, h⟩ := T.all_ex hm _ h
  exact ⟨max n m, T.all_mono (fun b hb => hm m _ b (Nat.le_max_right _ _) hb) (ht n _ (Nat.le_max_left _ _) _ h)⟩

@[simp] theorem runO_call {dst : Option Nat} {f : Operand} {args : List Operand} {g : Option (Nat × Bool)} {os : List O} :
    RunO G ⟨dst, .call f args, g⟩ os fr st a S Q = RunCall G (calleeOf (a.ev f) (args.map a.ev)) dst os fr st a S Q := by
  unfold RunO RunCall
  simp only [stepO]
  cases hc : calleeOf (a.ev f) (args.map a.ev) with
  | none => exact propext ⟨fun ⟨_, h⟩ => h, fun h => h.elim⟩
  | some c =>
    cases c with
    | round l as =>
      simp only [T.bind_assoc]
      refine propext ⟨fun ⟨n, h⟩ => ⟨n, ?_⟩, fun ⟨n, h⟩ => ?_⟩
      · rw [T.all_bind] at h
        refine T.all_mono ?_ h
        rintro ⟨e, S'⟩ hr
        cases e with
        | ret v => exact ⟨n, hr⟩
        | panic v => exact hr
      · have := all_ex2 (t := fun n => G.call n (.round l as) S) (R := fun n (r : En × AS) => (match r with
            | (En.ret v, S') => stepOs (G.call n) os fr (a.put dst v) S'
            | (En.panic v, S') => T.ret (Ex.panic v, a, S') : R).all fun (r : Ex × Act × AS) => unwind G st Q r.1 r.2.1 r.2.2) (fun n m hnm => G.call_sub hnm _ _) (fun n m b hnm hb => by
          obtain ⟨e, S'⟩ := b
          cases e with
          | ret v => exact stepOs_sub (G.call_sub hnm) _ _ _ _ _ hb
          | panic v => exact hb) ⟨n, T.all_mono (by
            rintro ⟨e, S'⟩ hr
            cases e with
            | ret v => exact hr
            | panic v => exact ⟨0, hr⟩) h⟩
        obtain ⟨m, hm⟩ := this
        refine ⟨m, ?_⟩
        rw [T.all_bind]
        refine T.all_mono ?_ hm
        rintro ⟨e, S'⟩ hr
        cases e <;> exact hr
    | fn k as =>
      simp only [T.bind_assoc]
      refine propext ⟨fun ⟨n, h⟩ => ⟨n, ?_⟩, fun ⟨n, h⟩ => ?_⟩
      · rw [T.all_bind] at h
        refine T.all_mono ?_ h
        rintro ⟨e, S'⟩ hr
        cases e with
        | ret v => exact ⟨n, hr⟩
        | panic v => exact hr
      · have := all_ex2 (t := fun n => G.call n (.fn k as) S) (R := fun n (r : En × AS) => (match r with
            | (En.ret v, S') => stepOs (G.call n) os fr (a.put dst v) S'
            | (En.panic v, S') => T.ret (Ex.panic v, a, S') : R).all fun (r : Ex × Act × AS) => unwind G st Q r.1 r.2.1 r.2.2) (fun n m hnm => G.call_sub hnm _ _) (fun n m b hnm hb => by
          obtain ⟨e, S'⟩ := b
          cases e with
          | ret v => exact stepOs_sub (G.call_sub hnm) _ _ _ _ _ hb
          | panic v => exact hb) ⟨n, T.all_mono (by
            rintro ⟨e, S'⟩ hr
            cases e with
            | ret v => exact hr
            | panic v => exact ⟨0, hr⟩) h⟩
        obtain ⟨m, hm⟩ := this
        refine ⟨m, ?_⟩
        rw [T.all_bind]
        refine T.all_mono ?_ hm
        rintro ⟨e, S'⟩ hr
        cases e <;> exact hr
def RunP (G : Tab) (v : Value) (st : List Fr) (a : Act) (S : AS) (Q : Post) : Prop :=
  match v with
  | .iface t v => Unw G st (.panic (.iface t v)) a S Q
  | _ => False
@[simp] theorem runP_iface {t : TypeId} {v : Value} : RunP G (.iface t v) st a S Q = Unw G st (.panic (.iface t v)) a S Q := _root_.id rfl
@[simp] theorem runO_panic {dst : Option Nat} {x : Operand} {g : Option (Nat × Bool)} {os : List O} : RunO G ⟨dst, .panic x, g⟩ os fr st a S Q = RunP G (a.ev x) st a S Q := by
  unfold RunO RunP
  simp only [stepO]
  cases a.ev x <;> first
    | exact propext ⟨fun ⟨_, h⟩ => h, fun h => ⟨0, h⟩⟩

/-! drawn -/
variable {all ds : List DO} {pend : Pend} {rds : Rds} {d : DO}
@[simp] theorem runDs_nil : RunDs G all [] n0 pend rds st a S Q = Unw G st .norm a (flushAll pend S) Q := by
  unfold RunDs
  simp only [drawOs]
  exact propext ⟨fun ⟨_, h⟩ => h, fun h => ⟨0, h⟩⟩
@[simp] theorem runDs_cons : RunDs G all (d :: ds) n0 pend rds st a S Q = RunDW G (wants a d.o.guard) d.cls d all ds n0 pend rds st a S Q := by
  unfold RunDs RunDW RunDV RunDN RunDO
  simp only [drawOs]
  cases wants a d.o.guard with
  | false => rfl
  | true =>
    cases d.cls with
    | pure => rfl
    | read => rfl
    | other => rfl
    | lit =>
      unfold RunDL
      simp only
      cases litP d.o a.ev (d.lit.getD 0) pend with
      | none => exact propext ⟨fun ⟨_, h⟩ => h, fun h => h.elim⟩
      | some x => rfl
    | new =>
      cases d.o.i.newV a.ev (n0 + d.nm) with
      | none => exact propext ⟨fun ⟨_, h⟩ => h, fun h => h.elim⟩
      | some x => rfl
@[simp] theorem runDW_false {c : Cls} : RunDW G false c d all ds n0 pend rds st a S Q = RunDs G all ds n0 pend rds st (a.put d.o.dst undef) S Q := by cases c <;> rfl
@[simp] theorem runDW_pure : RunDW G true .pure d all ds n0 pend rds st a S Q = RunDV G (d.o.i.eval a.ev 0 S) none d.o.dst all ds n0 pend rds st a S Q := _root_.id rfl
@[simp] theorem runDW_read : RunDW G true .read d all ds n0 pend rds st a S Q = RunDV G (d.o.i.eval a.ev 0 S) (some d) d.o.dst all ds n0 pend rds st a S Q := _root_.id rfl
@[simp] theorem runDW_lit : RunDW G true .lit d all ds n0 pend rds st a S Q = RunDL G (litP d.o a.ev (d.lit.getD 0) pend) d.o.dst all ds n0 rds st a S Q := _root_.id rfl
@[simp] theorem runDL_some {dst : Option Nat} : RunDL G (some pend) dst all ds n0 rds st a S Q = RunDs G all ds n0 pend rds st (a.put dst undef) S Q := _root_.id rfl
@[simp] theorem doCls_none {id nm bef : Nat} {o : O} : DO.cls ⟨id, nm, bef, o, none⟩ = o.i.cls := _root_.id rfl
@[simp] theorem doCls_some {id nm bef i : Nat} {o : O} : DO.cls ⟨id, nm, bef, o, some i⟩ = .lit := _root_.id rfl
@[simp] theorem litP_cons {o : O} {ev : Operand → Value} {i id n : Nat} {ob : AObj} : litP o ev i ((id, n, ob) :: pend) = if id = i then (litO o ev n ob).map fun ob' => (id, n, ob') :: pend else (litP o ev i pend).map ((id, n, ob) :: ·) := _root_.id rfl
@[simp] theorem litO_mset {dst : Option Nat} {ks : List K} {agg : Bool} {m k v : Operand} {g : Option (Nat × Bool)} {ev : Operand → Value} {n : Nat} : litO ⟨dst, .mset ks agg m k v, g⟩ ev n (.map [] 0) = if ev m = .map (some n) ∧ keyOK ks agg (ev k) = true then some (.map [{ key := ev k, val := ev v, born := 0 }] 1) else none := _root_.id rfl
@[simp] theorem runDW_new : RunDW G true .new d all ds n0 pend rds st a S Q = RunDN G (d.o.i.newV a.ev (n0 + d.nm)) d.id (n0 + d.nm) d.o.dst all ds n0 pend rds st a S Q := _root_.id rfl
@[simp] theorem runDW_other : RunDW G true .other d all ds n0 pend rds st a S Q = RunDO G d all ds n0 (flush d.bef pend S).1 rds st a (flush d.bef pend S).2 Q := _root_.id rfl
theorem runDW_bool {b : Bool} {c : Cls} : RunDW G b c d all ds n0 pend rds st a S Q =
    ((b = true → RunDW G true c d all ds n0 pend rds st a S Q) ∧ (b = false → RunDs G all ds n0 pend rds st (a.put d.o.dst undef) S Q)) := by cases b <;> simp
@[simp] theorem runDV_pure {v : Value} {U : AS} {dst : Option Nat} : RunDV G (.ret (v, U)) none dst all ds n0 pend rds st a S Q = RunDs G all ds n0 pend rds st (a.put dst v) S Q := _root_.id rfl
@[simp] theorem runDV_read {v : Value} {U : AS} {dst : Option Nat} : RunDV G (.ret (v, U)) (some d) dst all ds n0 pend rds st a S Q = RunDs G all ds n0 pend ((d, a, v) :: rds) st (a.put dst v) S Q := _root_.id rfl
@[simp] theorem runDV_fail {dst : Option Nat} {rd : Option DO} : RunDV G .fail rd dst all ds n0 pend rds st a S Q = False := propext ⟨fun ⟨_, h⟩ => h, fun h => h.elim⟩
@[simp] theorem runDN_some {v : Value} {o : AObj} {id nm : Nat} {dst : Option Nat} : RunDN G (some (v, o)) id nm dst all ds n0 pend rds st a S Q = RunDs G all ds n0 ((id, nm, o) :: pend) rds st (a.put dst v) S Q := _root_.id rfl
@[simp] theorem runDN_none {id nm : Nat} {dst : Option Nat} : RunDN G none id nm dst all ds n0 pend rds st a S Q = False := _root_.id rfl
@[simp] theorem runDS_true : RunDS G true all ds n0 pend rds st a S Q = RunDs G all ds n0 pend rds st a S Q := _root_.id rfl
@[simp] theorem runDS_false : RunDS G false all ds n0 pend rds st a S Q = False := _root_.id rfl
@[simp] theorem kdcall_ret {bef : Nat} {dst : Option Nat} {v : Value} : KDCall G bef dst all ds n0 pend rds st a Q (.ret v) S = RunDS G (still S bef rds) all ds n0 pend rds st (a.put dst v) S Q := _root_.id rfl
@[simp] theorem kdcall_panic {bef : Nat} {dst : Option Nat} {v : Value} : KDCall G bef dst all ds n0 pend rds st a Q (.panic v) S = Unw G st (.panic v) { a with env := forget all a.env } S Q := _root_.id rfl
@[simp] theorem runDCall_round {l : Nat} {as : List Value} {bef : Nat} {dst : Option Nat} : RunDCall G (some (.round l as)) bef dst all ds n0 pend rds st a S Q = CallRd G l as S (KDCall G bef dst all ds n0 pend rds st a Q) := _root_.id rfl
@[simp] theorem runDCall_fn {k : Nat} {as : List Value} {bef : Nat} {dst : Option Nat} : RunDCall G (some (.fn k as)) bef dst all ds n0 pend rds st a S Q = Call G k as S (KDCall G bef dst all ds n0 pend rds st a Q) := _root_.id rfl
@[simp] theorem runDT_ret {v : Value} {bef : Nat} {dst : Option Nat} : RunDT G (.ret (v, S)) bef dst all ds n0 pend rds st a Q = RunDS G (still S bef rds) all ds n0 pend rds st (a.put dst v) S Q := by
  unfold RunDT RunDS RunDs
  simp only [T.bind_ret]
  cases still S bef rds with
  | true => rfl
  | false => exact propext ⟨fun ⟨_, h⟩ => h, fun h => h.elim⟩
@[simp] theorem runDT_fail {bef : Nat} {dst : Option Nat} : RunDT G .fail bef dst all ds n0 pend rds st a Q = False := propext ⟨fun ⟨_, h⟩ => h, fun h => h.elim⟩
theorem runDO_eval {id nm bef : Nat} {lt : Option Nat} {dst : Option Nat} {i : I} {g : Option (Nat × Bool)} (h : notCall i = true) : RunDO G ⟨id, nm, bef, ⟨dst, i, g⟩, lt⟩ all ds n0 pend rds st a S Q = RunDT G (i.eval a.ev (n0 + nm) S) bef dst all ds n0 pend rds st a Q := by
  unfold RunDO RunDT
  simp only [stepO_eval h, T.bind_assoc, T.bind_ret]
@[simp] theorem runDO_call {id nm bef : Nat} {lt : Option Nat} {dst : Option Nat} {f : Operand} {args : List Operand} {g : Option (Nat × Bool)} :
    RunDO G ⟨id, nm, bef, ⟨dst, .call f args, g⟩, lt⟩ all ds n0 pend rds st a S Q = RunDCall G (calleeOf (a.ev f) (args.map a.ev)) bef dst all ds n0 pend rds st a S Q := by
  unfold RunDO RunDCall
  simp only [stepO]
  cases hc : calleeOf (a.ev f) (args.map a.ev) with
  | none => exact propext ⟨fun ⟨_, h⟩ => h, fun h => h.elim⟩
  | some c =>
    cases c with
    | round l as =>
      simp only [T.bind_assoc]
      refine propext ⟨fun ⟨n, h⟩ => ⟨n, ?_⟩, fun ⟨n, h⟩ => ?_⟩
      · rw [T.all_bind] at h
        refine T.all_mono ?_ h
        rintro ⟨e, S'⟩ hr
        cases e with
        | ret v =>
          simp only [T.bind_ret] at hr
          simp only [kdcall_ret]
          cases hs : still S' bef rds with
          | true => rw [hs] at hr; exact ⟨n, hr⟩
          | false => rw [hs] at hr; exact hr
        | panic v => exact hr
      · have := all_ex2 (t := fun n => G.call n (.round l as) S) (R := fun n (r : En × AS) => (match r with
            | (En.ret v, S') => if still S' bef rds then drawOs (G.call n) all ds n0 (a.put dst v) S' pend rds else .fail
            | (En.panic v, S') => T.ret (Ex.panic v, { a with env := forget all a.env }, S') : R).all fun (r : Ex × Act × AS) => unwind G st Q r.1 r.2.1 r.2.2) (fun n m hnm => G.call_sub hnm _ _) (fun n m b hnm hb => by
          obtain ⟨e, S'⟩ := b
          cases e with
          | ret v =>
            simp only at hb ⊢
            split at hb
            · rename_i hs; rw [if_pos hs]; exact drawOs_sub (G.call_sub hnm) _ _ _ _ _ _ _ _ hb
            · exact hb.elim
          | panic v => exact hb) ⟨n, T.all_mono (by
            rintro ⟨e, S'⟩ hr
            cases e with
            | ret v =>
              simp only [kdcall_ret] at hr
              cases hs : still S' bef rds with
              | true =>
                rw [hs] at hr
                obtain ⟨m, hm⟩ := hr
                exact ⟨m, by simp only [hs, if_true]; exact hm⟩
              | false => rw [hs] at hr; exact hr.elim
            | panic v => exact ⟨0, hr⟩) h⟩
        obtain ⟨m, hm⟩ := this
        refine ⟨m, ?_⟩
        rw [T.all_bind]
        refine T.all_mono ?_ hm
        rintro ⟨e, S'⟩ hr
        cases e <;> exact hr
    | fn k as =>
      simp only [T.bind_assoc]
      refine propext ⟨fun ⟨n, h⟩ => ⟨n, ?_⟩, fun ⟨n, h⟩ => ?_⟩
      · rw [T.all_bind] at h
        refine T.all_mono ?_ h
        rintro ⟨e, S'⟩ hr
        cases e with
        | ret v =>
          simp only [T.bind_ret] at hr
          simp only [kdcall_ret]
          cases hs : still S' bef rds with
          | true => rw [hs] at hr; exact ⟨n, hr⟩
          | false => rw [hs] at hr; exact hr
        | panic v => exact hr
      · have := all_ex2 (t := fun n => G.call n (.fn k as) S) (R := fun n (r : En × AS) => (match r with
            | (En.ret v, S') => if still S' bef rds then drawOs (G.call n) all ds n0 (a.put dst v) S' pend rds else .fail
            | (En.panic v, S') => T.ret (Ex.panic v, { a with env := forget all a.env }, S') : R).all fun (r : Ex × Act × AS) => unwind G st Q r.1 r.2.1 r.2.2) (fun n m hnm => G.call_sub hnm _ _) (fun n m b hnm hb => by
          obtain ⟨e, S'⟩ := b
          cases e with
          | ret v =>
            simp only at hb ⊢
            split at hb
            · rename_i hs; rw [if_pos hs]; exact drawOs_sub (G.call_sub hnm) _ _ _ _ _ _ _ _ hb
            · exact hb.elim
          | panic v => exact hb) ⟨n, T.all_mono (by
            rintro ⟨e, S'⟩ hr
            cases e with
            | ret v =>
              simp only [kdcall_ret] at hr
              cases hs : still S' bef rds with
              | true =>
                rw [hs] at hr
                obtain ⟨m, hm⟩ := hr
                exact ⟨m, by simp only [hs, if_true]; exact hm⟩
              | false => rw [hs] at hr; exact hr.elim
            | panic v => exact ⟨0, hr⟩) h⟩
        obtain ⟨m, hm⟩ := this
        refine ⟨m, ?_⟩
        rw [T.all_bind]
        refine T.all_mono ?_ hm
        rintro ⟨e, S'⟩ hr
        cases e <;> exact hr

/-! a function -/
def Out2 (rs : List RV) (Q : En → AS → Prop) : Post := Out rs Q
def undefs : Nat → List Value
  | 0 => []
  | n + 1 => undef :: undefs n
theorem undefs_eq : ∀ n, List.replicate n undef = undefs n
  | 0 => rfl
  | n + 1 => by rw [List.replicate_succ, undefs_eq n]; rfl
@[simp] theorem undefs_zero : undefs 0 = [] := _root_.id rfl
@[simp] theorem undefs_succ {n : Nat} : undefs (n + 1) = undef :: undefs n := _root_.id rfl
theorem call_run' {k : Nat} {args : List Value} {R : En → AS → Prop} {nt : Nat} {rs : List RV} {body : C} (hF : G.F k = some ⟨nt, rs, body⟩) (he : G.ext k args S = none)
    (h : Run G body [] { env := args ++ undefs (nt - args.length), defers := [] } S (Out rs R)) : Call G k args S R := call_fn hF he (by rw [← undefs_eq] at h; exact h)
def outV (S : AS) (R : En → AS → Prop) : Option Value → Prop
  | some v => R (.ret v) S
  | none => False
@[simp] theorem outV_some {R : En → AS → Prop} {v : Value} : outV S R (some v) = R (.ret v) S := _root_.id rfl
theorem out_eq {R : En → AS → Prop} {o : Option Value} : (∃ v, o = some v ∧ R (.ret v) S) = outV S R o := by
  cases o with
  | none => exact propext ⟨fun ⟨_, h, _⟩ => (by cases h), fun h => h.elim⟩
  | some x => exact propext ⟨fun ⟨_, h, k⟩ => (by cases h; exact k), fun h => ⟨x, rfl, h⟩⟩
@[simp] theorem out_norm {rs : List RV} {R : En → AS → Prop} : Out rs R .norm a S = OutD rs a.env R (drain a.defers S) := _root_.id rfl
@[simp] theorem out_ret {rs : List RV} {R : En → AS → Prop} : Out rs R .ret a S = OutD rs a.env R (drain a.defers S) := _root_.id rfl
@[simp] theorem out_panic {rs : List RV} {R : En → AS → Prop} {v : Value} : Out rs R (.panic v) a S = OutP (R (.panic v) S) a.defers := _root_.id rfl
@[simp] theorem outD_some {rs : List RV} {env : List Value} {R : En → AS → Prop} : OutD rs env R (some S) = outV S R (resV rs env S) := out_eq
@[simp] theorem outP_nil {p : Prop} : OutP p [] = p := _root_.id rfl
@[simp] theorem drain_nil : drain [] S = some S := _root_.id rfl
@[simp] theorem drain_cons {n : Nat} {as : Array Value} {dl : List Deferred} (h : S.get n = some (.defd (some []))) : drain ({ target := .collected n, args := as } :: dl) S = drain dl (S.put n (.defd none)) := by
  simp only [drain, h]
@[simp] theorem bump_zero : S.bump 0 = S := _root_.id rfl
@[simp] theorem resV_zero {env : List Value} : resV [] env S = some (.tuple #[]) := _root_.id rfl
@[simp] theorem resV_one {env : List Value} {t : Nat} : resV [.tmp t] env S = some (env.getD t undef) := by simp [resV, loadRV]
@[simp] theorem resV_two {env : List Value} {t u : Nat} : resV [.tmp t, .tmp u] env S = some (.tuple #[env.getD t undef, env.getD u undef]) := by simp [resV, loadRV]
@[simp] theorem resV_three {env : List Value} {t u v : Nat} : resV [.tmp t, .tmp u, .tmp v] env S = some (.tuple #[env.getD t undef, env.getD u undef, env.getD v undef]) := by simp [resV, loadRV]
@[simp] theorem resV_four {env : List Value} {t u v x : Nat} : resV [.tmp t, .tmp u, .tmp v, .tmp x] env S = some (.tuple #[env.getD t undef, env.getD u undef, env.getD v undef, env.getD x undef]) := by simp [resV, loadRV]
end

/-! deferred calls -/
section
variable {G : Tab} {st : List Fr} {a : Act} {S : AS} {Q : Post}
def RunDfr (G : Tab) (o : Option Act) (os : List O) (fr : Nat) (st : List Fr) (S : AS) (Q : Post) : Prop :=
  match o with
  | some a' => RunOps G os fr st a' S Q
  | none => False
@[simp] theorem runDfr_some {a' : Act} {os : List O} {fr : Nat} : RunDfr G (some a') os fr st S Q = RunOps G os fr st a' S Q := _root_.id rfl
@[simp] theorem deferOf_func {k : Nat} {x y : Array Value} {args : List Value} : deferOf (.func (.func k) x y) args = some { target := .fn (.func k) y, args := x ++ args.toArray } := _root_.id rfl
@[simp] theorem pushD_none {dst : Option Nat} {d : Deferred} : pushD a dst none (some d) = some ({ a with defers := d :: a.defers }.put dst undef) := _root_.id rfl
@[simp] theorem runO_defer {dst : Option Nat} {f : Operand} {args : List Operand} {g : Option (Nat × Bool)} {os : List O} {fr : Nat} :
    RunO G ⟨dst, .defer f args, g⟩ os fr st a S Q = RunDfr G (pushD a dst a.rnd (deferOf (a.ev f) (args.map a.ev))) os fr st S Q := by
  unfold RunO RunDfr
  simp only [stepO]
  cases pushD a dst a.rnd (deferOf (a.ev f) (args.map a.ev)) with
  | none => exact propext ⟨fun ⟨_, h⟩ => h, fun h => h.elim⟩
  | some a' => rfl
theorem call_runX {k : Nat} {args : List Value} {R : En → AS → Prop} {nt : Nat} {rs : List RV} {body : C} (hF : G.F k = some ⟨nt, rs, body⟩) (he : G.ext k args S = none)
    (h : Run G body [] { env := args ++ undefs (nt - args.length), defers := [] } S (OutX G rs R)) : Call G k args S R := call_dfr hF he (by rw [← undefs_eq] at h; exact h)
theorem leave_runP {k : Nat} {cap as : Array Value} {ds : List Deferred} {p : Option Value} {R : Option Value → AS → Prop} {nt : Nat} {rs : List RV} {body : C} (hF : G.F k = some ⟨nt, rs, body⟩) (hh : headRec body = none)
    (h : Run G body [] { env := (as.toList ++ cap.toList) ++ undefs (nt - (as.toList ++ cap.toList).length), defers := [] } S (DOut rs fun S' => LeaveP G ds p S' R)) : LeaveP G ({ target := .fn (.func k) cap, args := as } :: ds) p S R :=
  leave_plain hF hh (by rw [← undefs_eq] at h; exact h)
theorem leave_runR {k : Nat} {cap as : Array Value} {ds : List Deferred} {p : Option Value} {R : Option Value → AS → Prop} {nt : Nat} {rs : List RV} {body : C} {d : Option Nat} {y : C} (hF : G.F k = some ⟨nt, rs, body⟩) (hh : headRec body = some (d, y))
    (h : Run G y [] (({ env := (as.toList ++ cap.toList) ++ undefs (nt - (as.toList ++ cap.toList).length), defers := [] } : Act).put d (p.getD .nilIface)) S (DOut rs fun S' => LeaveP G ds none S' R)) : LeaveP G ({ target := .fn (.func k) cap, args := as } :: ds) p S R :=
  leave_rec hF hh (by rw [← undefs_eq] at h; exact h)
@[simp] theorem outX_norm {rs : List RV} {R : En → AS → Prop} : OutX G rs R .norm a S = LeaveP G a.defers none S (fun p S2 => p = none ∧ ∃ v, resV rs a.env S2 = some v ∧ R (.ret v) S2) := _root_.id rfl
@[simp] theorem outX_ret {rs : List RV} {R : En → AS → Prop} : OutX G rs R .ret a S = LeaveP G a.defers none S (fun p S2 => p = none ∧ ∃ v, resV rs a.env S2 = some v ∧ R (.ret v) S2) := _root_.id rfl
@[simp] theorem outX_panic {rs : List RV} {R : En → AS → Prop} {v : Value} : OutX G rs R (.panic v) a S = LeaveP G a.defers (some v) S (fun p S2 => match p with
    | none => cellsOnly rs = true ∧ ∃ u, resV rs a.env S2 = some u ∧ R (.ret u) S2
    | some w => R (.panic w) S2) := _root_.id rfl
@[simp] theorem dout_norm {rs : List RV} {K : AS → Prop} : DOut rs K .norm a S = (a.defers = [] ∧ (∃ v, resV rs a.env S = some v) ∧ K S) := _root_.id rfl
@[simp] theorem dout_ret {rs : List RV} {K : AS → Prop} : DOut rs K .ret a S = (a.defers = [] ∧ (∃ v, resV rs a.env S = some v) ∧ K S) := _root_.id rfl
end

/-! ranges over functions -/
section
variable {G : Tab} {st : List Fr} {a : Act} {S : AS} {Q : Post}
def RunRg (G : Tab) (c : Option Callee) (l : Nat) (st : List Fr) (a : Act) (S : AS) (Q : Post) : Prop :=
  match c with
  | some (.fn k as) => Call G k as S (KRg l a (unwind G st Q))
  | _ => False
@[simp] theorem runRg_fn {k : Nat} {as : List Value} {l : Nat} : RunRg G (some (.fn k as)) l st a S Q = Call G k as S (KRg l a (unwind G st Q)) := _root_.id rfl
theorem run_range {f : Operand} {ps : List Nat} {asg body : C} (hr : a.rnd = none)
    (h : RunRg G (calleeOf (a.ev f) [.func (.yield (S.next + 1)) #[] #[]]) (S.next + 1) st { a with defers := { target := .collected S.next, args := #[] } :: a.defers }
      (((S.bump 2).put S.next (.defd (some []))).put (S.next + 1) (.loop .ready none a.env ps asg body S.next)) Q) : Run G (.rangeF f ps asg body) st a S Q := by
  unfold RunRg at h
  split at h
  · rename_i hc
    exact wp_range hr hc h
  · exact h.elim
@[simp] theorem krg_ret {l : Nat} {v : Value} : KRg l a (unwind G st Q) (.ret v) S = KRe l a (unwind G st Q) (S.get l) S := _root_.id rfl
@[simp] theorem krg_panic {l : Nat} {v : Value} : KRg l a (unwind G st Q) (.panic v) S = Unw G st (.panic v) a S Q := _root_.id rfl
@[simp] theorem kre_ready {l dblk : Nat} {pend : Option Jump} {env : List Value} {ps : List Nat} {asg body : C} : KRe l a (unwind G st Q) (some (.loop .ready pend env ps asg body dblk)) S = Unw G st (jumpEx pend) a (S.put l (.loop .exhausted pend env ps asg body dblk)) Q := by
  simp [KRe, Unw]
@[simp] theorem kre_done {l dblk : Nat} {pend : Option Jump} {env : List Value} {ps : List Nat} {asg body : C} : KRe l a (unwind G st Q) (some (.loop .done pend env ps asg body dblk)) S = Unw G st (jumpEx pend) a (S.put l (.loop .exhausted pend env ps asg body dblk)) Q := by
  simp [KRe, Unw]
@[simp] theorem jump_none : jumpEx none = .norm := _root_.id rfl
@[simp] theorem jump_exit {id : Nat} : jumpEx (some (.exit id)) = .exit id := _root_.id rfl
@[simp] theorem jump_ret : jumpEx (some .ret) = .ret := _root_.id rfl
end

/-! the rules, operation by operation -/
section
variable {G : Tab} {st : List Fr} {a : Act} {S : AS} {Q : Post} {fr n0 : Nat} {dst : Option Nat} {g : Option (Nat × Bool)} {os : List O} {all ds : List DO} {pend : Pend} {rds : Rds} {id nm bef : Nat} {lt : Option Nat}
@[simp] theorem runO_mv {x0 : Operand} : RunO G ⟨dst, I.mv x0, g⟩ os fr st a S Q = RunT G ((I.mv x0).eval a.ev fr S) dst os fr st a Q := runO_eval rfl
@[simp] theorem cls_mv {x0 : Operand} : (I.mv x0).cls = .pure := _root_.id rfl
@[simp] theorem runO_pick {x0 x1 x2 : Operand} : RunO G ⟨dst, I.pick x0 x1 x2, g⟩ os fr st a S Q = RunT G ((I.pick x0 x1 x2).eval a.ev fr S) dst os fr st a Q := runO_eval rfl
@[simp] theorem cls_pick {x0 x1 x2 : Operand} : (I.pick x0 x1 x2).cls = .pure := _root_.id rfl
@[simp] theorem runO_bin {x0 : BinOp} {x1 x2 : Operand} : RunO G ⟨dst, I.bin x0 x1 x2, g⟩ os fr st a S Q = RunT G ((I.bin x0 x1 x2).eval a.ev fr S) dst os fr st a Q := runO_eval rfl
@[simp] theorem cls_bin {x0 : BinOp} {x1 x2 : Operand} : (I.bin x0 x1 x2).cls = .pure := _root_.id rfl
@[simp] theorem runO_eqc {x0 : Bool} {x1 : List K} {x2 : Bool} {x3 x4 : Operand} : RunO G ⟨dst, I.eqc x0 x1 x2 x3 x4, g⟩ os fr st a S Q = RunT G ((I.eqc x0 x1 x2 x3 x4).eval a.ev fr S) dst os fr st a Q := runO_eval rfl
@[simp] theorem cls_eqc {x0 : Bool} {x1 : List K} {x2 : Bool} {x3 x4 : Operand} : (I.eqc x0 x1 x2 x3 x4).cls = .pure := _root_.id rfl
@[simp] theorem runO_eqn {x0 : NK} {x1 : Bool} {x2 x3 : Operand} : RunO G ⟨dst, I.eqn x0 x1 x2 x3, g⟩ os fr st a S Q = RunT G ((I.eqn x0 x1 x2 x3).eval a.ev fr S) dst os fr st a Q := runO_eval rfl
@[simp] theorem cls_eqn {x0 : NK} {x1 : Bool} {x2 x3 : Operand} : (I.eqn x0 x1 x2 x3).cls = .pure := _root_.id rfl
@[simp] theorem runO_un {x0 : UnOp} {x1 : Operand} : RunO G ⟨dst, I.un x0 x1, g⟩ os fr st a S Q = RunT G ((I.un x0 x1).eval a.ev fr S) dst os fr st a Q := runO_eval rfl
@[simp] theorem cls_un {x0 : UnOp} {x1 : Operand} : (I.un x0 x1).cls = .pure := _root_.id rfl
@[simp] theorem runO_conv {x0 : IntKind} {x1 : Operand} : RunO G ⟨dst, I.conv x0 x1, g⟩ os fr st a S Q = RunT G ((I.conv x0 x1).eval a.ev fr S) dst os fr st a Q := runO_eval rfl
@[simp] theorem cls_conv {x0 : IntKind} {x1 : Operand} : (I.conv x0 x1).cls = .pure := _root_.id rfl
@[simp] theorem runO_cvs {x0 : Operand} : RunO G ⟨dst, I.cvs x0, g⟩ os fr st a S Q = RunT G ((I.cvs x0).eval a.ev fr S) dst os fr st a Q := runO_eval rfl
@[simp] theorem cls_cvs {x0 : Operand} : (I.cvs x0).cls = .pure := _root_.id rfl
@[simp] theorem runO_cvb {x : TypeId} {x0 : Operand} : RunO G ⟨dst, I.cvb x x0, g⟩ os fr st a S Q = RunT G ((I.cvb x x0).eval a.ev fr S) dst os fr st a Q := runO_eval rfl
@[simp] theorem cls_cvb {x : TypeId} {x0 : Operand} : (I.cvb x x0).cls = .other := _root_.id rfl
@[simp] theorem runDO_cvb {x : TypeId} {x0 : Operand} : RunDO G ⟨id, nm, bef, ⟨dst, I.cvb x x0, g⟩, lt⟩ all ds n0 pend rds st a S Q = RunDT G ((I.cvb x x0).eval a.ev (n0 + nm) S) bef dst all ds n0 pend rds st a Q := runDO_eval rfl
@[simp] theorem runO_b2s {x0 : Operand} : RunO G ⟨dst, I.b2s x0, g⟩ os fr st a S Q = RunT G ((I.b2s x0).eval a.ev fr S) dst os fr st a Q := runO_eval rfl
@[simp] theorem cls_b2s {x0 : Operand} : (I.b2s x0).cls = .read := _root_.id rfl
@[simp] theorem runO_s2b {x0 : TypeId} {x1 : Operand} : RunO G ⟨dst, I.s2b x0 x1, g⟩ os fr st a S Q = RunT G ((I.s2b x0 x1).eval a.ev fr S) dst os (fr + 1) st a Q := runO_eval rfl
@[simp] theorem cls_s2b {x0 : TypeId} {x1 : Operand} : (I.s2b x0 x1).cls = .new := _root_.id rfl
@[simp] theorem runO_mkif {x0 : TypeId} {x1 : Operand} : RunO G ⟨dst, I.mkif x0 x1, g⟩ os fr st a S Q = RunT G ((I.mkif x0 x1).eval a.ev fr S) dst os fr st a Q := runO_eval rfl
@[simp] theorem cls_mkif {x0 : TypeId} {x1 : Operand} : (I.mkif x0 x1).cls = .pure := _root_.id rfl
@[simp] theorem runO_mkfn {x0 : Fn} {x1 x2 : List Operand} : RunO G ⟨dst, I.mkfn x0 x1 x2, g⟩ os fr st a S Q = RunT G ((I.mkfn x0 x1 x2).eval a.ev fr S) dst os fr st a Q := runO_eval rfl
@[simp] theorem cls_mkfn {x0 : Fn} {x1 x2 : List Operand} : (I.mkfn x0 x1 x2).cls = .pure := _root_.id rfl
@[simp] theorem runO_build {x0 : List Value} {x1 : List (Nat × Nat × Operand)} : RunO G ⟨dst, I.build x0 x1, g⟩ os fr st a S Q = RunT G ((I.build x0 x1).eval a.ev fr S) dst os fr st a Q := runO_eval rfl
@[simp] theorem cls_build {x0 : List Value} {x1 : List (Nat × Nat × Operand)} : (I.build x0 x1).cls = .pure := _root_.id rfl
@[simp] theorem runO_fld {x0 : Option Nat} {x1 : Nat} {x2 : Operand} : RunO G ⟨dst, I.fld x0 x1 x2, g⟩ os fr st a S Q = RunT G ((I.fld x0 x1 x2).eval a.ev fr S) dst os fr st a Q := runO_eval rfl
@[simp] theorem cls_fld {x0 : Option Nat} {x1 : Nat} {x2 : Operand} : (I.fld x0 x1 x2).cls = .pure := _root_.id rfl
@[simp] theorem runO_fldA {x0 : Nat} {x1 : Operand} : RunO G ⟨dst, I.fldA x0 x1, g⟩ os fr st a S Q = RunT G ((I.fldA x0 x1).eval a.ev fr S) dst os fr st a Q := runO_eval rfl
@[simp] theorem cls_fldA {x0 : Nat} {x1 : Operand} : (I.fldA x0 x1).cls = .pure := _root_.id rfl
@[simp] theorem runO_idxA {x0 : Option Nat} {x1 : Nat} {x2 x3 : Operand} : RunO G ⟨dst, I.idxA x0 x1 x2 x3, g⟩ os fr st a S Q = RunT G ((I.idxA x0 x1 x2 x3).eval a.ev fr S) dst os fr st a Q := runO_eval rfl
@[simp] theorem cls_idxA {x0 : Option Nat} {x1 : Nat} {x2 x3 : Operand} : (I.idxA x0 x1 x2 x3).cls = .pure := _root_.id rfl
@[simp] theorem runO_idx {x0 : Nat} {x1 : Option Nat} {x2 : Nat} {x3 x4 : Operand} : RunO G ⟨dst, I.idx x0 x1 x2 x3 x4, g⟩ os fr st a S Q = RunT G ((I.idx x0 x1 x2 x3 x4).eval a.ev fr S) dst os fr st a Q := runO_eval rfl
@[simp] theorem cls_idx {x0 : Nat} {x1 : Option Nat} {x2 : Nat} {x3 x4 : Operand} : (I.idx x0 x1 x2 x3 x4).cls = .pure := _root_.id rfl
@[simp] theorem runO_sidx {x0 x1 : Operand} : RunO G ⟨dst, I.sidx x0 x1, g⟩ os fr st a S Q = RunT G ((I.sidx x0 x1).eval a.ev fr S) dst os fr st a Q := runO_eval rfl
@[simp] theorem cls_sidx {x0 x1 : Operand} : (I.sidx x0 x1).cls = .pure := _root_.id rfl
@[simp] theorem runO_aslc {x0 x1 : Nat} {x2 : Operand} {x3 x4 x5 : Option Operand} : RunO G ⟨dst, I.aslc x0 x1 x2 x3 x4 x5, g⟩ os fr st a S Q = RunT G ((I.aslc x0 x1 x2 x3 x4 x5).eval a.ev fr S) dst os fr st a Q := runO_eval rfl
@[simp] theorem cls_aslc {x0 x1 : Nat} {x2 : Operand} {x3 x4 x5 : Option Operand} : (I.aslc x0 x1 x2 x3 x4 x5).cls = .pure := _root_.id rfl
@[simp] theorem runO_slc {x0 : TypeId} {x1 : Nat} {x2 : Operand} {x3 x4 x5 : Option Operand} : RunO G ⟨dst, I.slc x0 x1 x2 x3 x4 x5, g⟩ os fr st a S Q = RunT G ((I.slc x0 x1 x2 x3 x4 x5).eval a.ev fr S) dst os fr st a Q := runO_eval rfl
@[simp] theorem cls_slc {x0 : TypeId} {x1 : Nat} {x2 : Operand} {x3 x4 x5 : Option Operand} : (I.slc x0 x1 x2 x3 x4 x5).cls = .read := _root_.id rfl
@[simp] theorem runO_sslc {x0 : Operand} {x1 x2 : Option Operand} : RunO G ⟨dst, I.sslc x0 x1 x2, g⟩ os fr st a S Q = RunT G ((I.sslc x0 x1 x2).eval a.ev fr S) dst os fr st a Q := runO_eval rfl
@[simp] theorem cls_sslc {x0 : Operand} {x1 x2 : Option Operand} : (I.sslc x0 x1 x2).cls = .pure := _root_.id rfl
@[simp] theorem runO_load {x0 : Option Nat} {x1 : Operand} : RunO G ⟨dst, I.load x0 x1, g⟩ os fr st a S Q = RunT G ((I.load x0 x1).eval a.ev fr S) dst os fr st a Q := runO_eval rfl
@[simp] theorem cls_load {x0 : Option Nat} {x1 : Operand} : (I.load x0 x1).cls = .read := _root_.id rfl
@[simp] theorem runO_store {x0 : Nat} {x1 x2 : Operand} : RunO G ⟨dst, I.store x0 x1 x2, g⟩ os fr st a S Q = RunT G ((I.store x0 x1 x2).eval a.ev fr S) dst os fr st a Q := runO_eval rfl
@[simp] theorem cls_store {x0 : Nat} {x1 x2 : Operand} : (I.store x0 x1 x2).cls = .other := _root_.id rfl
@[simp] theorem runDO_store {x0 : Nat} {x1 x2 : Operand} : RunDO G ⟨id, nm, bef, ⟨dst, I.store x0 x1 x2, g⟩, lt⟩ all ds n0 pend rds st a S Q = RunDT G ((I.store x0 x1 x2).eval a.ev (n0 + nm) S) bef dst all ds n0 pend rds st a Q := runDO_eval rfl
@[simp] theorem runO_nilc {x0 : Operand} : RunO G ⟨dst, I.nilc x0, g⟩ os fr st a S Q = RunT G ((I.nilc x0).eval a.ev fr S) dst os fr st a Q := runO_eval rfl
@[simp] theorem cls_nilc {x0 : Operand} : (I.nilc x0).cls = .pure := _root_.id rfl
@[simp] theorem runO_alloc {x0 : TypeId} {x1 : List Value} : RunO G ⟨dst, I.alloc x0 x1, g⟩ os fr st a S Q = RunT G ((I.alloc x0 x1).eval a.ev fr S) dst os (fr + 1) st a Q := runO_eval rfl
@[simp] theorem cls_alloc {x0 : TypeId} {x1 : List Value} : (I.alloc x0 x1).cls = .new := _root_.id rfl
@[simp] theorem runO_box {x0 : TypeId} {x1 : Operand} : RunO G ⟨dst, I.box x0 x1, g⟩ os fr st a S Q = RunT G ((I.box x0 x1).eval a.ev fr S) dst os (fr + 1) st a Q := runO_eval rfl
@[simp] theorem cls_box {x0 : TypeId} {x1 : Operand} : (I.box x0 x1).cls = .new := _root_.id rfl
@[simp] theorem runO_bslice {x0 : TypeId} {x1 : Nat} {x2 : List Value} {x3 : Nat} {x4 : List (Nat × Nat × Operand)} : RunO G ⟨dst, I.bslice x0 x1 x2 x3 x4, g⟩ os fr st a S Q = RunT G ((I.bslice x0 x1 x2 x3 x4).eval a.ev fr S) dst os (fr + 1) st a Q := runO_eval rfl
@[simp] theorem cls_bslice {x0 : TypeId} {x1 : Nat} {x2 : List Value} {x3 : Nat} {x4 : List (Nat × Nat × Operand)} : (I.bslice x0 x1 x2 x3 x4).cls = .new := _root_.id rfl
@[simp] theorem runO_mkmap : RunO G ⟨dst, I.mkmap, g⟩ os fr st a S Q = RunT G (I.mkmap.eval a.ev fr S) dst os (fr + 1) st a Q := runO_eval rfl
@[simp] theorem cls_mkmap  : I.mkmap.cls = .new := _root_.id rfl
@[simp] theorem runO_mksl {x0 : TypeId} {x1 x2 : Nat} {x3 : List Value} {x4 x5 : Operand} : RunO G ⟨dst, I.mksl x0 x1 x2 x3 x4 x5, g⟩ os fr st a S Q = RunT G ((I.mksl x0 x1 x2 x3 x4 x5).eval a.ev fr S) dst os (fr + 1) st a Q := runO_eval rfl
@[simp] theorem cls_mksl {x0 : TypeId} {x1 x2 : Nat} {x3 : List Value} {x4 x5 : Operand} : (I.mksl x0 x1 x2 x3 x4 x5).cls = .new := _root_.id rfl
@[simp] theorem runO_look {x0 : List K} {x1 : Bool} {x2 : Value} {x3 : Bool} {x4 x5 : Operand} : RunO G ⟨dst, I.look x0 x1 x2 x3 x4 x5, g⟩ os fr st a S Q = RunT G ((I.look x0 x1 x2 x3 x4 x5).eval a.ev fr S) dst os fr st a Q := runO_eval rfl
@[simp] theorem cls_look {x0 : List K} {x1 : Bool} {x2 : Value} {x3 : Bool} {x4 x5 : Operand} : (I.look x0 x1 x2 x3 x4 x5).cls = .read := _root_.id rfl
@[simp] theorem runO_mset {x0 : List K} {x1 : Bool} {x2 x3 x4 : Operand} : RunO G ⟨dst, I.mset x0 x1 x2 x3 x4, g⟩ os fr st a S Q = RunT G ((I.mset x0 x1 x2 x3 x4).eval a.ev fr S) dst os fr st a Q := runO_eval rfl
@[simp] theorem cls_mset {x0 : List K} {x1 : Bool} {x2 x3 x4 : Operand} : (I.mset x0 x1 x2 x3 x4).cls = .other := _root_.id rfl
@[simp] theorem runDO_mset {x0 : List K} {x1 : Bool} {x2 x3 x4 : Operand} : RunDO G ⟨id, nm, bef, ⟨dst, I.mset x0 x1 x2 x3 x4, g⟩, lt⟩ all ds n0 pend rds st a S Q = RunDT G ((I.mset x0 x1 x2 x3 x4).eval a.ev (n0 + nm) S) bef dst all ds n0 pend rds st a Q := runDO_eval rfl
@[simp] theorem runO_ment {x0 : List K} {x1 : Bool} {x2 : Value} {x3 x4 : Operand} : RunO G ⟨dst, I.ment x0 x1 x2 x3 x4, g⟩ os fr st a S Q = RunT G ((I.ment x0 x1 x2 x3 x4).eval a.ev fr S) dst os fr st a Q := runO_eval rfl
@[simp] theorem cls_ment {x0 : List K} {x1 : Bool} {x2 : Value} {x3 x4 : Operand} : (I.ment x0 x1 x2 x3 x4).cls = .other := _root_.id rfl
@[simp] theorem runDO_ment {x0 : List K} {x1 : Bool} {x2 : Value} {x3 x4 : Operand} : RunDO G ⟨id, nm, bef, ⟨dst, I.ment x0 x1 x2 x3 x4, g⟩, lt⟩ all ds n0 pend rds st a S Q = RunDT G ((I.ment x0 x1 x2 x3 x4).eval a.ev (n0 + nm) S) bef dst all ds n0 pend rds st a Q := runDO_eval rfl
@[simp] theorem runO_estore {x0 x1 x2 : Operand} : RunO G ⟨dst, I.estore x0 x1 x2, g⟩ os fr st a S Q = RunT G ((I.estore x0 x1 x2).eval a.ev fr S) dst os fr st a Q := runO_eval rfl
@[simp] theorem cls_estore {x0 x1 x2 : Operand} : (I.estore x0 x1 x2).cls = .other := _root_.id rfl
@[simp] theorem runDO_estore {x0 x1 x2 : Operand} : RunDO G ⟨id, nm, bef, ⟨dst, I.estore x0 x1 x2, g⟩, lt⟩ all ds n0 pend rds st a S Q = RunDT G ((I.estore x0 x1 x2).eval a.ev (n0 + nm) S) bef dst all ds n0 pend rds st a Q := runDO_eval rfl
@[simp] theorem runO_rngm {x0 : Operand} : RunO G ⟨dst, I.rngm x0, g⟩ os fr st a S Q = RunT G ((I.rngm x0).eval a.ev fr S) dst os (fr + 1) st a Q := runO_eval rfl
@[simp] theorem cls_rngm {x0 : Operand} : (I.rngm x0).cls = .other := _root_.id rfl
@[simp] theorem runDO_rngm {x0 : Operand} : RunDO G ⟨id, nm, bef, ⟨dst, I.rngm x0, g⟩, lt⟩ all ds n0 pend rds st a S Q = RunDT G ((I.rngm x0).eval a.ev (n0 + nm) S) bef dst all ds n0 pend rds st a Q := runDO_eval rfl
@[simp] theorem runO_rngs {x0 : Operand} : RunO G ⟨dst, I.rngs x0, g⟩ os fr st a S Q = RunT G ((I.rngs x0).eval a.ev fr S) dst os (fr + 1) st a Q := runO_eval rfl
@[simp] theorem cls_rngs {x0 : Operand} : (I.rngs x0).cls = .other := _root_.id rfl
@[simp] theorem runDO_rngs {x0 : Operand} : RunDO G ⟨id, nm, bef, ⟨dst, I.rngs x0, g⟩, lt⟩ all ds n0 pend rds st a S Q = RunDT G ((I.rngs x0).eval a.ev (n0 + nm) S) bef dst all ds n0 pend rds st a Q := runDO_eval rfl
@[simp] theorem runO_nxtm {x0 : Operand} : RunO G ⟨dst, I.nxtm x0, g⟩ os fr st a S Q = RunT G ((I.nxtm x0).eval a.ev fr S) dst os fr st a Q := runO_eval rfl
@[simp] theorem cls_nxtm {x0 : Operand} : (I.nxtm x0).cls = .other := _root_.id rfl
@[simp] theorem runDO_nxtm {x0 : Operand} : RunDO G ⟨id, nm, bef, ⟨dst, I.nxtm x0, g⟩, lt⟩ all ds n0 pend rds st a S Q = RunDT G ((I.nxtm x0).eval a.ev (n0 + nm) S) bef dst all ds n0 pend rds st a Q := runDO_eval rfl
@[simp] theorem runO_nxts {x0 : Operand} : RunO G ⟨dst, I.nxts x0, g⟩ os fr st a S Q = RunT G ((I.nxts x0).eval a.ev fr S) dst os fr st a Q := runO_eval rfl
@[simp] theorem cls_nxts {x0 : Operand} : (I.nxts x0).cls = .other := _root_.id rfl
@[simp] theorem runDO_nxts {x0 : Operand} : RunDO G ⟨id, nm, bef, ⟨dst, I.nxts x0, g⟩, lt⟩ all ds n0 pend rds st a S Q = RunDT G ((I.nxts x0).eval a.ev (n0 + nm) S) bef dst all ds n0 pend rds st a Q := runDO_eval rfl
@[simp] theorem runO_entry {x0 : Operand} : RunO G ⟨dst, I.entry x0, g⟩ os fr st a S Q = RunT G ((I.entry x0).eval a.ev fr S) dst os fr st a Q := runO_eval rfl
@[simp] theorem cls_entry {x0 : Operand} : (I.entry x0).cls = .other := _root_.id rfl
@[simp] theorem runDO_entry {x0 : Operand} : RunDO G ⟨id, nm, bef, ⟨dst, I.entry x0, g⟩, lt⟩ all ds n0 pend rds st a S Q = RunDT G ((I.entry x0).eval a.ev (n0 + nm) S) bef dst all ds n0 pend rds st a Q := runDO_eval rfl
@[simp] theorem runO_tassert {x0 : TypeId} {x1 : Value} {x2 : Bool} {x3 : Operand} : RunO G ⟨dst, I.tassert x0 x1 x2 x3, g⟩ os fr st a S Q = RunT G ((I.tassert x0 x1 x2 x3).eval a.ev fr S) dst os fr st a Q := runO_eval rfl
@[simp] theorem cls_tassert {x0 : TypeId} {x1 : Value} {x2 : Bool} {x3 : Operand} : (I.tassert x0 x1 x2 x3).cls = .pure := _root_.id rfl
@[simp] theorem runO_extr {x0 : Operand} {x1 : Nat} : RunO G ⟨dst, I.extr x0 x1, g⟩ os fr st a S Q = RunT G ((I.extr x0 x1).eval a.ev fr S) dst os fr st a Q := runO_eval rfl
@[simp] theorem cls_extr {x0 : Operand} {x1 : Nat} : (I.extr x0 x1).cls = .pure := _root_.id rfl
@[simp] theorem runO_ln {x0 : Operand} : RunO G ⟨dst, I.ln x0, g⟩ os fr st a S Q = RunT G ((I.ln x0).eval a.ev fr S) dst os fr st a Q := runO_eval rfl
@[simp] theorem cls_ln {x0 : Operand} : (I.ln x0).cls = .pure := _root_.id rfl
@[simp] theorem runO_sln {x0 : Operand} : RunO G ⟨dst, I.sln x0, g⟩ os fr st a S Q = RunT G ((I.sln x0).eval a.ev fr S) dst os fr st a Q := runO_eval rfl
@[simp] theorem cls_sln {x0 : Operand} : (I.sln x0).cls = .pure := _root_.id rfl
@[simp] theorem runO_lenk {x0 : Nat} : RunO G ⟨dst, I.lenk x0, g⟩ os fr st a S Q = RunT G ((I.lenk x0).eval a.ev fr S) dst os fr st a Q := runO_eval rfl
@[simp] theorem cls_lenk {x0 : Nat} : (I.lenk x0).cls = .pure := _root_.id rfl
@[simp] theorem runO_mlen {x0 : Operand} : RunO G ⟨dst, I.mlen x0, g⟩ os fr st a S Q = RunT G ((I.mlen x0).eval a.ev fr S) dst os fr st a Q := runO_eval rfl
@[simp] theorem cls_mlen {x0 : Operand} : (I.mlen x0).cls = .read := _root_.id rfl
@[simp] theorem runO_cp {x0 : Operand} : RunO G ⟨dst, I.cp x0, g⟩ os fr st a S Q = RunT G ((I.cp x0).eval a.ev fr S) dst os fr st a Q := runO_eval rfl
@[simp] theorem cls_cp {x0 : Operand} : (I.cp x0).cls = .other := _root_.id rfl
@[simp] theorem runDO_cp {x0 : Operand} : RunDO G ⟨id, nm, bef, ⟨dst, I.cp x0, g⟩, lt⟩ all ds n0 pend rds st a S Q = RunDT G ((I.cp x0).eval a.ev (n0 + nm) S) bef dst all ds n0 pend rds st a Q := runDO_eval rfl
@[simp] theorem runO_app {x0 : TypeId} {x1 x2 : Nat} {x3 : List Value} {x4 x5 : Operand} : RunO G ⟨dst, I.app x0 x1 x2 x3 x4 x5, g⟩ os fr st a S Q = RunT G ((I.app x0 x1 x2 x3 x4 x5).eval a.ev fr S) dst os (fr + 1) st a Q := runO_eval rfl
@[simp] theorem cls_app {x0 : TypeId} {x1 x2 : Nat} {x3 : List Value} {x4 x5 : Operand} : (I.app x0 x1 x2 x3 x4 x5).cls = .other := _root_.id rfl
@[simp] theorem runDO_app {x0 : TypeId} {x1 x2 : Nat} {x3 : List Value} {x4 x5 : Operand} : RunDO G ⟨id, nm, bef, ⟨dst, I.app x0 x1 x2 x3 x4 x5, g⟩, lt⟩ all ds n0 pend rds st a S Q = RunDT G ((I.app x0 x1 x2 x3 x4 x5).eval a.ev (n0 + nm) S) bef dst all ds n0 pend rds st a Q := runDO_eval rfl
@[simp] theorem runO_cpy {x0 : Nat} {x1 x2 : Operand} : RunO G ⟨dst, I.cpy x0 x1 x2, g⟩ os fr st a S Q = RunT G ((I.cpy x0 x1 x2).eval a.ev fr S) dst os fr st a Q := runO_eval rfl
@[simp] theorem cls_cpy {x0 : Nat} {x1 x2 : Operand} : (I.cpy x0 x1 x2).cls = .other := _root_.id rfl
@[simp] theorem runDO_cpy {x0 : Nat} {x1 x2 : Operand} : RunDO G ⟨id, nm, bef, ⟨dst, I.cpy x0 x1 x2, g⟩, lt⟩ all ds n0 pend rds st a S Q = RunDT G ((I.cpy x0 x1 x2).eval a.ev (n0 + nm) S) bef dst all ds n0 pend rds st a Q := runDO_eval rfl
@[simp] theorem runO_clrs {x0 : List Value} {x1 : Operand} : RunO G ⟨dst, I.clrs x0 x1, g⟩ os fr st a S Q = RunT G ((I.clrs x0 x1).eval a.ev fr S) dst os fr st a Q := runO_eval rfl
@[simp] theorem cls_clrs {x0 : List Value} {x1 : Operand} : (I.clrs x0 x1).cls = .other := _root_.id rfl
@[simp] theorem runDO_clrs {x0 : List Value} {x1 : Operand} : RunDO G ⟨id, nm, bef, ⟨dst, I.clrs x0 x1, g⟩, lt⟩ all ds n0 pend rds st a S Q = RunDT G ((I.clrs x0 x1).eval a.ev (n0 + nm) S) bef dst all ds n0 pend rds st a Q := runDO_eval rfl
@[simp] theorem runO_clrm {x0 : Operand} : RunO G ⟨dst, I.clrm x0, g⟩ os fr st a S Q = RunT G ((I.clrm x0).eval a.ev fr S) dst os fr st a Q := runO_eval rfl
@[simp] theorem cls_clrm {x0 : Operand} : (I.clrm x0).cls = .other := _root_.id rfl
@[simp] theorem runDO_clrm {x0 : Operand} : RunDO G ⟨id, nm, bef, ⟨dst, I.clrm x0, g⟩, lt⟩ all ds n0 pend rds st a S Q = RunDT G ((I.clrm x0).eval a.ev (n0 + nm) S) bef dst all ds n0 pend rds st a Q := runDO_eval rfl
@[simp] theorem runO_del {x0 : List K} {x1 : Bool} {x2 x3 : Operand} : RunO G ⟨dst, I.del x0 x1 x2 x3, g⟩ os fr st a S Q = RunT G ((I.del x0 x1 x2 x3).eval a.ev fr S) dst os fr st a Q := runO_eval rfl
@[simp] theorem cls_del {x0 : List K} {x1 : Bool} {x2 x3 : Operand} : (I.del x0 x1 x2 x3).cls = .other := _root_.id rfl
@[simp] theorem runDO_del {x0 : List K} {x1 : Bool} {x2 x3 : Operand} : RunDO G ⟨id, nm, bef, ⟨dst, I.del x0 x1 x2 x3, g⟩, lt⟩ all ds n0 pend rds st a S Q = RunDT G ((I.del x0 x1 x2 x3).eval a.ev (n0 + nm) S) bef dst all ds n0 pend rds st a Q := runDO_eval rfl
@[simp] theorem runO_maxb {x0 : List Operand} : RunO G ⟨dst, I.maxb x0, g⟩ os fr st a S Q = RunT G ((I.maxb x0).eval a.ev fr S) dst os fr st a Q := runO_eval rfl
@[simp] theorem cls_maxb {x0 : List Operand} : (I.maxb x0).cls = .pure := _root_.id rfl
@[simp] theorem runO_minb {x0 : List Operand} : RunO G ⟨dst, I.minb x0, g⟩ os fr st a S Q = RunT G ((I.minb x0).eval a.ev fr S) dst os fr st a Q := runO_eval rfl
@[simp] theorem cls_minb {x0 : List Operand} : (I.minb x0).cls = .pure := _root_.id rfl
@[simp] theorem cls_call {f : Operand} {xs : List Operand} : (I.call f xs).cls = .other := _root_.id rfl
@[simp] theorem cls_panic {x : Operand} : (I.panic x).cls = .other := _root_.id rfl
@[simp] theorem takes_call {f : Operand} {xs : List Operand} : (I.call f xs).takes = false := _root_.id rfl
@[simp] theorem takes_mv {x0 : Operand} : (I.mv x0).takes = false := by rfl
@[simp] theorem takes_pick {x0 x1 x2 : Operand} : (I.pick x0 x1 x2).takes = false := by rfl
@[simp] theorem takes_bin {x0 : BinOp} {x1 x2 : Operand} : (I.bin x0 x1 x2).takes = false := by rfl
@[simp] theorem takes_eqc {x0 : Bool} {x1 : List K} {x2 : Bool} {x3 x4 : Operand} : (I.eqc x0 x1 x2 x3 x4).takes = false := by rfl
@[simp] theorem takes_eqn {x0 : NK} {x1 : Bool} {x2 x3 : Operand} : (I.eqn x0 x1 x2 x3).takes = false := by rfl
@[simp] theorem takes_un {x0 : UnOp} {x1 : Operand} : (I.un x0 x1).takes = false := by rfl
@[simp] theorem takes_conv {x0 : IntKind} {x1 : Operand} : (I.conv x0 x1).takes = false := by rfl
@[simp] theorem takes_cvs {x0 : Operand} : (I.cvs x0).takes = false := by rfl
@[simp] theorem takes_cvb {x : TypeId} {x0 : Operand} : (I.cvb x x0).takes = false := by rfl
@[simp] theorem takes_b2s {x0 : Operand} : (I.b2s x0).takes = false := by rfl
@[simp] theorem takes_s2b {x0 : TypeId} {x1 : Operand} : (I.s2b x0 x1).takes = true := by rfl
@[simp] theorem takes_mkif {x0 : TypeId} {x1 : Operand} : (I.mkif x0 x1).takes = false := by rfl
@[simp] theorem takes_mkfn {x0 : Fn} {x1 x2 : List Operand} : (I.mkfn x0 x1 x2).takes = false := by rfl
@[simp] theorem takes_build {x0 : List Value} {x1 : List (Nat × Nat × Operand)} : (I.build x0 x1).takes = false := by rfl
@[simp] theorem takes_fld {x0 : Option Nat} {x1 : Nat} {x2 : Operand} : (I.fld x0 x1 x2).takes = false := by rfl
@[simp] theorem takes_fldA {x0 : Nat} {x1 : Operand} : (I.fldA x0 x1).takes = false := by rfl
@[simp] theorem takes_idxA {x0 : Option Nat} {x1 : Nat} {x2 x3 : Operand} : (I.idxA x0 x1 x2 x3).takes = false := by rfl
@[simp] theorem takes_idx {x0 : Nat} {x1 : Option Nat} {x2 : Nat} {x3 x4 : Operand} : (I.idx x0 x1 x2 x3 x4).takes = false := by rfl
@[simp] theorem takes_sidx {x0 x1 : Operand} : (I.sidx x0 x1).takes = false := by rfl
@[simp] theorem takes_aslc {x0 x1 : Nat} {x2 : Operand} {x3 x4 x5 : Option Operand} : (I.aslc x0 x1 x2 x3 x4 x5).takes = false := by rfl
@[simp] theorem takes_slc {x0 : TypeId} {x1 : Nat} {x2 : Operand} {x3 x4 x5 : Option Operand} : (I.slc x0 x1 x2 x3 x4 x5).takes = false := by rfl
@[simp] theorem takes_sslc {x0 : Operand} {x1 x2 : Option Operand} : (I.sslc x0 x1 x2).takes = false := by rfl
@[simp] theorem takes_load {x0 : Option Nat} {x1 : Operand} : (I.load x0 x1).takes = false := by rfl
@[simp] theorem takes_store {x0 : Nat} {x1 x2 : Operand} : (I.store x0 x1 x2).takes = false := by rfl
@[simp] theorem takes_nilc {x0 : Operand} : (I.nilc x0).takes = false := by rfl
@[simp] theorem takes_alloc {x0 : TypeId} {x1 : List Value} : (I.alloc x0 x1).takes = true := by rfl
@[simp] theorem takes_box {x0 : TypeId} {x1 : Operand} : (I.box x0 x1).takes = true := by rfl
@[simp] theorem takes_bslice {x0 : TypeId} {x1 : Nat} {x2 : List Value} {x3 : Nat} {x4 : List (Nat × Nat × Operand)} : (I.bslice x0 x1 x2 x3 x4).takes = true := by rfl
@[simp] theorem takes_mkmap  : I.mkmap.takes = true := by rfl
@[simp] theorem takes_mksl {x0 : TypeId} {x1 x2 : Nat} {x3 : List Value} {x4 x5 : Operand} : (I.mksl x0 x1 x2 x3 x4 x5).takes = true := by rfl
@[simp] theorem takes_look {x0 : List K} {x1 : Bool} {x2 : Value} {x3 : Bool} {x4 x5 : Operand} : (I.look x0 x1 x2 x3 x4 x5).takes = false := by rfl
@[simp] theorem takes_mset {x0 : List K} {x1 : Bool} {x2 x3 x4 : Operand} : (I.mset x0 x1 x2 x3 x4).takes = false := by rfl
@[simp] theorem takes_ment {x0 : List K} {x1 : Bool} {x2 : Value} {x3 x4 : Operand} : (I.ment x0 x1 x2 x3 x4).takes = false := by rfl
@[simp] theorem takes_estore {x0 x1 x2 : Operand} : (I.estore x0 x1 x2).takes = false := by rfl
@[simp] theorem takes_rngm {x0 : Operand} : (I.rngm x0).takes = true := by rfl
@[simp] theorem takes_rngs {x0 : Operand} : (I.rngs x0).takes = true := by rfl
@[simp] theorem takes_nxtm {x0 : Operand} : (I.nxtm x0).takes = false := by rfl
@[simp] theorem takes_nxts {x0 : Operand} : (I.nxts x0).takes = false := by rfl
@[simp] theorem takes_entry {x0 : Operand} : (I.entry x0).takes = false := by rfl
@[simp] theorem takes_tassert {x0 : TypeId} {x1 : Value} {x2 : Bool} {x3 : Operand} : (I.tassert x0 x1 x2 x3).takes = false := by rfl
@[simp] theorem takes_extr {x0 : Operand} {x1 : Nat} : (I.extr x0 x1).takes = false := by rfl
@[simp] theorem takes_ln {x0 : Operand} : (I.ln x0).takes = false := by rfl
@[simp] theorem takes_sln {x0 : Operand} : (I.sln x0).takes = false := by rfl
@[simp] theorem takes_lenk {x0 : Nat} : (I.lenk x0).takes = false := by rfl
@[simp] theorem takes_mlen {x0 : Operand} : (I.mlen x0).takes = false := by rfl
@[simp] theorem takes_cp {x0 : Operand} : (I.cp x0).takes = false := by rfl
@[simp] theorem takes_app {x0 : TypeId} {x1 x2 : Nat} {x3 : List Value} {x4 x5 : Operand} : (I.app x0 x1 x2 x3 x4 x5).takes = true := by rfl
@[simp] theorem takes_cpy {x0 : Nat} {x1 x2 : Operand} : (I.cpy x0 x1 x2).takes = false := by rfl
@[simp] theorem takes_clrs {x0 : List Value} {x1 : Operand} : (I.clrs x0 x1).takes = false := by rfl
@[simp] theorem takes_clrm {x0 : Operand} : (I.clrm x0).takes = false := by rfl
@[simp] theorem takes_del {x0 : List K} {x1 : Bool} {x2 x3 : Operand} : (I.del x0 x1 x2 x3).takes = false := by rfl
@[simp] theorem takes_maxb {x0 : List Operand} : (I.maxb x0).takes = false := by rfl
@[simp] theorem takes_minb {x0 : List Operand} : (I.minb x0).takes = false := by rfl
@[simp] theorem takes_defer {x0 : Operand} {x1 : List Operand} : (I.defer x0 x1).takes = false := by rfl
@[simp] theorem takes_panic {x0 : Operand} : (I.panic x0).takes = false := by rfl
@[simp] theorem takes_recover  : I.recover.takes = false := by rfl
end
end Go.Gx

/-
  Single operations, reckoned by simp.
-/
namespace Go.Gx

variable {G : Tab}

@[simp] theorem calleeOf_fn {k : Nat} {args : List Value} : calleeOf (.func (.func k) #[] #[]) args = some (.fn k args) := by simp [calleeOf]

section
variable {a : Act} {S : AS} {Q : Post} {fr : Nat}
@[simp] theorem ofOption_some {α : Type} {x : α} : T.ofOption (some x) = .ret x := _root_.id rfl
@[simp] theorem ofOption_none {α : Type} : (T.ofOption none : T α) = .fail := _root_.id rfl
@[simp] theorem wants_none : wants a none = true := _root_.id rfl
@[simp] theorem put_none {v : Value} : a.put none v = a := _root_.id rfl
@[simp] theorem put_some {e : List Value} {d : List Deferred} {p : Option Value} {r : Bool} {rn : Option Nat} {t : Nat} {v : Value} : (Act.mk e d p r rn).put (some t) v = Act.mk (e.set t v) d p r rn := _root_.id rfl
@[simp] theorem ev_tmp {e : List Value} {d : List Deferred} {p : Option Value} {r : Bool} {rn : Option Nat} {t : Nat} : (Act.mk e d p r rn).ev (.tmp t) = e.getD t undef := _root_.id rfl
@[simp] theorem ev_const {v : Value} : a.ev (.const v) = v := _root_.id rfl
@[simp] theorem ev_func {k : Nat} : a.ev (.func k) = .func (.func k) #[] #[] := _root_.id rfl
theorem wants_some {e : List Value} {d : List Deferred} {p : Option Value} {r : Bool} {rn : Option Nat} {t : Nat} {b : Bool} : wants (Act.mk e d p r rn) (some (t, b)) = (match e.getD t undef with | .bool c => c == b | _ => false) := wants_of_getD' _ _ _
where
  wants_of_getD' (a : Act) (d : Nat) (b : Bool) : wants a (some (d, b)) = (match a.env.getD d undef with | .bool c => c == b | _ => false) := by
    unfold wants
    rw [List.getD_eq_getElem?_getD]
    simp only
    cases a.env[d]? with
    | none => rfl
    | some v => cases v <;> rfl
attribute [simp] wants_some

@[simp] theorem set_zero {x : Value} {l : List Value} {v : Value} : (x :: l).set 0 v = v :: l := _root_.id rfl
@[simp] theorem set_succ {x : Value} {l : List Value} {v : Value} {n : Nat} : (x :: l).set (n + 1) v = x :: l.set n v := _root_.id rfl
@[simp] theorem getD_zero {x : Value} {l : List Value} {v : Value} : (x :: l).getD 0 v = x := _root_.id rfl
@[simp] theorem getD_succ {x : Value} {l : List Value} {v : Value} {n : Nat} : (x :: l).getD (n + 1) v = l.getD n v := _root_.id rfl
end

/-! ## operations one by one -/
section
variable {ev : Operand → Value} {fr : Nat} {S : AS}

@[simp] theorem vp_eq {n o : Nat} : vp n o = .pointer (some ⟨n, o, none⟩) := _root_.id rfl
@[simp] theorem vs_eq {n o l c : Nat} : vs n o l c = .slice (some ⟨n, o, none⟩) l c := _root_.id rfl
@[simp] theorem vi_eq {n : Int} : vi n = .int .i64 n := _root_.id rfl

@[simp] theorem eval_mv {x : Operand} : (I.mv x).eval ev fr S = .ret (ev x, S) := _root_.id rfl
def pickE (S : AS) (x y : Value) : Value → T (Value × AS)
  | .bool t => .ret (if t then x else y, S)
  | _ => .fail
@[simp] theorem eval_pick {c a b : Operand} : (I.pick c a b).eval ev fr S = pickE S (ev a) (ev b) (ev c) := _root_.id rfl
@[simp] theorem pickE_true {x y : Value} : pickE S x y (.bool true) = .ret (x, S) := _root_.id rfl
@[simp] theorem pickE_false {x y : Value} : pickE S x y (.bool false) = .ret (y, S) := _root_.id rfl
theorem pickE_same {b : Bool} {x : Value} : pickE S x x (.bool b) = .ret (x, S) := by cases b <;> rfl
theorem pickE_bool {b c d : Bool} : pickE S (.bool c) (.bool d) (.bool b) = .ret (.bool (if b then c else d), S) := by cases b <;> rfl
@[simp] theorem eval_bin {op : BinOp} {x y : Operand} : (I.bin op x y).eval ev fr S = T.ofOption ((binV op (ev x) (ev y)).map fun v => (v, S)) := _root_.id rfl
@[simp] theorem eval_eqc {neg : Bool} {ks : List K} {agg : Bool} {x y : Operand} : (I.eqc neg ks agg x y).eval ev fr S = T.ofOption (((veq ks agg (ev x) (ev y)).map fun b => .bool (b != neg)).map fun v => (v, S)) := _root_.id rfl
def eqnE (S : AS) (neg : Bool) : Option Bool → Option Bool → T (Value × AS)
  | some a, some b => if a || b then .ret (.bool ((a && b) != neg), S) else .fail
  | _, _ => .fail
@[simp] theorem eval_eqn {nk : NK} {neg : Bool} {x y : Operand} : (I.eqn nk neg x y).eval ev fr S = eqnE S neg (isNil nk (ev x)) (isNil nk (ev y)) := by
  simp only [I.eval]
  unfold eqnE
  cases isNil nk (ev x) with
  | none => rfl
  | some a => cases isNil nk (ev y) with
    | none => rfl
    | some b => cases a <;> cases b <;> rfl
@[simp] theorem eqnE_nil {neg b : Bool} : eqnE S neg (some b) (some true) = .ret (.bool (b != neg), S) := by cases b <;> rfl
@[simp] theorem isNil_ptr {a : Option Addr} : isNil .ptr (.pointer a) = some a.isNone := _root_.id rfl
@[simp] theorem isNil_slice {a : Option Addr} {n c : Nat} : isNil .slice (.slice a n c) = some a.isNone := _root_.id rfl
@[simp] theorem isNil_map {a : Option Nat} : isNil .map (.map a) = some a.isNone := _root_.id rfl
@[simp] theorem isNil_func0 : isNil .func .nilFunc = some true := _root_.id rfl
@[simp] theorem isNil_func1 {f : Fn} {a b : Array Value} : isNil .func (.func f a b) = some false := _root_.id rfl
@[simp] theorem isNil_if0 : isNil .iface .nilIface = some true := _root_.id rfl
@[simp] theorem isNil_if1 {t : TypeId} {v : Value} : isNil .iface (.iface t v) = some false := _root_.id rfl
@[simp] theorem eval_un {op : UnOp} {x : Operand} : (I.un op x).eval ev fr S = T.ofOption ((unV op (ev x)).map fun v => (v, S)) := _root_.id rfl
def convE (S : AS) (k : IntKind) (v : Value) : T (Value × AS) := T.ofOption ((match v with | .int _ n => some (.int k (k.wrap n)) | _ => none : Option Value).map fun v => (v, S))
@[simp] theorem eval_conv {k : IntKind} {x : Operand} : (I.conv k x).eval ev fr S = convE S k (ev x) := _root_.id rfl
@[simp] theorem convE_int {k j : IntKind} {n : Int} : convE S k (.int j n) = .ret (.int k (k.wrap n), S) := _root_.id rfl
def cvsE (S : AS) (v : Value) : T (Value × AS) := T.ofOption ((match v with | .string s => some (.string s) | _ => none : Option Value).map fun v => (v, S))
@[simp] theorem eval_cvs {x : Operand} : (I.cvs x).eval ev fr S = cvsE S (ev x) := _root_.id rfl
@[simp] theorem cvsE_str {s : ByteArray} : cvsE S (.string s) = .ret (.string s, S) := _root_.id rfl
def cvbRow (S : AS) (t : TypeId) (b o n c : Nat) : Option AObj → T (Value × AS)
  | some (.row _ e true _) => if e = t then .ret (vs b o n c, S) else .fail
  | _ => .fail
def cvbE (S : AS) (t : TypeId) : Value → T (Value × AS)
  | .slice (some ⟨b, o, none⟩) n c => cvbRow S t b o n c (S.get b)
  | _ => .fail
@[simp] theorem eval_cvb {t : TypeId} {x : Operand} : (I.cvb t x).eval ev fr S = cvbE S t (ev x) := _root_.id rfl
@[simp] theorem cvbE_slice {t : TypeId} {b o n c : Nat} : cvbE S t (.slice (some ⟨b, o, none⟩) n c) = cvbRow S t b o n c (S.get b) := _root_.id rfl
@[simp] theorem cvbRow_row {t : TypeId} {b o n c : Nat} {cells : List Value} {ex : Bool} : cvbRow S t b o n c (some (.row cells t true ex)) = .ret (vs b o n c, S) := by simp [cvbRow]
@[simp] theorem eval_mkif {t : TypeId} {x : Operand} : (I.mkif t x).eval ev fr S = .ret (.iface t (ev x), S) := _root_.id rfl
@[simp] theorem eval_mkfn {f : Fn} {xs ys : List Operand} : (I.mkfn f xs ys).eval ev fr S = .ret (.func f (xs.map ev).toArray (ys.map ev).toArray, S) := _root_.id rfl
@[simp] theorem eval_build {z : List Value} {ps : List (Nat × Nat × Operand)} : (I.build z ps).eval ev fr S = T.ofOption (((partsOf ev ps).bind fun ps => (placeIn z ps).map fun cs => .agg cs.toArray).map fun v => (v, S)) := _root_.id rfl
def fldE (S : AS) (g : Option Nat) (off : Nat) : Value → T (Value × AS)
  | .agg cs => T.ofOption ((rowLoad cs.toList off g).map fun v => (v, S))
  | _ => .fail
@[simp] theorem eval_fld {g : Option Nat} {off : Nat} {x : Operand} : (I.fld g off x).eval ev fr S = fldE S g off (ev x) := _root_.id rfl
@[simp] theorem fldE_agg {g : Option Nat} {off : Nat} {cs : Array Value} : fldE S g off (.agg cs) = T.ofOption ((rowLoad cs.toList off g).map fun v => (v, S)) := _root_.id rfl
def fldAE (S : AS) (off : Nat) : Value → T (Value × AS)
  | .pointer (some ⟨n, o, none⟩) => .ret (vp n (o + off), S)
  | _ => .fail
@[simp] theorem eval_fldA {off : Nat} {x : Operand} : (I.fldA off x).eval ev fr S = fldAE S off (ev x) := _root_.id rfl
@[simp] theorem fldAE_ptr {off n o : Nat} : fldAE S off (.pointer (some ⟨n, o, none⟩)) = .ret (vp n (o + off), S) := _root_.id rfl
def idxE (S : AS) (esz : Nat) : Option Nat → Value → Value → T (Value × AS)
  | some len, i, x => match i, x with
    | .int _ j, .pointer (some ⟨n, o, none⟩) => if 0 ≤ j ∧ j < (len : Int) then .ret (vp n (o + j.toNat * esz), S) else .fail
    | _, _ => .fail
  | none, i, x => match i, x with
    | .int _ j, .slice (some ⟨n, o, none⟩) len _ => if 0 ≤ j ∧ j < (len : Int) then .ret (vp n (o + j.toNat * esz), S) else .fail
    | _, _ => .fail
@[simp] theorem eval_idxA {arr : Option Nat} {esz : Nat} {x i : Operand} : (I.idxA arr esz x i).eval ev fr S = idxE S esz arr (ev i) (ev x) := by cases arr <;> rfl
@[simp] theorem idxE_arr {esz len n o : Nat} {k : IntKind} {j : Int} : idxE S esz (some len) (.int k j) (.pointer (some ⟨n, o, none⟩)) = if 0 ≤ j ∧ j < (len : Int) then .ret (vp n (o + j.toNat * esz), S) else .fail := _root_.id rfl
@[simp] theorem idxE_slc {esz len n o c : Nat} {k : IntKind} {j : Int} : idxE S esz none (.int k j) (.slice (some ⟨n, o, none⟩) len c) = if 0 ≤ j ∧ j < (len : Int) then .ret (vp n (o + j.toNat * esz), S) else .fail := _root_.id rfl
def idxV (S : AS) (len esz : Nat) (g : Option Nat) : Value → Value → T (Value × AS)
  | .int _ j, .agg cs => if 0 ≤ j ∧ j < (len : Int) then T.ofOption ((rowLoad cs.toList (j.toNat * esz) g).map fun v => (v, S)) else .fail
  | _, _ => .fail
@[simp] theorem eval_idx {len : Nat} {g : Option Nat} {esz : Nat} {x i : Operand} : (I.idx len g esz x i).eval ev fr S = idxV S len esz g (ev i) (ev x) := _root_.id rfl
@[simp] theorem idxV_agg {len esz : Nat} {g : Option Nat} {k : IntKind} {j : Int} {cs : Array Value} : idxV S len esz g (.int k j) (.agg cs) = if 0 ≤ j ∧ j < (len : Int) then T.ofOption ((rowLoad cs.toList (j.toNat * esz) g).map fun v => (v, S)) else .fail := _root_.id rfl
def sidxE (S : AS) : Value → Value → T (Value × AS)
  | .int _ j, .string s => if 0 ≤ j then T.ofOption (((s.data.toList[j.toNat]?).map fun b => .int .u8 b.toNat).map fun v => (v, S)) else .fail
  | _, _ => .fail
@[simp] theorem eval_sidx {x i : Operand} : (I.sidx x i).eval ev fr S = sidxE S (ev i) (ev x) := _root_.id rfl
@[simp] theorem sidxE_str {k : IntKind} {j : Int} {s : ByteArray} : sidxE S (.int k j) (.string s) = if 0 ≤ j then T.ofOption (((s.data.toList[j.toNat]?).map fun b => .int .u8 b.toNat).map fun v => (v, S)) else .fail := _root_.id rfl
/-- the slice of a slice or of an array -/
def slV (n o esz : Nat) (b : Nat × Nat × Nat) : Value := vs n (o + b.1 * esz) (b.2.1 - b.1) (b.2.2 - b.1)
@[simp] theorem slV_eq {n o esz l h m : Nat} : slV n o esz (l, h, m) = .slice (some ⟨n, o + l * esz, none⟩) (h - l) (m - l) := _root_.id rfl
def aslcE (S : AS) (len esz : Nat) (lo hi mx : Option Value) : Value → T (Value × AS)
  | .pointer (some ⟨n, o, none⟩) => T.ofOption (((bndsV len len lo hi mx).map (slV n o esz)).map fun v => (v, S))
  | _ => .fail
@[simp] theorem eval_aslc {len esz : Nat} {x : Operand} {lo hi mx : Option Operand} : (I.aslc len esz x lo hi mx).eval ev fr S = aslcE S len esz (lo.map ev) (hi.map ev) (mx.map ev) (ev x) := _root_.id rfl
@[simp] theorem aslcE_ptr {len esz n o : Nat} {lo hi mx : Option Value} : aslcE S len esz lo hi mx (.pointer (some ⟨n, o, none⟩)) = T.ofOption (((bndsV len len lo hi mx).map (slV n o esz)).map fun v => (v, S)) := _root_.id rfl
def slcRow (S : AS) (elem : TypeId) (n o esz : Nat) (b : Option (Nat × Nat × Nat)) : Option AObj → T (Value × AS)
  | some (.row _ e _ ex) => if ex = true ∨ e = elem then T.ofOption ((b.map (slV n o esz)).map fun v => (v, S)) else .fail
  | _ => .fail
@[simp] theorem slcRow_row {elem e : TypeId} {n o esz : Nat} {b : Option (Nat × Nat × Nat)} {cells : List Value} {wr ex : Bool} : slcRow S elem n o esz b (some (.row cells e wr ex)) =
  if ex = true ∨ e = elem then T.ofOption ((b.map (slV n o esz)).map fun v => (v, S)) else .fail := _root_.id rfl
def slcE (S : AS) (elem : TypeId) (esz : Nat) (lo hi mx : Option Value) : Value → T (Value × AS)
  | .slice none len cap => T.ofOption (((bndsV len cap lo hi mx).map fun b => .slice none (b.2.1 - b.1) (b.2.2 - b.1)).map fun v => (v, S))
  | .slice (some ⟨n, o, none⟩) len cap => slcRow S elem n o esz (bndsV len cap lo hi mx) (S.get n)
  | .slice (some ⟨n, o, some s⟩) len cap => T.ofOption (((bndsV len cap lo hi mx).map fun _ => .slice (some ⟨n, o, some s⟩) 0 0).map fun v => (v, S))
  | _ => .fail
@[simp] theorem slcE_zero {elem : TypeId} {esz len cap n o s : Nat} {lo hi mx : Option Value} : slcE S elem esz lo hi mx (.slice (some ⟨n, o, some s⟩) len cap) = T.ofOption (((bndsV len cap lo hi mx).map fun _ => .slice (some ⟨n, o, some s⟩) 0 0).map fun v => (v, S)) := _root_.id rfl
@[simp] theorem eval_slc {elem : TypeId} {esz : Nat} {x : Operand} {lo hi mx : Option Operand} : (I.slc elem esz x lo hi mx).eval ev fr S = slcE S elem esz (lo.map ev) (hi.map ev) (mx.map ev) (ev x) := _root_.id rfl
@[simp] theorem slcE_nil {elem : TypeId} {esz len cap : Nat} {lo hi mx : Option Value} : slcE S elem esz lo hi mx (.slice none len cap) = T.ofOption (((bndsV len cap lo hi mx).map fun b => .slice none (b.2.1 - b.1) (b.2.2 - b.1)).map fun v => (v, S)) := _root_.id rfl
@[simp] theorem slcE_some {elem : TypeId} {esz len cap n o : Nat} {lo hi mx : Option Value} : slcE S elem esz lo hi mx (.slice (some ⟨n, o, none⟩) len cap) = slcRow S elem n o esz (bndsV len cap lo hi mx) (S.get n) := _root_.id rfl
def sslcE (S : AS) (lo hi : Option Value) : Value → T (Value × AS)
  | .string s => T.ofOption (((bndsV s.size s.size lo hi none).map fun b => .string (s.extract b.1 b.2.1)).map fun v => (v, S))
  | _ => .fail
@[simp] theorem eval_sslc {x : Operand} {lo hi : Option Operand} : (I.sslc x lo hi).eval ev fr S = sslcE S (lo.map ev) (hi.map ev) (ev x) := _root_.id rfl
@[simp] theorem sslcE_str {s : ByteArray} {lo hi : Option Value} : sslcE S lo hi (.string s) = T.ofOption (((bndsV s.size s.size lo hi none).map fun b => .string (s.extract b.1 b.2.1)).map fun v => (v, S)) := _root_.id rfl

def rowE (S : AS) (o : Nat) (g : Option Nat) : Option AObj → T (Value × AS)
  | some (.row cells _ _ _) => T.ofOption ((rowLoad cells o g).map fun v => (v, S))
  | _ => .fail
def loadE (S : AS) (g : Option Nat) : Value → T (Value × AS)
  | .pointer (some ⟨n, o, none⟩) => rowE S o g (S.get n)
  | _ => .fail
@[simp] theorem eval_load {g : Option Nat} {x : Operand} : (I.load g x).eval ev fr S = loadE S g (ev x) := _root_.id rfl
@[simp] theorem loadE_ptr {g : Option Nat} {n o : Nat} : loadE S g (.pointer (some ⟨n, o, none⟩)) = rowE S o g (S.get n) := _root_.id rfl
@[simp] theorem rowE_row {o : Nat} {g : Option Nat} {cells : List Value} {e : TypeId} {wr ex : Bool} : rowE S o g (some (.row cells e wr ex)) = T.ofOption ((rowLoad cells o g).map fun v => (v, S)) := _root_.id rfl
def putE (S : AS) (b o n : Nat) (cs : List Value) : Option AObj → T (Value × AS)
  | some (.row cells e true ex) => if cs.length = n then T.ofOption ((rowStore cells o cs).map fun cells' => (undef, S.put b (.row cells' e true ex))) else .fail
  | _ => .fail
def storeE (S : AS) (n : Nat) (v : Value) : Value → T (Value × AS)
  | .pointer (some ⟨b, o, none⟩) => putE S b o n (cellsL v) (S.get b)
  | _ => .fail
@[simp] theorem eval_store {n : Nat} {x y : Operand} : (I.store n x y).eval ev fr S = storeE S n (ev y) (ev x) := _root_.id rfl
@[simp] theorem storeE_ptr {n b o : Nat} {v : Value} : storeE S n v (.pointer (some ⟨b, o, none⟩)) = putE S b o n (cellsL v) (S.get b) := _root_.id rfl
@[simp] theorem putE_row {b o n : Nat} {cs cells : List Value} {e : TypeId} {ex : Bool} : putE S b o n cs (some (.row cells e true ex)) =
  if cs.length = n then T.ofOption ((rowStore cells o cs).map fun cells' => (undef, S.put b (.row cells' e true ex))) else .fail := _root_.id rfl
def nilcE (S : AS) : Value → T (Value × AS)
  | .pointer (some a) => .ret (.pointer (some a), S)
  | .func (.func f) first cap => .ret (.func (.func f) first cap, S)
  | _ => .fail
@[simp] theorem eval_nilc {x : Operand} : (I.nilc x).eval ev fr S = nilcE S (ev x) := _root_.id rfl
@[simp] theorem nilcE_ptr {a : Addr} : nilcE S (.pointer (some a)) = .ret (.pointer (some a), S) := _root_.id rfl
@[simp] theorem nilcE_fn {f : Nat} {a b : Array Value} : nilcE S (.func (.func f) a b) = .ret (.func (.func f) a b, S) := _root_.id rfl
@[simp] theorem layV_some {v : Value} {o : AObj} : layV S fr (some (v, o)) = .ret (v, S.put fr o) := _root_.id rfl
@[simp] theorem eval_s2b {e : TypeId} {x : Operand} : (I.s2b e x).eval ev fr S = layV S fr ((I.s2b e x).newV ev fr) := _root_.id rfl
@[simp] theorem eval_alloc {e : TypeId} {z : List Value} : (I.alloc e z).eval ev fr S = .ret (vp fr 0, S.put fr (.row z e true true)) := _root_.id rfl
@[simp] theorem eval_box {e : TypeId} {x : Operand} : (I.box e x).eval ev fr S = layV S fr ((I.box e x).newV ev fr) := _root_.id rfl
@[simp] theorem eval_bslice {e : TypeId} {n : Nat} {cs : List Value} {len : Nat} {ps : List (Nat × Nat × Operand)} : (I.bslice e n cs len ps).eval ev fr S = layV S fr ((I.bslice e n cs len ps).newV ev fr) := _root_.id rfl
@[simp] theorem eval_mkmap : I.mkmap.eval ev fr S = .ret (.map (some fr), S.put fr (.map [] 0)) := _root_.id rfl
@[simp] theorem eval_mksl {e : TypeId} {n b : Nat} {z : List Value} {x y : Operand} : (I.mksl e n b z x y).eval ev fr S = layV S fr ((I.mksl e n b z x y).newV ev fr) := _root_.id rfl
@[simp] theorem newV_alloc {e : TypeId} {z : List Value} : (I.alloc e z).newV ev fr = some (vp fr 0, .row z e true true) := _root_.id rfl
@[simp] theorem newV_box {e : TypeId} {x : Operand} : (I.box e x).newV ev fr = if notT (ev x) then some (vp fr 0, .row (cellsL (ev x)) e true true) else none := _root_.id rfl
def bslE (fr : Nat) (e : TypeId) (len : Nat) : Option (List Value) → Option (Value × AObj)
  | some cs => some (vs fr 0 len len, .row cs e true true)
  | none => none
@[simp] theorem newV_bslice {e : TypeId} {n : Nat} {cs : List Value} {len : Nat} {ps : List (Nat × Nat × Operand)} : (I.bslice e n cs len ps).newV ev fr = bslE fr e len ((partsOf ev ps).bind fun ps => placeIn cs ps) := _root_.id rfl
@[simp] theorem bslE_some {e : TypeId} {len : Nat} {cs : List Value} : bslE fr e len (some cs) = some (vs fr 0 len len, .row cs e true true) := _root_.id rfl
@[simp] theorem newV_mkmap : I.mkmap.newV ev fr = some (.map (some fr), .map [] 0) := _root_.id rfl
def mkslE (fr : Nat) (e : TypeId) (b : Nat) (z : List Value) : Value → Value → Option (Value × AObj)
  | .int .i64 l, .int .i64 c => if 0 ≤ l ∧ l ≤ c ∧ b * c ≤ 281474976710656 ∧ c ≤ 9223372036854775807 then some (vs fr 0 l.toNat c.toNat, .row (repCells z c.toNat) e true true) else none
  | _, _ => none
@[simp] theorem newV_mksl {e : TypeId} {n b : Nat} {z : List Value} {x y : Operand} : (I.mksl e n b z x y).newV ev fr = mkslE fr e b z (ev x) (ev y) := _root_.id rfl
@[simp] theorem mkslE_int {e : TypeId} {b : Nat} {z : List Value} {l c : Int} : mkslE fr e b z (.int .i64 l) (.int .i64 c) =
  if 0 ≤ l ∧ l ≤ c ∧ b * c ≤ 281474976710656 ∧ c ≤ 9223372036854775807 then some (vs fr 0 l.toNat c.toNat, .row (repCells z c.toNat) e true true) else none := _root_.id rfl
def s2bE (fr : Nat) (e : TypeId) : Value → Option (Value × AObj)
  | .string s => some (vs fr 0 s.size s.size, .row (s.data.toList.map fun b => .int .u8 b.toNat) e true false)
  | _ => none
@[simp] theorem newV_s2b {e : TypeId} {x : Operand} : (I.s2b e x).newV ev fr = s2bE fr e (ev x) := _root_.id rfl
@[simp] theorem s2bE_str {e : TypeId} {s : ByteArray} : s2bE fr e (.string s) = some (vs fr 0 s.size s.size, .row (s.data.toList.map fun b => .int .u8 b.toNat) e true false) := _root_.id rfl
def extrE (S : AS) (i : Nat) : Value → T (Value × AS)
  | .tuple us => T.ofOption ((us.toList[i]?).map fun v => (v, S))
  | _ => .fail
@[simp] theorem eval_extr {x : Operand} {i : Nat} : (I.extr x i).eval ev fr S = extrE S i (ev x) := _root_.id rfl
@[simp] theorem extrE_tuple {i : Nat} {us : Array Value} : extrE S i (.tuple us) = T.ofOption ((us.toList[i]?).map fun v => (v, S)) := _root_.id rfl
def lnE (S : AS) : Value → T (Value × AS)
  | .slice _ n _ => .ret (vi n, S)
  | _ => .fail
@[simp] theorem eval_ln {x : Operand} : (I.ln x).eval ev fr S = lnE S (ev x) := _root_.id rfl
@[simp] theorem lnE_slice {a : Option Addr} {n c : Nat} : lnE S (.slice a n c) = .ret (vi n, S) := _root_.id rfl
def slnE (S : AS) : Value → T (Value × AS)
  | .string s => .ret (vi s.size, S)
  | _ => .fail
@[simp] theorem eval_sln {x : Operand} : (I.sln x).eval ev fr S = slnE S (ev x) := _root_.id rfl
@[simp] theorem slnE_str {s : ByteArray} : slnE S (.string s) = .ret (vi s.size, S) := _root_.id rfl
@[simp] theorem eval_lenk {n : Nat} : (I.lenk n).eval ev fr S = .ret (vi n, S) := _root_.id rfl
@[simp] theorem eval_app {e : TypeId} {n b : Nat} {z : List Value} {x y : Operand} : (I.app e n b z x y).eval ev fr S = T.ofOption (appV S fr e n b (ev x) (ev y)) := _root_.id rfl
@[simp] theorem eval_cpy {n : Nat} {x y : Operand} : (I.cpy n x y).eval ev fr S = T.ofOption (cpyV S n (ev x) (ev y)) := _root_.id rfl
@[simp] theorem eval_maxb {xs : List Operand} : (I.maxb xs).eval ev fr S = T.ofOption ((foldV max2V (xs.map ev)).map fun v => (v, S)) := _root_.id rfl
@[simp] theorem eval_minb {xs : List Operand} : (I.minb xs).eval ev fr S = T.ofOption ((foldV min2V (xs.map ev)).map fun v => (v, S)) := _root_.id rfl
def b2sE (S : AS) : Option (Nat × List Value) → Value → T (Value × AS)
  | some (_, cs), .slice .. => T.ofOption (((bytesOfV cs).map fun bs => .string ⟨bs.toArray⟩).map fun v => (v, S))
  | _, _ => .fail
@[simp] theorem eval_b2s {x : Operand} : (I.b2s x).eval ev fr S = b2sE S (srcCells S 1 (ev x)) (ev x) := _root_.id rfl
@[simp] theorem b2sE_some {n l c : Nat} {cs : List Value} {a : Option Addr} : b2sE S (some (n, cs)) (.slice a l c) = T.ofOption (((bytesOfV cs).map fun bs => .string ⟨bs.toArray⟩).map fun v => (v, S)) := _root_.id rfl
end

/-! ## numbers -/
section
variable {k : IntKind} {x y : Int}
@[simp] theorem binV_add : binV .add (.int k x) (.int k y) = some (.int k (k.wrap (x + y))) := by simp [binV, isSh, intBin]
@[simp] theorem binV_sub : binV .sub (.int k x) (.int k y) = some (.int k (k.wrap (x - y))) := by simp [binV, isSh, intBin]
@[simp] theorem binV_mul : binV .mul (.int k x) (.int k y) = some (.int k (k.wrap (x * y))) := by simp [binV, isSh, intBin]
@[simp] theorem binV_quo : binV .quo (.int k x) (.int k y) = if y = 0 then none else some (.int k (k.wrap (x.tdiv y))) := by simp [binV, isSh, intBin]
@[simp] theorem binV_rem : binV .rem (.int k x) (.int k y) = if y = 0 then none else some (.int k (x.tmod y)) := by simp [binV, isSh, intBin]
@[simp] theorem binV_eql : binV .eql (.int k x) (.int k y) = some (.bool (decide (x = y))) := by simp [binV, isSh, intBin]; by_cases h : x = y <;> simp [h]
@[simp] theorem binV_neq : binV .neq (.int k x) (.int k y) = some (.bool (!decide (x = y))) := by simp [binV, isSh, intBin, bne]; by_cases h : x = y <;> simp [h]
@[simp] theorem binV_lss : binV .lss (.int k x) (.int k y) = some (.bool (decide (x < y))) := by simp [binV, isSh, intBin]
@[simp] theorem binV_leq : binV .leq (.int k x) (.int k y) = some (.bool (decide (x ≤ y))) := by simp [binV, isSh, intBin]
@[simp] theorem binV_gtr : binV .gtr (.int k x) (.int k y) = some (.bool (decide (y < x))) := by simp [binV, isSh, intBin]
@[simp] theorem binV_geq : binV .geq (.int k x) (.int k y) = some (.bool (decide (y ≤ x))) := by simp [binV, isSh, intBin]
@[simp] theorem unV_not {b : Bool} : unV .not (.bool b) = some (.bool !b) := _root_.id rfl
@[simp] theorem unV_neg : unV .neg (.int k x) = some (.int k (k.wrap (0 - x))) := _root_.id rfl
@[simp] theorem max2V_int : max2V (.int k x) (.int k y) = some (.int k (max x y)) := by simp [max2V]; omega
@[simp] theorem min2V_int : min2V (.int k x) (.int k y) = some (.int k (min x y)) := by simp [min2V]; omega
end


/-! ## cells -/
@[simp] theorem okc_bool {b : Bool} : okc (.bool b) = true := _root_.id rfl
@[simp] theorem notT_bool {b : Bool} : notT (.bool b) = true := _root_.id rfl
@[simp] theorem cellsL_bool {b : Bool} : cellsL (.bool b) = [.bool b] := _root_.id rfl
@[simp] theorem okc_int {k : IntKind} {n : Int} : okc (.int k n) = true := _root_.id rfl
@[simp] theorem notT_int {k : IntKind} {n : Int} : notT (.int k n) = true := _root_.id rfl
@[simp] theorem cellsL_int {k : IntKind} {n : Int} : cellsL (.int k n) = [.int k n] := _root_.id rfl
@[simp] theorem okc_string {s : ByteArray} : okc (.string s) = true := _root_.id rfl
@[simp] theorem notT_string {s : ByteArray} : notT (.string s) = true := _root_.id rfl
@[simp] theorem cellsL_string {s : ByteArray} : cellsL (.string s) = [.string s] := _root_.id rfl
@[simp] theorem okc_pointer {a : Option Addr} : okc (.pointer a) = true := _root_.id rfl
@[simp] theorem notT_pointer {a : Option Addr} : notT (.pointer a) = true := _root_.id rfl
@[simp] theorem cellsL_pointer {a : Option Addr} : cellsL (.pointer a) = [.pointer a] := _root_.id rfl
@[simp] theorem okc_slice {a : Option Addr} {n c : Nat} : okc (.slice a n c) = true := _root_.id rfl
@[simp] theorem notT_slice {a : Option Addr} {n c : Nat} : notT (.slice a n c) = true := _root_.id rfl
@[simp] theorem cellsL_slice {a : Option Addr} {n c : Nat} : cellsL (.slice a n c) = [.slice a n c] := _root_.id rfl
@[simp] theorem okc_map {r : Option Nat} : okc (.map r) = true := _root_.id rfl
@[simp] theorem notT_map {r : Option Nat} : notT (.map r) = true := _root_.id rfl
@[simp] theorem cellsL_map {r : Option Nat} : cellsL (.map r) = [.map r] := _root_.id rfl
@[simp] theorem okc_func {f : Fn} {a b : Array Value} : okc (.func f a b) = true := _root_.id rfl
@[simp] theorem notT_func {f : Fn} {a b : Array Value} : notT (.func f a b) = true := _root_.id rfl
@[simp] theorem cellsL_func {f : Fn} {a b : Array Value} : cellsL (.func f a b) = [.func f a b] := _root_.id rfl
@[simp] theorem okc_nilFunc  : okc (.nilFunc) = true := _root_.id rfl
@[simp] theorem notT_nilFunc  : notT (.nilFunc) = true := _root_.id rfl
@[simp] theorem cellsL_nilFunc  : cellsL (.nilFunc) = [.nilFunc] := _root_.id rfl
@[simp] theorem okc_iface {t : TypeId} {v : Value} : okc (.iface t v) = true := _root_.id rfl
@[simp] theorem notT_iface {t : TypeId} {v : Value} : notT (.iface t v) = true := _root_.id rfl
@[simp] theorem cellsL_iface {t : TypeId} {v : Value} : cellsL (.iface t v) = [.iface t v] := _root_.id rfl
@[simp] theorem okc_nilIface  : okc (.nilIface) = true := _root_.id rfl
@[simp] theorem notT_nilIface  : notT (.nilIface) = true := _root_.id rfl
@[simp] theorem cellsL_nilIface  : cellsL (.nilIface) = [.nilIface] := _root_.id rfl
@[simp] theorem notT_agg {cs : Array Value} : notT (.agg cs) = true := _root_.id rfl
@[simp] theorem cellsL_agg {cs : Array Value} : cellsL (.agg cs) = cs.toList := _root_.id rfl

attribute [simp] partsOf flushAll flush still
/-! short words for functions that a program prints -/
abbrev oS (d : Nat) (i : I) : O := ⟨some d, i, none⟩
abbrev oN (i : I) : O := ⟨none, i, none⟩
abbrev oG (d : Nat) (i : I) (g : Nat) (b : Bool) : O := ⟨some d, i, some (g, b)⟩
abbrev tm (n : Nat) : Operand := .tmp n
abbrev ci (n : Int) : Operand := .const (.int .i64 n)
end Go.Gx
