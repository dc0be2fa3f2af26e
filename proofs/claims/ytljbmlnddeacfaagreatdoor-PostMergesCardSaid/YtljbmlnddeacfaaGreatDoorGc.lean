/-
  Keys of maps.
-/
import Derived.Test.YtljbmlnddeacfaaGreatDoorGb
import Derived.Laws.AppendOwn

set_option linter.all false
set_option linter.deprecated false

namespace Go.Gx

section
variable {P : Program} {w : World}

theorem cseq_refl : ∀ {ks : List K} {xs ys : List Value} {b : Bool}, cseq ks xs ys = some b → xs.length = ks.length := fun h => (cseq_len h).1

/-- is each cell of its kind? -/
theorem cseq_self_append : ∀ {ks js : List K} {xs : List Value} {b : Bool}, cseq (ks ++ js) xs xs = some b →
    (∃ c, cseq ks (xs.take ks.length) (xs.take ks.length) = some c) ∧ ∃ d, cseq js (xs.drop ks.length) (xs.drop ks.length) = some d := by
  intro ks js xs b h
  obtain ⟨c, d, h1, h2, _⟩ := cseq_append h
  exact ⟨⟨c, h1⟩, ⟨d, h2⟩⟩

theorem forIn_unit {α : Type} (f : α → Sem Unit) : ∀ (l : List α), (∀ x ∈ l, (f x).run P w = .ok () w) → (forIn l PUnit.unit (fun x _ => do f x; pure (ForInStep.yield PUnit.unit))).run P w = .ok () w
  | [], _ => by simp
  | x :: l, h => by
    simp only [List.forIn_cons, Sem.run_bind, h x (by simp), Result.andThen_ok, Sem.run_pure]
    exact forIn_unit f l fun y hy => h y (by simp [hy])

theorem checkKey_kinds (em : Bool) : ∀ (d D : Nat) (t : TypeId) (ks : List K), kindsOf P d t = some ks → d ≤ D → ∀ (xs : List Value) (b : Bool), cseq ks xs xs = some b →
    (Instr.checkKey em D t (ofT P t xs)).run P w = .ok () w := by
  intro d
  induction d with
  | zero => intro D t ks h; cases h
  | succ d ih =>
    intro D t ks h hd xs b hb
    obtain ⟨D, rfl⟩ : ∃ E, D = E + 1 := ⟨D - 1, by omega⟩
    unfold kindsOf at h
    have one : ∀ (dd : TypeDesc), P.underlying t = some dd → (∀ fs, dd ≠ .struct fs) → (∀ n e, dd ≠ .array n e) → (∀ ms, dd ≠ .interface ms) → (Instr.checkKey em (D + 1) t (ofT P t xs)).run P w = .ok () w := by
      intro dd hu h1 h2 h3
      simp only [Instr.checkKey, Sem.run_bind, run_und hu, Result.andThen_ok]
      cases dd <;> first
        | exact absurd rfl (h1 _)
        | exact absurd rfl (h2 _ _)
        | exact absurd rfl (h3 _)
        | rfl
    split at h
    · rename_i hu _; exact one _ hu (by simp) (by simp) (by simp)
    · rename_i hu _; exact one _ hu (by simp) (by simp) (by simp)
    · rename_i hu _; exact one _ hu (by simp) (by simp) (by simp)
    · rename_i fs n hu hn
      split at h
      · cases h
      · rw [Option.filter_eq_some_iff] at h
        have ex : ∀ zs, ofT P t zs = .agg zs.toArray := fun zs => by unfold ofT; rw [hu]
        have key : ∀ (l : List Field) (off : Nat) (ks : List K), fieldKinds (kindsOf P d) l off = some ks → (∃ b, cseq ks (xs.drop off) (xs.drop off) = some b) →
            ∀ f ∈ l, f.name ≠ "_" ∧ ∃ k1, kindsOf P d f.type = some k1 ∧ f.offset + k1.length ≤ xs.length ∧ ∃ b, cseq k1 ((xs.drop f.offset).take k1.length) ((xs.drop f.offset).take k1.length) = some b := by
          intro l
          induction l with
          | nil => intro off ks _ _ f hf; cases hf
          | cons g l ihl =>
            intro off ks hk hcs f hf
            unfold fieldKinds at hk
            split at hk
            · cases hk
            · rename_i hg
              split at hk
              · rename_i k1 hk1
                split at hk
                · cases hk
                · rename_i hz
                  cases e : fieldKinds (kindsOf P d) l (off + k1.length) with
                  | none => rw [e] at hk; cases hk
                  | some k2 =>
                    rw [e] at hk; cases hk
                    obtain ⟨bb, hbb⟩ := hcs
                    have hlen := cseq_refl hbb
                    simp only [List.length_append, List.length_drop] at hlen
                    obtain ⟨p1, p2⟩ := cseq_self_append hbb
                    rcases List.mem_cons.1 hf with rfl | hf
                    · have hfo : f.offset = off := Decidable.not_not.1 (fun hne => hg (.inr hne))
                      have hfn : f.name ≠ "_" := fun hne => hg (.inl hne)
                      exact ⟨hfn, k1, hk1, by omega, by rw [hfo]; exact p1⟩
                    · exact ihl (off + k1.length) k2 e (by simpa [List.drop_drop] using p2) f hf
              · cases hk
        have hall := key fs.toList 0 ks h.1 ⟨b, by simpa using hb⟩
        rw [ex]
        simp only [Instr.checkKey, Sem.run_bind, run_und hu, Result.andThen_ok]
        rw [← Array.forIn_toList]
        generalize fs.toList = l at hall ⊢
        clear key h hu hb
        induction l with
        | nil => simp
        | cons f l ihl =>
          obtain ⟨g1, k1, g2, g3, b1, g4⟩ := hall f (by simp)
          have p1 := part_ofT (w := w) g2 xs.toArray f.offset (by simpa using g3)
          simp only [List.forIn_cons, Sem.run_bind]
          rw [if_pos g1]
          simp only [Sem.run_bind, p1, Result.andThen_ok, ih D f.type k1 g2 (by omega) _ b1 g4, Sem.run_pure]
          exact ihl fun f hf => hall f (by simp [hf])
    · rename_i m e n hu hn
      rw [Option.filter_eq_some_iff] at h
      obtain ⟨h1, h2⟩ := h
      cases hk1 : kindsOf P d e with
      | none => rw [hk1] at h1; cases h1
      | some k1 =>
        rw [hk1] at h1
        simp only [Option.bind_some] at h1
        have ex : ∀ zs, ofT P t zs = .agg zs.toArray := fun zs => by unfold ofT; rw [hu]
        split at h1
        · cases h1
        · rename_i hz
          cases h1
          rw [ex]
          simp only [Instr.checkKey, Sem.run_bind, run_und hu, Result.andThen_ok]
          rw [Std.Legacy.Range.forIn_eq_forIn_range']
          simp only [Std.Legacy.Range.size, Nat.sub_zero, Nat.add_sub_cancel, Nat.div_one]
          have hex : ∃ b, cseq (List.replicate m k1).flatten (xs.drop (0 * k1.length)) (xs.drop (0 * k1.length)) = some b := ⟨b, by simpa using hb⟩
          clear hb h2 hu
          generalize 0 = i at hex ⊢
          induction m generalizing i with
          | zero => simp
          | succ m ihm =>
            obtain ⟨bb, hbb⟩ := hex
            simp only [List.replicate_succ, List.flatten_cons] at hbb
            have hlen := cseq_refl hbb
            simp only [List.length_append, List.length_drop] at hlen
            obtain ⟨⟨c, p1⟩, p2⟩ := cseq_self_append hbb
            have q1 := part_ofT (w := w) hk1 xs.toArray (i * k1.length) (by simp; omega)
            simp only [List.range'_succ, List.forIn_cons, Sem.run_bind, run_sz (kinds_sz hk1), Result.andThen_ok, q1, ih D e k1 hk1 (by omega) _ c p1, Sem.run_pure]
            refine ihm (i + 1) ?_
            have : (i + 1) * k1.length = i * k1.length + k1.length := by rw [Nat.add_mul, Nat.one_mul]
            rw [this]; simpa [List.drop_drop] using p2
    · cases h

def FdR (P : Program) (r : Rho) : Option (Nat × Value) → Option (Nat × Value) → Prop
  | none, none => True
  | some (i, v), some (i', v') => i = i' ∧ VR P r v v'
  | _, _ => False

theorem EsR.cons_inv {r : Rho} {e : MapEntry} {es es' : List MapEntry} (h : EsR P r (e :: es) es') : ∃ e' l', es' = e' :: l' ∧ ER P r e e' ∧ EsR P r es l' := by
  cases es' with
  | nil => have := h.1; simp at this
  | cons e' l' => exact ⟨e', l', rfl, h.2 0 e e' rfl rfl, by have := h.1; simpa using this, fun i a b x y => h.2 (i + 1) a b (by simpa using x) (by simpa using y)⟩
theorem EsR.nil_inv {r : Rho} {es' : List MapEntry} (h : EsR P r [] es') : es' = [] := by
  cases es' with
  | nil => rfl
  | cons e' l' => have := h.1; simp at this

theorem findNow_run {r : Rho} {kd : TypeDesc} {ks : List K} (hs : ∀ a b c, veq ks false a b = some c → Instr.sameNow kd a b = some c) {k : Value} (hk : VR P r k k) :
    ∀ (es es' : List MapEntry) (i : Nat) (res : Option (Nat × Value)), findK ks false k es i = some res → EsR P r es es' → ∃ res', Instr.findNow kd k es' i = some res' ∧ FdR P r res res'
  | [], es', i, res, h, he => by
    simp only [findK, Option.some.injEq] at h; subst h
    rw [he.nil_inv]; exact ⟨none, rfl, trivial⟩
  | e :: es, es', i, res, h, he => by
    obtain ⟨e', l', rfl, h1, h2⟩ := he.cons_inv
    unfold findK at h
    split at h
    · rename_i hv
      simp only [Option.some.injEq] at h; subst h
      have hk2 := (veq_VR hv hk h1.1).2
      refine ⟨some (i, e'.val), ?_, rfl, h1.2.1⟩
      simp only [Instr.findNow]
      rw [hk2, hs _ _ _ hv]
    · rename_i hv
      have hk2 := (veq_VR hv hk h1.1).2
      obtain ⟨res', p1, p2⟩ := findNow_run hs hk es l' (i + 1) res h h2
      refine ⟨res', ?_, p2⟩
      simp only [Instr.findNow]
      rw [hk2, hs _ _ _ hv]
      exact p1
    · cases h

theorem findAsking_run {r : Rho} {t : TypeId} {ks : List K} {agg : Bool} (hs : ∀ a b c, veq ks agg a b = some c → (Op.equal t a b).run P w = .ok c w) {k : Value} (hk : VR P r k k) :
    ∀ (es es' : List MapEntry) (i : Nat) (res : Option (Nat × Value)), findK ks agg k es i = some res → EsR P r es es' → ∃ res', (Instr.findAsking t k es' i).run P w = .ok res' w ∧ FdR P r res res'
  | [], es', i, res, h, he => by
    simp only [findK, Option.some.injEq] at h; subst h
    rw [he.nil_inv]; exact ⟨none, by simp [Instr.findAsking], trivial⟩
  | e :: es, es', i, res, h, he => by
    obtain ⟨e', l', rfl, h1, h2⟩ := he.cons_inv
    unfold findK at h
    split at h
    · rename_i hv
      simp only [Option.some.injEq] at h; subst h
      have hk2 := (veq_VR hv hk h1.1).2
      refine ⟨some (i, e'.val), ?_, rfl, h1.2.1⟩
      simp only [Instr.findAsking, Sem.run_bind, hk2, hs _ _ _ hv, Result.andThen_ok, if_true, Sem.run_pure]
    · rename_i hv
      have hk2 := (veq_VR hv hk h1.1).2
      obtain ⟨res', p1, p2⟩ := findAsking_run hs hk es l' (i + 1) res h h2
      refine ⟨res', ?_, p2⟩
      simp only [Instr.findAsking, Sem.run_bind, hk2, hs _ _ _ hv, Result.andThen_ok, Bool.false_eq_true, if_false]
      exact p1
    · cases h

theorem veq_true_eq {ks : List K} {agg : Bool} : ∀ {a b : Value}, veq ks agg a b = some true → a = b := by
  have one : ∀ {k : K} {a b : Value}, ceq k a b = some true → a = b := by
    intro k a b h
    cases k <;> cases a <;> cases b <;> simp [ceq] at h
    · obtain ⟨⟨rfl, rfl⟩, rfl⟩ := h; rfl
    · subst h; rfl
    · subst h; rfl
  have many : ∀ {ks : List K} {xs ys : List Value}, cseq ks xs ys = some true → xs = ys := by
    intro ks
    induction ks with
    | nil => intro xs ys h; cases xs <;> cases ys <;> simp [cseq] at h; rfl
    | cons k ks ih =>
      intro xs ys h
      cases xs <;> cases ys <;> simp [cseq] at h
      split at h
      · rename_i p q h1 h2
        simp at h
        obtain ⟨rfl, rfl⟩ := h
        rw [one h1, ih h2]
      · cases h
  intro a b h
  unfold veq at h
  split at h
  · have := many h; rw [Array.ext' this]
  · cases h
  · have := many h; simpa using this

theorem veq_agg {ks : List K} {a c : Value} {b : Bool} (h : veq ks true a c = some b) : ∃ xs ys, a = .agg xs ∧ c = .agg ys ∧ cseq ks xs.toList ys.toList = some b := by
  cases a <;> cases c <;> simp [veq] at h
  exact ⟨_, _, rfl, rfl, h⟩
theorem veq_one {ks : List K} {a c : Value} {b : Bool} (h : veq ks false a c = some b) : cseq ks [a] [c] = some b := by
  cases a <;> simpa [veq] using h

theorem sameBits_refl : ∀ {ks : List K} {agg : Bool} {a : Value} {b : Bool}, veq ks agg a a = some b → Instr.sameBits 10000 a a = true := by
  have one : ∀ {k : K} {a : Value} {b : Bool} (n : Nat), ceq k a a = some b → Instr.sameBits n a a = true := by
    intro k a b n h
    cases k <;> cases a <;> simp [ceq] at h
    · cases n <;> simp [Instr.sameBits]
    · cases n <;> simp [Instr.sameBits, bytes_beq]
    · cases n <;> simp [Instr.sameBits]
  intro ks agg a b h
  cases agg with
  | true =>
    obtain ⟨xs, ys, rfl, e, h⟩ := veq_agg h
    cases e
    have : ∀ (ks : List K) (l : List Value) (b : Bool), cseq ks l l = some b → (l.zip l).all (fun (x, y) => Instr.sameBits 9999 x y) = true := by
      intro ks l
      induction l generalizing ks with
      | nil => intro b _; rfl
      | cons x l ih =>
        intro b h
        cases ks with
        | nil => simp [cseq] at h
        | cons k ks =>
          simp only [cseq] at h
          split at h
          · rename_i p q h1 h2
            simp only [List.zip_cons_cons, List.all_cons, Bool.and_eq_true]
            exact ⟨one _ h1, ih ks _ h2⟩
          · cases h
    have h2 := this ks xs.toList b h
    show (xs.size == xs.size && (xs.toList.zip xs.toList).all fun (x, y) => Instr.sameBits 9999 x y) = true
    simp only [beq_self_eq_true, Bool.true_and]
    exact h2
  | false =>
    have h := veq_one h
    cases ks with
    | nil => simp [cseq] at h
    | cons k ks =>
      simp only [cseq] at h
      split at h
      · rename_i p q h1 h2; exact one _ h1
      · cases h

theorem find_run {r : Rho} {t : TypeId} {ks : List K} {agg : Bool} (hk : keyOf P t = some (ks, agg)) {k k' : Value} (hv : VR P r k k') {es : List MapEntry} {res : Option (Nat × Value)}
    (h : findC ks agg k es = some res) {es' : List MapEntry} (he : EsR P r es es') : k' = k ∧ (∀ em, (Instr.checkKey em 10000 t k).run P w = .ok () w) ∧ ∃ res', (Instr.findKey t k es').run P w = .ok res' w ∧ FdR P r res res' := by
  unfold findC at h
  split at h
  · rename_i hok
    unfold keyOK at hok
    obtain ⟨bb, hbb⟩ := Option.isSome_iff_exists.1 hok
    obtain ⟨e1, _⟩ := veq_VR hbb hv hv
    subst e1
    refine ⟨rfl, ?_⟩
    have simple : ∀ (kd : TypeDesc), P.underlying t = some kd → (∀ fs, kd ≠ .struct fs) → (∀ n e, kd ≠ .array n e) → (∀ ms, kd ≠ .interface ms) → agg = false → (∀ a b c, veq ks false a b = some c → Instr.sameNow kd a b = some c) →
        (∀ em, (Instr.checkKey em 10000 t k').run P w = .ok () w) ∧ ∃ res', (Instr.findKey t k' es').run P w = .ok res' w ∧ FdR P r res res' := by
      intro kd hu h1 h2 h3 ha hs
      subst ha
      refine ⟨fun em => ?_, ?_⟩
      · show (Instr.checkKey em (9999 + 1) t k').run P w = .ok () w
        generalize 9999 = d
        simp only [Instr.checkKey, Sem.run_bind, run_und hu, Result.andThen_ok]
        cases kd <;> first
          | exact absurd rfl (h1 _)
          | exact absurd rfl (h2 _ _)
          | exact absurd rfl (h3 _)
          | rfl
      · obtain ⟨res', p1, p2⟩ := findNow_run hs hv es es' 0 res h he
        refine ⟨res', ?_, p2⟩
        simp only [Instr.findKey, Sem.run_bind, run_und hu, Result.andThen_ok, p1, Sem.run_pure]
    have hk0 := hk
    unfold keyOf at hk
    split at hk
    · rename_i hu; cases hk
      refine simple _ hu (by simp) (by simp) (by simp) rfl ?_
      intro a b c hc
      cases a <;> simp [veq, cseq, ceq] at hc
      cases b <;> simp [veq, cseq, ceq] at hc
      subst hc; rfl
    · rename_i kk hu; cases hk
      refine simple _ hu (by simp) (by simp) (by simp) rfl ?_
      intro a b c hc
      cases a <;> simp [veq, cseq, ceq] at hc
      cases b <;> simp [veq, cseq, ceq] at hc
      rename_i k1 n1 k2 n2
      by_cases hkk : k1 = kk ∧ k2 = kk
      · obtain ⟨rfl, rfl⟩ := hkk
        simp at hc; subst hc; simp [Instr.sameNow]
      · simp [hkk] at hc
    · rename_i hu; cases hk
      refine simple _ hu (by simp) (by simp) (by simp) rfl ?_
      intro a b c hc
      cases a <;> simp [veq, cseq, ceq] at hc
      cases b <;> simp [veq, cseq, ceq] at hc
      subst hc; simp [Instr.sameNow, bytes_beq]
    all_goals first
      | (cases hk; done)
      | (rename_i hu
         split at hk
         · cases hk
         · rename_i hg
           cases e : kindsOf P 9 t with
           | none => rw [e] at hk; cases hk
           | some ks' =>
             rw [e] at hk; cases hk
             have ex : ∀ zs : Array Value, Value.agg zs = ofT P t zs.toList := fun zs => by unfold ofT; rw [hu]
             have heq : ∀ a b c, veq ks true a b = some c → (Op.equal t a b).run P w = .ok c w := by
               intro a b c hc
               obtain ⟨p, q, rfl, rfl, hc⟩ := veq_agg hc
               rw [ex, ex]
               exact equalIn_kinds 9 Op.maxDepth t ks e (by decide) _ _ _ hc
             refine ⟨fun em => ?_, ?_⟩
             · obtain ⟨p, q, rfl, e2, hc⟩ := veq_agg hbb
               cases e2
               rw [ex]
               exact checkKey_kinds em 9 10000 t ks e (by decide) _ _ hc
             · obtain ⟨res', p1, p2⟩ := findAsking_run heq hv es es' 0 res h he
               refine ⟨res', ?_, p2⟩
               simp only [Instr.findKey, Sem.run_bind, run_und hu, Result.andThen_ok]
               cases es' with
               | nil =>
                 simp only [Instr.findNow]
                 simp only [Instr.findAsking, Sem.run_pure] at p1
                 simpa using p1
               | cons e' l' =>
                 simp only [Instr.findNow]
                 have : Instr.sameNow (TypeDesc.struct #[]) k' e'.key = none := by simp [Instr.sameNow]
                 simp only [Instr.sameNow]
                 exact p1)
  · cases h
end
end Go.Gx

/-
  What reads, what makes memory.
-/
namespace Go.Gx

/-- the model's operation, run in a world that is related to the abstract memory, does what the abstract one does -/
def Sim (P : Program) (prot : Nat → Option Obj) (w0 : World) (r : Rho) (S : AS) (w : World) (fr : Nat) (s : Sem Next) (Q : Value × AS → Prop) : Prop :=
  ∃ v v' S1 r1 w1, Q (v, S1) ∧ (s.run P w = .ok (.value v') w1 ∨ (s.run P w = .ok .skip w1 ∧ v' = undef)) ∧ VR P r1 v v' ∧ r.le r1 ∧
    (∀ m, m ≠ fr → r m = none → r1 m = none) ∧ S1.next = S.next ∧ Rel P prot w0 r1 S1 w1

section
variable {P : Program} {prot : Nat → Option Obj} {w0 : World} {r : Rho} {S : AS} {w : World} {ev ev' : Operand → Value} {fr : Nat} {Q : Value × AS → Prop}

theorem Sim.of_gives {s : Sem Next} {v : Value} (hR : Rel P prot w0 r S w) (h : Gives P r w s v) (hQ : Q (v, S)) : Sim P prot w0 r S w fr s Q := by
  obtain ⟨v', h1, h2⟩ := h
  exact ⟨v, v', S, r, w, hQ, .inl h1, h2, .refl r, fun _ _ h => h, rfl, hR⟩

theorem val_all {o : Option Value} (h : (T.ofOption (o.map fun v => (v, S))).all Q) : ∃ v, o = some v ∧ Q (v, S) := by
  cases o with
  | none => exact h.elim
  | some v => exact ⟨v, rfl, h⟩

/-- the same value at once -/
theorem Sim.value {s : Sem Value} {v v' : Value} (hR : Rel P prot w0 r S w) (h : s.run P w = .ok v' w) (hv : VR P r v v') (hQ : Q (v, S)) : Sim P prot w0 r S w fr (do let a ← s; pure (Next.value a)) Q :=
  Sim.of_gives hR (Gives.of h hv) hQ

theorem sim_load {t : TypeId} {g : Option Nat} (hg : aggOf P t = some g) {x : Operand} (hx : VR P r (ev x) (ev' x)) (hR : Rel P prot w0 r S w) (h : ((I.load g x).eval ev fr S).all Q) :
    Sim P prot w0 r S w fr (do let a ← Instr.loadAt t (ev' x); pure (Next.value a)) Q := by
  simp only [I.eval] at h
  split at h
  · rename_i n o hn
    rw [hn] at hx
    obtain ⟨L, hL, e⟩ := hx.ptr_inv
    split at h
    · rename_i cells e' wr ex hs
      obtain ⟨v, hv, hQ⟩ := val_all h
      obtain ⟨v', k1, k2⟩ := run_loadVar hg hR hs hL hv
      refine Sim.value hR ?_ k2 hQ
      rw [e]
      simp only [Instr.loadAt, Instr.sureAddr, Sem.run_bind, Sem.run_pure, Result.andThen_ok]
      exact k1
    · exact h.elim
  · exact h.elim

theorem sim_slc {t e : TypeId} {z : Nat} (hu : P.underlying t = some (.slice e)) (hz : szOf P e = some z) {x : Operand} {lo hi mx : Option Operand} (hx : VR P r (ev x) (ev' x))
    (hvo : ∀ y, (lo = some y ∨ hi = some y ∨ mx = some y) → VR P r (ev y) (ev' y)) (hR : Rel P prot w0 r S w) (h : ((I.slc e z x lo hi mx).eval ev fr S).all Q) :
    Sim P prot w0 r S w fr (do let a ← Instr.sliceAt t (ev' x) (lo.map ev') (hi.map ev') (mx.map ev'); pure (Next.value a)) Q := by
  simp only [I.eval] at h
  split at h
  · rename_i len cap hb0
    rw [hb0] at hx
    obtain ⟨v, hv, hQ⟩ := val_all h
    simp only [Option.map_eq_some_iff] at hv
    obtain ⟨⟨l, hh, mm⟩, hb, hv⟩ := hv
    simp only at hv; subst hv
    obtain ⟨e1, rfl, rfl⟩ := hx.sliceNil_inv
    obtain ⟨m', hr, hm1, hm2, hlh, hhm, hmc⟩ := bnds_run (w := w) (isSl := true) hb hvo (Nat.le_refl _) (Nat.le_refl _)
    have hmm : m' = mm := by
      cases hmx : mx with
      | none => have := hm1 hmx; omega
      | some y => exact hm2 (by rw [hmx]; simp)
    subst hmm
    obtain ⟨rfl, rfl, rfl⟩ : l = 0 ∧ hh = 0 ∧ m' = 0 := by omega
    refine Sim.value (v' := .slice none 0 0) hR ?_ .sliceNil hQ
    rw [e1]
    simp [Instr.sliceAt, run_und hu, Instr.slice, hr, run_sz hz]
  · rename_i n o len cap hb0
    rw [hb0] at hx
    split at h
    · rename_i cells e' wr ex hs
      split at h
      · rename_i hexe
        obtain ⟨v, hv, hQ⟩ := val_all h
        simp only [Option.map_eq_some_iff] at hv
        obtain ⟨⟨l, hh, mm⟩, hb, hv⟩ := hv
        simp only at hv; subst hv
        obtain ⟨L, cap', x', hL, e1, hcap, hle, hx'⟩ := hx.slice_inv
        obtain ⟨c, fz, hblk, q1, q2, q3, q4, q5, q6, hl⟩ := hR.row hs hL
        obtain ⟨m', hr, hm1, hm2, hlh, hhm, hmc⟩ := bnds_run (w := w) (isSl := true) hb hvo hcap.le hle
        refine Sim.value (v' := .slice (some (if m' = l then (⟨L.b, x', none⟩ : Addr) else (⟨L.b, x', none⟩ : Addr).add (l * z))) (hh - l) (m' - l)) hR ?_ ?_ hQ
        · rw [e1]
          simp only [Instr.sliceAt, run_und hu, Instr.slice, Sem.run_bind, Result.andThen_ok, hr, run_sz hz, Sem.run_pure]
          by_cases hml : m' = l <;> simp [hml]
        · -- the capacity behind the cut
          have hce : P.cellsOf e = z := szOf_cells hz
          have hcap2 : CapR P L (o + l * z) (mm - l) (m' - l) := by
            cases hmx : mx with
            | some y =>
              have := hm2 (by rw [hmx]; simp)
              subst this
              exact .inl rfl
            | none =>
              obtain ⟨rfl, rfl⟩ := hm1 hmx
              rcases hcap with hcap | ⟨c1, c2, c3, c4⟩
              · subst hcap; exact .inl rfl
              · rcases hexe with hex | he
                · have := q5 hex
                  left
                  have h1 : m' * P.cellsOf L.et = mm * P.cellsOf L.et := by omega
                  have := Nat.eq_of_mul_eq_mul_right c4 h1
                  omega
                · right
                  rw [q1, he, hce] at c1 c2 c4 ⊢
                  have e1 : l * z + (mm - l) * z = mm * z := by rw [← Nat.add_mul]; congr 1; omega
                  have e2 : l * z + (m' - l) * z = m' * z := by rw [← Nat.add_mul]; congr 1; omega
                  refine ⟨by omega, by omega, ⟨by omega, ?_⟩, c4⟩
                  rcases c3.2 with h | h
                  · left; rw [q1, he] at h; exact h
                  · right; omega
          by_cases hml : m' = l
          · rw [if_pos hml]
            refine .slice _ _ L _ _ _ _ hL hcap2 (by omega) (.inr ⟨?_, by omega⟩)
            have := hcap.le
            rcases hcap2 with h | h <;> omega
          · rw [if_neg hml, add_none]
            refine .slice _ _ L _ _ _ _ hL hcap2 (by omega) (.inl ?_)
            rcases hx' with h | h
            · omega
            · exfalso
              cases hmx : mx with
              | none => have := hm1 hmx; omega
              | some y => have := hm2 (by rw [hmx]; simp); omega
      · exact h.elim
    · exact h.elim
  · rename_i n o sp len cap hb0
    rw [hb0] at hx
    obtain ⟨v, hv, hQ⟩ := val_all h
    simp only [Option.map_eq_some_iff] at hv
    obtain ⟨⟨l, hh, mm⟩, hb, hv⟩ := hv
    subst hv
    obtain ⟨rfl, rfl, a', e1⟩ := hx.slice0_inv rfl
    obtain ⟨m', hr, hm1, hm2, hlh, hhm, hmc⟩ := bnds_run (w := w) (isSl := true) hb hvo (Nat.le_refl _) (Nat.le_refl _)
    have hmm : m' = mm := by
      cases hmx : mx with
      | none => have := hm1 hmx; omega
      | some y => exact hm2 (by rw [hmx]; simp)
    subst hmm
    obtain ⟨rfl, rfl, rfl⟩ : l = 0 ∧ hh = 0 ∧ m' = 0 := by omega
    refine Sim.value (v' := .slice (some a') 0 0) hR ?_ (.slice0 _ _ rfl) hQ
    rw [e1]
    simp [Instr.sliceAt, run_und hu, Instr.slice, hr, run_sz hz]
  · exact h.elim

theorem sim_look {t k e : TypeId} (hu : P.underlying t = some (.map k e)) {ks : List K} {agg : Bool} (hk : keyOf P k = some (ks, agg)) {zero : Value} (hz : zeroOf P e = some zero) {ok : Bool} {x i : Operand}
    (hx : VR P r (ev x) (ev' x)) (hi : VR P r (ev i) (ev' i)) (hR : Rel P prot w0 r S w) (h : ((I.look ks agg zero ok x i).eval ev fr S).all Q) :
    Sim P prot w0 r S w fr (do let a ← Instr.lookup t (ev' x) (ev' i) ok; pure (Next.value a)) Q := by
  have fin : ∀ (es es' : List MapEntry), EsR P r es es' →
      (T.ofOption (((findC ks agg (ev i) es).map fun r =>
        let (v, b) := match r with | some (_, v) => (v, true) | none => (zero, false)
        if ok then .tuple #[v, .bool b] else v).map fun v => (v, S))).all Q →
      ∃ v res', Q (v, S) ∧ (∀ em, (Instr.checkKey em 10000 k (ev' i)).run P w = .ok () w) ∧ (Instr.findKey k (ev' i) es').run P w = .ok res' w ∧
        VR P r v (match res' with | some (_, v) => if ok then .tuple #[v, .bool true] else v | none => if ok then .tuple #[zero, .bool false] else zero) := by
    intro es es' he hq
    obtain ⟨v, hv, hQ⟩ := val_all hq
    cases hf : findC ks agg (ev i) es with
    | none => rw [hf] at hv; cases hv
    | some res =>
      rw [hf] at hv
      simp only [Option.map_some, Option.some.injEq] at hv
      obtain ⟨e1, c1, res', f1, f2⟩ := find_run (w := w) hk hi hf he
      refine ⟨v, res', hQ, by rw [e1]; exact c1, by rw [e1]; exact f1, ?_⟩
      subst hv
      cases res with
      | none =>
        cases res' with
        | none =>
          cases ok
          · simpa using zero_VR hz
          · simpa using VR.tuple_of (LR.cons (zero_VR hz) (LR.cons (.bool false) .nil))
        | some q => exact f2.elim
      | some q =>
        cases res' with
        | none => exact f2.elim
        | some q' =>
          obtain ⟨_, f3⟩ := f2
          cases ok
          · simpa using f3
          · simpa using VR.tuple_of (LR.cons f3 (LR.cons (.bool true) .nil))
  simp only [I.eval] at h
  split at h
  · rename_i hn
    rw [hn] at hx
    obtain ⟨v, res', hQ, c1, f1, hv⟩ := fin [] [] ⟨rfl, fun i e e' h => by simp at h⟩ h
    refine Sim.value hR ?_ hv hQ
    rw [hx.mapNil_inv]
    simp only [Instr.lookup, Sem.run_bind, run_und hu, Result.andThen_ok, Sem.run_pure, c1, f1]
    cases res' with
    | none => simp [run_zero hz]
    | some q => simp
  · rename_i n hn
    rw [hn] at hx
    obtain ⟨L, hL, _, e1⟩ := hx.map_inv
    split at h
    · rename_i es clock hs
      obtain ⟨obj, hb, ho⟩ := hR.at_ hs (by simp) hL
      cases obj with
      | map es' clock' =>
        simp only [ObjR] at ho
        obtain ⟨v, res', hQ, c1, f1, hv⟩ := fin es es'.toList ho.2.2 h
        refine Sim.value hR ?_ hv hQ
        rw [e1]
        have hget : (getObj L.b).run P w = .ok (.map es' clock') w := by simp [getObj, Sem.run, hb]
        simp only [Instr.lookup, Sem.run_bind, run_und hu, Result.andThen_ok, Sem.run_pure, hget, c1, f1]
        cases res' with
        | none => simp [run_zero hz]
        | some q => simp
      | _ => simp only [ObjR] at ho
    · exact h.elim
  · exact h.elim

theorem sim_mlen {t k e : TypeId} (hu : P.underlying t = some (.map k e)) {x : Operand} {ats : Array TypeId} {ty : TypeId} (hat : ats[0]? = some t) (hx : VR P r (ev x) (ev' x)) (hR : Rel P prot w0 r S w)
    (h : ((I.mlen x).eval ev fr S).all Q) {args : Array Value} (ha : args[0]? = some (ev' x)) : Sim P prot w0 r S w fr (do let a ← Builtin.len_ ats ty args; pure (Next.value a)) Q := by
  simp only [I.eval] at h
  split at h
  · rename_i hn
    rw [hn] at hx
    refine Sim.value (v' := vi 0) hR ?_ (.int _ _) h
    simp only [Builtin.len_, hat, ha, hx.mapNil_inv, Sem.run_bind, run_und hu, Result.andThen_ok]
    rfl
  · rename_i n hn
    rw [hn] at hx
    obtain ⟨L, hL, _, e1⟩ := hx.map_inv
    split at h
    · rename_i es clock hs
      obtain ⟨obj, hb, ho⟩ := hR.at_ hs (by simp) hL
      cases obj with
      | map es' clock' =>
        simp only [ObjR] at ho
        refine Sim.value (v' := vi es.length) hR ?_ (.int _ _) h
        simp only [Builtin.len_, hat, ha, e1, Sem.run_bind, run_und hu, Result.andThen_ok]
        have : es.length = es'.size := by simpa using ho.2.2.1
        simp [getObj, Sem.run, hb, this, vi, goInt]
      | _ => simp only [ObjR] at ho
    · exact h.elim
  · exact h.elim

/-- what makes memory: one new object -/
theorem Sim.new {s : Sem Value} {v : Value} {o : AObj} (hR : Rel P prot w0 r S w) (hfr : r fr = none ∧ fr < S.next) {obj : Obj} {v' : Value} {L : Loc} {w1 : World}
    (h : s.run P w = .ok v' w1) (hw : w1 = w.alloc obj) (hL : L.b = w.heap.size) (ho : ObjR P (r.add fr L) L o obj) (hv : VR P (r.add fr L) v v') (hQ : Q (v, S.put fr o)) (hown : o.own = true := by rfl) :
    Sim P prot w0 r S w fr (do let a ← s; pure (Next.value a)) Q := by
  subst hw
  exact ⟨v, v', S.put fr o, r.add fr L, w.alloc obj, hQ, .inl (ex_v h), hv, Rho.le_add L hfr.1, fun m hm h => by rw [Rho.add_ne r L hm]; exact h, rfl, hR.new hfr.1 hfr.2 hL ho hown⟩

/-- a new row of one's own, exactly as long as it is -/
theorem rowR {n : Nat} {cells : List Value} {c : Array Value} {e : TypeId} {ex : Bool} (L : Loc) (hb : L.base = 0) (ha : L.asz = cells.length) (hc : L.csz = c.size) (het : L.et = e) (hl : LR P (r.add n L) cells (c.toList.take cells.length)) (hle : cells.length ≤ c.size)
    (hex : ex = true → c.size = cells.length) : ObjR P (r.add n L) L (.row cells e true ex) (.cells c e) := by
  simp only [ObjR]
  refine ⟨trivial, het, ha.symm, by omega, by omega, fun h => by have := hex h; omega, fun _ => .inl rfl, fun _ _ => ⟨hb, hc⟩, fun i v h => ?_⟩
  obtain ⟨v', k1, k2⟩ := hl.get? h
  have hi : i < cells.length := (List.getElem?_eq_some_iff.1 h).1
  rw [List.getElem?_take_of_lt hi] at k1
  exact ⟨v', by rw [hb, Nat.zero_add]; simpa using k1, k2⟩

theorem sim_alloc {t : TypeId} {z : List Value} (hz : zeroCellsOf P t = some z) (hR : Rel P prot w0 r S w) (hfr : r fr = none ∧ fr < S.next) (h : ((I.alloc t z).eval ev fr S).all Q) :
    Sim P prot w0 r S w fr (do let a ← Instr.alloc t true (.tuple #[]); pure (Next.value a)) Q := by
  obtain ⟨zv, n, hzv, hn, hzz, hlen, _⟩ := zeroCells_spec hz
  have hl := zeroCells_LR (r := r.add fr ⟨w.heap.size, 0, z.length, z.length, t⟩) hz
  refine Sim.new (v' := .pointer (some ⟨w.heap.size, 0, none⟩)) (obj := .cells zv.cells t) (L := ⟨w.heap.size, 0, z.length, z.length, t⟩) hR hfr ?_ rfl rfl ?_ ?_ h
  · simp only [Instr.alloc, Sem.run_bind, run_zero hzv, Result.andThen_ok, newVar, newRow, run_newObj, Sem.run_pure]
    rfl
  · have e1 : zv.cells.toList = z := hzz.symm
    refine rowR _ rfl rfl (by rw [← e1]; simp) rfl ?_ (by rw [← e1]; simp) (fun _ => by rw [← e1]; simp)
    rw [e1, List.take_length]; exact hl
  · exact .ptr _ _ _ (Rho.add_self _ _ _)

theorem sim_box {t : TypeId} {x : Operand} (hx : VR P r (ev x) (ev' x)) (hR : Rel P prot w0 r S w) (hfr : r fr = none ∧ fr < S.next) (h : ((I.box t x).eval ev fr S).all Q) :
    Sim P prot w0 r S w fr (do let a ← Instr.box t (ev' x); pure (Next.value a)) Q := by
  simp only [I.eval, I.newV] at h
  split at h
  · rename_i hnt
    have hl := hx.cells
    have hlen := hl.1
    refine Sim.new (v' := .pointer (some ⟨w.heap.size, 0, none⟩)) (obj := .cells (ev' x).cells t) (L := ⟨w.heap.size, 0, (cellsL (ev x)).length, (cellsL (ev x)).length, t⟩) hR hfr ?_ rfl rfl ?_ ?_ h
    · simp only [Instr.box, newVar, newRow, Sem.run_bind, run_newObj, Result.andThen_ok, Sem.run_pure]
      rfl
    · have e1 : (ev' x).cells.toList = cellsL (ev' x) := rfl
      have e2 : (ev' x).cells.size = (cellsL (ev x)).length := by rw [hlen]; simp [cellsL]
      refine rowR _ rfl rfl e2.symm rfl ?_ (by omega) (fun _ => e2)
      rw [e1, hlen, List.take_length]
      exact hl.mono (Rho.le_add _ hfr.1)
    · exact .ptr _ _ _ (Rho.add_self _ _ _)
  · exact h.elim
end
end Go.Gx

/-
  What makes memory: the rest. Bytes and strings.
-/
namespace Go.Gx

section
variable {P : Program} {prot : Nat → Option Obj} {w0 : World} {r : Rho} {S : AS} {w : World} {ev ev' : Operand → Value} {fr : Nat} {Q : Value × AS → Prop}

theorem sim_bslice {t e : TypeId} (hu : P.underlying t = some (.slice e)) {z : List Value} {n : Nat} (hz : zeroCellsOf P e = some z) (hn : szOf P e = some n) {len : Nat} (hle : len * n ≤ 16777216) {parts : List (Nat × Operand)}
    (hv : ∀ i x, (i, x) ∈ parts → VR P r (ev x) (ev' x)) (hR : Rel P prot w0 r S w) (hfr : r fr = none ∧ fr < S.next) (h : ((I.bslice e n (repCells z len) len (elemParts n parts)).eval ev fr S).all Q) :
    Sim P prot w0 r S w fr (do let a ← Instr.buildSlice t len ((parts.map fun (i, x) => (i, ev' x)).toArray); pure (Next.value a)) Q := by
  obtain ⟨zv, n', hzv, hn', hzz, hlen, _⟩ := zeroCells_spec hz
  rw [hn] at hn'; cases hn'
  have hzl := zeroCells_LR (r := r) hz
  simp only [I.eval, I.newV] at h
  split at h
  · rename_i cs hcs
    simp only [Option.bind_eq_some_iff] at hcs
    obtain ⟨ps, hp, hc⟩ := hcs
    obtain ⟨cs', f1, f2⟩ := build_both (place := fun i => some (i * n, n)) (parts := parts) (by simp [elemParts]) (fun j i x hj => ⟨i * n, n, by simp [elemParts, hj], rfl⟩) hp hc (LR.rep hzl len) hv
    have hcl : cs.length = cs'.size := by simpa using f2.1
    refine Sim.new (v' := .slice (some ⟨w.heap.size, 0, none⟩) len len) (obj := .cells cs' e) (L := ⟨w.heap.size, 0, cs.length, cs.length, e⟩) hR hfr ?_ rfl rfl ?_ ?_ h
    · simp only [Instr.buildSlice, Sem.run_bind, run_und hu, Result.andThen_ok, run_sz hn]
      have hno : ¬ (len * n > 2 ^ 24) := by omega
      have hcells : ∀ zz : Array Value, (len * n = 0 ∧ zz = #[] ∨ zz = zv.cells) → ((Array.range (len * n)).map (zz[· % zz.size]!)) = (repCells z len).toArray := by
        intro zz hzz'
        apply Array.ext'
        rcases hzz' with ⟨h0, rfl⟩ | rfl
        · have : (repCells z len).length = 0 := by rw [repCells_len, hlen]; exact h0
          rw [h0]; simp [List.eq_nil_of_length_eq_zero this]
        · have := rangeCells z len
          rw [hlen] at this
          rw [← this]
          have : zv.cells = z.toArray := by rw [hzz]; simp [cellsL]
          rw [this]
      rw [if_neg hno]
      by_cases h0 : len * n = 0
      · rw [if_pos h0]
        simp only [Sem.run_bind, Sem.run_pure, Result.andThen_ok, hcells #[] (.inl ⟨h0, rfl⟩)]
        simp only [f1]
        simp [newRow]
      · rw [if_neg h0]
        simp only [Sem.run_bind, run_zero hzv, Sem.run_pure, Result.andThen_ok, hcells zv.cells (.inr rfl)]
        simp only [f1]
        simp [newRow]
    · refine rowR _ rfl rfl hcl rfl ?_ (by omega) (fun _ => hcl.symm)
      rw [List.take_of_length_le (by simp; omega)]
      exact f2.mono (Rho.le_add _ hfr.1)
    · refine .slice _ _ _ _ _ _ _ (Rho.add_self _ _ _) (.inl rfl) (Nat.le_refl _) (.inl rfl)
  · exact h.elim

theorem sim_mkmap {t : TypeId} (hR : Rel P prot w0 r S w) (hfr : r fr = none ∧ fr < S.next) (h : (I.mkmap.eval ev fr S).all Q) :
    Sim P prot w0 r S w fr (do let a ← Instr.makeMap t none; pure (Next.value a)) Q := by
  refine Sim.new (v' := .map (some w.heap.size)) (obj := .map #[] 0) (L := ⟨w.heap.size, 0, 0, 0, 0⟩) hR hfr ?_ rfl rfl ?_ ?_ h
  · simp [Instr.makeMap]
  · simp only [ObjR]
    exact ⟨trivial, trivial, rfl, fun i e e' h => by simp at h⟩
  · exact .map _ _ (Rho.add_self _ _ _) rfl

theorem wrap64_id {n : Int} (h0 : 0 ≤ n) (h1 : n ≤ 9223372036854775807) : IntKind.i64.wrap n = n := by
  have e : n % (2 ^ 64 : Int) = n := Int.emod_eq_of_lt h0 (by omega)
  show (if (true && decide (n % (2 ^ 64 : Int) ≥ (2 ^ 63 : Int))) = true then n % (2 ^ 64 : Int) - (2 ^ 64 : Int) else n % (2 ^ 64 : Int)) = n
  rw [e, if_neg (by simp; omega)]

theorem sim_mksl {t e : TypeId} (hu : P.underlying t = some (.slice e)) {z : List Value} (hz : zeroCellsOf P e = some z) {i : TypeInfo} (hi : P.info? e = some i) {l c : Operand} (hl : VR P r (ev l) (ev' l)) (hc : VR P r (ev c) (ev' c))
    (hR : Rel P prot w0 r S w) (hfr : r fr = none ∧ fr < S.next) (h : ((I.mksl e i.size i.bytes z l c).eval ev fr S).all Q) :
    Sim P prot w0 r S w fr (do let a ← Instr.makeSlice t (ev' l) (ev' c); pure (Next.value a)) Q := by
  obtain ⟨zv, n, hzv, hn, hzz, hlen, _⟩ := zeroCells_spec hz
  have hzl := zeroCells_LR (r := r.add fr ⟨w.heap.size, 0, (repCells z (match ev c with | .int _ k => k.toNat | _ => 0)).length, (repCells z (match ev c with | .int _ k => k.toNat | _ => 0)).length, e⟩) hz
  simp only [I.eval, I.newV] at h
  split at h
  · rename_i ln cp hln hcp
    rw [hln] at hl
    rw [hcp] at hc hzl
    split at h
    · rename_i hb
      obtain ⟨b1, b2, b3, b4⟩ := hb
      have hni : i.size = n := by
        obtain ⟨j, hj, hjn⟩ := szOf_info hn
        rw [hi] at hj; cases hj; exact hjn
      refine Sim.new (v' := .slice (some ⟨w.heap.size, 0, none⟩) ln.toNat cp.toNat) (obj := .cells (repCells z cp.toNat).toArray e) (L := ⟨w.heap.size, 0, (repCells z cp.toNat).length, (repCells z cp.toNat).length, e⟩) hR hfr ?_ rfl rfl ?_ ?_ h
      · have w1 : IntKind.i64.wrap ln = ln := wrap64_id b1 (by omega)
        have w2 : IntKind.i64.wrap cp = cp := wrap64_id (by omega) b4
        have hno : ¬ ((decide (cp < 0) || decide ((i.bytes : Int) * cp > 2 ^ 48) || decide (ln < 0) || decide (ln > cp)) = true) := by
          simp; omega
        have hcells : ∀ zz : Array Value, (cp.toNat * i.size = 0 ∧ zz = #[] ∨ zz = zv.cells) → ((Array.range (cp.toNat * i.size)).map (zz[· % zz.size]!)) = (repCells z cp.toNat).toArray := by
          intro zz hzz'
          apply Array.ext'
          rcases hzz' with ⟨h0, rfl⟩ | rfl
          · have : (repCells z cp.toNat).length = 0 := by rw [repCells_len, hlen, ← hni]; exact h0
            rw [h0]; simp [List.eq_nil_of_length_eq_zero this]
          · have := rangeCells z cp.toNat
            rw [hlen, ← hni] at this
            rw [← this]
            have : zv.cells = z.toArray := by rw [hzz]; simp [cellsL]
            rw [this]
        rw [hl.int_inv, hc.int_inv]
        simp only [Instr.makeSlice, Sem.run_bind, run_und hu, Result.andThen_ok, asInt, asIntOf, Sem.run_pure, run_info hi, w1, w2, Sem.run_ite]
        rw [if_neg hno]
        simp only [run_askRoom, Result.andThen_ok, run_sz hn, ← hni, Sem.run_bind, Sem.run_ite, Sem.run_pure]
        by_cases h0 : cp.toNat * i.size = 0
        · rw [if_pos h0]
          simp only [Result.andThen_ok, hcells #[] (.inl ⟨h0, rfl⟩)]
          simp [newRow]
        · rw [if_neg h0]
          simp only [run_zero hzv, Result.andThen_ok, hcells zv.cells (.inr rfl)]
          simp [newRow]
      · refine rowR _ rfl rfl (by simp) rfl ?_ (by simp) (fun _ => by simp)
        simp only [List.take_length]
        exact LR.rep hzl _
      · refine .slice _ _ _ _ _ _ _ (Rho.add_self _ _ _) (.inl rfl) (by omega) (.inl rfl)
    · exact h.elim
  · exact h.elim

theorem LR.bytes (l : List UInt8) : LR P r (l.map fun b => Value.int .u8 b.toNat) (l.map fun b => Value.int .u8 b.toNat) :=
  LR.map _ _ (fun _ => .int _ _) l

theorem sim_s2b {src dst e : TypeId} (hs : P.underlying src = some .string) (hd : P.underlying dst = some (.slice e)) (he : P.underlying e = some (.int .u8)) (hce : P.cellsOf e = 1) {x : Operand} (hx : VR P r (ev x) (ev' x)) (hR : Rel P prot w0 r S w)
    (hfr : r fr = none ∧ fr < S.next) (h : ((I.s2b e x).eval ev fr S).all Q) : Sim P prot w0 r S w fr (do let a ← Go.convert src dst (ev' x); pure (Next.value a)) Q := by
  simp only [I.eval, I.newV] at h
  split at h
  · rename_i s hx0
    · rw [hx0] at hx
      -- what the tape gives for the capacity
      obtain ⟨cap, hcap, hrun⟩ : ∃ cap, s.size ≤ cap ∧ (choose (.appendCap s.size 0 e)).run P w = .ok cap w.drew := by
        refine ⟨(Question.appendCap s.size 0 e).cut (w.tape w.drawn (.appendCap s.size 0 e)), ?_, ?_⟩
        · simp [Question.cut]
        · simp [Question.forced]
      let cells : List Value := s.data.toList.map fun b => .int .u8 b.toNat
      let arr : Array Value := (s.data.map fun b => Value.int .u8 b.toNat) ++ Array.replicate (cap - s.size) (.int .u8 0)
      have hsz : arr.size = cap := by simp [arr]; show s.size + _ = _; omega
      have hcl : cells.length = s.size := by simp [cells]
      have hR1 := hR.drew
      have hnew := hR1.new (n := fr) (o := .row cells e true false) (obj := .cells arr e) (L := ⟨w.heap.size, 0, s.size, cap, e⟩) hfr.1 hfr.2 rfl (rowR _ rfl hcl.symm hsz.symm rfl (by
          have : arr.toList.take cells.length = cells := by
            rw [hcl]
            simp only [arr, Array.toList_append, Array.toList_map]
            rw [List.take_append_of_le_length (by simp)]
            rw [List.take_of_length_le (by simp)]
          rw [this]
          exact LR.bytes _) (by omega) (fun h => by cases h))
      -- the mark behind its end
      have hfz : Rel P prot w0 (r.add fr ⟨w.heap.size, 0, s.size, cap, e⟩) (S.put fr (.row cells e true false)) ((w.drew.alloc (.cells arr e)).freeze ⟨w.heap.size, cap, none⟩ 1) := by
        have hb : (w.drew.alloc (.cells arr e)).heap[w.heap.size]? = some (.cells arr e) := alloc_new w.drew _
        have hf : (w.drew.alloc (.cells arr e)).freeze ⟨w.heap.size, cap, none⟩ 1 = (w.drew.alloc (.cells arr e)).upd w.heap.size (.cells arr e (cap, cap + 1)) := by
          unfold World.freeze World.upd
          rw [if_neg (by decide)]
          congr 1
          apply Array.ext_getElem?
          intro i
          rw [Array.getElem?_modify, Array.getElem?_setIfInBounds]
          split
          · rename_i e1; subst e1
            rw [hb, if_pos (lt_of_get hb)]
            simp
          · rfl
        rw [hf]
        have hown : (AObj.row cells e true false).own = true := rfl
        exact hnew.touch (o := .row cells e true false) (obj' := .cells arr e (cap, cap + 1)) (L := ⟨w.heap.size, 0, s.size, cap, e⟩) (AS.get_put_self _ _ _) hown (Rho.add_self _ _ _) (by
          have h0 := rowR (P := P) (r := r) (n := fr) (cells := cells) (c := arr) (e := e) (ex := false) ⟨w.heap.size, 0, s.size, cap, e⟩ rfl hcl.symm hsz.symm rfl (by
            have : arr.toList.take cells.length = cells := by
              rw [hcl]
              simp only [arr, Array.toList_append, Array.toList_map]
              rw [List.take_append_of_le_length (by simp)]
              rw [List.take_of_length_le (by simp)]
            rw [this]
            exact LR.bytes _) (by omega) (fun h => by cases h)
          simp only [ObjR] at h0 ⊢
          obtain ⟨a1, a2, a3, a4, a5, a6, a7, a9, a8⟩ := h0
          exact ⟨a1, a2, a3, a4, a5, a6, fun _ => .inr ⟨he, by rw [hsz]; exact Nat.le_refl _⟩, a9, a8⟩)
      refine ⟨_, .slice (some ⟨w.heap.size, 0, none⟩) s.size cap, _, _, _, h, .inl (ex_v (w' := (w.drew.alloc (.cells arr e)).freeze ⟨w.heap.size, cap, none⟩ 1) ?_), ?_, Rho.le_add _ hfr.1, fun m hm hh => by rw [Rho.add_ne _ _ hm]; exact hh, rfl, hfz⟩
      · rw [hx.str_inv]
        have hb : (w.drew.alloc (.cells arr e)).shape? w.heap.size = some (e, cap) := by rw [shape_of (show (w.drew.alloc (.cells arr e)).heap[w.heap.size]? = some (.cells arr e) from alloc_new w.drew _), hsz]
        simp only [Go.convert, Sem.run_bind, run_und hs, run_und hd, run_und he, Result.andThen_ok, Conv.stringToBytes, hrun, newRow, run_newObj, markStringish, Sem.run_pure, World.alloc_eq, run_shape]
        have : (w.drew).heap.size = w.heap.size := rfl
        simp only [this, arr] at hb ⊢
        rw [hb]
        simp
      · refine .slice _ _ _ _ _ _ _ (Rho.add_self _ _ _) (.inr ⟨?_, ?_, ⟨hcap, .inl he⟩, ?_⟩) (Nat.le_refl _) (.inl rfl)
        · show 0 + s.size * P.cellsOf e = s.size; rw [hce]; omega
        · show 0 + 0 + cap * P.cellsOf e = cap; rw [hce]; omega
        · show 0 < P.cellsOf e; rw [hce]; omega
  · exact h.elim
theorem freeze_eq {w : World} {b : Nat} {c : Array Value} {e : TypeId} {fz : Nat × Nat} (h : w.heap[b]? = some (.cells c e fz)) :
    w.freeze ⟨b, c.size, none⟩ 1 = w.upd b (.cells c e (if fz.1 == fz.2 then (c.size, c.size + 1) else (min fz.1 c.size, max fz.2 (c.size + 1)))) := by
  obtain ⟨lo, hi⟩ := fz
  unfold World.freeze World.upd
  rw [if_neg (by decide)]
  congr 1
  apply Array.ext_getElem?
  intro i
  rw [Array.getElem?_modify, Array.getElem?_setIfInBounds]
  split
  · rename_i e1; subst e1
    rw [h, if_pos (lt_of_get h)]
    simp
  · rfl

theorem sim_cvb {t e e' : TypeId} (hs : P.underlying t = some (.slice e')) (hd : P.underlying t = some (.slice e)) (he : P.underlying e = some (.int .u8)) {x : Operand} (hx : VR P r (ev x) (ev' x)) (hR : Rel P prot w0 r S w)
    (h : ((I.cvb e x).eval ev fr S).all Q) : Sim P prot w0 r S w fr (do let a ← Go.convert t t (ev' x); pure (Next.value a)) Q := by
  simp only [I.eval] at h
  split at h
  · rename_i b o n c hx0
    rw [hx0] at hx
    split at h
    · rename_i cells et ex hg
      split at h
      case isFalse => exact h.elim
      rename_i hete
      obtain ⟨L, cap', x', hL, hxe, hcap, hle, hxo⟩ := hx.slice_inv
      obtain ⟨obj, hb, ho⟩ := hR.at_ hg (by simp) hL
      cases obj with
      | cells cc ee fz =>
        have ho' := ho
        simp only [ObjR] at ho'
        obtain ⟨a1, a2, a3, a4, a5, a6, a7, a9, a8⟩ := ho'
        have hfz := freeze_eq hb
        have hobj : ObjR P r L (.row cells et true ex) (.cells cc ee (if fz.1 == fz.2 then (cc.size, cc.size + 1) else (min fz.1 cc.size, max fz.2 (cc.size + 1)))) := by
          simp only [ObjR]
          refine ⟨a1, a2, a3, a4, a5, a6, fun _ => .inr ⟨by rw [hete]; exact he, ?_⟩, a9, a8⟩
          split
          · exact Nat.le_refl _
          · rename_i hne
            rcases (a7 trivial).ok with h0 | h0
            · exact absurd (by simpa using h0) hne
            · show cc.size ≤ min fz.1 cc.size
              omega
        refine ⟨_, ev' x, S, r, _, h, .inl (ex_v (w' := w.freeze ⟨L.b, cc.size, none⟩ 1) ?_), ?_, .refl r, fun _ _ h => h, rfl, ?_⟩
        · rw [hxe]
          have hsh : w.shape? L.b = some (ee, cc.size) := shape_of hb
          simp only [Go.convert, Sem.run_bind, run_und hs, run_und he, Result.andThen_ok, beq_self_eq_true, markStringish, run_shape, hsh, Sem.run_pure]
          have e0 : e' = e := by rw [hs] at hd; cases hd; rfl
          subst e0
          simp only [run_und he, Result.andThen_ok, Sem.run_bind, run_shape, hsh, Sem.run_pure]
          simp
        · exact hx
        · rw [hfz]
          exact hR.touch (o := .row cells et true ex) hg rfl hL hobj
      | _ => simp only [ObjR] at ho
    · exact h.elim
  · exact h.elim

end
end Go.Gx

/-
  What changes memory: rows.
-/
namespace Go.Gx

section
variable {P : Program} {prot : Nat → Option Obj} {w0 : World} {r : Rho} {S : AS} {w : World} {ev ev' : Operand → Value} {fr : Nat} {Q : Value × AS → Prop}

/-- cells are stored into a row -/
theorem Rel.writeRow (hR : Rel P prot w0 r S w) {n o : Nat} {cells cells' : List Value} {e : TypeId} {ex : Bool} (hs : S.get n = some (.row cells e true ex)) {L : Loc} (hL : r n = some L) {vs vs' : List Value}
    (h : rowStore cells o vs = some cells') (hl : LR P r vs vs') :
    ∃ w1, (storeCells ⟨L.b, L.base + o, none⟩ vs').run P w = .ok () w1 ∧ Rel P prot w0 r (S.put n (.row cells' e true ex)) w1 := by
  unfold rowStore at h
  split at h
  · rename_i hh
    obtain ⟨hle, hok⟩ := hh
    cases h
    obtain ⟨c, fz, hb, h1, h2, h3, h4, h5, h6, hw⟩ := hR.row hs hL
    have hlen := hl.1
    refine ⟨_, run_storeCells vs' 0 w c hb (by omega) (h6 rfl).ok (hl.okc hok), ?_⟩
    refine hR.upd (o' := .row (splice cells o vs) e true ex) hs rfl hL ?_ rfl
    simp only [ObjR, Nat.add_zero]
    have hsl : (splice cells o vs).length = cells.length := splice_len _ _ _ hle
    have hcs : (splice c.toList (L.base + o) vs').length = c.size := by
      rw [splice_len _ _ _ (by simp; omega)]; simp
    refine ⟨trivial, h1, by omega, h3, by simp [hcs]; omega, h5, fun _ => by simp [hcs]; exact h6 rfl, fun k1 k2 => by have := hR.whole' hs hL hb k1 rfl; simp only [List.size_toArray, hcs]; exact this, fun i v hi => ?_⟩
    have hi' : i < cells.length := by
      have := (List.getElem?_eq_some_iff.1 hi).1; omega
    have key : ∃ v', (splice c.toList (L.base + o) vs')[L.base + i]? = some v' ∧ VR P r v v' := by
      unfold splice at hi ⊢
      have ht1 : (cells.take o).length = o := by simp; omega
      have ht2 : (c.toList.take (L.base + o)).length = L.base + o := by simp; omega
      by_cases c1 : i < o
      · rw [List.getElem?_append_left (by simp; omega), List.getElem?_append_left (by omega), List.getElem?_take_of_lt c1] at hi
        rw [List.getElem?_append_left (by simp; omega), List.getElem?_append_left (by omega), List.getElem?_take_of_lt (by omega)]
        obtain ⟨v', k1, k2⟩ := hw.get? hi
        rw [List.getElem?_take_of_lt (by omega), List.getElem?_drop] at k1
        exact ⟨v', k1, k2⟩
      · by_cases c2 : i < o + vs.length
        · rw [List.getElem?_append_left (by simp; omega), List.getElem?_append_right (by omega), ht1] at hi
          rw [List.getElem?_append_left (by simp; omega), List.getElem?_append_right (by omega), ht2]
          have : L.base + i - (L.base + o) = i - o := by omega
          rw [this]
          exact hl.get? hi
        · rw [List.getElem?_append_right (by simp; omega), List.getElem?_drop] at hi
          rw [List.getElem?_append_right (by simp; omega), List.getElem?_drop]
          simp only [List.length_append, ht1, ht2] at hi ⊢
          have e1 : o + vs.length + (i - (o + vs.length)) = i := by omega
          have e2 : L.base + o + vs'.length + (L.base + i - (L.base + o + vs'.length)) = L.base + i := by omega
          rw [e1] at hi
          rw [e2]
          obtain ⟨v', k1, k2⟩ := hw.get? hi
          rw [List.getElem?_take_of_lt (by omega), List.getElem?_drop] at k1
          exact ⟨v', k1, k2⟩
    obtain ⟨v', k1, k2⟩ := key
    exact ⟨v', by simpa using k1, k2⟩
  · cases h

theorem Sim.unit {s : Sem Unit} {S1 : AS} {w1 : World} (h : s.run P w = .ok () w1) (hR : Rel P prot w0 r S1 w1) (hn : S1.next = S.next) (hQ : Q (undef, S1)) :
    Sim P prot w0 r S w fr (do s; pure Next.skip) Q :=
  ⟨undef, undef, S1, r, w1, hQ, .inr ⟨ex_u h, rfl⟩, VR.undef, .refl r, fun _ _ h => h, hn, hR⟩

theorem Sim.val1 {s : Sem Value} {S1 : AS} {w1 : World} {v v' : Value} (h : s.run P w = .ok v' w1) (hv : VR P r v v') (hR : Rel P prot w0 r S1 w1) (hn : S1.next = S.next) (hQ : Q (v, S1)) :
    Sim P prot w0 r S w fr (do let a ← s; pure (Next.value a)) Q :=
  ⟨v, v', S1, r, w1, hQ, .inl (ex_v h), hv, .refl r, fun _ _ h => h, hn, hR⟩

theorem sim_store {t : TypeId} {n : Nat} (hn : szOf P t = some n) {a x : Operand} (ha : VR P r (ev a) (ev' a)) (hx : VR P r (ev x) (ev' x)) (hR : Rel P prot w0 r S w) (h : ((I.store n a x).eval ev fr S).all Q) :
    Sim P prot w0 r S w fr (do Instr.storeAt t (ev' a) (ev' x); pure Next.skip) Q := by
  simp only [I.eval] at h
  split at h
  · rename_i b o hb
    rw [hb] at ha
    obtain ⟨L, hL, e⟩ := ha.ptr_inv
    split at h
    · rename_i cells et ex hs
      split at h
      · rename_i hlen
        obtain ⟨⟨v, S1⟩, h1, hQ⟩ := T.all_ofOption.1 h
        simp only [Option.map_eq_some_iff, Prod.mk.injEq] at h1
        obtain ⟨cells', hst, rfl, rfl⟩ := h1
        obtain ⟨w1, k1, k2⟩ := hR.writeRow hs hL hst hx.cells
        refine Sim.unit ?_ k2 rfl hQ
        rw [e]
        have hsz : (ev' x).cells.size = n := by
          have := hx.cells.1
          rw [← hlen, this]; simp [cellsL]
        simp only [Instr.storeAt, Instr.sureAddr, storeVar, Sem.run_bind, Sem.run_pure, Result.andThen_ok, run_sz hn, Sem.run_ite]
        rw [if_neg (by simp [hsz])]
        exact k1
      · exact h.elim
    · exact h.elim
  · exact h.elim

/-- the cells that are appended or copied -/
theorem src_run {esz n : Nat} {y y' : Value} {ys : List Value} (h : srcCells S esz y = some (n, ys)) (hy : VR P r y y') (hR : Rel P prot w0 r S w) :
    (Builtin.lenOf y').run P w = .ok n w ∧ ys.length = n * esz ∧ ∀ k, k ≤ n → ∃ ys' : Array Value, (Builtin.firstCells esz k y').run P w = .ok ys' w ∧ LR P r (ys.take (k * esz)) ys'.toList := by
  unfold srcCells at h
  split at h
  · cases h
    rw [hy.sliceNil_inv.1]
    refine ⟨by simp [Builtin.lenOf], by simp, fun k hk => ⟨#[], by simp [Builtin.firstCells], by simp; exact .nil⟩⟩
  · rename_i b o m c
    obtain ⟨L, cap', x, hL, e, hcap, hle, hx⟩ := hy.slice_inv
    rw [e]
    split at h
    · rename_i h0
      cases h
      refine ⟨by simp [Builtin.lenOf], by simp [h0], fun k hk => ⟨#[], ?_, by simp; exact .nil⟩⟩
      have : k * esz = 0 := by
        rcases Nat.mul_eq_zero.1 h0 with h | h
        · have : k = 0 := by omega
          subst this; simp
        · rw [h]; simp
      simp [Builtin.firstCells, this, loadCells, loadCellsFrom]
    · rename_i h0
      split at h
      · rename_i cells et wr ex hs
        split at h
        · rename_i hle2
          simp only [Option.some.injEq, Prod.mk.injEq] at h
          obtain ⟨hmn, hys⟩ := h
          subst hmn
          subst hys
          obtain ⟨cc, fz, hb, h1, h2, h3, h4, h5, h6, hw⟩ := hR.row hs hL
          have hxx : x = L.base + o := by
            rcases hx with h | h
            · exact h
            · exfalso; apply h0
              have : m = 0 := by omega
              subst this; simp
          subst hxx
          refine ⟨by simp [Builtin.lenOf], by simp; omega, fun k hk => ?_⟩
          have hkk : k * esz ≤ m * esz := Nat.mul_le_mul_right _ hk
          refine ⟨_, by simp only [Builtin.firstCells]; exact run_loadCells hb (by omega), ?_⟩
          have := window (o := o) (k := k * esz) hw h2 (by omega)
          rw [List.take_take, Nat.min_eq_left hkk]
          exact this
        · cases h
      · cases h
  · rename_i s
    split at h
    · rename_i h1
      subst h1
      cases h
      rw [hy.str_inv]
      refine ⟨by simp [Builtin.lenOf], by simp, fun k hk => ⟨_, by simp only [Builtin.firstCells]; rfl, ?_⟩⟩
      simp only [Nat.mul_one, Array.toList_map]
      have : ((s.extract 0 k).data.toList.map fun b => Value.int .u8 b.toNat) = (s.data.toList.map fun b => Value.int .u8 b.toNat).take k := by
        rw [← List.map_take]
        congr 1
        simp
      rw [this]
      exact (LR.bytes s.data.toList).take k
    · cases h
  · obtain ⟨rfl, rfl, a', e⟩ := hy.slice0_inv rfl
    rw [e]
    cases h
    refine ⟨by simp [Builtin.lenOf], by simp, fun k hk => ⟨#[], ?_, by simp; exact .nil⟩⟩
    have : k = 0 := by omega
    subst this
    simp [Builtin.firstCells, loadCells, loadCellsFrom]
  · cases h

theorem sim_cpy {t e : TypeId} (hu : P.underlying t = some (.slice e)) {z : Nat} (hz : szOf P e = some z) {x y : Operand} (hx : VR P r (ev x) (ev' x)) (hy : VR P r (ev y) (ev' y)) (hR : Rel P prot w0 r S w)
    (h : ((I.cpy z x y).eval ev fr S).all Q) {ats : Array TypeId} {ty : TypeId} (hat : ats[0]? = some t) {args : Array Value} (ha0 : args[0]? = some (ev' x)) (ha1 : args[1]? = some (ev' y)) :
    Sim P prot w0 r S w fr (do let a ← Builtin.copy_ ats ty args; pure (Next.value a)) Q := by
  simp only [I.eval] at h
  obtain ⟨⟨v, S1⟩, h1, hQ⟩ := T.all_ofOption.1 h
  unfold cpyV at h1
  split at h1
  · rename_i base dlen dcap n ys hbx hsrc
    simp only at h1
    rw [hbx] at hx
    obtain ⟨k1, k2, k3⟩ := src_run hsrc hy hR
    obtain ⟨ys', p1, p2⟩ := k3 (min n dlen) (Nat.min_le_left _ _)
    have hmin : Nat.min n dlen = min n dlen := rfl
    split at h1
    · rename_i hemp
      cases h1
      have hye : ys'.toList = [] := by
        have : ys.take (min n dlen * z) = [] := by simpa using hemp
        rw [this] at p2; exact p2.nil_inv
      refine Sim.val1 (w1 := w) (v := vi ((min n dlen : Nat) : Int)) (v' := vi ((min n dlen : Nat) : Int)) ?_ (.int _ _) hR rfl hQ
      cases base with
      | none =>
        rw [hx.sliceNil_inv.1] at ha0
        obtain ⟨_, rfl, rfl⟩ := hx.sliceNil_inv
        simp only [Builtin.copy_, hat, ha0, ha1, Sem.run_bind, run_und hu, Result.andThen_ok, k1, run_sz hz, hmin, p1]
        rfl
      | some a =>
        cases hva : ev' x with
        | slice a' n' c' =>
          rw [hva] at hx ha0
          cases hx <;> (simp only [Builtin.copy_, hat, ha0, ha1, Sem.run_bind, run_und hu, Result.andThen_ok, k1, run_sz hz, hmin, p1, hye, storeCells]; rfl)
        | _ => rw [hva] at hx; cases hx
    · rename_i hemp
      split at h1
      · rename_i b o
        split at h1
        · rename_i cells et ex hs
          simp only [Option.map_eq_some_iff, Prod.mk.injEq] at h1
          obtain ⟨cells', hst, rfl, rfl⟩ := h1
          obtain ⟨L, cap', x', hL, e1, hcap, hle, hx'⟩ := hx.slice_inv
          have hxx : x' = L.base + o := by
            rcases hx' with h | h
            · exact h
            · exfalso
              apply hemp
              have : dlen = 0 := by omega
              subst this; simp
          subst hxx
          obtain ⟨w1, q1, q2⟩ := hR.writeRow hs hL hst p2
          refine Sim.val1 (w1 := w1) (v := vi ((min n dlen : Nat) : Int)) (v' := vi ((min n dlen : Nat) : Int)) ?_ (.int _ _) q2 rfl hQ
          rw [e1] at ha0
          simp only [Builtin.copy_, hat, ha0, ha1, Sem.run_bind, run_und hu, Result.andThen_ok, k1, run_sz hz, hmin, p1, q1]
          rfl
        · cases h1
      · cases h1
  · cases h1

theorem sim_clrs {t e : TypeId} (hu : P.underlying t = some (.slice e)) {z : List Value} (hz : zeroCellsOf P e = some z) {x : Operand} (hx : VR P r (ev x) (ev' x)) (hR : Rel P prot w0 r S w)
    (h : ((I.clrs z x).eval ev fr S).all Q) {ats : Array TypeId} {ty : TypeId} (hat : ats[0]? = some t) {args : Array Value} (ha0 : args[0]? = some (ev' x)) :
    Sim P prot w0 r S w fr (do let a ← Builtin.clear_ ats ty args; pure (Next.value a)) Q := by
  obtain ⟨zv, n, hzv, hn, hzz, hlen, hok⟩ := zeroCells_spec hz
  simp only [I.eval] at h
  have vt : VR P r (.tuple #[]) (.tuple #[]) := VR.undef
  split at h
  · rename_i a b hb
    rw [hb] at hx
    refine Sim.val1 (w1 := w) (v' := .tuple #[]) ?_ vt hR rfl h
    rw [hx.sliceNil_inv.1] at ha0
    simp only [Builtin.clear_, hat, ha0, Sem.run_bind, run_und hu, Result.andThen_ok]
    simp
  · rename_i b o m c hb
    rw [hb] at hx
    obtain ⟨L, cap', x', hL, e1, hcap, hle, hx'⟩ := hx.slice_inv
    rw [e1] at ha0
    split at h
    · rename_i h0
      subst h0
      refine Sim.val1 (w1 := w) (v' := .tuple #[]) ?_ vt hR rfl h
      simp only [Builtin.clear_, hat, ha0, Sem.run_bind, run_und hu, Result.andThen_ok]
      simp
    · rename_i h0
      split at h
      · rename_i cells et ex hs
        obtain ⟨⟨v, S1⟩, h1, hQ⟩ := T.all_ofOption.1 h
        simp only [Option.map_eq_some_iff, Prod.mk.injEq] at h1
        obtain ⟨cells', hst, rfl, rfl⟩ := h1
        have hxx : x' = L.base + o := by
          rcases hx' with h | h
          · exact h
          · exfalso; omega
        subst hxx
        obtain ⟨w1, q1, q2⟩ := hR.writeRow hs hL hst (LR.rep (zeroCells_LR hz) m)
        refine Sim.val1 (w1 := w1) (v' := .tuple #[]) ?_ vt q2 rfl hQ
        have hzc : (Builtin.zeroCells zv.cells m).toList = repCells z m := by
          unfold Builtin.zeroCells
          have hh := rangeCells z m
          have hz2 : zv.cells = z.toArray := by rw [hzz]; simp [cellsL]
          rw [hz2, ← hh]
          simp
        obtain ⟨m', rfl⟩ : ∃ m', m = m' + 1 := ⟨m - 1, by omega⟩
        simp only [Builtin.clear_, hat, ha0, Sem.run_bind, run_und hu, Result.andThen_ok, run_zero hzv, hzc, q1]
        simp
      · exact h.elim
  · exact h.elim
end
end Go.Gx

/-
  append.
-/
namespace Go.Gx

theorem growBy_le (n : Nat) : ∀ (k c : Nat), c ≤ n + (n + 768) / 4 → Builtin.growBy n k c ≤ n + (n + 768) / 4
  | 0, c, h => h
  | k + 1, c, h => by
    unfold Builtin.growBy
    split
    · exact h
    · exact growBy_le n k _ (by omega)

theorem next_le {n c : Nat} (h : c < n) : Builtin.nextslicecap n c ≤ 2 * n + 192 := by
  unfold Builtin.nextslicecap
  split
  · omega
  · split
    · omega
    · have := growBy_le n 4 c (by omega)
      omega

section
variable {P : Program} {prot : Nat → Option Obj} {w0 : World} {r : Rho} {S : AS} {w : World} {ev ev' : Operand → Value} {fr : Nat} {Q : Value × AS → Prop}

/-- a row's block is taken over by a new name, the old one is forgotten -/
theorem Rel.retake (hR : Rel P prot w0 r S w) {b : Nat} {o new : AObj} {L L' : Loc} {obj' : Obj} (hg : S.get b = some o) (hown : o.own = true) (hL : r b = some L) (hfr : r fr = none ∧ fr < S.next)
    (hb : L'.b = L.b) (ho : ObjR P (r.add fr L') L' new obj') (hown' : new.own = true := by rfl) : Rel P prot w0 (r.add fr L') ((S.put b .dead).put fr new) (w.upd L.b obj') := by
  have hd : o ≠ .dead := by rintro rfl; cases hown
  obtain ⟨obj, hblk, _⟩ := hR.at_ hg hd hL
  have hlt := lt_of_get hblk
  have hne : fr ≠ b := by rintro rfl; rw [hL] at hfr; cases hfr.1
  have hle := Rho.le_add L' hfr.1
  have hfrd : ∀ p, S.get fr = some p → p = .dead := fun p hp => by
    rcases hR.live fr p hp with e | ⟨M, _, hM, _⟩
    · exact e
    · rw [hfr.1] at hM; cases hM
  refine ⟨hR.os, hR.tape, hR.output, by simpa [World.upd] using hR.size, fun m hm => (upd_ne (by have := (hR.ro b o L hg hd hL).1 hown; omega)).trans (hR.low m hm), ?_, ?_, ?_, ?_, ?_⟩
  · intro m p hm
    rw [AS.get_put, AS.get_put] at hm
    split at hm
    · rename_i e; subst e; cases hm
      exact .inr ⟨L', obj', Rho.add_self _ _ _, by rw [hb]; exact upd_same hlt, ho⟩
    · split at hm
      · cases hm; exact .inl rfl
      · rename_i e1 e2
        rcases hR.live m p hm with e' | ⟨M, q, hM, hq, hpq⟩
        · exact .inl e'
        · by_cases hp : p = .dead
          · exact .inl hp
          · refine .inr ⟨M, q, hle _ _ hM, ?_, hpq.mono hle⟩
            rw [upd_ne (Ne.symm (hR.uniq b m o p L M hg hm hown hp (Ne.symm e2) hL hM))]
            exact hq
  · intro x y p q M N hx hy ho1 ho2 hxy hM hN
    rw [AS.get_put, AS.get_put] at hx hy
    split at hx
    · rename_i e; subst e; cases hx
      rw [if_neg (Ne.symm hxy)] at hy
      rw [Rho.add_self] at hM; cases hM
      rw [Rho.add_ne _ _ (Ne.symm hxy)] at hN
      split at hy
      · cases hy; exact absurd rfl ho2
      · rename_i e2
        rw [hb]
        exact hR.uniq b y o q L N hg hy hown ho2 (Ne.symm e2) hL hN
    · rename_i e1
      rw [Rho.add_ne _ _ e1] at hM
      split at hx
      · cases hx; cases ho1
      · rename_i e2
        split at hy
        · rename_i e3; subst e3; cases hy
          rw [Rho.add_self] at hN; cases hN
          rw [hb]
          exact hR.uniq x b p o M L hx hg ho1 hd e2 hM hL
        · rename_i e3
          rw [Rho.add_ne _ _ e3] at hN
          split at hy
          · cases hy; exact absurd rfl ho2
          · exact hR.uniq x y p q M N hx hy ho1 ho2 hxy hM hN
  · intro m hm
    rw [Rho.add_ne _ _ (by simp at hm; omega)]
    exact hR.fresh m hm
  · intro m p M hm hp hM
    rw [AS.get_put, AS.get_put] at hm
    split at hm
    · rename_i e; subst e; cases hm
      rw [Rho.add_self] at hM; cases hM
      exact ⟨fun _ => by rw [hb]; exact (hR.ro b o L hg hd hL).1 hown, fun h => by rw [hown'] at h; cases h⟩
    · rename_i e1
      rw [Rho.add_ne _ _ e1] at hM
      split at hm
      · cases hm; exact absurd rfl hp
      · exact hR.ro m p M hm hp hM
  · intro B obj hp
    obtain ⟨h1, h2⟩ := hR.prot B obj hp
    have hneB : L.b ≠ B := h2 b o L hg hown hL
    refine ⟨by rw [upd_ne (Ne.symm hneB)]; exact h1, fun m p M hm ho1 hM => ?_⟩
    rw [AS.get_put, AS.get_put] at hm
    split at hm
    · rename_i e; subst e
      rw [Rho.add_self] at hM; cases hM
      rw [hb]; exact hneB
    · rename_i e1
      rw [Rho.add_ne _ _ e1] at hM
      split at hm
      · cases hm; cases ho1
      · exact h2 m p M hm ho1 hM

theorem lenOf_slice (a : Option Addr) (n c : Nat) : (Builtin.lenOf (.slice a n c)).run P w = .ok n w := by simp [Builtin.lenOf]

theorem drew_chain (w : World) (o : Obj) : ({ w.drew with heap := w.drew.heap.push o } : World) = w.drew.alloc o := rfl

theorem sim_app {t u e : TypeId} (hu : P.underlying t = some (.slice e)) (hu2 : (∃ d, P.underlying u = some (.slice d)) ∨ P.underlying u = some .string) {z : List Value} (hz : zeroCellsOf P e = some z) {i : TypeInfo} (hi : P.info? e = some i) {x y : Operand}
    (hx : VR P r (ev x) (ev' x)) (hy : VR P r (ev y) (ev' y)) (hR : Rel P prot w0 r S w) (hfr : r fr = none ∧ fr < S.next)
    (h : ((I.app e i.size i.bytes z x y).eval ev fr S).all Q) {ats : Array TypeId} {ty : TypeId} (hat : ats[0]? = some t) (hat1 : ats[1]? = some u) {args : Array Value} (ha0 : args[0]? = some (ev' x)) (ha1 : args[1]? = some (ev' y)) :
    Sim P prot w0 r S w fr (do let a ← Builtin.append_ ats ty args; pure (Next.value a)) Q := by
  obtain ⟨zv, nz, hzv, hnz, hzz, hzlen, hzok⟩ := zeroCells_spec hz
  have hsz : i.size = nz := by
    obtain ⟨j, hj, hjn⟩ := szOf_info hnz
    rw [hi] at hj; cases hj; exact hjn
  have hcs : P.cellsOf e = i.size := by rw [szOf_cells hnz, hsz]
  simp only [I.eval] at h
  obtain ⟨⟨v, S1⟩, h1, hQ⟩ := T.all_ofOption.1 h
  unfold appV at h1
  split at h1
  · rename_i base len cap n ys hbx hsrc
    rw [hbx] at hx
    obtain ⟨k1, k2, k3⟩ := src_run hsrc hy hR
    obtain ⟨ys', p1, p2⟩ := k3 n (Nat.le_refl _)
    rw [List.take_of_length_le (by omega)] at p2
    -- the other side's slice
    obtain ⟨base', cap', hev', hcapd⟩ : ∃ base' cap', ev' x = .slice base' len cap' ∧ cap ≤ cap' := by
      cases base with
      | none => obtain ⟨e1, rfl, rfl⟩ := hx.sliceNil_inv; exact ⟨none, 0, e1, Nat.le_refl _⟩
      | some a =>
        cases hva : ev' x with
        | slice a' n' c' => rw [hva] at hx; cases hx with
          | slice _ _ _ _ _ _ _ _ hc => exact ⟨_, _, rfl, hc.le⟩
          | slice0 _ _ _ => exact ⟨_, _, rfl, Nat.le_refl _⟩
        | _ => rw [hva] at hx; cases hx
    have hz0 : ∀ (w : World), (match ats[1]? with | some xType => do pure ((← underlying xType) matches .int _) | none => pure false : Sem Bool).run P w = .ok false w := by
      intro w
      rw [hat1]
      rcases hu2 with ⟨d, hd⟩ | hd <;> simp [run_und hd]
    -- the two ways of the model's append
    have inplace : len + n ≤ cap' → ∀ w1, (∀ (K : Sem Unit), K = (if let some a := base' then storeCells (a.add (len * i.size)) ys'.toList else pure ()) → K.run P w = .ok () w1) →
        (Builtin.append_ ats ty args).run P w = .ok (.slice base' (len + n) cap') w1 := by
      intro hle w1 hst
      simp only [Builtin.append_, hat, ha0, ha1, hev', Sem.run_bind, run_und hu, Result.andThen_ok, run_sz hnz, ← hsz, hat1]
      rcases hu2 with ⟨d, hd⟩ | hd <;>
      · simp only [run_und hd, Sem.run_pure, Result.andThen_ok, Bool.false_eq_true, if_false, k1, Sem.run_bind, Sem.run_ite]
        rw [if_pos hle]
        simp only [Bool.not_false, if_true, p1, Result.andThen_ok]
        cases base' with
        | none =>
          have := hst _ rfl
          simp only [Sem.run_pure] at this ⊢
          cases this; rfl
        | some a =>
          have := hst _ rfl
          simp only at this ⊢
          simp only [Sem.run_bind, this, Result.andThen_ok, Sem.run_pure]
    obtain ⟨_, _, q3⟩ := src_run hsrc hy hR.drew
    obtain ⟨yd, d1, d2⟩ := q3 n (Nat.le_refl _)
    rw [List.take_of_length_le (by omega)] at d2
    have hydl : yd.size = n * i.size := by have := d2.1; simp at this; omega
    have grow : cap' < len + n → (2 * (len + n) + 192) * i.bytes ≤ 281474976710656 → 0 < i.bytes → ∀ old : Array Value, (Builtin.firstCells i.size len (ev' x)).run P w.drew = .ok old w.drew →
        ∃ newCap, (len + n ≤ newCap ∧ newCap ≤ 9223372036854775807) ∧
          (Builtin.append_ ats ty args).run P w = .ok (.slice (some ⟨w.heap.size, 0, none⟩) (len + n) newCap) (w.drew.alloc (.cells (old ++ yd ++ Builtin.zeroCells zv.cells (newCap - (len + n))) e)) := by
      intro hgt hbig hpos old hold
      have hnext := next_le hgt
      have hb2 : ¬ (Builtin.nextslicecap (len + n) cap' * i.bytes > 2 ^ 48) := by
        have : Builtin.nextslicecap (len + n) cap' * i.bytes ≤ (2 * (len + n) + 192) * i.bytes := Nat.mul_le_mul_right _ hnext
        have e48 : (2 : Nat) ^ 48 = 281474976710656 := by decide
        omega
      refine ⟨(Question.appendCap (len + n) cap' e).cut (w.tape w.drawn (.appendCap (len + n) cap' e)), ⟨by simp [Question.cut], grownCap_le_maxLen w (len + n) cap' e (by
        have := Nat.mul_le_mul_left (2 * (len + n) + 192) hpos
        unfold maxLen; omega)⟩, ?_⟩
      have hch : (choose (.appendCap (len + n) cap' e)).run P w = .ok ((Question.appendCap (len + n) cap' e).cut (w.tape w.drawn (.appendCap (len + n) cap' e))) w.drew := by
        simp [Question.forced]
      generalize (Question.appendCap (len + n) cap' e).cut (w.tape w.drawn (.appendCap (len + n) cap' e)) = newCap at hch ⊢
      have hb0 : ¬ (i.bytes = 0) := by omega
      simp only [Builtin.append_, hat, ha0, ha1, hev', Sem.run_bind, run_und hu, Result.andThen_ok, run_sz hnz, ← hsz, hat1]
      rw [hev'] at hold
      rcases hu2 with ⟨d, hd⟩ | hd <;>
      · simp only [run_und hd, Sem.run_pure, Result.andThen_ok, Bool.false_eq_true, if_false, k1, Sem.run_bind, Sem.run_ite, run_info hi]
        rw [if_neg (by omega)]
        simp only [Bool.not_false, if_true, false_or, hb0, and_false, if_false, hb2, hch, Result.andThen_ok, run_askRoom, hold, d1, run_zero hzv, newRow, run_newObj, Sem.run_bind, Sem.run_pure]
        rfl
    have hzc : ∀ k, (Builtin.zeroCells zv.cells k).size = k * i.size := by
      intro k
      simp only [Builtin.zeroCells, Array.size_map, Array.size_range]
      have : zv.cells.size = i.size := by rw [hsz, ← hzlen, hzz]; simp [cellsL]
      rw [this]
    -- a new row
    have fresh : ∀ (S2 : AS) (old : Array Value) (oldA : List Value) (newCap : Nat), S2.next = S.next → Rel P prot w0 r S2 w.drew → LR P r oldA old.toList → oldA.length = len * i.size → (len + n ≤ newCap ∧ newCap ≤ 9223372036854775807) → 0 < i.size →
        Q (vs fr 0 (len + n) (len + n), S2.put fr (.row (oldA ++ ys) e true false)) →
        (Builtin.append_ ats ty args).run P w = .ok (.slice (some ⟨w.heap.size, 0, none⟩) (len + n) newCap) (w.drew.alloc (.cells (old ++ yd ++ Builtin.zeroCells zv.cells (newCap - (len + n))) e)) →
        Sim P prot w0 r S w fr (do let a ← Builtin.append_ ats ty args; pure (Next.value a)) Q := by
      intro S2 old oldA newCap hn2 hR2 hol hlen hcap hpos hQ2 hrun
      have hlen' : old.size = len * i.size := by have := hol.1; simp at this; omega
      have hlr := hol.append d2
      have hsize : (old ++ yd ++ Builtin.zeroCells zv.cells (newCap - (len + n))).size = newCap * i.size := by
        simp only [Array.size_append, hlen', hydl, hzc]
        rw [← Nat.add_mul, ← Nat.add_mul]; congr 1; omega
      have hal : (oldA ++ ys).length = (len + n) * i.size := by simp only [List.length_append, hlen, k2, Nat.add_mul]
      have hnew := hR2.new (n := fr) (o := .row (oldA ++ ys) e true false) (obj := .cells (old ++ yd ++ Builtin.zeroCells zv.cells (newCap - (len + n))) e)
        (L := ⟨w.heap.size, 0, (len + n) * i.size, newCap * i.size, e⟩) hfr.1 (by rw [hn2]; exact hfr.2) rfl
        (rowR _ rfl hal.symm hsize.symm rfl (by
          have : (old ++ yd ++ Builtin.zeroCells zv.cells (newCap - (len + n))).toList.take (oldA ++ ys).length = old.toList ++ yd.toList := by
            have h1 : (oldA ++ ys).length = (old.toList ++ yd.toList).length := hlr.1
            rw [h1]; simp only [Array.toList_append]
            exact List.take_left
          rw [this]
          exact hlr.mono (Rho.le_add _ hfr.1)) (by rw [hsize, hal]; exact Nat.mul_le_mul_right _ hcap.1) (fun h => by cases h))
      refine ⟨_, _, _, _, _, hQ2, .inl (ex_v hrun), ?_, Rho.le_add _ hfr.1, (fun m hm h => by rw [Rho.add_ne _ _ hm]; exact h), hn2, hnew⟩
      refine .slice _ _ _ _ _ _ _ (Rho.add_self _ _ _) (.inr ⟨?_, ?_, ⟨hcap.1, .inr hcap.2⟩, ?_⟩) (Nat.le_refl _) (.inl rfl)
      · show 0 + (len + n) * P.cellsOf e = (len + n) * i.size; rw [hcs]; omega
      · show 0 + 0 + newCap * P.cellsOf e = newCap * i.size; rw [hcs]; omega
      · show 0 < P.cellsOf e; omega
    split at h1
    · rename_i hle
      have hle' : len + n ≤ cap' := by omega
      split at h1
      · -- nothing is added
        rename_i hemp
        cases h1
        have hye : ys'.toList = [] := by
          have : ys = [] := by simpa using hemp
          rw [this] at p2; exact p2.nil_inv
        refine Sim.val1 (w1 := w) (v' := .slice base' (len + n) cap') (inplace hle' w ?_) ?_ hR rfl hQ
        · rintro K rfl
          cases base' with
          | none => rfl
          | some a => simp only [hye, storeCells]; rfl
        · rw [hev'] at hx
          cases base with
          | none =>
            obtain ⟨e1, rfl, rfl⟩ := hx.sliceNil_inv
            cases e1
            have : n = 0 := by omega
            subst this; exact .sliceNil
          | some a => cases hx with
            | slice a1 a2 L a4 a5 a6 a7 hL hc hl hxx => exact .slice _ _ L _ _ _ _ hL hc hle hxx
            | slice0 a a' ha =>
              have : n = 0 := by omega
              subst this; exact .slice0 _ _ ha
      · rename_i hemp
        split at h1
        · rename_i b o
          split at h1
          · rename_i cells et ex hs
            simp only [Option.map_eq_some_iff, Prod.mk.injEq] at h1
            obtain ⟨cells', hst, rfl, rfl⟩ := h1
            rw [hev'] at hx
            obtain ⟨L, c', x', hL, e1, hcap, hl, hx'⟩ := hx.slice_inv
            cases e1
            have hxx : x' = L.base + o := by
              rcases hx' with h | h
              · exact h
              · exfalso; apply hemp
                have : n = 0 := by omega
                subst this
                have : ys.length = 0 := by omega
                simp [List.eq_nil_of_length_eq_zero this]
            subst hxx
            obtain ⟨w1, g1, g2⟩ := hR.writeRow hs hL hst p2
            refine Sim.val1 (w1 := w1) (v' := .slice (some ⟨L.b, L.base + o, none⟩) (len + n) cap') (inplace hle' w1 ?_) (.slice _ _ L _ _ _ _ hL hcap hle (.inl rfl)) g2 rfl hQ
            rintro K rfl
            simp only [add_none]
            rw [Nat.add_assoc]; exact g1
          · cases h1
        · cases h1
    · rename_i hgt
      split at h1
      · rename_i hbig
        obtain ⟨hbig, hpos, hez⟩ := hbig
        split at h1
        · split at h1
          · rename_i hl0
            subst hl0
            cases h1
            obtain ⟨e1, _, rfl⟩ := hx.sliceNil_inv
            rw [hev'] at e1; cases e1
            obtain ⟨newCap, c1, c2⟩ := grow (by omega) hbig hpos #[] (by rw [hev']; simp [Builtin.firstCells])
            refine fresh S #[] [] newCap rfl hR.drew .nil (by simp) c1 hez ?_ c2
            simpa using hQ
          · cases h1
        · split at h1
          · rename_i hl0
            subst hl0
            cases h1
            obtain ⟨_, rfl, a', e1⟩ := hx.slice0_inv rfl
            rw [hev'] at e1; cases e1
            obtain ⟨newCap, c1, c2⟩ := grow (by omega) hbig hpos #[] (by rw [hev']; simp [Builtin.firstCells, loadCells, loadCellsFrom])
            refine fresh S #[] [] newCap rfl hR.drew .nil (by simp) c1 hez ?_ c2
            simpa using hQ
          · cases h1
        · rename_i b o
          rw [hev'] at hx
          obtain ⟨L, c', x', hL, e1, hcap, hl, hx'⟩ := hx.slice_inv
          cases e1
          split at h1
          · rename_i cells et wr ex hs
            split at h1
            · rename_i hol
              simp only at h1
              obtain ⟨cc, fz, hblk, r1, r2, r3, r4, r5, r6, hw⟩ := hR.row hs hL
              have hold : ∀ w2 : World, w2.heap = w.heap → (Builtin.firstCells i.size len (ev' x)).run P w2 = .ok ((cc.toList.drop x').take (len * i.size)).toArray w2 := by
                intro w2 hw2
                rw [hev']
                simp only [Builtin.firstCells]
                have hb2 : w2.heap[L.b]? = some (.cells cc et fz) := by rw [hw2]; exact hblk
                rcases hx' with h | h
                · exact run_loadCells hb2 (by omega)
                · have : len = 0 := by omega
                  subst this
                  simp [loadCells, loadCellsFrom]
              have hlold : LR P r ((cells.drop o).take (len * i.size)) ((cc.toList.drop x').take (len * i.size)).toArray.toList := by
                rcases hx' with h | h
                · subst h; simpa using window (o := o) (k := len * i.size) hw r2 hol
                · have : len = 0 := by omega
                  subst this; simp; exact .nil
              have hll : ((cells.drop o).take (len * i.size)).length = len * i.size := by simp; omega
              have hexact : ex = true → cap' = cap := by
                intro hex
                rcases hcap with h | ⟨c1, c2, c3, c4⟩
                · exact h
                · have := r5 hex
                  have h1 : cap' * P.cellsOf L.et = cap * P.cellsOf L.et := by omega
                  exact Nat.eq_of_mul_eq_mul_right c4 h1
              split at h1
              · rename_i hex
                cases h1
                obtain ⟨newCap, c1, c2⟩ := grow (by have := hexact hex; omega) hbig hpos _ (hold w.drew rfl)
                exact fresh S _ _ newCap rfl hR.drew hlold hll c1 hez hQ c2
              · split at h1
                · rename_i hwe
                  obtain ⟨rfl, rfl, hyok⟩ := hwe
                  cases h1
                  by_cases hin : len + n ≤ cap'
                  · -- the model appends in place
                    rcases hcap with h | ⟨c1, c2, c3, c4⟩
                    · omega
                    · have hxx : x' = L.base + o := by
                        rcases hx' with h | h
                        · exact h
                        · omega
                      subst hxx
                      rw [r1, hcs] at c1 c2
                      have hroom : (len + n) * i.size ≤ cap' * i.size := Nat.mul_le_mul_right _ hin
                      have hys' : ys'.size = n * i.size := by have := p2.1; simp at this; omega
                      have hle2 : L.base + o + len * i.size + ys'.toList.length ≤ cc.size := by
                        simp only [Array.length_toList, hys']
                        rw [Nat.add_mul] at hroom; omega
                      have hok' : ys'.toList.all okc = true := p2.okc hyok
                      have hst := run_storeCells (P := P) (x := L.base + o + len * i.size) ys'.toList 0 w cc hblk (by omega) (r6 rfl).ok hok'
                      simp only [Nat.add_zero] at hst
                      have hspl : (splice cc.toList (L.base + o + len * i.size) ys'.toList).length = cc.size := by
                        rw [splice_len _ _ _ (by simpa using hle2)]; simp
                      have hlr2 := hlold.append p2
                      have hret := hR.retake (fr := fr) (b := b) (o := .row cells et true ex) (new := .row ((cells.drop o).take (len * i.size) ++ ys) et true false) (L := L)
                        (L' := ⟨L.b, L.base + o, (len + n) * i.size, L.csz, et⟩) (obj' := .cells (splice cc.toList (L.base + o + len * i.size) ys'.toList).toArray et fz) hs rfl hL hfr rfl (by
                          simp only [ObjR]
                          have hal : ((cells.drop o).take (len * i.size) ++ ys).length = (len + n) * i.size := by simp only [List.length_append, hll, k2, Nat.add_mul]
                          refine ⟨trivial, trivial, hal, by omega, by simp only [List.size_toArray, hspl]; omega, (fun h => by cases h), (fun _ => by simp only [List.size_toArray, hspl]; exact r6 rfl), (fun h => by cases h), fun j u hj => ?_⟩
                          have hj' : j < (len + n) * i.size := by
                            have := (List.getElem?_eq_some_iff.1 hj).1; omega
                          obtain ⟨u', e1, e2⟩ := (hlr2.mono (Rho.le_add (r := r) (n := fr) ⟨L.b, L.base + o, (len + n) * i.size, L.csz, et⟩ hfr.1)).get? hj
                          refine ⟨u', ?_, e2⟩
                          have hgoal : (splice cc.toList (L.base + o + len * i.size) ys'.toList)[L.base + o + j]? = some u' := by
                            unfold splice
                            simp only [List.toList_toArray] at e1
                            have ht : (cc.toList.take (L.base + o + len * i.size)).length = L.base + o + len * i.size := by simp; omega
                            by_cases c1 : j < len * i.size
                            · rw [List.getElem?_append_left (by simp; omega)] at e1
                              rw [List.getElem?_append_left (by simp; omega), List.getElem?_append_left (by omega), List.getElem?_take_of_lt (by omega)]
                              rw [List.getElem?_take_of_lt c1, List.getElem?_drop] at e1
                              exact e1
                            · have hlt1 : ((cc.toList.drop (L.base + o)).take (len * i.size)).length = len * i.size := by simp; omega
                              rw [List.getElem?_append_right (by omega), hlt1] at e1
                              rw [List.getElem?_append_left (by simp; rw [Nat.add_mul] at hj'; omega), List.getElem?_append_right (by omega), ht]
                              have : L.base + o + j - (L.base + o + len * i.size) = j - len * i.size := by omega
                              rw [this]; exact e1
                          simpa using hgoal)
                      refine ⟨_, .slice (some ⟨L.b, L.base + o, none⟩) (len + n) cap', _, _, _, hQ, .inl (ex_v (inplace hin _ ?_)), ?_, Rho.le_add _ hfr.1, (fun m hm h => by rw [Rho.add_ne _ _ hm]; exact h), rfl, hret⟩
                      · rintro K rfl
                        simp only [add_none]
                        exact hst
                      · refine .slice _ _ ⟨L.b, L.base + o, (len + n) * i.size, L.csz, et⟩ _ _ _ _ (Rho.add_self _ _ _) (.inr ⟨?_, ?_, ⟨hin, by have h3 := c3.2; rw [r1] at h3; exact h3⟩, ?_⟩) (Nat.le_refl _) (.inl (by simp))
                        · show 0 + (len + n) * P.cellsOf et = (len + n) * i.size; rw [hcs]; omega
                        · show L.base + o + 0 + cap' * P.cellsOf et = L.csz; rw [hcs]; omega
                        · show 0 < P.cellsOf et; omega
                  · obtain ⟨newCap, c1, c2⟩ := grow (by omega) hbig hpos _ (hold w.drew rfl)
                    exact fresh (S.put b .dead) _ _ newCap rfl (hR.drew.kill b) hlold hll c1 hez hQ c2
                · cases h1
            · cases h1
          · cases h1
      · cases h1
  · cases h1
end
end Go.Gx

/-
  Maps and iterators.
-/
namespace Go.Gx

section
variable {P : Program} {prot : Nat → Option Obj} {w0 : World} {r : Rho} {S : AS} {w : World} {ev ev' : Operand → Value} {fr : Nat} {Q : Value × AS → Prop}

theorem run_getObj {b : Nat} {o : Obj} (h : w.heap[b]? = some o) (hc : ∀ c e f, o ≠ .cells c e f) : (getObj b).run P w = .ok o w := by
  cases o <;> first
    | (exact absurd rfl (hc _ _ _))
    | simp [getObj, Sem.run, h]
theorem run_setObj {b : Nat} {o o' : Obj} (h : w.heap[b]? = some o) (hc : ∀ c e f, o ≠ .cells c e f) : (setObj b o').run P w = .ok () (w.upd b o') := by
  cases o <;> first
    | (exact absurd rfl (hc _ _ _))
    | (simp [setObj, Sem.run, h]; rfl)

/-- what lies at a map's name -/
theorem Rel.mapAt (hR : Rel P prot w0 r S w) {n : Nat} {es : List MapEntry} {clock : Nat} (hs : S.get n = some (.map es clock)) {L : Loc} (hL : r n = some L) :
    ∃ es' : Array MapEntry, w.heap[L.b]? = some (.map es' clock) ∧ EsR P r es es'.toList ∧ L.base = 0 := by
  obtain ⟨obj, hb, ho⟩ := hR.at_ hs (by simp) hL
  cases obj with
  | map es' clock' =>
    simp only [ObjR] at ho
    obtain ⟨h1, rfl, h2⟩ := ho
    exact ⟨es', hb, h2, h1⟩
  | _ => simp only [ObjR] at ho

/-- a map's entries change -/
theorem Rel.setMap (hR : Rel P prot w0 r S w) {n : Nat} {es es1 : List MapEntry} {clock c1 : Nat} (hs : S.get n = some (.map es clock)) {L : Loc} (hL : r n = some L) {es1' : Array MapEntry} (he : EsR P r es1 es1'.toList) (hb : L.base = 0) :
    Rel P prot w0 r (S.put n (.map es1 c1)) (w.upd L.b (.map es1' c1)) :=
  hR.upd (o' := .map es1 c1) hs rfl hL (by simp only [ObjR]; exact ⟨hb, trivial, he⟩) rfl

theorem EsR.modify {es es' : List MapEntry} (h : EsR P r es es') (i : Nat) {v v' : Value} (hv : VR P r v v') : EsR P r (es.modify i fun e => { e with val := v }) (es'.modify i fun e => { e with val := v' }) := by
  refine ⟨by simp [h.1], fun j a b x y => ?_⟩
  rw [List.getElem?_modify] at x y
  simp only [Option.map_eq_map, Option.map_eq_some_iff] at x y
  obtain ⟨a0, xa, rfl⟩ := x
  obtain ⟨b0, yb, rfl⟩ := y
  obtain ⟨h1, h2, h3⟩ := h.2 j a0 b0 xa yb
  split
  · exact ⟨h1, hv, h3⟩
  · exact ⟨h1, h2, h3⟩
theorem EsR.snoc {es es' : List MapEntry} (h : EsR P r es es') {e e' : MapEntry} (he : ER P r e e') : EsR P r (es ++ [e]) (es' ++ [e']) := by
  refine ⟨by simp [h.1], fun j a b x y => ?_⟩
  by_cases hj : j < es.length
  · rw [List.getElem?_append_left hj] at x
    rw [List.getElem?_append_left (by rw [← h.1]; exact hj)] at y
    exact h.2 j a b x y
  · rw [List.getElem?_append_right (by omega)] at x
    rw [List.getElem?_append_right (by rw [← h.1]; omega), ← h.1] at y
    have : j - es.length = 0 := by
      have := (List.getElem?_eq_some_iff.1 x).1
      simp at this; omega
    rw [this] at x y
    simp at x y
    subst x y
    exact he
theorem EsR.get? {es es' : List MapEntry} (h : EsR P r es es') {i : Nat} {e : MapEntry} (hi : es[i]? = some e) : ∃ e', es'[i]? = some e' ∧ ER P r e e' := by
  have hlt : i < es'.length := by
    have := (List.getElem?_eq_some_iff.1 hi).1
    rw [← h.1]; exact this
  exact ⟨es'[i], by simp [hlt], h.2 i e _ hi (by simp [hlt])⟩
theorem EsR.eraseIdx {es es' : List MapEntry} (h : EsR P r es es') (i : Nat) : EsR P r (es.eraseIdx i) (es'.eraseIdx i) := by
  refine ⟨by rw [List.length_eraseIdx, List.length_eraseIdx, h.1], fun j a b x y => ?_⟩
  rw [List.getElem?_eraseIdx] at x y
  split at x
  · rename_i hj; rw [if_pos hj] at y; exact h.2 j a b x y
  · rename_i hj; rw [if_neg hj] at y; exact h.2 (j + 1) a b x y

/-- what is found: its place, its value, and that its key is the one that was asked for -/
theorem findK_spec {ks : List K} {agg : Bool} {k : Value} : ∀ {es : List MapEntry} {i j : Nat} {v : Value}, findK ks agg k es i = some (some (j, v)) → i ≤ j ∧ ∃ e, es[j - i]? = some e ∧ e.val = v ∧ veq ks agg k e.key = some true
  | [], i, j, v, h => by simp [findK] at h
  | e :: es, i, j, v, h => by
    unfold findK at h
    split at h
    · rename_i hv
      simp only [Option.some.injEq, Prod.mk.injEq] at h
      obtain ⟨rfl, rfl⟩ := h
      exact ⟨Nat.le_refl _, e, by simp, rfl, hv⟩
    · obtain ⟨h1, e', h2, h3⟩ := findK_spec h
      refine ⟨by omega, e', ?_, h3⟩
      have : j - i = (j - (i + 1)) + 1 := by omega
      rw [this]; simpa using h2
    · cases h

theorem findC_spec {ks : List K} {agg : Bool} {k : Value} {es : List MapEntry} {j : Nat} {v : Value} (h : findC ks agg k es = some (some (j, v))) : ∃ e, es[j]? = some e ∧ e.val = v ∧ e.key = k ∧ Instr.sameBits 10000 k k = true := by
  unfold findC at h
  split at h
  · rename_i hok
    obtain ⟨_, e, h2, h3, h4⟩ := findK_spec h
    obtain ⟨b, hb⟩ := Option.isSome_iff_exists.1 hok
    exact ⟨e, by simpa using h2, h3, (veq_true_eq h4).symm, sameBits_refl hb⟩
  · cases h

theorem keyStays {old new : Value} (h : Instr.sameBits 10000 old new = true) : (Instr.keyThatStays old new).run P w = .ok new w := by
  simp [Instr.keyThatStays, h]

theorem modify_key {es : List MapEntry} {i : Nat} {e : MapEntry} (h : es[i]? = some e) (v : Value) : (es.modify i fun x => { x with key := e.key, val := v }) = es.modify i fun x => { x with val := v } := by
  apply List.ext_getElem?
  intro j
  rw [List.getElem?_modify, List.getElem?_modify]
  by_cases hj : i = j
  · subst hj; simp [h]
  · simp [hj]
theorem modify_key0 {es : List MapEntry} {i : Nat} {e : MapEntry} (h : es[i]? = some e) : (es.modify i fun x => { x with key := e.key }) = es := by
  apply List.ext_getElem?
  intro j
  rw [List.getElem?_modify]
  by_cases hj : i = j
  · subst hj; simp [h]
  · simp [hj]

theorem find_run' {t : TypeId} {ks : List K} {agg : Bool} (hk : keyOf P t = some (ks, agg)) {k k' : Value} (hv : VR P r k k') {es : List MapEntry} {res : Option (Nat × Value)}
    (h : findC ks agg k es = some res) {es' : List MapEntry} (he : EsR P r es es') : k' = k ∧ (∀ em, (Instr.checkKey em 10000 t k').run P w = .ok () w) ∧ ∃ res', (Instr.findKey t k' es').run P w = .ok res' w ∧ FdR P r res res' := by
  obtain ⟨e, c, f⟩ := find_run (w := w) hk hv h he
  rw [e]; exact ⟨rfl, c, f⟩

theorem sim_mset {t kt e : TypeId} (hu : P.underlying t = some (.map kt e)) {ks : List K} {agg : Bool} (hk : keyOf P kt = some (ks, agg)) {m k v : Operand} (hm : VR P r (ev m) (ev' m)) (hkv : VR P r (ev k) (ev' k)) (hv : VR P r (ev v) (ev' v))
    (hR : Rel P prot w0 r S w) (h : ((I.mset ks agg m k v).eval ev fr S).all Q) : Sim P prot w0 r S w fr (do Instr.mapUpdate t (ev' m) (ev' k) (ev' v); pure Next.skip) Q := by
  simp only [I.eval] at h
  split at h
  · rename_i n hn
    rw [hn] at hm
    obtain ⟨L, hL, _, e1⟩ := hm.map_inv
    split at h
    · rename_i es clock hs
      obtain ⟨es', hb, he, hbase⟩ := hR.mapAt hs hL
      have hget : (getObj L.b).run P w = .ok (.map es' clock) w := run_getObj hb (by simp)
      split at h
      · rename_i i u hf
        obtain ⟨ek, c1, res', f1, f2⟩ := find_run' (w := w) hk hkv hf he
        obtain ⟨e0, g1, g2, g3, g4⟩ := findC_spec hf
        cases res' with
        | none => exact f2.elim
        | some q =>
          obtain ⟨i', u'⟩ := q
          obtain ⟨rfl, f3⟩ := f2
          obtain ⟨e0', g1', g2', _⟩ := he.get? g1
          have hkey : e0'.key = ev k := by
            have hsb : veq ks agg (ev k) e0.key = some true ∨ True := .inr trivial
            -- the entry's key relates to the one that was found, which is k
            rw [g3] at g2'
            have hc := hf
            unfold findC at hc
            split at hc
            · rename_i hok
              obtain ⟨b, hbb⟩ := Option.isSome_iff_exists.1 hok
              exact (veq_VR hbb g2' g2').1
            · cases hc
          have hsame : Instr.sameBits 10000 (((es'[i]?).map (·.key)).getD (ev' k)) (ev' k) = true := by
            have : es'[i]? = some e0' := by simpa using g1'
            rw [this, ek]; simp only [Option.map_some, Option.getD_some, hkey]; exact g4
          refine Sim.unit ?_ (hR.setMap (c1 := clock) hs hL (es1' := es'.modify i fun e => { e with val := ev' v }) (by simpa using he.modify i hv) hbase) rfl h
          rw [e1]
          simp only [Instr.mapUpdate, Sem.run_bind, run_und hu, Result.andThen_ok, hget, c1 false, f1, keyStays hsame]
          have hm2 : (es'.modify i fun x => { x with key := ev' k, val := ev' v }) = es'.modify i fun e => { e with val := ev' v } := by
            apply Array.ext'
            have := modify_key g1' (ev' v)
            rw [hkey, ← ek] at this
            simpa using this
          rw [hm2, run_setObj hb (by simp)]
      · rename_i hf
        obtain ⟨ek, c1, res', f1, f2⟩ := find_run' (w := w) hk hkv hf he
        cases res' with
        | some q => exact f2.elim
        | none =>
          refine Sim.unit ?_ (hR.setMap (c1 := clock + 1) hs hL (es1' := es'.push { key := ev' k, val := ev' v, born := clock }) (by simpa using he.snoc (e := { key := ev k, val := ev v, born := clock }) (e' := { key := ev' k, val := ev' v, born := clock }) ⟨hkv, hv, rfl⟩) hbase) rfl h
          rw [e1]
          simp only [Instr.mapUpdate, Sem.run_bind, run_und hu, Result.andThen_ok, hget, c1 false, f1]
          rw [run_setObj hb (by simp)]
      · exact h.elim
    · exact h.elim
  · exact h.elim

theorem sim_ment {t kt e : TypeId} (hu : P.underlying t = some (.map kt e)) {ks : List K} {agg : Bool} (hk : keyOf P kt = some (ks, agg)) {zero : Value} (hz : zeroOf P e = some zero) {m k : Operand} (hm : VR P r (ev m) (ev' m)) (hkv : VR P r (ev k) (ev' k))
    (hR : Rel P prot w0 r S w) (h : ((I.ment ks agg zero m k).eval ev fr S).all Q) : Sim P prot w0 r S w fr (do let a ← Instr.mapEntry t (ev' m) (ev' k); pure (Next.value a)) Q := by
  simp only [I.eval] at h
  split at h
  · rename_i n hn
    rw [hn] at hm
    obtain ⟨L, hL, _, e1⟩ := hm.map_inv
    split at h
    · rename_i es clock hs
      obtain ⟨es', hb, he, hbase⟩ := hR.mapAt hs hL
      have hget : (getObj L.b).run P w = .ok (.map es' clock) w := run_getObj hb (by simp)
      split at h
      · rename_i i u hf
        obtain ⟨ek, c1, res', f1, f2⟩ := find_run' (w := w) hk hkv hf he
        obtain ⟨e0, g1, g2, g3, g4⟩ := findC_spec hf
        cases res' with
        | none => exact f2.elim
        | some q =>
          obtain ⟨i', u'⟩ := q
          obtain ⟨rfl, f3⟩ := f2
          obtain ⟨e0', g1', g2', _, g5'⟩ := he.get? g1
          have hkey : e0'.key = ev k := by
            rw [g3] at g2'
            have hc := hf
            unfold findC at hc
            split at hc
            · rename_i hok
              obtain ⟨b, hbb⟩ := Option.isSome_iff_exists.1 hok
              exact (veq_VR hbb g2' g2').1
            · cases hc
          have hes : es'[i]? = some e0' := by simpa using g1'
          have hsame : Instr.sameBits 10000 (((es'[i]?).map (·.key)).getD (ev' k)) (ev' k) = true := by
            rw [hes, ek]; simp only [Option.map_some, Option.getD_some, hkey]; exact g4
          have hm2 : (es'.modify i fun x => { x with key := ev' k }) = es' := by
            apply Array.ext'
            have := modify_key0 g1'
            rw [hkey, ← ek] at this
            simpa using this
          refine Sim.val1 (w1 := w) (v' := .tuple #[u', vi e0'.born]) ?_ ?_ hR rfl h
          · rw [e1]
            simp only [Instr.mapEntry, Sem.run_bind, run_und hu, Result.andThen_ok, hget, c1 false, f1, keyStays hsame]
            rw [hm2, run_setObj hb (by simp), upd_self hb]
            simp [hes, vi, goInt]
          · rw [g1]
            simp only [Option.map_some, Option.getD_some]
            rw [← g5']
            simpa [vi] using VR.tuple_of (LR.cons f3 (LR.cons (.int .i64 e0.born) .nil))
      · rename_i hf
        obtain ⟨ek, c1, res', f1, f2⟩ := find_run' (w := w) hk hkv hf he
        cases res' with
        | some q => exact f2.elim
        | none =>
          refine Sim.val1 (v' := .tuple #[zero, vi clock]) ?_ (by simpa [vi] using VR.tuple_of (LR.cons (zero_VR hz) (LR.cons (.int .i64 clock) .nil))) (hR.setMap (c1 := clock + 1) hs hL (es1' := es'.push { key := ev' k, val := zero, born := clock }) (by simpa using he.snoc (e := { key := ev k, val := zero, born := clock }) (e' := { key := ev' k, val := zero, born := clock }) ⟨hkv, zero_VR hz, rfl⟩) hbase) rfl h
          rw [e1]
          simp only [Instr.mapEntry, Sem.run_bind, run_und hu, Result.andThen_ok, hget, c1 false, f1, run_zero hz]
          rw [run_setObj hb (by simp)]
          rfl
      · exact h.elim
    · exact h.elim
  · exact h.elim

theorem findIdx_born {es es' : List MapEntry} (h : EsR P r es es') (b : Int) : es'.findIdx? (fun e => (e.born : Int) == b) = es.findIdx? (fun e => (e.born : Int) == b) := by
  induction es generalizing es' with
  | nil => rw [h.nil_inv]
  | cons e es ih =>
    obtain ⟨e', l', rfl, h1, h2⟩ := h.cons_inv
    rw [List.findIdx?_cons, List.findIdx?_cons, h1.2.2, ih h2]

theorem sim_estore {t : TypeId} {m s v : Operand} (hm : VR P r (ev m) (ev' m)) (hsv : VR P r (ev s) (ev' s)) (hv : VR P r (ev v) (ev' v))
    (hR : Rel P prot w0 r S w) (h : ((I.estore m s v).eval ev fr S).all Q) : Sim P prot w0 r S w fr (do Instr.entryStore t (ev' m) (ev' s) (ev' v); pure Next.skip) Q := by
  simp only [I.eval] at h
  split at h
  · rename_i n k born hn hb0
    rw [hn] at hm
    rw [hb0] at hsv
    obtain ⟨L, hL, _, e1⟩ := hm.map_inv
    split at h
    · rename_i es clock hs
      obtain ⟨es', hb, he, hbase⟩ := hR.mapAt hs hL
      have hget : (getObj L.b).run P w = .ok (.map es' clock) w := run_getObj hb (by simp)
      split at h
      · rename_i i hi
        refine Sim.unit ?_ (hR.setMap (c1 := clock) hs hL (es1' := es'.modify i fun e => { e with val := ev' v }) (by simpa using he.modify i hv) hbase) rfl h
        rw [e1, hsv.int_inv]
        have hfi : es'.findIdx? (fun e => (e.born : Int) == born) = some i := by
          rw [← hi, ← findIdx_born he born, show es'.findIdx? (fun e => (e.born : Int) == born) = es'.toList.toArray.findIdx? (fun e => (e.born : Int) == born) from by simp, List.findIdx?_toArray]
        simp only [Instr.entryStore, Sem.run_bind, Result.andThen_ok, hget, asInt, asIntOf, Sem.run_pure, hfi]
        rw [run_setObj hb (by simp)]
      · exact h.elim
    · exact h.elim
  · exact h.elim

theorem sim_clrm {t kt e : TypeId} (hu : P.underlying t = some (.map kt e)) {x : Operand} (hx : VR P r (ev x) (ev' x)) (hR : Rel P prot w0 r S w)
    (h : ((I.clrm x).eval ev fr S).all Q) {ats : Array TypeId} {ty : TypeId} (hat : ats[0]? = some t) {args : Array Value} (ha0 : args[0]? = some (ev' x)) :
    Sim P prot w0 r S w fr (do let a ← Builtin.clear_ ats ty args; pure (Next.value a)) Q := by
  simp only [I.eval] at h
  have vt : VR P r (.tuple #[]) (.tuple #[]) := VR.undef
  split at h
  · rename_i hb
    rw [hb] at hx
    refine Sim.val1 (w1 := w) (v' := .tuple #[]) ?_ vt hR rfl h
    rw [hx.mapNil_inv] at ha0
    simp only [Builtin.clear_, hat, ha0, Sem.run_bind, run_und hu, Result.andThen_ok]
    simp
  · rename_i n hn
    rw [hn] at hx
    obtain ⟨L, hL, _, e1⟩ := hx.map_inv
    split at h
    · rename_i es clock hs
      obtain ⟨es', hb, he, hbase⟩ := hR.mapAt hs hL
      refine Sim.val1 (v' := .tuple #[]) ?_ vt (hR.setMap (c1 := clock) hs hL (es1' := #[]) ⟨rfl, fun i a b x => by simp at x⟩ hbase) rfl h
      rw [e1] at ha0
      have hget : (getObj L.b).run P w = .ok (.map es' clock) w := run_getObj hb (by simp)
      simp only [Builtin.clear_, hat, ha0, Sem.run_bind, run_und hu, Result.andThen_ok, hget]
      rw [run_setObj hb (by simp)]
      rfl
    · exact h.elim
  · exact h.elim

theorem sim_del {t kt e : TypeId} (hu : P.underlying t = some (.map kt e)) {ks : List K} {agg : Bool} (hk : keyOf P kt = some (ks, agg)) {m k : Operand} (hm : VR P r (ev m) (ev' m)) (hkv : VR P r (ev k) (ev' k)) (hR : Rel P prot w0 r S w)
    (h : ((I.del ks agg m k).eval ev fr S).all Q) {ats : Array TypeId} {ty : TypeId} (hat : ats[0]? = some t) {args : Array Value} (ha0 : args[0]? = some (ev' m)) (ha1 : args[1]? = some (ev' k)) :
    Sim P prot w0 r S w fr (do let a ← Builtin.delete_ ats ty args; pure (Next.value a)) Q := by
  simp only [I.eval] at h
  have vt : VR P r (.tuple #[]) (.tuple #[]) := VR.undef
  split at h
  · rename_i hn
    rw [hn] at hm
    split at h
    · rename_i res hf
      obtain ⟨ek, c1, _⟩ := find_run' (w := w) hk hkv hf (es' := []) ⟨rfl, fun i a b x => by simp at x⟩
      refine Sim.val1 (w1 := w) (v' := .tuple #[]) ?_ vt hR rfl h
      rw [hm.mapNil_inv] at ha0
      simp only [Builtin.delete_, hat, ha0, ha1, Sem.run_bind, run_und hu, Result.andThen_ok, c1 true, Sem.run_pure]
    · exact h.elim
  · rename_i n hn
    rw [hn] at hm
    obtain ⟨L, hL, _, e1⟩ := hm.map_inv
    split at h
    · rename_i es clock hs
      obtain ⟨es', hb, he, hbase⟩ := hR.mapAt hs hL
      have hget : (getObj L.b).run P w = .ok (.map es' clock) w := run_getObj hb (by simp)
      rw [e1] at ha0
      split at h
      · rename_i i u hf
        obtain ⟨ek, c1, res', f1, f2⟩ := find_run' (w := w) hk hkv hf he
        cases res' with
        | none => exact f2.elim
        | some q =>
          obtain ⟨i', u'⟩ := q
          obtain ⟨rfl, f3⟩ := f2
          refine Sim.val1 (v' := .tuple #[]) ?_ vt (hR.setMap (c1 := clock) hs hL (es1' := es'.eraseIdxIfInBounds i) (by simpa using he.eraseIdx i) hbase) rfl h
          simp only [Builtin.delete_, hat, ha0, ha1, Sem.run_bind, run_und hu, Result.andThen_ok, hget, c1 es'.isEmpty, f1]
          rw [run_setObj hb (by simp)]
          rfl
      · rename_i hf
        obtain ⟨ek, c1, res', f1, f2⟩ := find_run' (w := w) hk hkv hf he
        cases res' with
        | some q => exact f2.elim
        | none =>
          refine Sim.val1 (w1 := w) (v' := .tuple #[]) ?_ vt hR rfl h
          simp only [Builtin.delete_, hat, ha0, ha1, Sem.run_bind, run_und hu, Result.andThen_ok, hget, c1 es'.isEmpty, f1]
          rw [run_setObj hb (by simp), upd_self hb]
          rfl
      · exact h.elim
    · exact h.elim
  · exact h.elim

/-! iterators -/
theorem VR.iter_inv {n : Nat} {v' : Value} (h : VR P r (.pointer (some ⟨n, 0, none⟩)) v') : ∃ L, r n = some L ∧ v' = .pointer (some ⟨L.b, L.base, none⟩) := by
  obtain ⟨L, h1, h2⟩ := h.ptr_inv
  exact ⟨L, h1, h2⟩

theorem sim_rngm {t kt e : TypeId} (hu : P.underlying t = some (.map kt e)) {x : Operand} (hx : VR P r (ev x) (ev' x)) (hR : Rel P prot w0 r S w) (hfr : r fr = none ∧ fr < S.next)
    (h : ((I.rngm x).eval ev fr S).all Q) : Sim P prot w0 r S w fr (do let a ← Instr.range t (ev' x); pure (Next.value a)) Q := by
  simp only [I.eval] at h
  split at h
  · rename_i hb
    rw [hb] at hx
    refine Sim.new (v' := .pointer (some ⟨w.heap.size, 0, none⟩)) (obj := .mapIter none 0 #[] 0) (L := ⟨w.heap.size, 0, 0, 0, 0⟩) hR hfr ?_ rfl rfl ?_ (.ptr _ _ _ (Rho.add_self _ _ _)) h
    · rw [hx.mapNil_inv]
      simp [Instr.range, run_und hu]
    · simp [ObjR]
  · rename_i n hn
    rw [hn] at hx
    obtain ⟨L, hL, hb0, e1⟩ := hx.map_inv
    split at h
    · rename_i es clock hs
      obtain ⟨es', hb, he, hbase⟩ := hR.mapAt hs hL
      have hget : (getObj L.b).run P w = .ok (.map es' clock) w := run_getObj hb (by simp)
      refine Sim.new (v' := .pointer (some ⟨w.heap.size, 0, none⟩)) (obj := .mapIter (some L.b) clock #[] clock) (L := ⟨w.heap.size, 0, 0, 0, 0⟩) hR hfr ?_ rfl rfl ?_ (.ptr _ _ _ (Rho.add_self _ _ _)) h
      · rw [e1]
        simp [Instr.range, run_und hu, hget]
      · simp only [ObjR]
        exact ⟨trivial, trivial, trivial, trivial, L, Rho.le_add _ hfr.1 _ _ hL, hb0, rfl⟩
    · exact h.elim
  · exact h.elim

theorem sim_rngs {t : TypeId} (hu : P.underlying t = some .string) {x : Operand} (hx : VR P r (ev x) (ev' x)) (hR : Rel P prot w0 r S w) (hfr : r fr = none ∧ fr < S.next)
    (h : ((I.rngs x).eval ev fr S).all Q) : Sim P prot w0 r S w fr (do let a ← Instr.range t (ev' x); pure (Next.value a)) Q := by
  simp only [I.eval] at h
  split at h
  · rename_i s hs
    rw [hs] at hx
    refine Sim.new (v' := .pointer (some ⟨w.heap.size, 0, none⟩)) (obj := .stringIter s 0) (L := ⟨w.heap.size, 0, 0, 0, 0⟩) hR hfr ?_ rfl rfl ?_ (.ptr _ _ _ (Rho.add_self _ _ _)) h
    · rw [hx.str_inv]
      simp [Instr.range, run_und hu]
    · simp [ObjR]
  · exact h.elim

theorem sim_nxts {ty : TypeId} {x : Operand} (hx : VR P r (ev x) (ev' x)) (hR : Rel P prot w0 r S w)
    (h : ((I.nxts x).eval ev fr S).all Q) : Sim P prot w0 r S w fr (do let a ← Instr.next (ev' x) true ty; pure (Next.value a)) Q := by
  simp only [I.eval] at h
  split at h
  · rename_i n hn
    rw [hn] at hx
    obtain ⟨L, hL, e1⟩ := hx.iter_inv
    split at h
    · rename_i s pos hs
      obtain ⟨obj, hb, ho⟩ := hR.at_ hs (by simp) hL
      cases obj with
      | stringIter s' pos' =>
        simp only [ObjR] at ho
        obtain ⟨hb0, rfl, rfl⟩ := ho
        rw [hb0] at e1
        have hget : (getObj L.b).run P w = .ok (.stringIter s pos) w := run_getObj hb (by simp)
        split at h
        · rename_i hlt
          refine Sim.val1 (w1 := w.upd L.b (.stringIter s (pos + (Utf8.decode s pos).2))) (v' := .tuple #[.bool true, vi pos, .int .i32 (Utf8.decode s pos).1]) ?_ (by simpa [vi] using VR.tuple_of (LR.cons (.bool true) (LR.cons (.int .i64 pos) (LR.cons (.int .i32 (Utf8.decode s pos).1) .nil)))) (hR.upd (o' := .siter s (pos + (Utf8.decode s pos).2)) hs rfl hL (by simp only [ObjR]; exact ⟨hb0, trivial, trivial⟩) rfl) rfl h
          rw [e1]
          simp only [Instr.next, Sem.run_bind, hget, Result.andThen_ok, Sem.run_ite]
          rw [if_pos hlt, run_setObj hb (by simp)]
          rfl
        · rename_i hlt
          refine Sim.val1 (w1 := w) (v' := .tuple #[.bool false]) ?_ (by simpa using VR.tuple_of (P := P) (r := r) (LR.cons (.bool false) .nil)) hR rfl h
          rw [e1]
          simp only [Instr.next, Sem.run_bind, hget, Result.andThen_ok, Sem.run_ite]
          rw [if_neg hlt]
          rfl
      | _ => simp only [ObjR] at ho
    · exact h.elim
  · exact h.elim

theorem EsR.filter {es es' : List MapEntry} (h : EsR P r es es') (p : Nat → Bool) : EsR P r (es.filter fun e => p e.born) (es'.filter fun e => p e.born) := by
  induction es generalizing es' with
  | nil => rw [h.nil_inv]; exact ⟨rfl, fun i a b x => by simp at x⟩
  | cons e es ih =>
    obtain ⟨e', l', rfl, h1, h2⟩ := h.cons_inv
    have hb := h1.2.2
    simp only [List.filter_cons, hb]
    split
    · have hi := ih h2
      refine ⟨by simp [hi.1], fun i a b x y => ?_⟩
      cases i with
      | zero => simp at x y; subst x y; exact h1
      | succ i => simp at x y; exact hi.2 i a b x y
    · exact ih h2
theorem EsR.append {es es' fs fs' : List MapEntry} (h : EsR P r es es') (k : EsR P r fs fs') : EsR P r (es ++ fs) (es' ++ fs') := by
  refine ⟨by simp [h.1, k.1], fun j a b x y => ?_⟩
  by_cases hj : j < es.length
  · rw [List.getElem?_append_left hj] at x
    rw [List.getElem?_append_left (by rw [← h.1]; exact hj)] at y
    exact h.2 j a b x y
  · rw [List.getElem?_append_right (by omega)] at x
    rw [List.getElem?_append_right (by rw [← h.1]; omega), ← h.1] at y
    exact k.2 _ a b x y
theorem EsR.all {es es' : List MapEntry} (h : EsR P r es es') (p : Nat → Bool) : es'.all (fun e => p e.born) = es.all (fun e => p e.born) := by
  induction es generalizing es' with
  | nil => rw [h.nil_inv]
  | cons e es ih =>
    obtain ⟨e', l', rfl, h1, h2⟩ := h.cons_inv
    simp only [List.all_cons, ih h2, h1.2.2]
theorem EsR.isEmpty {es es' : List MapEntry} (h : EsR P r es es') : es'.isEmpty = es.isEmpty := by
  cases es with
  | nil => rw [h.nil_inv]
  | cons e es => obtain ⟨e', l', rfl, _, _⟩ := h.cons_inv; rfl

/-- what lies at an iterator's name -/
theorem Rel.iterAt (hR : Rel P prot w0 r S w) {n : Nat} {m : Nat} {since st : Nat} {seen : List Nat} (hs : S.get n = some (.miter (some m) since seen st)) {L : Loc} (hL : r n = some L) :
    ∃ M, r m = some M ∧ M.base = 0 ∧ L.base = 0 ∧ w.heap[L.b]? = some (.mapIter (some M.b) since seen.toArray st) := by
  obtain ⟨obj, hb, ho⟩ := hR.at_ hs (by simp) hL
  cases obj with
  | mapIter m' since' seen' st' =>
    simp only [ObjR] at ho
    obtain ⟨h1, rfl, rfl, rfl, h5⟩ := ho
    cases m' with
    | none => exact h5.elim
    | some b =>
      obtain ⟨M, hM, hM0, rfl⟩ := h5
      exact ⟨M, hM, hM0, h1, by simpa using hb⟩
  | _ => simp only [ObjR] at ho

theorem sim_entry {x : Operand} (hx : VR P r (ev x) (ev' x)) (hR : Rel P prot w0 r S w)
    (h : ((I.entry x).eval ev fr S).all Q) : Sim P prot w0 r S w fr (do let a ← Instr.entry (ev' x); pure (Next.value a)) Q := by
  simp only [I.eval] at h
  split at h
  · rename_i n hn
    rw [hn] at hx
    obtain ⟨L, hL, e1⟩ := hx.iter_inv
    split at h
    · rename_i m since seen st hs
      obtain ⟨M, hM, hM0, hL0, hb⟩ := hR.iterAt hs hL
      rw [hL0] at e1
      have hget := run_getObj (P := P) hb (by simp)
      split at h
      · rename_i stamp es clock hst hsm
        obtain ⟨es', hb2, he, _⟩ := hR.mapAt hsm hM
        have hget2 := run_getObj (P := P) hb2 (by simp)
        split at h
        · exact h.elim
        · rename_i hck
          have hck : clock = st := Decidable.not_not.1 hck
          split at h
          · rename_i e hfe
            have key : ∃ e', es'.toList.find? (fun e => e.born == stamp) = some e' ∧ ER P r e e' := by
              clear hb2 hget2 hsm hs hst h hget hb
              generalize es'.toList = l' at he ⊢
              induction es generalizing l' with
              | nil => simp at hfe
              | cons e0 es ih =>
                obtain ⟨e0', l2, rfl, h1, h2⟩ := he.cons_inv
                simp only [List.find?_cons, h1.2.2] at hfe ⊢
                split at hfe
                · cases hfe; exact ⟨e0', rfl, h1⟩
                · exact ih hfe l2 h2
            obtain ⟨e', k1, k2, k3, k4⟩ := key
            refine Sim.val1 (w1 := w) (v' := .tuple #[e'.key, e'.val]) ?_ (by simpa using VR.tuple_of (LR.cons k2 (LR.cons k3 .nil))) hR rfl h
            rw [e1]
            have hback : seen.toArray.back? = some stamp := by
              rw [Array.back?_eq_getElem?]
              rw [List.getLast?_eq_getElem?] at hst
              simpa using hst
            have hfind : es'.find? (fun e => e.born == stamp) = some e' := by
              rw [← k1, Array.find?_toList]
            simp only [Instr.entry, Sem.run_bind, hget, Result.andThen_ok, hback, hget2, Sem.run_ite]
            rw [if_neg (by simp [hck])]
            simp [hfind]
          · exact h.elim
      · exact h.elim
    · exact h.elim
  · exact h.elim

theorem run_next_one {n : Nat} (h : n ≤ 1) : (choose (.mapNext n)).run P w = .ok 0 w := by
  simp [run_choose, Question.forced, h]
theorem run_next_many {n : Nat} (h : ¬ n ≤ 1) : (choose (.mapNext n)).run P w = .ok (w.tape w.drawn (.mapNext n) % n) w.drew := by
  simp [run_choose, Question.forced, h, Question.cut]

theorem isEmpty_toList {α : Type} (a : Array α) : a.isEmpty = a.toList.isEmpty := by cases a; simp

theorem sim_nxtm {ty : TypeId} {x : Operand} (hx : VR P r (ev x) (ev' x)) (hR : Rel P prot w0 r S w)
    (h : ((I.nxtm x).eval ev fr S).all Q) : Sim P prot w0 r S w fr (do let a ← Instr.next (ev' x) false ty; pure (Next.value a)) Q := by
  simp only [I.eval] at h
  split at h
  · rename_i n hn
    rw [hn] at hx
    obtain ⟨L, hL, e1⟩ := hx.iter_inv
    split at h
    · rename_i since seen st hs
      obtain ⟨obj, hb, ho⟩ := hR.at_ hs (by simp) hL
      cases obj with
      | mapIter m' since' seen' st' =>
        simp only [ObjR] at ho
        obtain ⟨hL0, _, _, _, h5⟩ := ho
        cases m' with
        | some _ => exact h5.elim
        | none =>
          rw [hL0] at e1
          refine Sim.val1 (w1 := w) (v' := .tuple #[.bool false]) ?_ (by simpa using VR.tuple_of (P := P) (r := r) (LR.cons (.bool false) .nil)) hR rfl h
          rw [e1]
          have hget := run_getObj (P := P) hb (by simp)
          simp only [Instr.next, Sem.run_bind, hget, Result.andThen_ok]
          rfl
      | _ => simp only [ObjR] at ho
    · rename_i m since seen last hs
      obtain ⟨M, hM, hM0, hL0, hb⟩ := hR.iterAt hs hL
      rw [hL0] at e1
      have hget := run_getObj (P := P) hb (by simp)
      split at h
      · rename_i es clock hsm
        obtain ⟨es', hb2, he, _⟩ := hR.mapAt hsm hM
        have hget2 := run_getObj (P := P) hb2 (by simp)
        split at h
        · exact h.elim
        · rename_i hno
          have hleft := he.filter (fun b => !seen.contains b)
          have hold := hleft.filter (fun b => decide (b < since))
          have hnew := hleft.filter (fun b => decide (b ≥ since))
          generalize hA : (es.filter fun e => !seen.contains e.born) = A at h hleft hold hnew
          generalize hB : (es'.toList.filter fun e => !seen.contains e.born) = B at hleft hold hnew
          generalize hAo : (A.filter fun e => decide (e.born < since)) = Ao at h hold
          generalize hBo : (B.filter fun e => decide (e.born < since)) = Bo at hold
          generalize hAn : (A.filter fun e => decide (e.born ≥ since)) = An at h hnew
          generalize hBn : (B.filter fun e => decide (e.born ≥ since)) = Bn at hnew
          have hboth := hold.append hnew
          -- the candidates on both sides
          have hcl : ((if Ao.isEmpty then [none] else []) ++ (Ao ++ An).map some : List (Option MapEntry)).length = ((if Bo.isEmpty then [none] else []) ++ (Bo ++ Bn).map some : List (Option MapEntry)).length := by
            rw [hold.isEmpty]; simp [hboth.1]
            have := hold.1; have := hnew.1; omega
          have hget3 : ∀ k : Nat, ((if Ao.isEmpty then [none] else []) ++ (Ao ++ An).map some : List (Option MapEntry))[k]? = none ∨ (((if Ao.isEmpty then [none] else []) ++ (Ao ++ An).map some : List (Option MapEntry))[k]? = some none ∧ ((if Bo.isEmpty then [none] else []) ++ (Bo ++ Bn).map some : List (Option MapEntry))[k]? = some none) ∨
              ∃ e e', ((if Ao.isEmpty then [none] else []) ++ (Ao ++ An).map some : List (Option MapEntry))[k]? = some (some e) ∧ ((if Bo.isEmpty then [none] else []) ++ (Bo ++ Bn).map some : List (Option MapEntry))[k]? = some (some e') ∧ ER P r e e' := by
            intro k
            rw [hold.isEmpty]
            have hm : ∀ j : Nat, ((Ao ++ An).map some)[j]? = none ∨ ∃ e e', ((Ao ++ An).map some)[j]? = some (some e) ∧ ((Bo ++ Bn).map some)[j]? = some (some e') ∧ ER P r e e' := by
              intro j
              cases hj : (Ao ++ An)[j]? with
              | none => left; simp only [List.getElem?_map, hj, Option.map_none]
              | some e =>
                obtain ⟨e', k1, k2⟩ := hboth.get? hj
                exact .inr ⟨e, e', by simp only [List.getElem?_map, hj, Option.map_some], by simp only [List.getElem?_map, k1, Option.map_some], k2⟩
            split
            · cases k with
              | zero => exact .inr (.inl ⟨rfl, rfl⟩)
              | succ k =>
                rcases hm k with h | h
                · exact .inl (by simpa using h)
                · exact .inr (.inr (by simpa using h))
            · rcases hm k with h | h
              · exact .inl (by simpa using h)
              · exact .inr (.inr (by simpa using h))
          generalize hCA : ((if Ao.isEmpty then [none] else []) ++ (Ao ++ An).map some : List (Option MapEntry)) = CA at h hcl hget3
          -- what the model does with a choice
          have hrun : ∀ (k : Nat) (w2 : World), (choose (.mapNext ((if Bo.isEmpty then [none] else []) ++ (Bo ++ Bn).map some : List (Option MapEntry)).length)).run P w = .ok k w2 → w2.heap = w.heap →
              (∀ e', ((if Bo.isEmpty then [none] else []) ++ (Bo ++ Bn).map some : List (Option MapEntry))[k]? = some (some e') →
                (Instr.next (.pointer (some ⟨L.b, 0, none⟩)) false ty).run P w = .ok (.tuple #[.bool true, e'.key, e'.val]) (w2.upd L.b (.mapIter (some M.b) since (seen.toArray.push e'.born) clock))) ∧
              (((if Bo.isEmpty then [none] else []) ++ (Bo ++ Bn).map some : List (Option MapEntry))[k]? = some none →
                (Instr.next (.pointer (some ⟨L.b, 0, none⟩)) false ty).run P w = .ok (.tuple #[.bool false]) w2) := by
            intro k w2 hch hheap
            have hcond : ¬ ((!seen.toArray.isEmpty && !es'.isEmpty && es'.all (fun x => decide (x.born ≥ last))) = true) := by
              intro hc
              apply hno
              have h1 : es'.isEmpty = es.isEmpty := by rw [← he.isEmpty]; simp
              have h2 : es'.all (fun x => decide (x.born ≥ last)) = es.all (fun x => decide (x.born ≥ last)) := by
                rw [← Array.all_toList]
                exact he.all (fun b => decide (b ≥ last))
              rw [h1, h2] at hc
              simpa using hc
            have hcand : ((if (Array.filter (fun x => decide (x.born < since)) (Array.filter (fun e => !seen.toArray.contains e.born) es')).isEmpty then #[none] else #[]) ++
                Array.map some (Array.filter (fun x => decide (x.born < since)) (Array.filter (fun e => !seen.toArray.contains e.born) es') ++ Array.filter (fun x => decide (x.born ≥ since)) (Array.filter (fun e => !seen.toArray.contains e.born) es')) : Array (Option MapEntry)) =
                ((if Bo.isEmpty then [none] else []) ++ (Bo ++ Bn).map some : List (Option MapEntry)).toArray := by
              apply Array.ext'
              have hf1 : (Array.filter (fun e => !seen.toArray.contains e.born) es').toList = B := by
                rw [Array.toList_filter, ← hB]
                congr 1
                funext e
                simp
              have hf2 : (Array.filter (fun x => decide (x.born < since)) (Array.filter (fun e => !seen.toArray.contains e.born) es')).toList = Bo := by
                rw [Array.toList_filter, hf1, hBo]
              have hf3 : (Array.filter (fun x => decide (x.born ≥ since)) (Array.filter (fun e => !seen.toArray.contains e.born) es')).toList = Bn := by
                rw [Array.toList_filter, hf1, hBn]
              have hf4 : (Array.filter (fun x => decide (x.born < since)) (Array.filter (fun e => !seen.toArray.contains e.born) es')).isEmpty = Bo.isEmpty := by
                rw [← hf2]
                exact isEmpty_toList _
              rw [Array.toList_append, Array.toList_map, Array.toList_append, hf2, hf3, hf4]
              split <;> simp
            simp only [Instr.next, Sem.run_bind, hget, Result.andThen_ok, hget2, Sem.run_ite]
            rw [if_neg hcond]
            rw [hcand]
            simp only [List.size_toArray, hch, Result.andThen_ok, List.getElem?_toArray]
            constructor
            · intro e' he'
              rw [he']
              have hb3 : w2.heap[L.b]? = some (.mapIter (some M.b) since seen.toArray last) := by rw [hheap]; exact hb
              simp only [Sem.run_bind, run_setObj hb3 (by simp), Result.andThen_ok]
              rfl
            · intro he'
              rw [he']
              rfl
          have fin : ∀ (k : Nat) (w2 : World), (choose (.mapNext ((if Bo.isEmpty then [none] else []) ++ (Bo ++ Bn).map some : List (Option MapEntry)).length)).run P w = .ok k w2 → w2.heap = w.heap → Rel P prot w0 r S w2 →
              (match CA[k]? with
                | some (some e) => (T.ret (.tuple #[.bool true, e.key, e.val], S.put n (.miter (some m) since (seen ++ [e.born]) clock)) : T (Value × AS))
                | some none => .ret (.tuple #[.bool false], S)
                | none => .fail).all Q → Sim P prot w0 r S w fr (do let a ← Instr.next (ev' x) false ty; pure (Next.value a)) Q := by
            intro k w2 hch hheap hR2 hq
            obtain ⟨r1, r2⟩ := hrun k w2 hch hheap
            rw [e1]
            rcases hget3 k with h | ⟨h1, h2⟩ | ⟨e, e', h1, h2, h3⟩
            · rw [h] at hq; exact hq.elim
            · rw [h1] at hq
              exact Sim.val1 (r2 h2) (by simpa using VR.tuple_of (P := P) (r := r) (LR.cons (.bool false) .nil)) hR2 rfl hq
            · rw [h1] at hq
              refine Sim.val1 (r1 e' h2) (by simpa using VR.tuple_of (LR.cons (.bool true) (LR.cons h3.1 (LR.cons h3.2.1 .nil)))) (hR2.upd (o' := .miter (some m) since (seen ++ [e.born]) clock) hs rfl hL ?_ rfl) rfl hq
              simp only [ObjR]
              refine ⟨hL0, trivial, by rw [h3.2.2]; simp, trivial, M, hM, hM0, rfl⟩
          split at h
          · rename_i hle
            rw [hcl] at hle
            exact fin 0 w (run_next_one hle) rfl hR h
          · rename_i hgt
            rw [hcl] at hgt h
            exact fin _ w.drew (run_next_many hgt) rfl hR.drew (h _ (Nat.mod_lt _ (by omega)))
      · exact h.elim
    · exact h.elim
  · exact h.elim

theorem bytesOf_run {l : List Value} {bs : List UInt8} (h : bytesOfV l = some bs) (F : Value → ByteArray → Sem (ForInStep ByteArray)) (hF : ∀ n s, F (.int .u8 n) s = pure (ForInStep.yield (s.push (UInt8.ofNat n.toNat)))) : ∀ (s : ByteArray),
    (forIn l s F).run P w = .ok ⟨(s.data.toList ++ bs).toArray⟩ w := by
  induction l generalizing bs with
  | nil => intro s; simp [bytesOfV] at h; subst h; simp
  | cons c l ih =>
    intro s
    match c, h with
    | .int .u8 n, h =>
      simp only [bytesOfV, Option.map_eq_some_iff] at h
      obtain ⟨bs', h1, rfl⟩ := h
      simp only [List.forIn_cons, Sem.run_bind, hF, Sem.run_pure, Result.andThen_ok]
      rw [ih h1]
      simp [ByteArray.push]
    | .int .i8 _, h | .int .i16 _, h | .int .i32 _, h | .int .i64 _, h | .int .u16 _, h | .int .u32 _, h | .int .u64 _, h => simp [bytesOfV] at h
    | .bool _, h | .string _, h | .float .., h | .complex .., h | .pointer .., h | .slice .., h | .map .., h | .chan .., h | .func .., h | .nilFunc, h | .iface .., h | .nilIface, h | .agg .., h | .tuple .., h => simp [bytesOfV] at h

theorem bytesOf_LR : ∀ {l l' : List Value} {bs : List UInt8}, bytesOfV l = some bs → LR P r l l' → l' = l
  | [], l', bs, _, h => h.nil_inv
  | c :: l, l', bs, hb, h => by
    obtain ⟨c', m, rfl, h1, h2⟩ := h.cons_inv
    match c, hb with
    | .int .u8 n, hb =>
      simp only [bytesOfV, Option.map_eq_some_iff] at hb
      obtain ⟨bs', h3, _⟩ := hb
      rw [h1.int_inv, bytesOf_LR h3 h2]
    | .int .i8 _, h | .int .i16 _, h | .int .i32 _, h | .int .i64 _, h | .int .u16 _, h | .int .u32 _, h | .int .u64 _, h => simp [bytesOfV] at h
    | .bool _, h | .string _, h | .float .., h | .complex .., h | .pointer .., h | .slice .., h | .map .., h | .chan .., h | .func .., h | .nilFunc, h | .iface .., h | .nilIface, h | .agg .., h | .tuple .., h => simp [bytesOfV] at h

theorem sim_b2s {src dst e : TypeId} (hs : P.underlying src = some (.slice e)) (hd : P.underlying dst = some .string) (he : P.underlying e = some (.int .u8)) {x : Operand} (hx : VR P r (ev x) (ev' x)) (hR : Rel P prot w0 r S w)
    (h : ((I.b2s x).eval ev fr S).all Q) : Sim P prot w0 r S w fr (do let a ← Go.convert src dst (ev' x); pure (Next.value a)) Q := by
  simp only [I.eval] at h
  split at h
  · rename_i n cs a len cap hsrc hxs
    obtain ⟨v, hv, hQ⟩ := val_all h
    simp only [Option.map_eq_some_iff] at hv
    obtain ⟨bs, hbs, rfl⟩ := hv
    obtain ⟨k1, k2, k3⟩ := src_run hsrc hx hR
    obtain ⟨ys', p1, p2⟩ := k3 n (Nat.le_refl _)
    rw [List.take_of_length_le (by omega)] at p2
    have heq := bytesOf_LR hbs p2
    refine Sim.value (v' := .string ⟨bs.toArray⟩) hR ?_ (.str _) hQ
    rw [hxs] at hx
    cases a with
    | none =>
      obtain ⟨e1, rfl, rfl⟩ := hx.sliceNil_inv
      rw [e1] at k1 p1 ⊢
      have hn0 : cs = [] := by
        rw [hxs] at hsrc
        simp [srcCells] at hsrc
        exact hsrc.2
      subst hn0
      simp [bytesOfV] at hbs; subst hbs
      simp [Go.convert, run_und hs, run_und hd, run_und he, Conv.bytesToString]
      rfl
    | some a =>
      cases hva : ev' x with
      | slice a' n' c' =>
        rw [hva] at hx k1 p1
        cases hx with
        | slice m o L a4 a5 a6 a7 hL hc hl hxx =>
          simp only [lenOf_slice, Result.ok.injEq] at k1
          obtain ⟨rfl, _⟩ := k1
          simp only [Builtin.firstCells, Nat.mul_one] at p1
          simp only [Go.convert, Sem.run_bind, run_und hs, run_und hd, run_und he, Result.andThen_ok, Conv.bytesToString, p1]
          rw [← Array.forIn_toList, heq]
          rw [bytesOf_run (P := P) (w := w) hbs _ (fun _ _ => rfl) ByteArray.empty]
          simp
        | slice0 a0 a1 ha0 =>
          simp only [lenOf_slice, Result.ok.injEq] at k1
          obtain ⟨rfl, _⟩ := k1
          simp only [Builtin.firstCells, Nat.mul_one] at p1
          simp only [Go.convert, Sem.run_bind, run_und hs, run_und hd, run_und he, Result.andThen_ok, Conv.bytesToString, p1]
          rw [← Array.forIn_toList, heq]
          rw [bytesOf_run (P := P) (w := w) hbs _ (fun _ _ => rfl) ByteArray.empty]
          simp
      | _ => rw [hva] at hx; cases hx
  · exact h.elim
end
end Go.Gx

/-
  Every operation that is no call: the abstract machine and the model agree.
-/
namespace Go.Gx

section
variable {P : Program} {prot : Nat → Option Obj} {w0 : World} {r : Rho} {S : AS} {w : World} {ev ev' : Operand → Value} {fr : Nat} {Q : Value × AS → Prop}

theorem evalPure {i : I} (h : i.cls = .pure) : (∃ v, i.eval ev fr S = .ret (v, S)) ∨ i.eval ev fr S = .fail := by
  have hv : ∀ o : Option Value, (∃ v, (T.ofOption (o.map fun v => (v, S)) : T (Value × AS)) = .ret (v, S)) ∨ (T.ofOption (o.map fun v => (v, S)) : T (Value × AS)) = .fail := by
    intro o; cases o
    · exact .inr rfl
    · exact .inl ⟨_, rfl⟩
  cases i <;> first
    | (simp [I.cls] at h; done)
    | skip
  case idxA arr esz x i =>
    cases arr <;> simp only [I.eval]
    · split
      · split
        · exact .inl ⟨_, rfl⟩
        · exact .inr rfl
      · exact .inr rfl
    · split
      · split
        · exact .inl ⟨_, rfl⟩
        · exact .inr rfl
      · exact .inr rfl
  all_goals
    simp only [I.eval]
    repeat' split
    all_goals first
      | exact hv _
      | exact .inl ⟨_, rfl⟩
      | exact .inr rfl

theorem opArgs0 {args : Array Operand} {x : Operand} {l : List Operand} (h : args.toList = x :: l) : (args.map ev')[0]? = some (ev' x) := by
  have : args[0]? = some x := by rw [← Array.getElem?_toList, h]; rfl
  simp [this]
theorem opArgs1 {args : Array Operand} {x y : Operand} {l : List Operand} (h : args.toList = x :: y :: l) : (args.map ev')[1]? = some (ev' y) := by
  have : args[1]? = some y := by rw [← Array.getElem?_toList, h]; rfl
  simp [this]
theorem opTys0 {ts : Array TypeId} {x : TypeId} {l : List TypeId} (h : ts.toList = x :: l) : ts[0]? = some x := by
  rw [← Array.getElem?_toList, h]; rfl
theorem opTys1 {ts : Array TypeId} {x y : TypeId} {l : List TypeId} (h : ts.toList = x :: y :: l) : ts[1]? = some y := by
  rw [← Array.getElem?_toList, h]; rfl

set_option maxHeartbeats 1000000 in
theorem simAll (o : Oper) {i : I} (hc : comp1 P o.op = some i) (hops : o.op.operands.toList.all okO = true) (hv : ∀ x, okO x = true → VR P r (ev x) (ev' x))
    (hR : Rel P prot w0 r S w) (hfr : i.takes = true → r fr = none ∧ fr < S.next) (h : (i.eval ev fr S).all Q) : Sim P prot w0 r S w fr (execOp ev' o) Q := by
  by_cases hcls : i.cls = .pure
  · rcases evalPure (ev := ev) (fr := fr) (S := S) hcls with ⟨v, he⟩ | he
    · rw [he] at h
      obtain ⟨_, hg⟩ := simP (w := w) o hc hcls hops hv he
      exact Sim.of_gives hR hg h
    · rw [he] at h; exact h.elim
  · obtain ⟨dst, op, type, pos, after, guard⟩ := o
    simp only at hc hops
    have hx : ∀ x, x ∈ op.operands.toList → VR P r (ev x) (ev' x) := fun x hm => hv x (List.all_eq_true.1 hops x hm)
    cases op with
    | alloc t =>
      simp only [comp1] at hc
      cases e : zeroCellsOf P t with
      | none => rw [e] at hc; cases hc
      | some z => rw [e] at hc; cases hc; exact sim_alloc e hR (hfr rfl) h
    | box t x =>
      simp only [comp1, Option.some.injEq] at hc; subst hc
      exact sim_box (hx x (by simp [Op.operands])) hR (hfr rfl) h
    | buildSlice t n parts =>
      simp only [comp1] at hc
      split at hc
      · rename_i e hu
        split at hc
        · rename_i z m hz hm
          split at hc
          · rename_i hle
            cases hc
            have := sim_bslice hu hz hm hle (parts := parts.toList) (fun i x hmem => hx x (by simp [Op.operands]; exact ⟨i, by simpa using hmem⟩)) hR (hfr rfl) h
            have e2 : (parts.map fun (i, x) => (i, ev' x)) = (parts.toList.map fun (i, x) => (i, ev' x)).toArray := by
              apply Array.ext'; simp
            unfold Sim at this ⊢
            simp only [execOp]
            rw [e2]; exact this
          · cases hc
        · cases hc
      · cases hc
    | load t a =>
      simp only [comp1] at hc
      cases e : aggOf P t with
      | none => rw [e] at hc; cases hc
      | some g => rw [e] at hc; cases hc; exact sim_load e (hx a (by simp [Op.operands])) hR h
    | store t a x =>
      simp only [comp1] at hc
      cases e : szOf P t with
      | none => rw [e] at hc; cases hc
      | some n => rw [e] at hc; cases hc; exact sim_store e (hx a (by simp [Op.operands])) (hx x (by simp [Op.operands])) hR h
    | makeMap t x =>
      cases x <;> simp only [comp1, Option.some.injEq] at hc
      · subst hc; exact sim_mkmap hR (hfr rfl) h
      · cases hc
    | makeSlice t l c =>
      simp only [comp1] at hc
      split at hc
      · rename_i e hu
        split at hc
        · rename_i i0 z hi hz
          cases hc
          exact sim_mksl hu hz hi (hx l (by simp [Op.operands])) (hx c (by simp [Op.operands])) hR (hfr rfl) h
        · cases hc
      · cases hc
    | slice t x lo hi mx =>
      simp only [comp1, compSlice] at hc
      split at hc
      · cases e : szOf P _ with
        | none => rw [e] at hc; cases hc
        | some z => rw [e] at hc; cases hc; exact absurd rfl hcls
      · rename_i e hu
        cases hz : szOf P e with
        | none => rw [hz] at hc; cases hc
        | some z =>
          rw [hz] at hc; cases hc
          exact sim_slc hu hz (hx x (by simp [Op.operands])) (fun y hy => hx y (by rcases hy with rfl | rfl | rfl <;> simp [Op.operands])) hR h
      · split at hc
        · cases hc; exact absurd rfl hcls
        · cases hc
      · split at hc
        · cases e : szOf P _ with
          | none => rw [e] at hc; cases hc
          | some z => rw [e] at hc; cases hc; exact absurd rfl hcls
        · cases hc
      · cases hc
    | lookup t x k ok =>
      simp only [comp1] at hc
      split at hc
      · rename_i kt e hu
        split at hc
        · rename_i ks agg z hk hz
          cases hc
          exact sim_look hu hk hz (hx x (by simp [Op.operands])) (hx k (by simp [Op.operands])) hR h
        · cases hc
      · cases hc
    | insert t m k u =>
      simp only [comp1] at hc
      split at hc
      · rename_i kt e hu
        cases hk : keyOf P kt with
        | none => rw [hk] at hc; cases hc
        | some q =>
          obtain ⟨ks, agg⟩ := q
          rw [hk] at hc; cases hc
          exact sim_mset hu hk (hx m (by simp [Op.operands])) (hx k (by simp [Op.operands])) (hx u (by simp [Op.operands])) hR h
      · cases hc
    | mapUpdate t m k u =>
      simp only [comp1] at hc
      split at hc
      · rename_i kt e hu
        cases hk : keyOf P kt with
        | none => rw [hk] at hc; cases hc
        | some q =>
          obtain ⟨ks, agg⟩ := q
          rw [hk] at hc; cases hc
          exact sim_mset hu hk (hx m (by simp [Op.operands])) (hx k (by simp [Op.operands])) (hx u (by simp [Op.operands])) hR h
      · cases hc
    | mapEntry t m k =>
      simp only [comp1] at hc
      split at hc
      · rename_i kt e hu
        split at hc
        · rename_i ks agg z hk hz
          cases hc
          exact sim_ment hu hk hz (hx m (by simp [Op.operands])) (hx k (by simp [Op.operands])) hR h
        · cases hc
      · cases hc
    | entryStore t m s u =>
      simp only [comp1, Option.some.injEq] at hc; subst hc
      exact sim_estore (hx m (by simp [Op.operands])) (hx s (by simp [Op.operands])) (hx u (by simp [Op.operands])) hR h
    | range t x =>
      simp only [comp1] at hc
      split at hc
      · rename_i hu; cases hc; exact sim_rngs hu (hx x (by simp [Op.operands])) hR (hfr rfl) h
      · rename_i kt e hu; cases hc; exact sim_rngm hu (hx x (by simp [Op.operands])) hR (hfr rfl) h
      · cases hc
    | next it b =>
      simp only [comp1, Option.some.injEq] at hc; subst hc
      cases b
      · exact sim_nxtm (hx it (by simp [Op.operands])) hR h
      · exact sim_nxts (hx it (by simp [Op.operands])) hR h
    | entry it =>
      simp only [comp1, Option.some.injEq] at hc; subst hc
      exact sim_entry (hx it (by simp [Op.operands])) hR h
    | convert src dst' x =>
      simp only [comp1] at hc
      unfold compConv at hc
      split at hc
      · cases hc; exact absurd rfl hcls
      · cases hc; exact absurd rfl hcls
      · rename_i e hs hd
        split at hc
        · rename_i hb
          cases hc
          unfold isByte at hb
          split at hb
          · rename_i h1 h2; exact sim_s2b hs hd h1 (szOf_cells h2) (hx x (by simp [Op.operands])) hR (hfr rfl) h
          · cases hb
        · cases hc
      · rename_i e hs hd
        split at hc
        · rename_i hb
          cases hc
          unfold isByte at hb
          split at hb
          · rename_i h1 h2; exact sim_b2s hs hd h1 (hx x (by simp [Op.operands])) hR h
          · cases hb
        · cases hc
      · rename_i e1 e hs hd
        split at hc
        · rename_i hb
          cases hc
          rw [Bool.and_eq_true] at hb
          have hsd : src = dst' := by simpa using hb.1
          subst hsd
          have hb2 := hb.2
          unfold isByte at hb2
          split at hb2
          · rename_i h1 h2; exact sim_cvb hs hd h1 (hx x (by simp [Op.operands])) hR h
          · cases hb2
        · cases hc
      · cases hc
    | call c =>
      obtain ⟨callee, args, argTypes⟩ := c
      cases callee with
      | value f => simp only [comp1, Option.some.injEq] at hc; subst hc; exact h.elim
      | invoke f m => simp only [comp1] at hc; cases hc
      | builtin b =>
        simp only [comp1] at hc
        have hxa : ∀ x, x ∈ args.toList → VR P r (ev x) (ev' x) := fun x hm => hx x (by simp [Op.operands, Call.operands]; simpa using hm)
        have bi : ∀ {s : Sem Value}, (∀ cs, builtin b argTypes type cs (args.map ev') = (do let a ← s; pure (Next.value a))) → Sim P prot w0 r S w fr (do let a ← s; pure (Next.value a)) Q →
            Sim P prot w0 r S w fr (execOp ev' { dst, op := .call { callee := .builtin b, args, argTypes }, type, pos, after, guard }) Q := by
          intro s h1 h2
          have h3 : ∀ w, (execOp ev' { dst, op := .call { callee := .builtin b, args, argTypes }, type, pos, after, guard }).run P w = (do let a ← s; pure (Next.value a) : Sem Next).run P w := by
            intro w
            simp only [execOp, resolve, Sem.run_bind, Sem.run_pure, Result.andThen_ok, invoke, h1]
          unfold Sim at h2 ⊢
          simp only [h3]; exact h2
        unfold compBuiltin at hc
        split at hc
        · rename_i t l x hat har
          split at hc
          · cases hc; exact absurd rfl hcls
          · cases hc; exact absurd rfl hcls
          · cases hc; exact absurd rfl hcls
          · split at hc
            · cases hc; exact absurd rfl hcls
            · cases hc
          · rename_i kt e hu
            cases hc
            exact bi (fun _ => rfl) (sim_mlen hu (opTys0 hat) (hxa x (by rw [har]; simp)) hR h (opArgs0 har))
          · cases hc
        · rename_i t u x y hat har
          have ax := hxa x (by rw [har]; simp)
          have ay := hxa y (by rw [har]; simp)
          split at hc
          · rename_i e d hu hu2
            split at hc
            · rename_i i0 z hi hz
              cases hc
              exact bi (fun _ => rfl) (sim_app hu (.inl ⟨_, hu2⟩) hz hi ax ay hR (hfr rfl) h (opTys0 hat) (opTys1 hat) (opArgs0 har) (opArgs1 har))
            · cases hc
          · rename_i e hu hu2
            split at hc
            · rename_i i0 z hi hz
              cases hc
              exact bi (fun _ => rfl) (sim_app hu (.inr hu2) hz hi ax ay hR (hfr rfl) h (opTys0 hat) (opTys1 hat) (opArgs0 har) (opArgs1 har))
            · cases hc
          · cases hc
        · rename_i t l x y hat har
          split at hc
          · rename_i e hu
            cases hz : szOf P e with
            | none => rw [hz] at hc; cases hc
            | some z =>
              rw [hz] at hc; cases hc
              exact bi (fun _ => rfl) (sim_cpy hu hz (hxa x (by rw [har]; simp)) (hxa y (by rw [har]; simp)) hR h (opTys0 hat) (opArgs0 har) (opArgs1 har))
          · cases hc
        · rename_i t l x hat har
          split at hc
          · rename_i e hu
            cases hz : zeroCellsOf P e with
            | none => rw [hz] at hc; cases hc
            | some z =>
              rw [hz] at hc; cases hc
              exact bi (fun _ => rfl) (sim_clrs hu hz (hxa x (by rw [har]; simp)) hR h (opTys0 hat) (opArgs0 har))
          · rename_i kt e hu
            cases hc
            exact bi (fun _ => rfl) (sim_clrm hu (hxa x (by rw [har]; simp)) hR h (opTys0 hat) (opArgs0 har))
          · cases hc
        · rename_i t l m k hat har
          split at hc
          · rename_i kt e hu
            cases hk : keyOf P kt with
            | none => rw [hk] at hc; cases hc
            | some q =>
              obtain ⟨ks, agg⟩ := q
              rw [hk] at hc; cases hc
              exact bi (fun _ => rfl) (sim_del hu hk (hxa m (by rw [har]; simp)) (hxa k (by rw [har]; simp)) hR h (opTys0 hat) (opArgs0 har) (opArgs1 har))
          · cases hc
        · cases hc; exact absurd rfl hcls
        · cases hc; exact absurd rfl hcls
        · cases hc; exact h.elim
        · cases hc; exact h.elim
        · cases hc
    | panic x => simp only [comp1, Option.some.injEq] at hc; subst hc; exact h.elim
    | defer c =>
      obtain ⟨callee, args, argTypes⟩ := c
      cases callee <;> simp only [comp1, Option.some.injEq] at hc
      · subst hc; exact h.elim
      · cases hc
      · cases hc
    | move x => simp only [comp1, Option.some.injEq] at hc; subst hc; exact absurd rfl hcls
    | assign x => simp only [comp1, Option.some.injEq] at hc; subst hc; exact absurd rfl hcls
    | pick c a b => simp only [comp1, Option.some.injEq] at hc; subst hc; exact absurd rfl hcls
    | binOp bop t x y t2 =>
      exfalso
      simp only [comp1] at hc
      unfold compBin at hc
      have hb : ∀ (nk : NK), ((isEqOp bop).bind fun neg => if isC x || isC y then some (I.eqn nk neg x y) else none) = some i → False := by
        intro nk hc
        simp only [Option.bind_eq_some_iff] at hc
        obtain ⟨neg, ho, hc⟩ := hc
        split at hc
        · cases hc; exact hcls rfl
        · cases hc
      split at hc
      · cases hc; exact hcls rfl
      · cases hc; exact hcls rfl
      · split at hc
        · cases hc; exact hcls rfl
        · cases hc
      · split at hc
        · cases hc; exact hcls rfl
        · cases hc
      · split at hc
        · cases hc; exact hcls rfl
        · cases hc
      · exact hb _ hc
      · exact hb _ hc
      · exact hb _ hc
      · exact hb _ hc
      · exact hb _ hc
      · cases hc
    | unOp uop t x => simp only [comp1, Option.some.injEq] at hc; subst hc; exact absurd rfl hcls
    | makeInterface t x =>
      simp only [comp1] at hc
      split at hc
      · cases hc
      · cases hc
      · cases hc; exact absurd rfl hcls
    | makeFunc fn first captured =>
      cases fn <;> simp only [comp1, Option.some.injEq] at hc <;> first
        | (cases hc; done)
        | (subst hc; exact absurd rfl hcls)
    | build t parts =>
      exfalso
      simp only [comp1] at hc
      unfold compBuild at hc
      split at hc
      · split at hc
        · cases e : fieldParts P _ parts.toList with
          | none => rw [e] at hc; cases hc
          | some q => rw [e] at hc; cases hc; exact hcls rfl
        · cases hc
      · cases e : szOf P _ with
        | none => rw [e] at hc; cases hc
        | some q => rw [e] at hc; cases hc; exact hcls rfl
      · cases hc
    | field t x k =>
      simp only [comp1] at hc
      split at hc
      · split at hc
        · cases e : aggOf P _ with
          | none => rw [e] at hc; cases hc
          | some g => rw [e] at hc; cases hc; exact absurd rfl hcls
        · cases hc
      · cases hc
    | fieldAddr t x k =>
      simp only [comp1] at hc
      split at hc
      · split at hc
        · split at hc
          · split at hc <;> cases hc; exact absurd rfl hcls
          · cases hc
        · cases hc
      · cases hc
    | indexAddr t x j =>
      simp only [comp1] at hc
      split at hc
      · cases e : szOf P _ with
        | none => rw [e] at hc; cases hc
        | some g => rw [e] at hc; cases hc; exact absurd rfl hcls
      · cases e : szOf P _ with
        | none => rw [e] at hc; cases hc
        | some g => rw [e] at hc; cases hc; exact absurd rfl hcls
      · cases hc
    | index t x j =>
      simp only [comp1] at hc
      split at hc
      · split at hc <;> cases hc; exact absurd rfl hcls
      · cases hc; exact absurd rfl hcls
      · cases hc
    | nilCheck x => simp only [comp1, Option.some.injEq] at hc; subst hc; exact absurd rfl hcls
    | typeAssert x xt t ok =>
      simp only [comp1] at hc
      split at hc
      · cases hc
      · cases hc
      · cases ok with
        | true =>
          simp only [if_true] at hc
          cases e : zeroOf P t with
          | none => rw [e] at hc; cases hc
          | some z => rw [e] at hc; cases hc; exact absurd rfl hcls
        | false =>
          simp only [Bool.false_eq_true, if_false, Option.some.injEq] at hc
          subst hc; exact absurd rfl hcls
    | extract x k => simp only [comp1, Option.some.injEq] at hc; subst hc; exact absurd rfl hcls
    | ready g => cases hc
    | waits g => cases hc
    | sliceToArrayPointer t x => cases hc
    | makeChan t x => cases hc
    | go c => cases hc
    | send a b => cases hc
    | recv a b c => cases hc
    | select a b => cases hc
end
end Go.Gx
