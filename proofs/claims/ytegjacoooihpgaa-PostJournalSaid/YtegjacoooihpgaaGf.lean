/-
  Arguments: what is read becomes rows that may not be written.
-/
import Derived.Test.YtegjacoooihpgaaGd
import GoSem.ClaimChange
import Derived.Test.YtegjacoooihpgaaGe
import Derived.Below
import Derived.ProofKit
import Derived.SizedLaws

set_option linter.all false
set_option linter.deprecated false
set_option linter.unusedSimpArgs false
set_option linter.unusedVariables false

namespace Go.Gx

/-- a slice of nothing, somewhere -/
def zsl : Value := .slice (some ⟨0, 0, some 0⟩) 0 0

/-- cells of a type, in an abstract memory -/
def Ty (P : Program) (S : AS) : Nat → TypeId → List Value → Prop
  | 0, _, _ => False
  | f + 1, t, cs => match P.underlying t with
    | some .bool => ∃ b, cs = [.bool b]
    | some (.int k) => ∃ n, cs = [.int k n] ∧ (Lit.int k n).wf = true
    | some .string => ∃ s, cs = [.string s] ∧ s.size ≤ maxLen
    | some (.slice e) => cs = [.slice none 0 0] ∨ cs = [zsl] ∨ ∃ n len cap cells et, cs = [.slice (some ⟨n, 0, none⟩) len cap] ∧ S.get n = some (.row cells et false true) ∧ len ≤ cap ∧ cap ≤ maxLen ∧ 0 < cap ∧
        cells.length = cap * P.cellsOf e ∧ ∀ i, i < cap → Ty P S f e ((cells.drop (i * P.cellsOf e)).take (P.cellsOf e))
    | some (.struct fs) => cs.length = P.cellsOf t ∧ ∀ x ∈ fs.toList, Ty P S f x.type ((cs.drop x.offset).take (P.cellsOf x.type))
    | some (.array n e) => cs.length = P.cellsOf t ∧ ∀ i, i < n → Ty P S f e ((cs.drop (i * P.cellsOf e)).take (P.cellsOf e))
    | _ => False

def ASle (S U : AS) : Prop := S.next ≤ U.next ∧ ∀ n o, S.get n = some o → o ≠ .dead → U.get n = some o
theorem ASle.refl (S : AS) : ASle S S := ⟨Nat.le_refl _, fun _ _ h _ => h⟩
theorem ASle.trans {S U V : AS} (h : ASle S U) (k : ASle U V) : ASle S V := ⟨Nat.le_trans h.1 k.1, fun n o e hd => k.2 n o (h.2 n o e hd) hd⟩

theorem Ty.mono {P : Program} {S U : AS} (h : ASle S U) : ∀ (f : Nat) (t : TypeId) (cs : List Value), Ty P S f t cs → Ty P U f t cs
  | 0, _, _, hh => hh.elim
  | f + 1, t, cs, hh => by
    unfold Ty at hh ⊢
    split at hh
    · exact hh
    · exact hh
    · exact hh
    · rcases hh with hh | hh | ⟨n, len, cap, cells, et, h1, h2, h3, h4, h5, h6, h7⟩
      · exact .inl hh
      · exact .inr (.inl hh)
      · exact .inr (.inr ⟨n, len, cap, cells, et, h1, h.2 _ _ h2 (by simp), h3, h4, h5, h6, fun i hi => Ty.mono h f _ _ (h7 i hi)⟩)
    · exact ⟨hh.1, fun x hx => Ty.mono h f _ _ (hh.2 x hx)⟩
    · exact ⟨hh.1, fun i hi => Ty.mono h f _ _ (hh.2 i hi)⟩
    · exact hh

/-! ## which types -/
def offOf (P : Program) (ts : List TypeId) (i : Nat) : Nat := ((ts.take i).map P.cellsOf).sum

def fieldsOK (P : Program) : List Field → Nat → Bool
  | [], _ => true
  | f :: fs, off => f.offset == off && fieldsOK P fs (off + P.cellsOf f.type)

def tyOK (P : Program) : Nat → TypeId → Bool
  | 0, _ => false
  | d + 1, t => match P.underlying t with
    | some .bool | some (.int _) | some .string => P.cellsOf t == 1
    | some (.slice e) => P.cellsOf t == 1 && decide (0 < P.cellsOf e) && tyOK P d e
    | some (.struct fs) => fieldsOK P fs.toList 0 && P.cellsOf t == (fs.toList.map fun f => P.cellsOf f.type).sum && fs.toList.all fun f => tyOK P d f.type
    | some (.array n e) => P.cellsOf t == n * P.cellsOf e && tyOK P d e
    | _ => false

section
variable {P : Program} {prot : Nat → Option Obj} {w0 : World} {r : Rho} {S : AS} {w : World}

/-- a row that may not be written -/
theorem Rel.ro_add (h : Rel P prot w0 r S w) {b off : Nat} {c : Array Value} {e : TypeId} {fz : Nat × Nat} {cells : List Value} (hb : w.heap[b]? = some (.cells c e fz)) (hlt : b < w0.heap.size)
    (hsz : off + cells.length ≤ c.size) (hl : LR P r cells ((c.toList.drop off).take cells.length)) :
    Rel P prot w0 (r.add S.next ⟨b, off, cells.length, off + cells.length, e⟩) ((S.bump 1).put S.next (.row cells e false true)) w := by
  have hn := h.fresh S.next (Nat.le_refl _)
  have hle := Rho.le_add (⟨b, off, cells.length, off + cells.length, e⟩ : Loc) hn
  have hdead : ∀ p, S.get S.next = some p → p = .dead := fun p hp => by
    rcases h.live _ p hp with e | ⟨M, _, hM, _⟩
    · exact e
    · rw [hn] at hM; cases hM
  refine ⟨h.os, h.tape, h.output, h.size, ?_, ?_, ?_, ?_, ?_⟩
  · intro m p hm
    rw [AS.get_put] at hm
    split at hm
    · rename_i e1; subst e1; cases hm
      refine .inr ⟨_, _, Rho.add_self _ _ _, hb, ?_⟩
      refine ⟨rfl, rfl, rfl, Nat.le_refl _, hsz, fun _ => rfl, fun h => (by cases h), ?_⟩
      intro i v hi
      have hil : i < cells.length := (List.getElem?_eq_some_iff.1 hi).1
      obtain ⟨v', hv', hvv⟩ := hl.get? hi
      refine ⟨v', ?_, hvv.mono hle⟩
      rw [List.getElem?_take_of_lt hil, List.getElem?_drop] at hv'
      simpa using hv'
    · rcases h.live m p hm with e' | ⟨M, q, hM, hq, hpq⟩
      · exact .inl e'
      · exact .inr ⟨M, q, hle _ _ hM, hq, hpq.mono hle⟩
  · intro x y p q M N hx hy ho1 ho2 hxy hM hN
    rw [AS.get_put] at hx hy
    split at hx
    · cases hx; cases ho1
    · rename_i e1
      rw [Rho.add_ne _ _ e1] at hM
      split at hy
      · rename_i e2; subst e2; cases hy
        rw [Rho.add_self] at hN; cases hN
        have := (h.ro x p M hx (by rintro rfl; cases ho1) hM).1 ho1
        show M.b ≠ b
        omega
      · rename_i e2
        rw [Rho.add_ne _ _ e2] at hN
        exact h.uniq x y p q M N hx hy ho1 ho2 hxy hM hN
  · intro m hm
    simp at hm
    rw [Rho.add_ne _ _ (by omega)]
    exact h.fresh m (by omega)
  · intro m p M hm hp hM
    rw [AS.get_put] at hm
    split at hm
    · rename_i e1; subst e1; cases hm
      rw [Rho.add_self] at hM; cases hM
      exact ⟨fun h => (by cases h), fun _ => hlt⟩
    · rename_i e1
      rw [Rho.add_ne _ _ e1] at hM
      exact h.ro m p M hm hp hM
  · intro B obj hp
    obtain ⟨h1, h2⟩ := h.prot B obj hp
    refine ⟨h1, fun m p M hm ho1 hM => ?_⟩
    rw [AS.get_put] at hm
    split at hm
    · cases hm; cases ho1
    · rename_i e1
      rw [Rho.add_ne _ _ e1] at hM
      exact h2 m p M hm ho1 hM

theorem ASle.ro (h : Rel P prot w0 r S w) (o : AObj) : ASle S ((S.bump 1).put S.next o) :=
  ⟨by simp, fun n p hp hd => by
    rw [AS.get_put]
    split
    · rename_i e; subst e
      rcases h.live _ p hp with e | ⟨M, _, hM, _⟩
      · exact absurd e hd
      · rw [h.fresh _ (Nat.le_refl _)] at hM; cases hM
    · exact hp⟩

theorem mapM_range {α : Type} {f : Nat → Option α} : ∀ {n : Nat} {l : List α}, (List.range n).mapM f = some l → l.length = n ∧ ∀ i, i < n → ∃ x, f i = some x ∧ l[i]? = some x := by
  intro n l h
  have key : ∀ (k s : Nat) (l : List α), (List.range' s k).mapM f = some l → l.length = k ∧ ∀ i, i < k → ∃ x, f (s + i) = some x ∧ l[i]? = some x := by
    intro k
    induction k with
    | zero => intro s l h; simp at h; subst h; exact ⟨rfl, fun i hi => absurd hi (Nat.not_lt_zero _)⟩
    | succ k ih =>
      intro s l h
      rw [List.range'_succ] at h
      obtain ⟨y, ys, h1, h2, rfl⟩ := mapM_cons_some h
      obtain ⟨g1, g2⟩ := ih (s + 1) ys h2
      refine ⟨by simp [g1], fun i hi => ?_⟩
      cases i with
      | zero => exact ⟨y, h1, rfl⟩
      | succ i =>
        obtain ⟨x, q1, q2⟩ := g2 i (by omega)
        exact ⟨x, by rw [← q1]; congr 1; omega, by simpa using q2⟩
  rw [List.range_eq_range'] at h
  obtain ⟨h1, h2⟩ := key n 0 l h
  exact ⟨h1, fun i hi => by simpa using h2 i hi⟩

theorem mapM_list {α β : Type} {f : α → Option β} : ∀ {l : List α} {r : List β}, l.mapM f = some r → ∀ x ∈ l, ∃ y, f x = some y
  | [], _, _, _, h => by simp at h
  | a :: l, r, h, x, hx => by
    obtain ⟨y, ys, h1, h2, rfl⟩ := mapM_cons_some h
    rcases List.mem_cons.1 hx with rfl | hx
    · exact ⟨y, h1⟩
    · exact mapM_list h2 x hx

theorem cells?_some {b off n : Nat} {sp : Option Nat} {base : Nat} {cs : List Value} (h : w.cells? base ⟨b, off, sp⟩ n = some cs) (hn : 0 < n) (hsp : sp = none) :
    ∃ c e fz, w.heap[b]? = some (.cells c e fz) ∧ off + n ≤ c.size ∧ cs = (c.toList.drop off).take n := by
  subst hsp
  unfold World.cells? at h
  split at h
  · obtain ⟨h1, h2⟩ := mapM_range h
    obtain ⟨x0, q0, _⟩ := h2 0 hn
    have hblk : ∃ c e fz, w.heap[b]? = some (.cells c e fz) := by
      simp only [Addr.add, if_true] at q0
      unfold World.cell? at q0
      cases hb : w.heap[b]? with
      | none => simp [hb] at q0
      | some o =>
        cases o with
        | cells c e fz => exact ⟨c, e, fz, rfl⟩
        | _ => simp [hb] at q0
    obtain ⟨c, e, fz, hb⟩ := hblk
    have hcell : ∀ i, w.cell? (Addr.add ⟨b, off, none⟩ i) = c[off + i]? := by
      intro i
      have : Addr.add ⟨b, off, none⟩ i = ⟨b, off + i, none⟩ := add_none _ _ _
      rw [this]
      unfold World.cell?
      simp [hb]
    have hall : ∀ i, i < n → ∃ x, c[off + i]? = some x ∧ cs[i]? = some x := fun i hi => by
      obtain ⟨x, a, b⟩ := h2 i hi
      exact ⟨x, by rw [← hcell]; exact a, b⟩
    refine ⟨c, e, fz, hb, ?_, ?_⟩
    · obtain ⟨x, a, _⟩ := hall (n - 1) (by omega)
      have := (Array.getElem?_eq_some_iff.1 a).1
      omega
    · apply List.ext_getElem?
      intro i
      by_cases hi : i < n
      · obtain ⟨x, a, b⟩ := hall i hi
        rw [b, List.getElem?_take_of_lt hi, List.getElem?_drop]
        simpa using a.symm
      · rw [List.getElem?_eq_none (by omega), List.getElem?_eq_none (by simp; omega)]
  · cases h
end
end Go.Gx

/-
  Arguments: from the data read to an abstract memory.
-/
namespace Go.Gx

section
variable {P : Program} {prot : Nat → Option Obj} {W : World} {H : Type} {enc : TypeId × Value → H}

/-- what opening gives -/
def Opens (P : Program) (prot : Nat → Option Obj) (W : World) (r : Rho) (S : AS) (cs : List Value) (Q : AS → List Value → Prop) : Prop :=
  ∃ S' r' acs, Rel P prot W r' S' W ∧ r.le r' ∧ ASle S S' ∧ LR P r' acs cs ∧ Q S' acs

theorem offOf_zero (ts : List TypeId) : offOf P ts 0 = 0 := by simp [offOf]
theorem offOf_succ (t : TypeId) (ts : List TypeId) (i : Nat) : offOf P (t :: ts) (i + 1) = P.cellsOf t + offOf P ts i := by simp [offOf]

theorem pieces {d : Nat} (IH : ∀ (t : TypeId) (cs : List Value) (S : AS) (r : Rho), tyOK P d t = true → (∃ fuel x, DataW.trod enc P W 0 (fun _ => true) true fuel t cs = some x) → Rel P prot W r S W → Opens P prot W r S cs fun S' acs => Ty P S' d t acs) :
    ∀ (ts : List TypeId) (cs : List Value) (S : AS) (r : Rho), (∀ t ∈ ts, tyOK P d t = true) → cs.length = (ts.map P.cellsOf).sum →
      (∀ i t, ts[i]? = some t → ∃ fuel x, DataW.trod enc P W 0 (fun _ => true) true fuel t ((cs.drop (offOf P ts i)).take (P.cellsOf t)) = some x) → Rel P prot W r S W →
      Opens P prot W r S cs fun S' acs => ∀ i t, ts[i]? = some t → Ty P S' d t ((acs.drop (offOf P ts i)).take (P.cellsOf t))
  | [], cs, S, r, _, hlen, _, hR => by
    have : cs = [] := List.eq_nil_of_length_eq_zero (by simpa using hlen)
    subst this
    exact ⟨S, r, [], hR, .refl r, .refl S, .nil, fun i t h => by simp at h⟩
  | t :: ts, cs, S, r, hty, hlen, htr, hR => by
    simp only [List.map_cons, List.sum_cons] at hlen
    have h0 := htr 0 t rfl
    rw [offOf_zero, List.drop_zero] at h0
    obtain ⟨S1, r1, a0, g1, g2, g3, g4, g5⟩ := IH t _ S r (hty t (by simp)) h0 hR
    have ha0 : a0.length = P.cellsOf t := by rw [g4.1]; simp; omega
    obtain ⟨S2, r2, a1, k1, k2, k3, k4, k5⟩ := pieces IH ts (cs.drop (P.cellsOf t)) S1 r1 (fun u hu => hty u (by simp [hu])) (by simp; omega) (fun i u hi => by
      have := htr (i + 1) u (by simpa using hi)
      rw [offOf_succ, ← List.drop_drop] at this
      exact this) g1
    refine ⟨S2, r2, a0 ++ a1, k1, g2.trans k2, g3.trans k3, ?_, ?_⟩
    · have := (g4.mono k2).append k4
      rwa [List.take_append_drop] at this
    · intro i u hi
      cases i with
      | zero =>
        simp at hi; subst hi
        rw [offOf_zero, List.drop_zero, ← ha0, List.take_left]
        exact g5.mono k3
      | succ i =>
        simp at hi
        rw [offOf_succ, ← List.drop_drop, ← ha0, List.drop_left]
        exact k5 i u hi

theorem fields_off : ∀ (fs : List Field) (off : Nat), fieldsOK P fs off = true → ∀ (i : Nat) (f : Field), fs[i]? = some f → f.offset = off + offOf P (fs.map (·.type)) i
  | [], _, _, i, f, h => by simp at h
  | g :: fs, off, h, i, f, hi => by
    simp only [fieldsOK, Bool.and_eq_true, beq_iff_eq] at h
    cases i with
    | zero => simp at hi; subst hi; simp [offOf, h.1]
    | succ i =>
      simp at hi
      rw [List.map_cons, offOf_succ, fields_off fs _ h.2 i f hi]
      omega

theorem offOf_rep (e : TypeId) (n i : Nat) (hi : i ≤ n) : offOf P (List.replicate n e) i = i * P.cellsOf e := by
  simp [offOf, List.take_replicate, Nat.min_eq_left hi]

theorem rep_get {α : Type} {n i : Nat} {e u : α} (h : (List.replicate n e)[i]? = some u) : i < n ∧ e = u := by
  simp only [List.getElem?_replicate] at h
  split at h
  · cases h; exact ⟨by assumption, rfl⟩
  · cases h

theorem openSlice {d : Nat} (IH : ∀ (t : TypeId) (cs : List Value) (S : AS) (r : Rho), tyOK P d t = true → (∃ fuel x, DataW.trod enc P W 0 (fun _ => true) true fuel t cs = some x) → Rel P prot W r S W → Opens P prot W r S cs fun S' acs => Ty P S' d t acs)
    {t e : TypeId} (hu : P.underlying t = some (.slice e)) (hez : 0 < P.cellsOf e) (hte : tyOK P d e = true) {a : Addr} {len cap : Nat} (hlc : len ≤ cap) (hcm : cap ≤ maxLen) {fuel : Nat} {x : DataW H × List MemPlace} {S : AS} {r : Rho}
    (h : (((List.range len).mapM fun i => (W.cells? 0 (a.add (i * P.cellsOf e)) (P.cellsOf e)).bind (DataW.trod enc P W 0 (fun _ => true) true fuel e)).bind fun elems =>
          (if (true : Bool) = true then (List.range (cap - len)).mapM fun j => (W.cells? 0 (a.add ((len + j) * P.cellsOf e)) (P.cellsOf e)).bind (DataW.trod enc P W 0 (fun _ => true) true fuel e) else some []).map fun rest =>
            (DataW.slice (elems.map (·.1)) (rest.map (·.1)), MemPlace.row a ((elems.length + rest.length) * P.cellsOf e) ++ (elems ++ rest).flatMap (·.2))) = some x)
    (hR : Rel P prot W r S W) : Opens P prot W r S [.slice (some a) len cap] fun S' acs => Ty P S' (d + 1) t acs := by
  by_cases hc0 : cap = 0
  · subst hc0
    obtain rfl : len = 0 := by omega
    refine ⟨S, r, [zsl], hR, .refl r, .refl S, .cons (.slice0 _ _ rfl) .nil, ?_⟩
    unfold Ty
    rw [hu]
    exact .inr (.inl rfl)
  · simp only [Option.bind_eq_some_iff, Option.map_eq_some_iff, if_true] at h
    obtain ⟨elems, he, rest, hre, _⟩ := h
    obtain ⟨_, he⟩ := mapM_range he
    obtain ⟨_, hre⟩ := mapM_range hre
    have hall : ∀ i, i < cap → ∃ cs y, W.cells? 0 (a.add (i * P.cellsOf e)) (P.cellsOf e) = some cs ∧ DataW.trod enc P W 0 (fun _ => true) true fuel e cs = some y := by
      intro i hi
      by_cases hil : i < len
      · obtain ⟨y, hy, _⟩ := he i hil
        obtain ⟨cs, h1, h2⟩ := Option.bind_eq_some_iff.1 hy
        exact ⟨cs, y, h1, h2⟩
      · obtain ⟨y, hy, _⟩ := hre (i - len) (by omega)
        obtain ⟨cs, h1, h2⟩ := Option.bind_eq_some_iff.1 hy
        have e1 : len + (i - len) = i := by omega
        rw [e1] at h1
        exact ⟨cs, y, h1, h2⟩
    obtain ⟨b, off, sp⟩ := a
    have hsp : sp = none := by
      obtain ⟨cs, y, h1, _⟩ := hall 0 (by omega)
      simp only [Nat.zero_mul, Addr.add, if_true] at h1
      unfold World.cells? at h1
      split at h1
      · obtain ⟨_, h2⟩ := mapM_range h1
        obtain ⟨v, hv, _⟩ := h2 0 hez
        simp only [Addr.add, if_true] at hv
        exact World.cell?_spot hv
      · cases h1
    subst hsp
    have hadd : ∀ k, Addr.add ⟨b, off, none⟩ k = ⟨b, off + k, none⟩ := fun k => add_none _ _ _
    have hpc : ∀ i, i < cap → ∃ c e' fz y, W.heap[b]? = some (.cells c e' fz) ∧ off + i * P.cellsOf e + P.cellsOf e ≤ c.size ∧ DataW.trod enc P W 0 (fun _ => true) true fuel e ((c.toList.drop (off + i * P.cellsOf e)).take (P.cellsOf e)) = some y := by
      intro i hi
      obtain ⟨cs, y, h1, h2⟩ := hall i hi
      rw [hadd] at h1
      obtain ⟨c, e', fz, q1, q2, q3⟩ := cells?_some h1 hez rfl
      exact ⟨c, e', fz, y, q1, q2, q3 ▸ h2⟩
    obtain ⟨c, e', fz, _, hb, _, _⟩ := hpc 0 (by omega)
    have hpc' : ∀ i, i < cap → off + i * P.cellsOf e + P.cellsOf e ≤ c.size ∧ ∃ y, DataW.trod enc P W 0 (fun _ => true) true fuel e ((c.toList.drop (off + i * P.cellsOf e)).take (P.cellsOf e)) = some y := by
      intro i hi
      obtain ⟨c2, e2, fz2, y, q1, q2, q3⟩ := hpc i hi
      rw [hb] at q1; cases q1
      exact ⟨q2, y, q3⟩
    have hcs : off + cap * P.cellsOf e ≤ c.size := by
      have := (hpc' (cap - 1) (by omega)).1
      have e1 : (cap - 1) * P.cellsOf e + P.cellsOf e = cap * P.cellsOf e := by
        rw [← Nat.succ_mul]; congr 1; omega
      omega
    have hfl : ((c.toList.drop off).take (cap * P.cellsOf e)).length = cap * P.cellsOf e := by simp; omega
    have hpiece : ∀ (l : List Value) i, i < cap → ((l.take (cap * P.cellsOf e)).drop (i * P.cellsOf e)).take (P.cellsOf e) = (l.drop (i * P.cellsOf e)).take (P.cellsOf e) := by
      intro l i hi
      rw [List.drop_take, List.take_take, Nat.min_eq_left]
      have : i * P.cellsOf e + P.cellsOf e ≤ cap * P.cellsOf e := by
        rw [← Nat.succ_mul]; exact Nat.mul_le_mul_right _ hi
      omega
    obtain ⟨S1, r1, cells, g1, g2, g3, g4, g5⟩ := pieces IH (List.replicate cap e) ((c.toList.drop off).take (cap * P.cellsOf e)) S r
      (fun u hu' => by rw [(List.mem_replicate.1 hu').2]; exact hte) (by rw [hfl]; simp)
      (fun i u hi => by
        obtain ⟨hi1, rfl⟩ := rep_get hi
        rw [offOf_rep _ _ _ (Nat.le_of_lt hi1), hpiece _ _ hi1, List.drop_drop]
        exact ⟨fuel, (hpc' i hi1).2⟩) hR
    have hclen : cells.length = cap * P.cellsOf e := by rw [g4.1, hfl]
    have hro := g1.ro_add (b := b) (off := off) (cells := cells) hb (lt_of_get hb) (by omega) (by rw [hclen]; exact g4)
    have hle := ASle.ro g1 (.row cells e' false true)
    refine ⟨_, _, [.slice (some ⟨S1.next, 0, none⟩) len cap], hro, g2.trans (Rho.le_add _ (g1.fresh _ (Nat.le_refl _))), g3.trans hle,
      .cons (.slice S1.next 0 _ len cap cap off (Rho.add_self _ _ _) (.inl rfl) hlc (.inl rfl)) .nil, ?_⟩
    unfold Ty
    rw [hu]
    refine .inr (.inr ⟨S1.next, len, cap, cells, e', rfl, AS.get_put_self _ _ _, hlc, hcm, by omega, hclen, fun i hi => ?_⟩)
    have := g5 i e (by simp [List.getElem?_replicate, hi])
    rw [offOf_rep _ _ _ (Nat.le_of_lt hi)] at this
    exact this.mono hle

theorem open_trod : ∀ (d : Nat) (t : TypeId) (cs : List Value) (S : AS) (r : Rho), tyOK P d t = true → (∃ fuel x, DataW.trod enc P W 0 (fun _ => true) true fuel t cs = some x) → Rel P prot W r S W →
    Opens P prot W r S cs fun S' acs => Ty P S' d t acs
  | 0, _, _, _, _, h, _, _ => by simp [tyOK] at h
  | d + 1, t, cs, S, r, hty, htr, hR => by
    have IH := open_trod d
    obtain ⟨fuel, x, h⟩ := htr
    cases fuel with
    | zero => simp [DataW.trod] at h
    | succ fuel =>
      unfold tyOK at hty
      have hself : ∀ (Q : AS → List Value → Prop), LR P r cs cs → Q S cs → Opens P prot W r S cs Q := fun Q h1 h2 => ⟨S, r, cs, hR, .refl r, .refl S, h1, h2⟩
      unfold DataW.trod at h
      cases hu : P.underlying t with
      | none => rw [hu] at hty; cases hty
      | some desc =>
        rw [hu] at h hty
        cases desc with
        | bool =>
          simp only at h
          split at h
          all_goals first
            | (rename_i h1; cases h1; done)
            | skip
          all_goals first
            | (rename_i b h1; cases h1; exact hself _ (.cons (.bool b) .nil) (by unfold Ty; rw [hu]; exact ⟨b, rfl⟩))
            | cases h
        | int k =>
          simp only at h
          split at h
          all_goals first
            | (rename_i h1; cases h1; done)
            | skip
          all_goals first
            | (rename_i k1 k2 n h1
               cases h1
               split at h
               · rename_i hk
                 obtain ⟨rfl, hw⟩ := hk
                 exact hself _ (.cons (.int _ n) .nil) (by unfold Ty; rw [hu]; exact ⟨n, rfl, hw⟩)
               · cases h)
            | cases h
        | string =>
          simp only at h
          split at h
          all_goals first
            | (rename_i h1; cases h1; done)
            | skip
          all_goals first
            | (rename_i s h1
               cases h1
               split at h
               · rename_i hk
                 exact hself _ (.cons (.str s) .nil) (by unfold Ty; rw [hu]; exact ⟨s, rfl, hk⟩)
               · cases h)
            | cases h
        | slice e =>
          simp only [Bool.and_eq_true, decide_eq_true_eq, beq_iff_eq] at hty
          obtain ⟨⟨_, hez⟩, hte⟩ := hty
          simp only at h
          split at h
          all_goals first
            | (rename_i h1; cases h1; done)
            | skip
          all_goals first
            | (rename_i h1; cases h1; exact hself _ (.cons .sliceNil .nil) (by unfold Ty; rw [hu]; exact .inl rfl))
            | skip
          all_goals first
            | (rename_i e1 a len cap h1
               cases h1
               split at h
               · rename_i hk
                 obtain ⟨_, hlc, hcm⟩ := hk
                 exact openSlice IH hu hez hte hlc hcm h hR
               · cases h)
            | cases h
        | struct fs =>
          simp only [Bool.and_eq_true, beq_iff_eq, List.all_eq_true] at hty
          obtain ⟨⟨hfo, hsz⟩, hall⟩ := hty
          simp only at h
          split at h
          · rename_i hlen
            simp only [Option.map_eq_some_iff] at h
            obtain ⟨xs, hxs, _⟩ := h
            have hoff := fields_off fs.toList 0 hfo
            obtain ⟨S', r', acs, g1, g2, g3, g4, g5⟩ := pieces IH (fs.toList.map (·.type)) cs S r
              (fun u hu' => by
                obtain ⟨f, hf, rfl⟩ := List.mem_map.1 hu'
                exact hall f hf)
              (by rw [hlen, hsz, List.map_map]; rfl)
              (fun i u hi => by
                simp only [List.getElem?_map, Option.map_eq_some_iff] at hi
                obtain ⟨f, hf, rfl⟩ := hi
                obtain ⟨y, hy⟩ := mapM_list hxs f (List.mem_of_getElem? hf)
                have := hoff i f hf
                rw [Nat.zero_add] at this
                rw [← this]
                exact ⟨fuel, y, hy⟩) hR
            refine ⟨S', r', acs, g1, g2, g3, g4, ?_⟩
            unfold Ty
            rw [hu]
            refine ⟨by rw [g4.1, hlen], fun f hf => ?_⟩
            obtain ⟨i, hi, rfl⟩ := List.getElem_of_mem hf
            have hget : fs.toList[i]? = some fs.toList[i] := by simp [hi]
            have := hoff i _ hget
            rw [Nat.zero_add] at this
            rw [this]
            exact g5 i _ (by simp [List.getElem?_map, hget])
          · cases h
        | array n e =>
          simp only [Bool.and_eq_true, beq_iff_eq] at hty
          obtain ⟨hsz, hte⟩ := hty
          simp only at h
          split at h
          · rename_i hlen
            simp only [Option.map_eq_some_iff] at h
            obtain ⟨xs, hxs, _⟩ := h
            obtain ⟨_, hx⟩ := mapM_range hxs
            obtain ⟨S', r', acs, g1, g2, g3, g4, g5⟩ := pieces IH (List.replicate n e) cs S r
              (fun u hu' => by rw [(List.mem_replicate.1 hu').2]; exact hte)
              (by rw [hlen, hsz]; simp)
              (fun i u hi => by
                obtain ⟨hi1, rfl⟩ := rep_get hi
                rw [offOf_rep _ _ _ (Nat.le_of_lt hi1)]
                obtain ⟨y, hy, _⟩ := hx i hi1
                exact ⟨fuel, y, hy⟩) hR
            refine ⟨S', r', acs, g1, g2, g3, g4, ?_⟩
            unfold Ty
            rw [hu]
            refine ⟨by rw [g4.1, hlen], fun i hi => ?_⟩
            have := g5 i e (by simp [List.getElem?_replicate, hi])
            rwa [offOf_rep _ _ _ (Nat.le_of_lt hi)] at this
          · cases h
        | _ => cases hty
end
end Go.Gx

/-
  A law: if the abstract run returns true on all arguments of its types, so does the model, and what was there stays.
-/
namespace Go.Gx

/-- a value of a type -/
def TyV (P : Program) (S : AS) (d : Nat) (t : TypeId) (v : Value) : Prop :=
  match P.underlying t with
  | some (.struct _) | some (.array _ _) => ∃ cs, v = .agg cs.toArray ∧ Ty P S d t cs
  | _ => Ty P S d t [v]

def TyArgs (P : Program) (S : AS) (d : Nat) : List TypeId → List Value → Prop
  | [], [] => True
  | t :: ts, v :: vs => TyV P S d t v ∧ TyArgs P S d ts vs
  | _, _ => False

section
variable {P : Program} {prot : Nat → Option Obj} {W : World} {H : Type} {enc : TypeId × Value → H}

theorem TyV.mono {S U : AS} (h : ASle S U) {d : Nat} {t : TypeId} {v : Value} (k : TyV P S d t v) : TyV P U d t v := by
  unfold TyV at k ⊢
  split at k
  · obtain ⟨cs, h1, h2⟩ := k; exact ⟨cs, h1, h2.mono h⟩
  · obtain ⟨cs, h1, h2⟩ := k; exact ⟨cs, h1, h2.mono h⟩
  · exact k.mono h

theorem open_args {base d : Nat} : ∀ (ts : List TypeId) (vs : List Value) (ds : List (DataW H)) (ps : List MemPlace) (S : AS) (r : Rho), (∀ t ∈ ts, tyOK P d t = true) →
    (∀ (j : Nat) t v, ts[j]? = some t → vs[j]? = some v → Value.okWide P W .any base t v) → DataW.TrodAll enc P W 0 (fun _ => true) true ts vs ds ps → Rel P prot W r S W →
    ∃ S' r' as, Rel P prot W r' S' W ∧ r.le r' ∧ ASle S S' ∧ LR P r' as vs ∧ TyArgs P S' d ts as
  | [], [], _, _, S, r, _, _, _, hR => ⟨S, r, [], hR, .refl r, .refl S, .nil, trivial⟩
  | [], _ :: _, [], _, _, _, _, _, h, _ => h.elim
  | [], _ :: _, _ :: _, _, _, _, _, _, h, _ => h.elim
  | _ :: _, [], [], _, _, _, _, _, h, _ => h.elim
  | _ :: _, [], _ :: _, _, _, _, _, _, h, _ => h.elim
  | _ :: _, _ :: _, [], _, _, _, _, _, h, _ => h.elim
  | t :: ts, v :: vs, dd :: ds, ps, S, r, hty, hwd, h, hR => by
    obtain ⟨p, q, ⟨fuel, h1⟩, h2, _⟩ := h
    obtain ⟨S1, r1, acs, g1, g2, g3, g4, g5⟩ := open_trod d t _ S r (hty t (by simp)) ⟨fuel, _, h1⟩ hR
    obtain ⟨S2, r2, as, k1, k2, k3, k4, k5⟩ := open_args ts vs ds q S1 r1 (fun u hu => hty u (by simp [hu])) (fun j u x hj hx => hwd (j + 1) u x (by simpa using hj) (by simpa using hx)) h2 g1
    have hw := hwd 0 t v rfl rfl
    have one : ∃ av, VR P r2 av v ∧ TyV P S2 d t av := by
      have hsc : v.cells = #[v] → (∀ fs, P.underlying t ≠ some (.struct fs)) → (∀ n e, P.underlying t ≠ some (.array n e)) → ∃ av, VR P r2 av v ∧ TyV P S2 d t av := by
        intro hv hs ha
        rw [hv] at g4
        have hl : acs.length = 1 := by simpa using g4.1
        obtain ⟨av, rfl⟩ := List.length_eq_one_iff.1 hl
        refine ⟨av, (g4.2 0 av v rfl rfl).mono k2, ?_⟩
        unfold TyV
        split
        · rename_i fs hu; exact absurd hu (hs fs)
        · rename_i n e hu; exact absurd hu (ha n e)
        · exact g5.mono k3
      have hagg : ∀ cs : Array Value, v = .agg cs → ((∃ fs, P.underlying t = some (.struct fs)) ∨ ∃ n e, P.underlying t = some (.array n e)) → ∃ av, VR P r2 av v ∧ TyV P S2 d t av := by
        rintro cs rfl hu
        refine ⟨.agg acs.toArray, ?_, ?_⟩
        · have := VR.agg_of (g4.mono k2)
          simpa [Value.cells] using this
        · unfold TyV
          rcases hu with ⟨fs, hu⟩ | ⟨n, e, hu⟩ <;> rw [hu] <;> exact ⟨acs, rfl, g5.mono k3⟩
      unfold Value.okWide at hw
      have hty0 := hty t (by simp)
      cases hu : P.underlying t with
      | none => cases d <;> simp [tyOK, hu] at hty0
      | some desc =>
        rw [hu] at hw
        cases desc with
        | struct fs =>
          obtain ⟨cs, h3, _, _⟩ := hw
          exact hagg cs h3 (.inl ⟨fs, hu⟩)
        | array n e =>
          obtain ⟨cs, h3, _, _⟩ := hw
          exact hagg cs h3 (.inr ⟨n, e, hu⟩)
        | bool | int _ | string | slice _ =>
          refine hsc ?_ (fun fs h => by rw [hu] at h; cases h) (fun n e h => by rw [hu] at h; cases h)
          cases v with
          | agg cs => simp [Cell.okWide, Cell.ok, hu] at hw
          | _ => rfl
        | _ => cases d <;> simp [tyOK, hu] at hty0
    obtain ⟨av, q1, q2⟩ := one
    exact ⟨S2, r2, av :: as, k1, g2.trans k2, g3.trans k3, .cons q1 k4, q2, k5⟩

/-- at the start -/
theorem Rel.start (W : World) : Rel P (fun b => W.heap[b]?) W (fun _ => none) AS.empty W := by
  have hget : ∀ n, AS.empty.get n = none := fun n => rfl
  refine ⟨rfl, rfl, rfl, Nat.le_refl _, fun n o h => ?_, fun n m o o' L M h => ?_, fun _ _ => rfl, fun n o L h => ?_, fun b obj h => ⟨h, fun n o L h => ?_⟩⟩
  all_goals (rw [hget] at h; cases h)

/-- what lives has a name that was given out -/
def AS.Valid (S : AS) : Prop := ∀ n o, S.get n = some o → o ≠ .dead → n < S.next
theorem Rel.valid {r : Rho} {S : AS} {w0 w : World} (h : Rel P prot w0 r S w) : S.Valid := fun n o hn hd => by
  rcases h.live n o hn with h1 | ⟨L, obj, h1, _⟩
  · exact absurd h1 hd
  · rcases Nat.lt_or_ge n S.next with h2 | h2
    · exact h2
    · rw [h.fresh n h2] at h1; cases h1

theorem law_true {G : Tab} (hF : TableOK P G.F) (hE : ExtOK P G.ext) (hm : P.follows .mixedOrders = true) {k d base : Nat} {ts : List TypeId} {args : Array Value} {ds : List (DataW H)} {ps : List MemPlace}
    (hty : ∀ t ∈ ts, tyOK P d t = true) (hwd : ∀ (j : Nat) t v, ts[j]? = some t → args[j]? = some v → Value.okWide P W .any base t v)
    (hA : DataW.TrodAll enc P W 0 (fun _ => true) true ts args.toList ds ps)
    (hlaw : ∀ S as, AS.Valid S → TyArgs P S d ts as → Call G k as S fun e _ => e = .ret (.bool true)) :
    Calls P k args W fun e W' => e = .returned (.bool true) ∧ RowKit.Below W.heap.size W W' := by
  obtain ⟨S, r, as, g1, g2, g3, g4, g5⟩ := open_args (prot := fun b => W.heap[b]?) ts args.toList ds ps AS.empty (fun _ => none) hty (fun j t v h1 h2 => hwd j t v h1 (by simpa using h2)) hA (Rel.start W)
  obtain ⟨n, hn⟩ := hlaw S as g1.valid g5
  have hok := callFn_ok (w0 := W) (F := G.F) (ext := G.ext) hF hE (ex := exec G.F G.ext n) (exec_wp2 hF hE (draw_ok hm) n).1
  obtain ⟨_, hc⟩ := hok (fun b => W.heap[b]?) k as args.toList S W r (fun x => x.1 = .ret (.bool true)) g1 g4 hn
  rw [show args.toList.toArray = args from by simp] at hc
  refine hc.mono ?_
  rintro e W' ⟨en, S', r', q1, q2, q3, q4, q5⟩
  simp only at q1
  subst q1
  cases q2 with
  | ret v v' hv =>
    rw [hv.bool_inv]
    refine ⟨rfl, q5.os, q5.tape, q5.output, q5.size, fun b hb => ?_⟩
    have h1 : W.heap[b]? = some W.heap[b] := by simp [hb]
    rw [h1]
    exact (q5.prot b _ h1).1
end
end Go.Gx

/-
  A law's row: it returns true, the arguments read as before.
-/
namespace Go.Gx
open Go.ChangeShapes Go.WideShapes Go.ChangeAt Go.RowKit

theorem trodAll_stays {H : Type} {enc : TypeId × Value → H} {P : Program} (hl : laidOutB P = true) {W W' : World} (hb : RowKit.Below W.heap.size W W') : ∀ (ts : List TypeId) (vs : List Value) (ds : List (DataW H)) (ps : List MemPlace),
    (∀ t ∈ ts, P.readableRec t = true ∧ t < P.types.size) → (∀ x ∈ ps, x.block < W.heap.size) → DataW.TrodAll enc P W 0 (fun _ => true) true ts vs ds ps →
    DataW.TrodAll enc P W' 0 (fun b => decide (b < W.heap.size)) true ts vs ds ps
  | [], [], [], _, _, _, h => h
  | [], [], _ :: _, _, _, _, h => h.elim
  | [], _ :: _, [], _, _, _, h => h.elim
  | [], _ :: _, _ :: _, _, _, _, h => h.elim
  | _ :: _, [], [], _, _, _, h => h.elim
  | _ :: _, [], _ :: _, _, _, _, h => h.elim
  | _ :: _, _ :: _, [], _, _, _, h => h.elim
  | t :: ts, v :: vs, d :: ds, ps, hr, hlt, h => by
    obtain ⟨p, q, h1, h2, rfl⟩ := h
    exact ⟨p, q, Below.trod hl (hr t (by simp)).1 (hr t (by simp)).2 h1 hb (fun x hx => hlt x (List.mem_append_left _ hx)),
      trodAll_stays hl hb ts vs ds q (fun u hu => hr u (by simp [hu])) (fun x hx => hlt x (List.mem_append_right _ hx)) h2, rfl⟩

theorem trodAll_len {H : Type} {enc : TypeId × Value → H} {P : Program} {W : World} : ∀ (ts : List TypeId) (vs : List Value) (ds : List (DataW H)) (ps : List MemPlace),
    DataW.TrodAll enc P W 0 (fun _ => true) true ts vs ds ps → ds.length = ts.length
  | [], [], [], _, _ => rfl
  | [], [], _ :: _, _, h => h.elim
  | [], _ :: _, [], _, h => h.elim
  | [], _ :: _, _ :: _, _, h => h.elim
  | _ :: _, [], [], _, h => h.elim
  | _ :: _, [], _ :: _, _, h => h.elim
  | _ :: _, _ :: _, [], _, h => h.elim
  | t :: ts, v :: vs, d :: ds, ps, h => by
    obtain ⟨p, q, _, h2, _⟩ := h
    simp [trodAll_len ts vs ds q h2]

theorem law_returns {C : Checked} {G : Tab} (hF : TableOK C.prog G.F) (hE : ExtOK C.prog G.ext) (hm : C.prog.follows .mixedOrders = true) {os : Os} (started : os.Started) {k d : Nat} {fn : Func} {s : ChangeSpec} {H : Type} {enc : TypeId × Value → H} {conds : List PathCond}
    (own : ownKnob C.prog.godebug = none) (noInit : C.prog.inits.idxOf? k = none) (hfn : C.prog.funcs[k]? = some fn)
    (witness : ∃ (w : World) (tape : Tape) (i : Input), w.os = os ∧ (w.forCall tape i).Shaped C.prog ∧ i.vars = [] ∧ Input.okWide C.prog (w.forCall tape i) .any w.heap.size k i ∧
      s.pre6 enc C.prog fn conds false (w.forCall tape i).memory i.args ∧ ({} : Assume).holds C.prog (lone (Frame.enter C.prog k i.args .normal) [] (w.forCall tape i)))
    (hl : laidOutB C.prog = true) (hvars : s.vars = []) {tb : TypeId} (hrt : fn.resultTypes = #[tb]) (htb : C.prog.underlying tb = some .bool)
    {ts : List TypeId} (hts : fn.params.toList = ts) (hty : ∀ t ∈ ts, C.prog.readableRec t = true ∧ t < C.prog.types.size ∧ tyOK C.prog d t = true)
    (hspec : ∀ (ds : List (DataW H)), ds.length = ts.length → (s.fn H ds).results = [.lit (.bool true)] ∧ (s.fn H ds).args = ds ∧ (s.fn H ds).vars = [])
    (hlaw : ∀ S as, AS.Valid S → TyArgs C.prog S d ts as → Call G k as S fun e _ => e = .ret (.bool true)) :
    ReturnsInHanded {} C os k .any (s.pre6 enc C.prog fn conds false) (s.post enc C.prog fn false true false false) := by
  refine returnsInHanded_of_change_sized own started noInit hfn witness ?_
  intro W base args ds gs before hval hW _ _ _
  have hW' := hW
  obtain ⟨p, q, hA, hV, rfl, _, _⟩ := hW
  rw [hts] at hA
  have hV2 := hV
  rw [hvars] at hV2
  obtain ⟨rfl, rfl⟩ := trodVars_none hV2
  simp only [List.append_nil] at hW' ⊢
  have hlen := trodAll_len ts _ ds p hA
  obtain ⟨e1, e2, e3⟩ := hspec ds hlen
  refine (law_true (enc := enc) (base := base) hF hE hm (fun t ht => (hty t ht).2.2) (fun j t v h1 h2 => hval j t v (by rw [← Array.getElem?_toList, hts]; exact h1) h2) hA hlaw).mono ?_
  rintro e W' ⟨rfl, hb⟩
  have hlt : ∀ x ∈ p, x.block < W.heap.size := fun x hx => hW'.lt x (by simpa using hx)
  refine ⟨_, rfl, ds, [], p, [], p, [], hW', ?_, ?_, ?_, hb.frame _, fun h => by cases h⟩
  · simp only [List.append_nil]
    rw [e1, hrt]
    exact trodAll_mk1 ⟨1, by simp [Value.cells, DataW.trod, htb]⟩
  · simp only [List.append_nil]
    rw [e2, hts]
    exact trodAll_stays hl hb ts _ ds p (fun t ht => ⟨(hty t ht).1, (hty t ht).2.1⟩) hlt hA
  · simp only [List.append_nil]
    rw [e3, hvars]
    rfl
end Go.Gx

/-
  Closed runs: what the kernel has run is known of the model.
-/
namespace Go.Gx

def T.isTrue : T (En × AS) → Bool
  | .ret (.ret (.bool b), _) => b
  | .ret _ => false
  | .fail => false
  | .choose n k => (List.range n).all fun i => (k i).isTrue

theorem T.isTrue_all : ∀ {t : T (En × AS)}, t.isTrue = true → t.all fun r => r.1 = .ret (.bool true)
  | .ret (.ret v, S), h => by
    cases v with
    | bool b =>
      have : b = true := h
      subst this; rfl
    | _ => cases h
  | .ret (.panic v, S), h => by cases h
  | .fail, h => by cases h
  | .choose n k, h => by
    intro i hi
    simp only [T.isTrue, List.all_eq_true] at h
    exact T.isTrue_all (h i (by simpa using hi))

section
variable {P : Program}

theorem closed_run {F : Nat → Option IFn} {ext : Nat → List Value → Option Value} (hF : TableOK P F) (hE : ExtOK P ext) (hm : P.follows .mixedOrders = true) {k n : Nat}
    (h : (callFn F ext (exec F ext n) k [] AS.empty).isTrue = true) (W : World) :
    Calls P k #[] W fun e W' => e = .returned (.bool true) ∧ RowKit.Below W.heap.size W W' := by
  have hn := T.isTrue_all h
  have hok := callFn_ok (w0 := W) (F := F) (ext := ext) hF hE (ex := exec F ext n) (exec_wp2 hF hE (draw_ok hm) n).1
  obtain ⟨_, hc⟩ := hok (fun b => W.heap[b]?) k [] [] AS.empty W (fun _ => none) (fun x => x.1 = .ret (.bool true)) (Rel.start W) .nil hn
  refine hc.mono ?_
  rintro e W' ⟨en, S', r', q1, q2, q3, q4, q5⟩
  simp only at q1
  subst q1
  cases q2 with
  | ret v v' hv =>
    rw [hv.bool_inv]
    refine ⟨rfl, q5.os, q5.tape, q5.output, q5.size, fun b hb => ?_⟩
    have h1 : W.heap[b]? = some W.heap[b] := by simp [hb]
    rw [h1]
    exact (q5.prot b _ h1).1

theorem extNone : ExtOK P fun _ _ => none := fun k args v h => by cases h

/-- calls without arguments that return true, the kernel says -/
def extOf (ks : List Nat) : Nat → List Value → Option Value := fun k args => if args = [] ∧ k ∈ ks then some (.bool true) else none

theorem extOf_ok {ks : List Nat} (h : ∀ k ∈ ks, (∃ fn, P.funcs[k]? = some fn ∧ fn.body.isSome = true ∧ (fn.name == "runtime.NumGoroutine") = false) ∧
    ∀ w, Calls P k #[] w fun e w' => e = .returned (.bool true) ∧ RowKit.Below w.heap.size w w') : ExtOK P (extOf ks) := by
  intro k args v hv
  unfold extOf at hv
  split at hv
  · rename_i hk
    cases hv
    obtain ⟨rfl, hk⟩ := hk
    exact ⟨rfl, rfl, (h k hk).1, (h k hk).2⟩
  · cases hv

theorem extOf_none {ks : List Nat} {k : Nat} {args : List Value} (h : args ≠ [] ∨ k ∉ ks) : extOf ks k args = none := by
  unfold extOf
  rw [if_neg]
  rintro ⟨h1, h2⟩
  rcases h with h | h
  · exact h h1
  · exact h h2
theorem extOf_some {ks : List Nat} {k : Nat} (h : k ∈ ks) : extOf ks k [] = some (.bool true) := by
  unfold extOf
  rw [if_pos ⟨rfl, h⟩]
end
end Go.Gx
