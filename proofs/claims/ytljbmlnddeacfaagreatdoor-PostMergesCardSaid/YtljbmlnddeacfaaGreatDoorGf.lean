/-
  Arguments: what is read becomes rows that may not be written.
-/
import Derived.Test.YtljbmlnddeacfaaGreatDoorGd
import GoSem.ClaimChange
import Derived.Test.YtljbmlnddeacfaaGreatDoorGe
import Derived.ProofKit
import Derived.SizedLaws
import Derived.LaidMore
import Derived.Handed
import Derived.Stop.Joined

set_option linter.all false
set_option linter.deprecated false

namespace Go.Gx

/-- a slice of nothing, somewhere -/
def zsl : Value := .slice (some ⟨0, 0, some 0⟩) 0 0

/-- cells of a type, in an abstract memory -/
def Ty (P : Program) (S : AS) : Nat → TypeId → List Value → Prop
  | 0, _, _ => False
  | f + 1, t, cs => match P.underlying t with
    | some .bool => ∃ b, cs = [.bool b]
    | some (.int k) => ∃ n, cs = [.int k n] ∧ (Lit.int k n).wf = true
    | some .string => ∃ s, cs = [.string s] ∧ s.size ≤ maxLen
    | some (.slice e) => cs = [.slice none 0 0] ∨ cs = [zsl] ∨ ∃ n len cap cells et, cs = [.slice (some ⟨n, 0, none⟩) len cap] ∧ S.get n = some (.row cells et false true) ∧ len ≤ cap ∧ cap ≤ maxLen ∧ 0 < cap ∧
        cells.length = cap * P.cellsOf e ∧ ∀ i, i < cap → Ty P S f e ((cells.drop (i * P.cellsOf e)).take (P.cellsOf e))
    | some (.struct fs) => cs.length = P.cellsOf t ∧ ∀ x ∈ fs.toList, Ty P S f x.type ((cs.drop x.offset).take (P.cellsOf x.type))
    | some (.array n e) => cs.length = P.cellsOf t ∧ ∀ i, i < n → Ty P S f e ((cs.drop (i * P.cellsOf e)).take (P.cellsOf e))
    | _ => False

def ASle (S U : AS) : Prop := S.next ≤ U.next ∧ ∀ n o, S.get n = some o → o ≠ .dead → U.get n = some o
theorem ASle.refl (S : AS) : ASle S S := ⟨Nat.le_refl _, fun _ _ h _ => h⟩
theorem ASle.trans {S U V : AS} (h : ASle S U) (k : ASle U V) : ASle S V := ⟨Nat.le_trans h.1 k.1, fun n o e hd => k.2 n o (h.2 n o e hd) hd⟩

theorem Ty.mono {P : Program} {S U : AS} (h : ASle S U) : ∀ (f : Nat) (t : TypeId) (cs : List Value), Ty P S f t cs → Ty P U f t cs
  | 0, _, _, hh => hh.elim
  | f + 1, t, cs, hh => by
    unfold Ty at hh ⊢
    split at hh
    · exact hh
    · exact hh
    · exact hh
    · rcases hh with hh | hh | ⟨n, len, cap, cells, et, h1, h2, h3, h4, h5, h6, h7⟩
      · exact .inl hh
      · exact .inr (.inl hh)
      · exact .inr (.inr ⟨n, len, cap, cells, et, h1, h.2 _ _ h2 (by simp), h3, h4, h5, h6, fun i hi => Ty.mono h f _ _ (h7 i hi)⟩)
    · exact ⟨hh.1, fun x hx => Ty.mono h f _ _ (hh.2 x hx)⟩
    · exact ⟨hh.1, fun i hi => Ty.mono h f _ _ (hh.2 i hi)⟩
    · exact hh

/-! ## which types -/
def offOf (P : Program) (ts : List TypeId) (i : Nat) : Nat := ((ts.take i).map P.cellsOf).sum

def fieldsOK (P : Program) : List Field → Nat → Bool
  | [], _ => true
  | f :: fs, off => f.offset == off && fieldsOK P fs (off + P.cellsOf f.type)

def tyOK (P : Program) : Nat → TypeId → Bool
  | 0, _ => false
  | d + 1, t => match P.underlying t with
    | some .bool | some (.int _) | some .string => P.cellsOf t == 1
    | some (.slice e) => P.cellsOf t == 1 && decide (0 < P.cellsOf e) && tyOK P d e
    | some (.struct fs) => fieldsOK P fs.toList 0 && P.cellsOf t == (fs.toList.map fun f => P.cellsOf f.type).sum && fs.toList.all fun f => tyOK P d f.type
    | some (.array n e) => P.cellsOf t == n * P.cellsOf e && tyOK P d e
    | _ => false

section
variable {P : Program} {prot : Nat → Option Obj} {w0 : World} {r : Rho} {S : AS} {w : World}

/-- a row that may not be written -/
theorem Rel.ro_add (h : Rel P prot w0 r S w) {b off : Nat} {c : Array Value} {e : TypeId} {fz : Nat × Nat} {cells : List Value} (hb : w.heap[b]? = some (.cells c e fz)) (hlt : b < w0.heap.size)
    (hsz : off + cells.length ≤ c.size) (hl : LR P r cells ((c.toList.drop off).take cells.length)) :
    Rel P prot w0 (r.add S.next ⟨b, off, cells.length, off + cells.length, e⟩) ((S.bump 1).put S.next (.row cells e false true)) w := by
  have hn := h.fresh S.next (Nat.le_refl _)
  have hle := Rho.le_add (⟨b, off, cells.length, off + cells.length, e⟩ : Loc) hn
  have hdead : ∀ p, S.get S.next = some p → p = .dead := fun p hp => by
    rcases h.live _ p hp with e | ⟨M, _, hM, _⟩
    · exact e
    · rw [hn] at hM; cases hM
  refine ⟨h.os, h.tape, h.output, h.size, h.low, ?_, ?_, ?_, ?_, ?_⟩
  · intro m p hm
    rw [AS.get_put] at hm
    split at hm
    · rename_i e1; subst e1; cases hm
      refine .inr ⟨_, _, Rho.add_self _ _ _, hb, ?_⟩
      refine ⟨rfl, rfl, rfl, Nat.le_refl _, hsz, fun _ => rfl, fun h => (by cases h), fun _ h => (by cases h), ?_⟩
      intro i v hi
      have hil : i < cells.length := (List.getElem?_eq_some_iff.1 hi).1
      obtain ⟨v', hv', hvv⟩ := hl.get? hi
      refine ⟨v', ?_, hvv.mono hle⟩
      rw [List.getElem?_take_of_lt hil, List.getElem?_drop] at hv'
      simpa using hv'
    · rcases h.live m p hm with e' | ⟨M, q, hM, hq, hpq⟩
      · exact .inl e'
      · exact .inr ⟨M, q, hle _ _ hM, hq, hpq.mono hle⟩
  · intro x y p q M N hx hy ho1 ho2 hxy hM hN
    rw [AS.get_put] at hx hy
    split at hx
    · cases hx; cases ho1
    · rename_i e1
      rw [Rho.add_ne _ _ e1] at hM
      split at hy
      · rename_i e2; subst e2; cases hy
        rw [Rho.add_self] at hN; cases hN
        have := (h.ro x p M hx (by rintro rfl; cases ho1) hM).1 ho1
        show M.b ≠ b
        omega
      · rename_i e2
        rw [Rho.add_ne _ _ e2] at hN
        exact h.uniq x y p q M N hx hy ho1 ho2 hxy hM hN
  · intro m hm
    simp at hm
    rw [Rho.add_ne _ _ (by omega)]
    exact h.fresh m (by omega)
  · intro m p M hm hp hM
    rw [AS.get_put] at hm
    split at hm
    · rename_i e1; subst e1; cases hm
      rw [Rho.add_self] at hM; cases hM
      exact ⟨fun h => (by cases h), fun _ => hlt⟩
    · rename_i e1
      rw [Rho.add_ne _ _ e1] at hM
      exact h.ro m p M hm hp hM
  · intro B obj hp
    obtain ⟨h1, h2⟩ := h.prot B obj hp
    refine ⟨h1, fun m p M hm ho1 hM => ?_⟩
    rw [AS.get_put] at hm
    split at hm
    · cases hm; cases ho1
    · rename_i e1
      rw [Rho.add_ne _ _ e1] at hM
      exact h2 m p M hm ho1 hM

theorem ASle.ro (h : Rel P prot w0 r S w) (o : AObj) : ASle S ((S.bump 1).put S.next o) :=
  ⟨by simp, fun n p hp hd => by
    rw [AS.get_put]
    split
    · rename_i e; subst e
      rcases h.live _ p hp with e | ⟨M, _, hM, _⟩
      · exact absurd e hd
      · rw [h.fresh _ (Nat.le_refl _)] at hM; cases hM
    · exact hp⟩

theorem mapM_range {α : Type} {f : Nat → Option α} : ∀ {n : Nat} {l : List α}, (List.range n).mapM f = some l → l.length = n ∧ ∀ i, i < n → ∃ x, f i = some x ∧ l[i]? = some x := by
  intro n l h
  have key : ∀ (k s : Nat) (l : List α), (List.range' s k).mapM f = some l → l.length = k ∧ ∀ i, i < k → ∃ x, f (s + i) = some x ∧ l[i]? = some x := by
    intro k
    induction k with
    | zero => intro s l h; simp at h; subst h; exact ⟨rfl, fun i hi => absurd hi (Nat.not_lt_zero _)⟩
    | succ k ih =>
      intro s l h
      rw [List.range'_succ] at h
      obtain ⟨y, ys, h1, h2, rfl⟩ := mapM_cons_some h
      obtain ⟨g1, g2⟩ := ih (s + 1) ys h2
      refine ⟨by simp [g1], fun i hi => ?_⟩
      cases i with
      | zero => exact ⟨y, h1, rfl⟩
      | succ i =>
        obtain ⟨x, q1, q2⟩ := g2 i (by omega)
        exact ⟨x, by rw [← q1]; congr 1; omega, by simpa using q2⟩
  rw [List.range_eq_range'] at h
  obtain ⟨h1, h2⟩ := key n 0 l h
  exact ⟨h1, fun i hi => by simpa using h2 i hi⟩

theorem mapM_list {α β : Type} {f : α → Option β} : ∀ {l : List α} {r : List β}, l.mapM f = some r → ∀ x ∈ l, ∃ y, f x = some y
  | [], _, _, _, h => by simp at h
  | a :: l, r, h, x, hx => by
    obtain ⟨y, ys, h1, h2, rfl⟩ := mapM_cons_some h
    rcases List.mem_cons.1 hx with rfl | hx
    · exact ⟨y, h1⟩
    · exact mapM_list h2 x hx

theorem cells?_some {b off n : Nat} {sp : Option Nat} {base : Nat} {cs : List Value} (h : w.cells? base ⟨b, off, sp⟩ n = some cs) (hn : 0 < n) (hsp : sp = none) :
    ∃ c e fz, w.heap[b]? = some (.cells c e fz) ∧ off + n ≤ c.size ∧ cs = (c.toList.drop off).take n := by
  subst hsp
  unfold World.cells? at h
  split at h
  · obtain ⟨h1, h2⟩ := mapM_range h
    obtain ⟨x0, q0, _⟩ := h2 0 hn
    have hblk : ∃ c e fz, w.heap[b]? = some (.cells c e fz) := by
      simp only [Addr.add, if_true] at q0
      unfold World.cell? at q0
      cases hb : w.heap[b]? with
      | none => simp [hb] at q0
      | some o =>
        cases o with
        | cells c e fz => exact ⟨c, e, fz, rfl⟩
        | _ => simp [hb] at q0
    obtain ⟨c, e, fz, hb⟩ := hblk
    have hcell : ∀ i, w.cell? (Addr.add ⟨b, off, none⟩ i) = c[off + i]? := by
      intro i
      have : Addr.add ⟨b, off, none⟩ i = ⟨b, off + i, none⟩ := add_none _ _ _
      rw [this]
      unfold World.cell?
      simp [hb]
    have hall : ∀ i, i < n → ∃ x, c[off + i]? = some x ∧ cs[i]? = some x := fun i hi => by
      obtain ⟨x, a, b⟩ := h2 i hi
      exact ⟨x, by rw [← hcell]; exact a, b⟩
    refine ⟨c, e, fz, hb, ?_, ?_⟩
    · obtain ⟨x, a, _⟩ := hall (n - 1) (by omega)
      have := (Array.getElem?_eq_some_iff.1 a).1
      omega
    · apply List.ext_getElem?
      intro i
      by_cases hi : i < n
      · obtain ⟨x, a, b⟩ := hall i hi
        rw [b, List.getElem?_take_of_lt hi, List.getElem?_drop]
        simpa using a.symm
      · rw [List.getElem?_eq_none (by omega), List.getElem?_eq_none (by simp; omega)]
  · cases h
end
end Go.Gx

/-
  Arguments: from the data read to an abstract memory.
-/
namespace Go.Gx

section
variable {P : Program} {prot : Nat → Option Obj} {W : World} {H : Type} {enc : TypeId × Value → H}

/-- what opening gives -/
def Opens (P : Program) (prot : Nat → Option Obj) (W : World) (r : Rho) (S : AS) (cs : List Value) (Q : AS → List Value → Prop) : Prop :=
  ∃ S' r' acs, Rel P prot W r' S' W ∧ r.le r' ∧ ASle S S' ∧ LR P r' acs cs ∧ Q S' acs

theorem offOf_zero (ts : List TypeId) : offOf P ts 0 = 0 := by simp [offOf]
theorem offOf_succ (t : TypeId) (ts : List TypeId) (i : Nat) : offOf P (t :: ts) (i + 1) = P.cellsOf t + offOf P ts i := by simp [offOf]

theorem pieces {d : Nat} (IH : ∀ (t : TypeId) (cs : List Value) (S : AS) (r : Rho), tyOK P d t = true → (∃ fuel x, DataW.trod enc P W 0 (fun _ => true) true fuel t cs = some x) → Rel P prot W r S W → Opens P prot W r S cs fun S' acs => Ty P S' d t acs) :
    ∀ (ts : List TypeId) (cs : List Value) (S : AS) (r : Rho), (∀ t ∈ ts, tyOK P d t = true) → cs.length = (ts.map P.cellsOf).sum →
      (∀ i t, ts[i]? = some t → ∃ fuel x, DataW.trod enc P W 0 (fun _ => true) true fuel t ((cs.drop (offOf P ts i)).take (P.cellsOf t)) = some x) → Rel P prot W r S W →
      Opens P prot W r S cs fun S' acs => ∀ i t, ts[i]? = some t → Ty P S' d t ((acs.drop (offOf P ts i)).take (P.cellsOf t))
  | [], cs, S, r, _, hlen, _, hR => by
    have : cs = [] := List.eq_nil_of_length_eq_zero (by simpa using hlen)
    subst this
    exact ⟨S, r, [], hR, .refl r, .refl S, .nil, fun i t h => by simp at h⟩
  | t :: ts, cs, S, r, hty, hlen, htr, hR => by
    simp only [List.map_cons, List.sum_cons] at hlen
    have h0 := htr 0 t rfl
    rw [offOf_zero, List.drop_zero] at h0
    obtain ⟨S1, r1, a0, g1, g2, g3, g4, g5⟩ := IH t _ S r (hty t (by simp)) h0 hR
    have ha0 : a0.length = P.cellsOf t := by rw [g4.1]; simp; omega
    obtain ⟨S2, r2, a1, k1, k2, k3, k4, k5⟩ := pieces IH ts (cs.drop (P.cellsOf t)) S1 r1 (fun u hu => hty u (by simp [hu])) (by simp; omega) (fun i u hi => by
      have := htr (i + 1) u (by simpa using hi)
      rw [offOf_succ, ← List.drop_drop] at this
      exact this) g1
    refine ⟨S2, r2, a0 ++ a1, k1, g2.trans k2, g3.trans k3, ?_, ?_⟩
    · have := (g4.mono k2).append k4
      rwa [List.take_append_drop] at this
    · intro i u hi
      cases i with
      | zero =>
        simp at hi; subst hi
        rw [offOf_zero, List.drop_zero, ← ha0, List.take_left]
        exact g5.mono k3
      | succ i =>
        simp at hi
        rw [offOf_succ, ← List.drop_drop, ← ha0, List.drop_left]
        exact k5 i u hi

theorem fields_off : ∀ (fs : List Field) (off : Nat), fieldsOK P fs off = true → ∀ (i : Nat) (f : Field), fs[i]? = some f → f.offset = off + offOf P (fs.map (·.type)) i
  | [], _, _, i, f, h => by simp at h
  | g :: fs, off, h, i, f, hi => by
    simp only [fieldsOK, Bool.and_eq_true, beq_iff_eq] at h
    cases i with
    | zero => simp at hi; subst hi; simp [offOf, h.1]
    | succ i =>
      simp at hi
      rw [List.map_cons, offOf_succ, fields_off fs _ h.2 i f hi]
      omega

theorem offOf_rep (e : TypeId) (n i : Nat) (hi : i ≤ n) : offOf P (List.replicate n e) i = i * P.cellsOf e := by
  simp [offOf, List.take_replicate, Nat.min_eq_left hi]

theorem rep_get {α : Type} {n i : Nat} {e u : α} (h : (List.replicate n e)[i]? = some u) : i < n ∧ e = u := by
  simp only [List.getElem?_replicate] at h
  split at h
  · cases h; exact ⟨by assumption, rfl⟩
  · cases h

theorem openSlice {d : Nat} (IH : ∀ (t : TypeId) (cs : List Value) (S : AS) (r : Rho), tyOK P d t = true → (∃ fuel x, DataW.trod enc P W 0 (fun _ => true) true fuel t cs = some x) → Rel P prot W r S W → Opens P prot W r S cs fun S' acs => Ty P S' d t acs)
    {t e : TypeId} (hu : P.underlying t = some (.slice e)) (hez : 0 < P.cellsOf e) (hte : tyOK P d e = true) {a : Addr} {len cap : Nat} (hlc : len ≤ cap) (hcm : cap ≤ maxLen) {fuel : Nat} {x : DataW H × List MemPlace} {S : AS} {r : Rho}
    (h : (((List.range len).mapM fun i => (W.cells? 0 (a.add (i * P.cellsOf e)) (P.cellsOf e)).bind (DataW.trod enc P W 0 (fun _ => true) true fuel e)).bind fun elems =>
          (if (true : Bool) = true then (List.range (cap - len)).mapM fun j => (W.cells? 0 (a.add ((len + j) * P.cellsOf e)) (P.cellsOf e)).bind (DataW.trod enc P W 0 (fun _ => true) true fuel e) else some []).map fun rest =>
            (DataW.slice (elems.map (·.1)) (rest.map (·.1)), MemPlace.row a ((elems.length + rest.length) * P.cellsOf e) ++ (elems ++ rest).flatMap (·.2))) = some x)
    (hR : Rel P prot W r S W) : Opens P prot W r S [.slice (some a) len cap] fun S' acs => Ty P S' (d + 1) t acs := by
  by_cases hc0 : cap = 0
  · subst hc0
    obtain rfl : len = 0 := by omega
    refine ⟨S, r, [zsl], hR, .refl r, .refl S, .cons (.slice0 _ _ rfl) .nil, ?_⟩
    unfold Ty
    rw [hu]
    exact .inr (.inl rfl)
  · simp only [Option.bind_eq_some_iff, Option.map_eq_some_iff, if_true] at h
    obtain ⟨elems, he, rest, hre, _⟩ := h
    obtain ⟨_, he⟩ := mapM_range he
    obtain ⟨_, hre⟩ := mapM_range hre
    have hall : ∀ i, i < cap → ∃ cs y, W.cells? 0 (a.add (i * P.cellsOf e)) (P.cellsOf e) = some cs ∧ DataW.trod enc P W 0 (fun _ => true) true fuel e cs = some y := by
      intro i hi
      by_cases hil : i < len
      · obtain ⟨y, hy, _⟩ := he i hil
        obtain ⟨cs, h1, h2⟩ := Option.bind_eq_some_iff.1 hy
        exact ⟨cs, y, h1, h2⟩
      · obtain ⟨y, hy, _⟩ := hre (i - len) (by omega)
        obtain ⟨cs, h1, h2⟩ := Option.bind_eq_some_iff.1 hy
        have e1 : len + (i - len) = i := by omega
        rw [e1] at h1
        exact ⟨cs, y, h1, h2⟩
    obtain ⟨b, off, sp⟩ := a
    have hsp : sp = none := by
      obtain ⟨cs, y, h1, _⟩ := hall 0 (by omega)
      simp only [Nat.zero_mul, Addr.add, if_true] at h1
      unfold World.cells? at h1
      split at h1
      · obtain ⟨_, h2⟩ := mapM_range h1
        obtain ⟨v, hv, _⟩ := h2 0 hez
        simp only [Addr.add, if_true] at hv
        exact World.cell?_spot hv
      · cases h1
    subst hsp
    have hadd : ∀ k, Addr.add ⟨b, off, none⟩ k = ⟨b, off + k, none⟩ := fun k => add_none _ _ _
    have hpc : ∀ i, i < cap → ∃ c e' fz y, W.heap[b]? = some (.cells c e' fz) ∧ off + i * P.cellsOf e + P.cellsOf e ≤ c.size ∧ DataW.trod enc P W 0 (fun _ => true) true fuel e ((c.toList.drop (off + i * P.cellsOf e)).take (P.cellsOf e)) = some y := by
      intro i hi
      obtain ⟨cs, y, h1, h2⟩ := hall i hi
      rw [hadd] at h1
      obtain ⟨c, e', fz, q1, q2, q3⟩ := cells?_some h1 hez rfl
      exact ⟨c, e', fz, y, q1, q2, q3 ▸ h2⟩
    obtain ⟨c, e', fz, _, hb, _, _⟩ := hpc 0 (by omega)
    have hpc' : ∀ i, i < cap → off + i * P.cellsOf e + P.cellsOf e ≤ c.size ∧ ∃ y, DataW.trod enc P W 0 (fun _ => true) true fuel e ((c.toList.drop (off + i * P.cellsOf e)).take (P.cellsOf e)) = some y := by
      intro i hi
      obtain ⟨c2, e2, fz2, y, q1, q2, q3⟩ := hpc i hi
      rw [hb] at q1; cases q1
      exact ⟨q2, y, q3⟩
    have hcs : off + cap * P.cellsOf e ≤ c.size := by
      have := (hpc' (cap - 1) (by omega)).1
      have e1 : (cap - 1) * P.cellsOf e + P.cellsOf e = cap * P.cellsOf e := by
        rw [← Nat.succ_mul]; congr 1; omega
      omega
    have hfl : ((c.toList.drop off).take (cap * P.cellsOf e)).length = cap * P.cellsOf e := by simp; omega
    have hpiece : ∀ (l : List Value) i, i < cap → ((l.take (cap * P.cellsOf e)).drop (i * P.cellsOf e)).take (P.cellsOf e) = (l.drop (i * P.cellsOf e)).take (P.cellsOf e) := by
      intro l i hi
      rw [List.drop_take, List.take_take, Nat.min_eq_left]
      have : i * P.cellsOf e + P.cellsOf e ≤ cap * P.cellsOf e := by
        rw [← Nat.succ_mul]; exact Nat.mul_le_mul_right _ hi
      omega
    obtain ⟨S1, r1, cells, g1, g2, g3, g4, g5⟩ := pieces IH (List.replicate cap e) ((c.toList.drop off).take (cap * P.cellsOf e)) S r
      (fun u hu' => by rw [(List.mem_replicate.1 hu').2]; exact hte) (by rw [hfl]; simp)
      (fun i u hi => by
        obtain ⟨hi1, rfl⟩ := rep_get hi
        rw [offOf_rep _ _ _ (Nat.le_of_lt hi1), hpiece _ _ hi1, List.drop_drop]
        exact ⟨fuel, (hpc' i hi1).2⟩) hR
    have hclen : cells.length = cap * P.cellsOf e := by rw [g4.1, hfl]
    have hro := g1.ro_add (b := b) (off := off) (cells := cells) hb (lt_of_get hb) (by omega) (by rw [hclen]; exact g4)
    have hle := ASle.ro g1 (.row cells e' false true)
    refine ⟨_, _, [.slice (some ⟨S1.next, 0, none⟩) len cap], hro, g2.trans (Rho.le_add _ (g1.fresh _ (Nat.le_refl _))), g3.trans hle,
      .cons (.slice S1.next 0 _ len cap cap off (Rho.add_self _ _ _) (.inl rfl) hlc (.inl rfl)) .nil, ?_⟩
    unfold Ty
    rw [hu]
    refine .inr (.inr ⟨S1.next, len, cap, cells, e', rfl, AS.get_put_self _ _ _, hlc, hcm, by omega, hclen, fun i hi => ?_⟩)
    have := g5 i e (by simp [List.getElem?_replicate, hi])
    rw [offOf_rep _ _ _ (Nat.le_of_lt hi)] at this
    exact this.mono hle

theorem open_trod : ∀ (d : Nat) (t : TypeId) (cs : List Value) (S : AS) (r : Rho), tyOK P d t = true → (∃ fuel x, DataW.trod enc P W 0 (fun _ => true) true fuel t cs = some x) → Rel P prot W r S W →
    Opens P prot W r S cs fun S' acs => Ty P S' d t acs
  | 0, _, _, _, _, h, _, _ => by simp [tyOK] at h
  | d + 1, t, cs, S, r, hty, htr, hR => by
    have IH := open_trod d
    obtain ⟨fuel, x, h⟩ := htr
    cases fuel with
    | zero => simp [DataW.trod] at h
    | succ fuel =>
      unfold tyOK at hty
      have hself : ∀ (Q : AS → List Value → Prop), LR P r cs cs → Q S cs → Opens P prot W r S cs Q := fun Q h1 h2 => ⟨S, r, cs, hR, .refl r, .refl S, h1, h2⟩
      unfold DataW.trod at h
      cases hu : P.underlying t with
      | none => rw [hu] at hty; cases hty
      | some desc =>
        rw [hu] at h hty
        cases desc with
        | bool =>
          simp only at h
          split at h
          all_goals first
            | (rename_i h1; cases h1; done)
            | skip
          all_goals first
            | (rename_i b h1; cases h1; exact hself _ (.cons (.bool b) .nil) (by unfold Ty; rw [hu]; exact ⟨b, rfl⟩))
            | cases h
        | int k =>
          simp only at h
          split at h
          all_goals first
            | (rename_i h1; cases h1; done)
            | skip
          all_goals first
            | (rename_i k1 k2 n h1
               cases h1
               split at h
               · rename_i hk
                 obtain ⟨rfl, hw⟩ := hk
                 exact hself _ (.cons (.int _ n) .nil) (by unfold Ty; rw [hu]; exact ⟨n, rfl, hw⟩)
               · cases h)
            | cases h
        | string =>
          simp only at h
          split at h
          all_goals first
            | (rename_i h1; cases h1; done)
            | skip
          all_goals first
            | (rename_i s h1
               cases h1
               split at h
               · rename_i hk
                 exact hself _ (.cons (.str s) .nil) (by unfold Ty; rw [hu]; exact ⟨s, rfl, hk⟩)
               · cases h)
            | cases h
        | slice e =>
          simp only [Bool.and_eq_true, decide_eq_true_eq, beq_iff_eq] at hty
          obtain ⟨⟨_, hez⟩, hte⟩ := hty
          simp only at h
          split at h
          all_goals first
            | (rename_i h1; cases h1; done)
            | skip
          all_goals first
            | (rename_i h1; cases h1; exact hself _ (.cons .sliceNil .nil) (by unfold Ty; rw [hu]; exact .inl rfl))
            | skip
          all_goals first
            | (rename_i e1 a len cap h1
               cases h1
               split at h
               · rename_i hk
                 obtain ⟨_, hlc, hcm⟩ := hk
                 exact openSlice IH hu hez hte hlc hcm h hR
               · cases h)
            | cases h
        | struct fs =>
          simp only [Bool.and_eq_true, beq_iff_eq, List.all_eq_true] at hty
          obtain ⟨⟨hfo, hsz⟩, hall⟩ := hty
          simp only at h
          split at h
          · rename_i hlen
            simp only [Option.map_eq_some_iff] at h
            obtain ⟨xs, hxs, _⟩ := h
            have hoff := fields_off fs.toList 0 hfo
            obtain ⟨S', r', acs, g1, g2, g3, g4, g5⟩ := pieces IH (fs.toList.map (·.type)) cs S r
              (fun u hu' => by
                obtain ⟨f, hf, rfl⟩ := List.mem_map.1 hu'
                exact hall f hf)
              (by rw [hlen, hsz, List.map_map]; rfl)
              (fun i u hi => by
                simp only [List.getElem?_map, Option.map_eq_some_iff] at hi
                obtain ⟨f, hf, rfl⟩ := hi
                obtain ⟨y, hy⟩ := mapM_list hxs f (List.mem_of_getElem? hf)
                have := hoff i f hf
                rw [Nat.zero_add] at this
                rw [← this]
                exact ⟨fuel, y, hy⟩) hR
            refine ⟨S', r', acs, g1, g2, g3, g4, ?_⟩
            unfold Ty
            rw [hu]
            refine ⟨by rw [g4.1, hlen], fun f hf => ?_⟩
            obtain ⟨i, hi, rfl⟩ := List.getElem_of_mem hf
            have hget : fs.toList[i]? = some fs.toList[i] := by simp [hi]
            have := hoff i _ hget
            rw [Nat.zero_add] at this
            rw [this]
            exact g5 i _ (by simp [List.getElem?_map, hget])
          · cases h
        | array n e =>
          simp only [Bool.and_eq_true, beq_iff_eq] at hty
          obtain ⟨hsz, hte⟩ := hty
          simp only at h
          split at h
          · rename_i hlen
            simp only [Option.map_eq_some_iff] at h
            obtain ⟨xs, hxs, _⟩ := h
            obtain ⟨_, hx⟩ := mapM_range hxs
            obtain ⟨S', r', acs, g1, g2, g3, g4, g5⟩ := pieces IH (List.replicate n e) cs S r
              (fun u hu' => by rw [(List.mem_replicate.1 hu').2]; exact hte)
              (by rw [hlen, hsz]; simp)
              (fun i u hi => by
                obtain ⟨hi1, rfl⟩ := rep_get hi
                rw [offOf_rep _ _ _ (Nat.le_of_lt hi1)]
                obtain ⟨y, hy, _⟩ := hx i hi1
                exact ⟨fuel, y, hy⟩) hR
            refine ⟨S', r', acs, g1, g2, g3, g4, ?_⟩
            unfold Ty
            rw [hu]
            refine ⟨by rw [g4.1, hlen], fun i hi => ?_⟩
            have := g5 i e (by simp [List.getElem?_replicate, hi])
            rwa [offOf_rep _ _ _ (Nat.le_of_lt hi)] at this
          · cases h
        | _ => cases hty
end
end Go.Gx

/-
  A law: if the abstract run returns true on all arguments of its types, so does the model, and what was there stays.
-/
namespace Go.Gx

/-- a value of a type -/
def TyV (P : Program) (S : AS) (d : Nat) (t : TypeId) (v : Value) : Prop :=
  match P.underlying t with
  | some (.struct _) | some (.array _ _) => ∃ cs, v = .agg cs.toArray ∧ Ty P S d t cs
  | _ => Ty P S d t [v]

def TyArgs (P : Program) (S : AS) (d : Nat) : List TypeId → List Value → Prop
  | [], [] => True
  | t :: ts, v :: vs => TyV P S d t v ∧ TyArgs P S d ts vs
  | _, _ => False

section
variable {P : Program} {prot : Nat → Option Obj} {W : World} {H : Type} {enc : TypeId × Value → H}

theorem TyV.mono {S U : AS} (h : ASle S U) {d : Nat} {t : TypeId} {v : Value} (k : TyV P S d t v) : TyV P U d t v := by
  unfold TyV at k ⊢
  split at k
  · obtain ⟨cs, h1, h2⟩ := k; exact ⟨cs, h1, h2.mono h⟩
  · obtain ⟨cs, h1, h2⟩ := k; exact ⟨cs, h1, h2.mono h⟩
  · exact k.mono h

theorem open_args {base d : Nat} : ∀ (ts : List TypeId) (vs : List Value) (ds : List (DataW H)) (ps : List MemPlace) (S : AS) (r : Rho), (∀ t ∈ ts, tyOK P d t = true) →
    (∀ (j : Nat) t v, ts[j]? = some t → vs[j]? = some v → Value.okWide P W .any base t v) → DataW.TrodAll enc P W 0 (fun _ => true) true ts vs ds ps → Rel P prot W r S W →
    ∃ S' r' as, Rel P prot W r' S' W ∧ r.le r' ∧ ASle S S' ∧ LR P r' as vs ∧ TyArgs P S' d ts as
  | [], [], _, _, S, r, _, _, _, hR => ⟨S, r, [], hR, .refl r, .refl S, .nil, trivial⟩
  | [], _ :: _, [], _, _, _, _, _, h, _ => h.elim
  | [], _ :: _, _ :: _, _, _, _, _, _, h, _ => h.elim
  | _ :: _, [], [], _, _, _, _, _, h, _ => h.elim
  | _ :: _, [], _ :: _, _, _, _, _, _, h, _ => h.elim
  | _ :: _, _ :: _, [], _, _, _, _, _, h, _ => h.elim
  | t :: ts, v :: vs, dd :: ds, ps, S, r, hty, hwd, h, hR => by
    obtain ⟨p, q, ⟨fuel, h1⟩, h2, _⟩ := h
    obtain ⟨S1, r1, acs, g1, g2, g3, g4, g5⟩ := open_trod d t _ S r (hty t (by simp)) ⟨fuel, _, h1⟩ hR
    obtain ⟨S2, r2, as, k1, k2, k3, k4, k5⟩ := open_args ts vs ds q S1 r1 (fun u hu => hty u (by simp [hu])) (fun j u x hj hx => hwd (j + 1) u x (by simpa using hj) (by simpa using hx)) h2 g1
    have hw := hwd 0 t v rfl rfl
    have one : ∃ av, VR P r2 av v ∧ TyV P S2 d t av := by
      have hsc : v.cells = #[v] → (∀ fs, P.underlying t ≠ some (.struct fs)) → (∀ n e, P.underlying t ≠ some (.array n e)) → ∃ av, VR P r2 av v ∧ TyV P S2 d t av := by
        intro hv hs ha
        rw [hv] at g4
        have hl : acs.length = 1 := by simpa using g4.1
        obtain ⟨av, rfl⟩ := List.length_eq_one_iff.1 hl
        refine ⟨av, (g4.2 0 av v rfl rfl).mono k2, ?_⟩
        unfold TyV
        split
        · rename_i fs hu; exact absurd hu (hs fs)
        · rename_i n e hu; exact absurd hu (ha n e)
        · exact g5.mono k3
      have hagg : ∀ cs : Array Value, v = .agg cs → ((∃ fs, P.underlying t = some (.struct fs)) ∨ ∃ n e, P.underlying t = some (.array n e)) → ∃ av, VR P r2 av v ∧ TyV P S2 d t av := by
        rintro cs rfl hu
        refine ⟨.agg acs.toArray, ?_, ?_⟩
        · have := VR.agg_of (g4.mono k2)
          simpa [Value.cells] using this
        · unfold TyV
          rcases hu with ⟨fs, hu⟩ | ⟨n, e, hu⟩ <;> rw [hu] <;> exact ⟨acs, rfl, g5.mono k3⟩
      unfold Value.okWide at hw
      have hty0 := hty t (by simp)
      cases hu : P.underlying t with
      | none => cases d <;> simp [tyOK, hu] at hty0
      | some desc =>
        rw [hu] at hw
        cases desc with
        | struct fs =>
          obtain ⟨cs, h3, _, _⟩ := hw
          exact hagg cs h3 (.inl ⟨fs, hu⟩)
        | array n e =>
          obtain ⟨cs, h3, _, _⟩ := hw
          exact hagg cs h3 (.inr ⟨n, e, hu⟩)
        | bool | int _ | string | slice _ =>
          refine hsc ?_ (fun fs h => by rw [hu] at h; cases h) (fun n e h => by rw [hu] at h; cases h)
          cases v with
          | agg cs => simp [Cell.okWide, Cell.ok, hu] at hw
          | _ => rfl
        | _ => cases d <;> simp [tyOK, hu] at hty0
    obtain ⟨av, q1, q2⟩ := one
    exact ⟨S2, r2, av :: as, k1, g2.trans k2, g3.trans k3, .cons q1 k4, q2, k5⟩

/-- at the start -/
theorem Rel.start (W : World) : Rel P (fun b => W.heap[b]?) W (fun _ => none) AS.empty W := by
  have hget : ∀ n, AS.empty.get n = none := fun n => rfl
  refine ⟨rfl, rfl, rfl, Nat.le_refl _, fun _ _ => rfl, fun n o h => ?_, fun n m o o' L M h => ?_, fun _ _ => rfl, fun n o L h => ?_, fun b obj h => ⟨h, fun n o L h => ?_⟩⟩
  all_goals (rw [hget] at h; cases h)

/-- what lives has a name that was given out -/
def AS.Valid (S : AS) : Prop := ∀ n o, S.get n = some o → o ≠ .dead → n < S.next
theorem Rel.valid {r : Rho} {S : AS} {w0 w : World} (h : Rel P prot w0 r S w) : S.Valid := fun n o hn hd => by
  rcases h.live n o hn with h1 | ⟨L, obj, h1, _⟩
  · exact absurd h1 hd
  · rcases Nat.lt_or_ge n S.next with h2 | h2
    · exact h2
    · rw [h.fresh n h2] at h1; cases h1

theorem law_true {G : Tab} (hF : TableOK P G.F) {LW : World → Prop} (hL0 : LW W) (hE : ExtOK P LW G.ext) (hm : P.follows .mixedOrders = true) {k d base : Nat} {ts : List TypeId} {args : Array Value} {ds : List (DataW H)} {ps : List MemPlace}
    (hty : ∀ t ∈ ts, tyOK P d t = true) (hwd : ∀ (j : Nat) t v, ts[j]? = some t → args[j]? = some v → Value.okWide P W .any base t v)
    (hA : DataW.TrodAll enc P W 0 (fun _ => true) true ts args.toList ds ps)
    (hlaw : ∀ S as, AS.Valid S → TyArgs P S d ts as → Call G k as S fun e _ => e = .ret (.bool true)) :
    Calls P k args W fun e W' => e = .returned (.bool true) ∧ RowKit.Below W.heap.size W W' := by
  obtain ⟨S, r, as, g1, g2, g3, g4, g5⟩ := open_args (prot := fun b => W.heap[b]?) ts args.toList ds ps AS.empty (fun _ => none) hty (fun j t v h1 h2 => hwd j t v h1 (by simpa using h2)) hA (Rel.start W)
  obtain ⟨n, hn⟩ := hlaw S as g1.valid g5
  have hok := callFn_ok (w0 := W) (F := G.F) (ext := G.ext) hF hL0 hE (ex := exec G.F G.ext n) (exec_wp2 hF hL0 hE (draw_ok hm) n).1
  obtain ⟨_, hc⟩ := hok.fn (fun b => W.heap[b]?) k as args.toList S W r (fun x => x.1 = .ret (.bool true)) g1 g4 hn
  rw [show args.toList.toArray = args from by simp] at hc
  refine hc.mono ?_
  rintro e W' ⟨en, S', r', q1, q2, q3, q4, q5⟩
  simp only at q1
  subst q1
  cases q2 with
  | ret v v' hv =>
    rw [hv.bool_inv]
    refine ⟨rfl, q5.os, q5.tape, q5.output, q5.size, fun b hb => ?_⟩
    have h1 : W.heap[b]? = some W.heap[b] := by simp [hb]
    rw [h1]
    exact (q5.prot b _ h1).1
end
end Go.Gx

/-
  A law's row: it returns true, the arguments read as before.
-/
namespace Go.Gx
open Go.ChangeShapes Go.WideShapes Go.ChangeAt Go.RowKit

theorem trodAll_stays {H : Type} {enc : TypeId × Value → H} {P : Program} (hl : laidOutB P = true) {W W' : World} (hb : RowKit.Below W.heap.size W W') : ∀ (ts : List TypeId) (vs : List Value) (ds : List (DataW H)) (ps : List MemPlace),
    (∀ t ∈ ts, P.readableRec t = true ∧ t < P.types.size) → (∀ x ∈ ps, x.block < W.heap.size) → DataW.TrodAll enc P W 0 (fun _ => true) true ts vs ds ps →
    DataW.TrodAll enc P W' 0 (fun b => decide (b < W.heap.size)) true ts vs ds ps
  | [], [], [], _, _, _, h => h
  | [], [], _ :: _, _, _, _, h => h.elim
  | [], _ :: _, [], _, _, _, h => h.elim
  | [], _ :: _, _ :: _, _, _, _, h => h.elim
  | _ :: _, [], [], _, _, _, h => h.elim
  | _ :: _, [], _ :: _, _, _, _, h => h.elim
  | _ :: _, _ :: _, [], _, _, _, h => h.elim
  | t :: ts, v :: vs, d :: ds, ps, hr, hlt, h => by
    obtain ⟨p, q, h1, h2, rfl⟩ := h
    exact ⟨p, q, Below.trod hl (hr t (by simp)).1 (hr t (by simp)).2 h1 hb (fun x hx => hlt x (List.mem_append_left _ hx)),
      trodAll_stays hl hb ts vs ds q (fun u hu => hr u (by simp [hu])) (fun x hx => hlt x (List.mem_append_right _ hx)) h2, rfl⟩

theorem trodAll_len {H : Type} {enc : TypeId × Value → H} {P : Program} {W : World} : ∀ (ts : List TypeId) (vs : List Value) (ds : List (DataW H)) (ps : List MemPlace),
    DataW.TrodAll enc P W 0 (fun _ => true) true ts vs ds ps → ds.length = ts.length
  | [], [], [], _, _ => rfl
  | [], [], _ :: _, _, h => h.elim
  | [], _ :: _, [], _, h => h.elim
  | [], _ :: _, _ :: _, _, h => h.elim
  | _ :: _, [], [], _, h => h.elim
  | _ :: _, [], _ :: _, _, h => h.elim
  | _ :: _, _ :: _, [], _, h => h.elim
  | t :: ts, v :: vs, d :: ds, ps, h => by
    obtain ⟨p, q, _, h2, _⟩ := h
    simp [trodAll_len ts vs ds q h2]

theorem law_returns {C : Checked} {G : Tab} (hF : TableOK C.prog G.F) (hE : ExtOK C.prog noL G.ext) (hm : C.prog.follows .mixedOrders = true) {os : Os} (started : os.Started) {k d : Nat} {fn : Func} {s : ChangeSpec} {H : Type} {enc : TypeId × Value → H} {conds : List PathCond}
    (own : ownKnob C.prog.godebug = none) (noInit : C.prog.inits.idxOf? k = none) (hfn : C.prog.funcs[k]? = some fn)
    (witness : ∃ (w : World) (tape : Tape) (i : Input), w.os = os ∧ (w.forCall tape i).Shaped C.prog ∧ i.vars = [] ∧ Input.okWide C.prog (w.forCall tape i) .any w.heap.size k i ∧
      s.pre6 enc C.prog fn conds false (w.forCall tape i).memory i.args ∧ ({} : Assume).holds C.prog (lone (Frame.enter C.prog k i.args .normal) [] (w.forCall tape i)))
    (hl : laidOutB C.prog = true) (hvars : s.vars = []) {tb : TypeId} (hrt : fn.resultTypes = #[tb]) (htb : C.prog.underlying tb = some .bool)
    {ts : List TypeId} (hts : fn.params.toList = ts) (hty : ∀ t ∈ ts, C.prog.readableRec t = true ∧ t < C.prog.types.size ∧ tyOK C.prog d t = true)
    (hspec : ∀ (ds : List (DataW H)), ds.length = ts.length → (s.fn H ds).results = [.lit (.bool true)] ∧ (s.fn H ds).args = ds ∧ (s.fn H ds).vars = [])
    (hlaw : ∀ S as, AS.Valid S → TyArgs C.prog S d ts as → Call G k as S fun e _ => e = .ret (.bool true)) :
    ReturnsInHanded {} C os k .any (s.pre6 enc C.prog fn conds false) (s.post enc C.prog fn false true false false) := by
  refine returnsInHanded_of_change_sized own started noInit hfn witness ?_
  intro W base args ds gs before hval hW _ _ _
  have hW' := hW
  obtain ⟨p, q, hA, hV, rfl, _, _⟩ := hW
  rw [hts] at hA
  have hV2 := hV
  rw [hvars] at hV2
  obtain ⟨rfl, rfl⟩ := trodVars_none hV2
  simp only [List.append_nil] at hW' ⊢
  have hlen := trodAll_len ts _ ds p hA
  obtain ⟨e1, e2, e3⟩ := hspec ds hlen
  refine (law_true (enc := enc) (base := base) hF (LW := noL) trivial hE hm (fun t ht => (hty t ht).2.2) (fun j t v h1 h2 => hval j t v (by rw [← Array.getElem?_toList, hts]; exact h1) h2) hA hlaw).mono ?_
  rintro e W' ⟨rfl, hb⟩
  have hlt : ∀ x ∈ p, x.block < W.heap.size := fun x hx => hW'.lt x (by simpa using hx)
  refine ⟨_, rfl, ds, [], p, [], p, [], hW', ?_, ?_, ?_, hb.frame _, fun h => by cases h⟩
  · simp only [List.append_nil]
    rw [e1, hrt]
    exact trodAll_mk1 ⟨1, by simp [Value.cells, DataW.trod, htb]⟩
  · simp only [List.append_nil]
    rw [e2, hts]
    exact trodAll_stays hl hb ts _ ds p (fun t ht => ⟨(hty t ht).1, (hty t ht).2.1⟩) hlt hA
  · simp only [List.append_nil]
    rw [e3, hvars]
    rfl
theorem law_returns_laid {C : Checked} {G : Tab} {LW : World → Prop} {laid : List (String × DataW Unit)} (hLaid : ∀ W : World, laidMetH C.prog laid W → LW W) (hF : TableOK C.prog G.F) (hE : ExtOK C.prog LW G.ext) (hm : C.prog.follows .mixedOrders = true) {os : Os} (started : os.Started) {k d : Nat} {fn : Func} {s : ChangeSpec} {H : Type} {enc : TypeId × Value → H} {conds : List PathCond}
    (own : ownKnob C.prog.godebug = none) (noInit : C.prog.inits.idxOf? k = none) (hfn : C.prog.funcs[k]? = some fn)
    (witness : ∃ (w : World) (tape : Tape) (i : Input), w.os = os ∧ (w.forCall tape i).Shaped C.prog ∧ i.vars = [] ∧ Input.okWide C.prog (w.forCall tape i) .any w.heap.size k i ∧
      ((s.pre enc C.prog fn conds false (w.forCall tape i).memory i.args ∧ laidMetH C.prog laid (w.forCall tape i).memory) ∧ sizedMet enc C.prog fn (OpenSpec.ofChange s) false (w.forCall tape i).memory i.args) ∧ ({} : Assume).holds C.prog (lone (Frame.enter C.prog k i.args .normal) [] (w.forCall tape i)))
    (hl : laidOutB C.prog = true) (hvars : s.vars = []) {tb : TypeId} (hrt : fn.resultTypes = #[tb]) (htb : C.prog.underlying tb = some .bool)
    {ts : List TypeId} (hts : fn.params.toList = ts) (hty : ∀ t ∈ ts, C.prog.readableRec t = true ∧ t < C.prog.types.size ∧ tyOK C.prog d t = true)
    (hspec : ∀ (ds : List (DataW H)), ds.length = ts.length → (s.fn H ds).results = [.lit (.bool true)] ∧ (s.fn H ds).args = ds ∧ (s.fn H ds).vars = [])
    (hlaw : ∀ S as, AS.Valid S → TyArgs C.prog S d ts as → Call G k as S fun e _ => e = .ret (.bool true)) :
    ReturnsInHanded {} C os k .any (fun w args => (s.pre enc C.prog fn conds false w args ∧ laidMetH C.prog laid w) ∧ sizedMet enc C.prog fn (OpenSpec.ofChange s) false w args) (s.post enc C.prog fn false true false false) := by
  refine returnsInHanded_of_change_and (X := fun w _ => laidMetH C.prog laid w) (fun _ _ _ hh h => h.of_heap hh) own started noInit hfn witness ?_
  intro W base args ds gs before hval hW _ _ hLW _
  have hW' := hW
  obtain ⟨p, q, hA, hV, rfl, _, _⟩ := hW
  rw [hts] at hA
  have hV2 := hV
  rw [hvars] at hV2
  obtain ⟨rfl, rfl⟩ := trodVars_none hV2
  simp only [List.append_nil] at hW' ⊢
  have hlen := trodAll_len ts _ ds p hA
  obtain ⟨e1, e2, e3⟩ := hspec ds hlen
  refine (law_true (enc := enc) (base := base) hF (hLaid W hLW) hE hm (fun t ht => (hty t ht).2.2) (fun j t v h1 h2 => hval j t v (by rw [← Array.getElem?_toList, hts]; exact h1) h2) hA hlaw).mono ?_
  rintro e W' ⟨rfl, hb⟩
  have hlt : ∀ x ∈ p, x.block < W.heap.size := fun x hx => hW'.lt x (by simpa using hx)
  refine ⟨_, rfl, ds, [], p, [], p, [], hW', ?_, ?_, ?_, hb.frame _, fun h => by cases h⟩
  · simp only [List.append_nil]
    rw [e1, hrt]
    exact trodAll_mk1 ⟨1, by simp [Value.cells, DataW.trod, htb]⟩
  · simp only [List.append_nil]
    rw [e2, hts]
    exact trodAll_stays hl hb ts _ ds p (fun t ht => ⟨(hty t ht).1, (hty t ht).2.1⟩) hlt hA
  · simp only [List.append_nil]
    rw [e3, hvars]
    rfl
end Go.Gx

/-
  Closed runs: what the kernel has run is known of the model.
-/
namespace Go.Gx

def T.isTrue : T (En × AS) → Bool
  | .ret (.ret (.bool b), _) => b
  | .ret _ => false
  | .fail => false
  | .choose n k => (List.range n).all fun i => (k i).isTrue

theorem T.isTrue_all : ∀ {t : T (En × AS)}, t.isTrue = true → t.all fun r => r.1 = .ret (.bool true)
  | .ret (.ret v, S), h => by
    cases v with
    | bool b =>
      have : b = true := h
      subst this; rfl
    | _ => cases h
  | .ret (.panic v, S), h => by cases h
  | .fail, h => by cases h
  | .choose n k, h => by
    intro i hi
    simp only [T.isTrue, List.all_eq_true] at h
    exact T.isTrue_all (h i (by simpa using hi))

section
variable {P : Program}

theorem closed_run {F : Nat → Option IFn} {ext : Nat → List Value → AS → Option (Value × AS)} (hF : TableOK P F) {LW : World → Prop} (hE : ExtOK P LW ext) (hm : P.follows .mixedOrders = true) {k n : Nat}
    (h : (callFn F ext (exec F ext n) k [] AS.empty).isTrue = true) (W : World) (hL0 : LW W) :
    Calls P k #[] W fun e W' => e = .returned (.bool true) ∧ RowKit.Below W.heap.size W W' := by
  have hn := T.isTrue_all h
  have hok := callFn_ok (w0 := W) (F := F) (ext := ext) hF hL0 hE (ex := exec F ext n) (exec_wp2 hF hL0 hE (draw_ok hm) n).1
  obtain ⟨_, hc⟩ := hok.fn (fun b => W.heap[b]?) k [] [] AS.empty W (fun _ => none) (fun x => x.1 = .ret (.bool true)) (Rel.start W) .nil hn
  refine hc.mono ?_
  rintro e W' ⟨en, S', r', q1, q2, q3, q4, q5⟩
  simp only at q1
  subst q1
  cases q2 with
  | ret v v' hv =>
    rw [hv.bool_inv]
    refine ⟨rfl, q5.os, q5.tape, q5.output, q5.size, fun b hb => ?_⟩
    have h1 : W.heap[b]? = some W.heap[b] := by simp [hb]
    rw [h1]
    exact (q5.prot b _ h1).1

theorem extNone {LW : World → Prop} : ExtOK P LW fun _ _ _ => none := fun k args S v h => by cases h

/-- calls without arguments that return true, the kernel says -/
def extOf (ks : List Nat) : Nat → List Value → AS → Option (Value × AS) := fun k args S => if args = [] ∧ k ∈ ks then some (.bool true, S) else none

theorem extOf_ok {LW : World → Prop} (hSt : Stab LW) {ks : List Nat} (h : ∀ k ∈ ks, (∃ fn, P.funcs[k]? = some fn ∧ fn.body.isSome = true ∧ (fn.name == "runtime.NumGoroutine") = false) ∧
    ∀ w, LW w → Calls P k #[] w fun e w' => e = .returned (.bool true) ∧ RowKit.Below w.heap.size w w') : ExtOK P LW (extOf ks) := by
  intro k args S v hv
  unfold extOf at hv
  split at hv
  · rename_i hk
    cases hv
    obtain ⟨rfl, hk⟩ := hk
    refine ⟨(h k hk).1, fun prot w0 r w args' hL0 hR hl => ?_⟩
    have := hl.nil_inv
    subst this
    refine ((h k hk).2 w (hSt w0 w hL0 hR.size hR.low)).mono ?_
    rintro e w' ⟨rfl, hb⟩
    exact ⟨r, _, rfl, .bool true, Ext.refl _ _, Nat.le_refl _, hR.below hb⟩
  · cases hv

theorem extOf_none {ks : List Nat} {k : Nat} {args : List Value} {S : AS} (h : args ≠ [] ∨ k ∉ ks) : extOf ks k args S = none := by
  unfold extOf
  rw [if_neg]
  rintro ⟨h1, h2⟩
  rcases h with h | h
  · exact h h1
  · exact h h2
theorem extOf_some {ks : List Nat} {k : Nat} {S : AS} (h : k ∈ ks) : extOf ks k [] S = some (.bool true, S) := by
  unfold extOf
  rw [if_pos ⟨rfl, h⟩]

/-- the one or the other -/
def extOr (e f : Nat → List Value → AS → Option (Value × AS)) : Nat → List Value → AS → Option (Value × AS) := fun k args S => match e k args S with
  | some x => some x
  | none => f k args S
theorem extOr_ok {LW : World → Prop} {e f : Nat → List Value → AS → Option (Value × AS)} (he : ExtOK P LW e) (hf : ExtOK P LW f) : ExtOK P LW (extOr e f) := by
  intro k args S x h
  unfold extOr at h
  split at h
  · rename_i hy; cases h; exact he k args S _ hy
  · exact hf k args S x h
theorem extOr_left {e f : Nat → List Value → AS → Option (Value × AS)} {k : Nat} {args : List Value} {S : AS} {x : Value × AS} (h : e k args S = some x) : extOr e f k args S = some x := by
  unfold extOr; rw [h]
theorem extOr_right {e f : Nat → List Value → AS → Option (Value × AS)} {k : Nat} {args : List Value} {S : AS} (h : e k args S = none) : extOr e f k args S = f k args S := by
  unfold extOr; rw [h]
end
end Go.Gx

/-
  Closed runs in pieces: what the kernel has run once is looked up.
-/
namespace Go.Gx
set_option linter.all false

/-! ## memories, compared -/
def esb : List MapEntry → List MapEntry → Bool
  | [], [] => true
  | e :: es, f :: fs => vb e.key f.key && vb e.val f.val && e.born == f.born && esb es fs
  | _, _ => false
theorem esb_eq : ∀ a b, esb a b = true → a = b
  | [], [], _ => rfl
  | e :: es, f :: fs, h => by
    simp only [esb, Bool.and_eq_true, beq_iff_eq] at h
    obtain ⟨⟨⟨h1, h2⟩, h3⟩, h4⟩ := h
    obtain ⟨k, v, b⟩ := e
    obtain ⟨k', v', b'⟩ := f
    simp only at h1 h2 h3
    rw [vb_eq _ _ h1, vb_eq _ _ h2, h3, esb_eq _ _ h4]
  | [], _ :: _, h => by simp [esb] at h
  | _ :: _, [], h => by simp [esb] at h

/-- rows, maps and what is dead -/
def aob : AObj → AObj → Bool
  | .row c e w x, .row c' e' w' x' => vbL c c' && e == e' && w == w' && x == x'
  | .map es c, .map es' c' => esb es es' && c == c'
  | .miter m s l p, .miter m' s' l' p' => m == m' && s == s' && l == l' && p == p'
  | .dead, .dead => true
  | .defd none, .defd none => true
  | _, _ => false
theorem aob_eq {a b : AObj} (h : aob a b = true) : a = b := by
  unfold aob at h
  split at h
  · simp only [Bool.and_eq_true, beq_iff_eq] at h
    obtain ⟨⟨⟨h1, h2⟩, h3⟩, h4⟩ := h
    rw [vbL_eq _ _ h1, h2, h3, h4]
  · simp only [Bool.and_eq_true, beq_iff_eq] at h
    rw [esb_eq _ _ h.1, h.2]
  · simp only [Bool.and_eq_true, beq_iff_eq] at h
    obtain ⟨⟨⟨h1, h2⟩, h3⟩, h4⟩ := h
    rw [h1, h2, h3, h4]
  · rfl
  · rfl
  · cases h

def oab : Option AObj → Option AObj → Bool
  | none, none => true
  | some a, some b => aob a b
  | _, _ => false
theorem oab_eq {a b : Option AObj} (h : oab a b = true) : a = b := by
  unfold oab at h
  split at h
  · rfl
  · rw [aob_eq h]
  · cases h
def trb : Tr AObj → Tr AObj → Bool
  | .nil, .nil => true
  | .node v l r, .node v' l' r' => oab v v' && (trb l l' && trb r r')
  | _, _ => false
theorem trb_eq : ∀ {a b : Tr AObj}, trb a b = true → a = b
  | .nil, .nil, _ => rfl
  | .node v l r, .node v' l' r', h => by
    simp only [trb, Bool.and_eq_true] at h
    rw [oab_eq h.1, trb_eq h.2.1, trb_eq h.2.2]
  | .nil, .node .., h => by simp [trb] at h
  | .node .., .nil, h => by simp [trb] at h
def asb (S U : AS) : Bool := S.next == U.next && trb S.mem U.mem
theorem asb_eq {S U : AS} (h : asb S U = true) : S = U := by
  obtain ⟨n, m⟩ := S
  obtain ⟨n', m'⟩ := U
  simp only [asb, Bool.and_eq_true, beq_iff_eq] at h
  rw [h.1, trb_eq h.2]

/-- a part of a memory -/
def tsub : Tr AObj → Tr AObj → Bool
  | .nil, _ => true
  | .node none l r, .nil => tsub l .nil && tsub r .nil
  | .node (some _) _ _, .nil => false
  | .node none l r, .node _ l' r' => tsub l l' && tsub r r'
  | .node (some a) l r, .node (some b) l' r' => aob a b && (tsub l l' && tsub r r')
  | .node (some _) _ _, .node none _ _ => false
theorem tsub_get : ∀ {a b : Tr AObj}, tsub a b = true → ∀ n o, a.get n = some o → b.get n = some o
  | .nil, _, _, n, o, h => by simp [Tr.get] at h
  | .node none l r, .nil, h, n, o, hg => by
    simp only [tsub, Bool.and_eq_true] at h
    unfold Tr.get at hg
    split at hg
    · cases hg
    · split at hg
      · have := tsub_get h.1 _ _ hg; simp [Tr.get] at this
      · have := tsub_get h.2 _ _ hg; simp [Tr.get] at this
  | .node (some _) _ _, .nil, h, n, o, hg => by simp [tsub] at h
  | .node none l r, .node v' l' r', h, n, o, hg => by
    simp only [tsub, Bool.and_eq_true] at h
    unfold Tr.get at hg ⊢
    split at hg
    · cases hg
    · rename_i hn
      rw [if_neg hn]
      split at hg
      · rename_i h2; rw [if_pos h2]; exact tsub_get h.1 _ _ hg
      · rename_i h2; rw [if_neg h2]; exact tsub_get h.2 _ _ hg
  | .node (some a) l r, .node (some b) l' r', h, n, o, hg => by
    simp only [tsub, Bool.and_eq_true] at h
    unfold Tr.get at hg ⊢
    split at hg
    · rename_i hn
      rw [if_pos hn, ← aob_eq h.1]; exact hg
    · rename_i hn
      rw [if_neg hn]
      split at hg
      · rename_i h2; rw [if_pos h2]; exact tsub_get h.2.1 _ _ hg
      · rename_i h2; rw [if_neg h2]; exact tsub_get h.2.2 _ _ hg
  | .node (some _) _ _, .node none _ _, h, n, o, hg => by simp [tsub] at h

theorem Rel.sub {P : Program} {prot : Nat → Option Obj} {w0 : World} {r : Rho} {S U : AS} {w : World} (h : Rel P prot w0 r S w) (hg : ∀ n o, U.get n = some o → S.get n = some o) (hn : U.next = S.next) : Rel P prot w0 r U w :=
  ⟨h.os, h.tape, h.output, h.size, h.low, fun n o e => h.live n o (hg n o e), fun n m o o' L M e e' => h.uniq n m o o' L M (hg n o e) (hg m o' e'),
    fun n hn' => h.fresh n (by omega), fun n o L e => h.ro n o L (hg n o e), fun b obj e => ⟨(h.prot b obj e).1, fun n o L e' => (h.prot b obj e).2 n o L (hg n o e')⟩⟩

def me (k v : Value) (b : Nat) : MapEntry := { key := k, val := v, born := b }
/-- a memory of these -/
def AS.of (n : Nat) (l : List (Nat × AObj)) : AS := ⟨n, l.foldl (fun t p => t.set p.1 p.2) .nil⟩

/-- a call that has been run: the function, its arguments, the memory; what it gives, and what of the memory is kept -/
structure Memo where
  k : Nat
  args : List Value
  S : AS
  v : Value
  U : AS

def Memo.hit (m : Memo) (k : Nat) (args : List Value) (S : AS) : Bool := m.k == k && (vbL m.args args && (m.S.next == S.next && tsub m.S.mem S.mem))
/-- the run gives this -/
def Memo.isRun (m : Memo) : T (En × AS) → Bool
  | .ret (.ret v, S') => vb m.v v && (m.U.next == S'.next && tsub m.U.mem S'.mem)
  | _ => false
/-- what the call did not know stays -/
def tmerge : Tr AObj → Tr AObj → Tr AObj → Tr AObj
  | u, _, .nil => u
  | u, a, .node v l r => .node (match a.val with | some _ => u.val | none => match v with | some o => some o | none => u.val) (tmerge u.lt a.lt l) (tmerge u.rt a.rt r)
theorem Tr.get_eq (t : Tr AObj) (n : Nat) : t.get n = if n = 0 then t.val else if n % 2 = 1 then t.lt.get (n / 2) else t.rt.get (n / 2 - 1) := by
  cases t with
  | nil => simp [Tr.get, Tr.val, Tr.lt, Tr.rt]
  | node v l r => rw [Tr.get]; rfl
theorem tmerge_get : ∀ (u a s : Tr AObj) (n : Nat), (tmerge u a s).get n = match a.get n, s.get n with | none, some o => some o | _, _ => u.get n
  | u, a, .nil, n => by
    unfold tmerge
    simp only [Tr.get]
    cases a.get n <;> rfl
  | u, a, .node v l r, n => by
    unfold tmerge
    rw [Tr.get_eq a n, Tr.get_eq u n, Tr.get, Tr.get]
    by_cases h : n = 0
    · simp only [h, if_true]
      cases a.val <;> cases v <;> rfl
    · simp only [h, if_false]
      by_cases h2 : n % 2 = 1
      · simp only [h2, if_true]; exact tmerge_get _ _ _ _
      · simp only [h2, if_false]; exact tmerge_get _ _ _ _
def Memo.res (m : Memo) (S : AS) : AS := ⟨m.U.next, tmerge m.U.mem m.S.mem S.mem⟩
def memoX (m : Memo) (ext : Nat → List Value → AS → Option (Value × AS)) : Nat → List Value → AS → Option (Value × AS) := fun k args S => if m.hit k args S = true then some (m.v, m.res S) else ext k args S

open Classical in
theorem Rel.frame {P : Program} {prot : Nat → Option Obj} {w0 : World} {r : Rho} {S A : AS} {w : World} (h : Rel P prot w0 r S w) (hs : ∀ n o, A.get n = some o → S.get n = some o) (hn : A.next = S.next) :
    ∃ prot', Rel P prot' w0 r A w ∧ ∀ (U M : AS) (r' : Rho) (w' : World), Ext r r' A.next → A.next ≤ U.next → Rel P prot' w0 r' U w' → M.next = U.next →
      (∀ n, M.get n = match A.get n, S.get n with | none, some o => some o | _, _ => U.get n) → Rel P prot w0 r' M w' := by
  let D : Nat → Prop := fun b => ∃ n o L, S.get n = some o ∧ A.get n = none ∧ o ≠ .dead ∧ r n = some L ∧ L.b = b
  refine ⟨fun b => if D b then w.heap[b]? else prot b, ⟨h.os, h.tape, h.output, h.size, h.low, fun n o e => h.live n o (hs n o e), fun n m o o' L M e e' => h.uniq n m o o' L M (hs n o e) (hs m o' e'),
    fun n hn' => h.fresh n (by omega), fun n o L e => h.ro n o L (hs n o e), fun b obj e => ?_⟩, ?_⟩
  · split at e
    · rename_i hD
      obtain ⟨n, o, L, h1, h2, h3, h4, rfl⟩ := hD
      refine ⟨e, fun n' o' L' e' ho hL => ?_⟩
      have hne : n' ≠ n := by rintro rfl; rw [h2] at e'; cases e'
      exact h.uniq n' n o' o L' L (hs n' o' e') h1 ho h3 hne hL h4
    · exact ⟨(h.prot b obj e).1, fun n o L e' => (h.prot b obj e).2 n o L (hs n o e')⟩
  · intro U M r' w' hx hle hU hMn hM
    have hlt : ∀ n o L, S.get n = some o → o ≠ .dead → r n = some L → r' n = some L := fun n o L _ _ hL => hx.1 _ _ hL
    -- what was not known stays
    have old : ∀ n o L, S.get n = some o → A.get n = none → o ≠ .dead → r n = some L → ∃ obj, w'.heap[L.b]? = some obj ∧ ObjR P r' L o obj ∧ ∀ m q N, U.get m = some q → q.own = true → r' m = some N → N.b ≠ L.b := by
      intro n o L h1 h2 h3 h4
      rcases h.live n o h1 with e | ⟨L', obj, e1, e2, e3⟩
      · exact absurd e h3
      · rw [h4] at e1; cases e1
        have hp : (fun b => if D b then w.heap[b]? else prot b) L.b = some obj := by
          simp only
          rw [if_pos ⟨n, o, L, h1, h2, h3, h4, rfl⟩]; exact e2
        obtain ⟨q1, q2⟩ := hU.prot L.b obj hp
        exact ⟨obj, q1, e3.mono hx.1, q2⟩
    have cases' : ∀ n o, M.get n = some o → (S.get n = some o ∧ A.get n = none) ∨ U.get n = some o := by
      intro n o e
      rw [hM n] at e
      cases ha : A.get n with
      | some x => rw [ha] at e; exact .inr e
      | none =>
        rw [ha] at e
        cases hsn : S.get n with
        | none => rw [hsn] at e; exact .inr e
        | some x => rw [hsn] at e; exact .inl ⟨e, rfl⟩
    have rr : ∀ n o L, S.get n = some o → A.get n = none → o ≠ .dead → r' n = some L → r n = some L := by
      intro n o L h1 h2 h3 h4
      rcases h.live n o h1 with e | ⟨L', _, e1, _⟩
      · exact absurd e h3
      · have := hx.1 _ _ e1
        rw [h4] at this; cases this; exact e1
    refine ⟨hU.os, hU.tape, hU.output, hU.size, hU.low, fun n o e => ?_, fun n m o o' L N e e' ho ho' hne hL hN => ?_, fun n hn' => hU.fresh n (by omega), fun n o L e hd hL => ?_, fun b obj e => ?_⟩
    · rcases cases' n o e with ⟨h1, h2⟩ | h1
      · by_cases hd : o = .dead
        · exact .inl hd
        · rcases h.live n o h1 with e | ⟨L, _, e1, _⟩
          · exact absurd e hd
          · obtain ⟨obj, q1, q2, _⟩ := old n o L h1 h2 hd e1
            exact .inr ⟨L, obj, hx.1 _ _ e1, q1, q2⟩
      · exact hU.live n o h1
    · have hod : o ≠ .dead := by rintro rfl; cases ho
      rcases cases' n o e with ⟨h1, h2⟩ | h1 <;> rcases cases' m o' e' with ⟨g1, g2⟩ | g1
      · exact h.uniq n m o o' L N h1 g1 ho ho' hne (rr _ _ _ h1 h2 hod hL) (rr _ _ _ g1 g2 ho' hN)
      · have hL' := rr _ _ _ h1 h2 hod hL
        obtain ⟨obj, q1, q2, q3⟩ := old n o L h1 h2 hod hL'
        cases hown : o'.own with
        | true => exact Ne.symm (q3 m o' N g1 hown hN)
        | false =>
          have a1 := (h.ro n o L h1 hod hL').1 ho
          have a2 := (hU.ro m o' N g1 ho' hN).2 hown
          omega
      · have hN' := rr _ _ _ g1 g2 ho' hN
        obtain ⟨obj, q1, q2, q3⟩ := old m o' N g1 g2 ho' hN'
        exact q3 n o L h1 ho hL
      · exact hU.uniq n m o o' L N h1 g1 ho ho' hne hL hN
    · rcases cases' n o e with ⟨h1, h2⟩ | h1
      · exact h.ro n o L h1 hd (rr _ _ _ h1 h2 hd hL)
      · exact hU.ro n o L h1 hd hL
    · obtain ⟨p1, p2⟩ := h.prot b obj e
      have hp : (fun b => if D b then w.heap[b]? else prot b) b = some obj := by
        simp only
        split
        · exact p1
        · exact e
      obtain ⟨q1, q2⟩ := hU.prot b obj hp
      refine ⟨q1, fun n o L e' ho hL => ?_⟩
      rcases cases' n o e' with ⟨h1, h2⟩ | h1
      · have hod : o ≠ .dead := by rintro rfl; cases ho
        exact p2 n o L h1 ho (rr _ _ _ h1 h2 hod hL)
      · exact q2 n o L h1 ho hL

theorem memoX_ok {P : Program} {F : Nat → Option IFn} {ext base : Nat → List Value → AS → Option (Value × AS)} (hF : TableOK P F) {LW : World → Prop} (hE : ExtOK P LW ext) (hB : ExtOK P LW base) (hm : P.follows .mixedOrders = true) {m : Memo} {n : Nat}
    (hb : ∃ fn, P.funcs[m.k]? = some fn ∧ fn.body.isSome = true ∧ (fn.name == "runtime.NumGoroutine") = false)
    (h : m.isRun (callFn F ext (exec F ext n) m.k m.args m.S) = true) : ExtOK P LW (memoX m base) := by
  intro k args S v hv
  unfold memoX at hv
  split at hv
  · rename_i hk
    simp only [Memo.hit, Bool.and_eq_true, beq_iff_eq] at hk
    obtain ⟨rfl, h2, h3, h4⟩ := hk
    have h2 := vbL_eq _ _ h2
    subst h2
    cases hv
    refine ⟨hb, fun prot w0 r w args' hL0 hR hl => ?_⟩
    have hok := callFn_ok (w0 := w0) (F := F) (ext := ext) hF hL0 hE (ex := exec F ext n) (exec_wp2 hF hL0 hE (draw_ok hm) n).1
    unfold Memo.isRun at h
    split at h
    · rename_i v' S' he
      simp only [Bool.and_eq_true, beq_iff_eq] at h
      obtain ⟨h1, h5, h6⟩ := h
      have h1 := vb_eq _ _ h1
      obtain ⟨prot', hR', hback⟩ := hR.frame (A := m.S) (tsub_get h4) h3
      obtain ⟨_, hc⟩ := hok.fn prot' m.k m.args args' m.S w r (fun x => x = (.ret m.v, S')) hR' hl (by
        show T.all _ (callFn F ext (exec F ext n) m.k m.args m.S)
        rw [he, h1]; rfl)
      refine hc.mono ?_
      rintro e W' ⟨en, S2, r', q1, q2, q3, q4, q5⟩
      cases q1
      cases q2 with
      | ret v2 v3 hv2 =>
        refine ⟨r', _, rfl, hv2, by rw [← h3]; exact q3, by show S.next ≤ m.U.next; omega, hback m.U (m.res S) r' W' q3 (by omega) (q5.sub (tsub_get h6) h5) rfl fun x => ?_⟩
        exact tmerge_get _ _ _ _
    · cases h
  · exact hB k args S v hv
end Go.Gx

/-
  The same run with the temporaries in a tree: for the kernel.
-/
namespace Go.Gx
set_option linter.all false

structure ActF where
  env : Tr Value
  len : Nat
  defers : List Deferred
  pan : Option Value
  recd : Bool
  rnd : Option Nat

def ActF.tmp (a : ActF) (t : Nat) : Value := match a.env.get t with
  | some v => v
  | none => undef
def ActF.ev (a : ActF) : Operand → Value
  | .tmp t => a.tmp t
  | .const v => v
  | .global g => .pointer (some ⟨g, 0, none⟩)
  | .func f => .func (.func f) #[] #[]
def ActF.put (a : ActF) : Option Nat → Value → ActF
  | some d, v => if d < a.len then { a with env := a.env.set d v } else a
  | none, _ => a
def ActF.list (a : ActF) : List Value := (List.range a.len).map a.tmp
def trOf : List Value → Nat → Tr Value → Tr Value
  | [], _, t => t
  | v :: vs, n, t => trOf vs (n + 1) (t.set n v)

structure AR (a : Act) (b : ActF) : Prop where
  env : ∀ t, a.env.getD t undef = b.tmp t
  len : a.env.length = b.len
  defers : a.defers = b.defers
  pan : a.pan = b.pan
  recd : a.recd = b.recd
  rnd : a.rnd = b.rnd

inductive TRel {α β : Type} (R : α → β → Prop) : T α → T β → Prop where
  | ret {a b} (h : R a b) : TRel R (.ret a) (.ret b)
  | fail : TRel R .fail .fail
  | choose {n k k'} (h : ∀ i, TRel R (k i) (k' i)) : TRel R (.choose n k) (.choose n k')

theorem TRel.bind {α β γ δ : Type} {R : α → β → Prop} {R' : γ → δ → Prop} {f : α → T γ} {g : β → T δ} {t : T α} {u : T β} (h : TRel R t u) (hf : ∀ a b, R a b → TRel R' (f a) (g b)) : TRel R' (t.bind f) (u.bind g) := by
  induction h with
  | ret h => exact hf _ _ h
  | fail => exact .fail
  | choose h ih => exact .choose ih
theorem TRel.refl {α : Type} : ∀ (t : T α), TRel Eq t t
  | .ret a => .ret rfl
  | .fail => .fail
  | .choose n k => .choose fun i => TRel.refl (k i)
theorem TRel.eq {α : Type} {t u : T α} (h : TRel Eq t u) : t = u := by
  induction h with
  | ret h => rw [h]
  | fail => rfl
  | choose h ih => congr 1; funext i; exact ih i

theorem Tr.get_set' {α : Type} (t : Tr α) (n m : Nat) (a : α) : (t.set n a).get m = if m = n then some a else t.get m := Tr.get_set t n m a

theorem trOf_get : ∀ (l : List Value) (n : Nat) (t : Tr Value) (m : Nat), (trOf l n t).get m = if n ≤ m ∧ m < n + l.length then l[m - n]? else t.get m
  | [], n, t, m => by simp [trOf]; omega
  | v :: vs, n, t, m => by
    unfold trOf
    rw [trOf_get vs (n + 1) _ m, Tr.get_set']
    simp only [List.length_cons]
    by_cases h1 : m = n
    · subst h1
      rw [if_neg (by omega), if_pos rfl, if_pos (by omega)]; simp
    · by_cases h2 : n ≤ m ∧ m < n + (vs.length + 1)
      · rw [if_pos (by omega), if_pos h2]
        have : m - n = (m - (n + 1)) + 1 := by omega
        rw [this, List.getElem?_cons_succ]
      · rw [if_neg (by omega), if_neg h1, if_neg h2]

def ActF.of (l : List Value) (len : Nat) (rnd : Option Nat) : ActF := ⟨trOf l 0 .nil, len, [], none, false, rnd⟩
theorem AR.of (l : List Value) (k : Nat) (rnd : Option Nat) : AR { env := l ++ List.replicate k undef, defers := [], rnd } (ActF.of l (l.length + k) rnd) := by
  refine ⟨fun t => ?_, by simp [ActF.of], rfl, rfl, rfl, rfl⟩
  unfold ActF.tmp ActF.of
  simp only [trOf_get, Nat.zero_le, true_and, Nat.zero_add, Nat.sub_zero]
  rw [List.getD_eq_getElem?_getD]
  by_cases h : t < l.length
  · rw [if_pos h, List.getElem?_append_left h, List.getElem?_eq_getElem h]; rfl
  · rw [if_neg h, List.getElem?_append_right (by omega), List.getElem?_replicate]
    simp only [Tr.get]
    split <;> rfl
theorem AR.of0 (l : List Value) (rnd : Option Nat) : AR { env := l, defers := [], rnd } (ActF.of l l.length rnd) := by
  have := AR.of l 0 rnd
  simpa using this

section
variable {a : Act} {b : ActF}
theorem AR.ev (h : AR a b) : a.ev = b.ev := by
  funext x
  cases x with
  | tmp t => exact h.env t
  | _ => rfl
theorem AR.list (h : AR a b) : a.env = b.list := by
  apply List.ext_getElem?
  intro t
  unfold ActF.list
  by_cases ht : t < a.env.length
  · have h2 : t < b.len := by rw [← h.len]; exact ht
    rw [List.getElem?_eq_getElem ht, List.getElem?_map, List.getElem?_range h2]
    have := h.env t
    rw [List.getD_eq_getElem?_getD, List.getElem?_eq_getElem ht] at this
    simp only [Option.map_some]
    rw [← this]; rfl
  · rw [List.getElem?_eq_none (by omega), List.getElem?_eq_none (by simp; rw [← h.len]; omega)]
theorem AR.put (h : AR a b) (d : Option Nat) (v : Value) : AR (a.put d v) (b.put d v) := by
  cases d with
  | none => exact h
  | some d =>
    by_cases hd : d < a.env.length
    · have h2 : d < b.len := by rw [← h.len]; exact hd
      unfold Act.put ActF.put
      simp only [h2, if_true]
      refine ⟨fun t => ?_, by simp [h.len], h.defers, h.pan, h.recd, h.rnd⟩
      have := h.env t
      unfold ActF.tmp at this ⊢
      simp only [Tr.get_set']
      rw [List.getD_eq_getElem?_getD, List.getElem?_set] at *
      by_cases ht : t = d
      · subst ht; simp [hd]
      · rw [if_neg (Ne.symm ht), if_neg ht]; exact this
    · have h2 : ¬ d < b.len := by rw [← h.len]; exact hd
      unfold Act.put ActF.put
      simp only [h2, if_false]
      rw [List.set_eq_of_length_le (by omega)]
      exact h
end

def wantsF (a : ActF) : Option (Nat × Bool) → Bool
  | none => true
  | some (d, b) => match a.tmp d with
    | .bool c => c == b
    | _ => false
theorem AR.wants {a : Act} {b : ActF} (h : AR a b) (g : Option (Nat × Bool)) : wants a g = wantsF b g := by
  cases g with
  | none => rfl
  | some p =>
    obtain ⟨d, c⟩ := p
    unfold Gx.wants wantsF
    have := h.env d
    rw [List.getD_eq_getElem?_getD] at this
    simp only
    rw [← this]
    cases a.env[d]? with
    | none => rfl
    | some v => cases v <;> rfl

abbrev RF := T (Ex × ActF × AS)
def RR (x : Ex × Act × AS) (y : Ex × ActF × AS) : Prop := x.1 = y.1 ∧ AR x.2.1 y.2.1 ∧ x.2.2 = y.2.2

def pushDF (a : ActF) (dst : Option Nat) : Option Nat → Option Deferred → Option ActF
  | none, some d => some ({ a with defers := d :: a.defers }.put dst undef)
  | _, _ => none
def stepOF (call : Callee → AS → T (En × AS)) (o : O) (fr : Nat) (a : ActF) (S : AS) : RF :=
  match o.i with
  | .call f args => match calleeOf (a.ev f) (args.map a.ev) with
    | some c => (call c S).bind fun
      | (.ret v, S') => .ret (.norm, a.put o.dst v, S')
      | (.panic v, S') => .ret (.panic v, a, S')
    | none => .fail
  | .defer f args => match pushDF a o.dst a.rnd (deferOf (a.ev f) (args.map a.ev)) with
    | some a' => .ret (.norm, a', S)
    | none => .fail
  | .panic x => match a.ev x with
    | .iface t v => .ret (.panic (.iface t v), a, S)
    | _ => .fail
  | .recover => .fail
  | i => (i.eval a.ev fr S).bind fun (v, S') => .ret (.norm, a.put o.dst v, S')

theorem stepO_rel {call : Callee → AS → T (En × AS)} {o : O} {fr : Nat} {a : Act} {b : ActF} (h : AR a b) (S : AS) : TRel RR (stepO call o fr a S) (stepOF call o fr b S) := by
  have gen : ∀ t : T (Value × AS), TRel RR (t.bind fun (v, S') => .ret (.norm, a.put o.dst v, S')) (t.bind fun (v, S') => .ret (.norm, b.put o.dst v, S')) := fun t =>
    (TRel.refl t).bind fun x y e => by subst e; exact .ret ⟨rfl, h.put _ _, rfl⟩
  unfold stepO stepOF
  rw [h.ev]
  obtain ⟨dst, i, g⟩ := o
  cases i with
  | call f args =>
    simp only
    generalize calleeOf (b.ev f) (List.map b.ev args) = c
    cases c with
    | none => exact .fail
    | some c =>
      refine (TRel.refl _).bind fun x y e => ?_
      subst e
      obtain ⟨e, S'⟩ := x
      cases e with
      | ret v => exact .ret ⟨rfl, h.put _ _, rfl⟩
      | panic v => exact .ret ⟨rfl, h, rfl⟩
  | defer f args =>
    simp only
    rw [h.rnd]
    generalize deferOf (b.ev f) (List.map b.ev args) = d
    cases hr : b.rnd with
    | some l => exact .fail
    | none =>
      cases d with
      | none => exact .fail
      | some d =>
        refine .ret ⟨rfl, AR.put ?_ _ _, rfl⟩
        exact ⟨h.env, h.len, by rw [h.defers], h.pan, h.recd, h.rnd⟩
  | panic x =>
    simp only
    generalize b.ev x = v
    cases v with
    | iface t v => exact .ret ⟨rfl, h, rfl⟩
    | _ => exact .fail
  | recover => exact .fail
  | _ => exact gen _

def stepOsF (call : Callee → AS → T (En × AS)) : List O → Nat → ActF → AS → RF
  | [], _, a, S => .ret (.norm, a, S)
  | o :: os, fr, a, S =>
    let fr' := if o.i.takes then fr + 1 else fr
    if wantsF a o.guard then
      (stepOF call o fr a S).bind fun
        | (.norm, a', S') => stepOsF call os fr' a' S'
        | r => .ret r
    else stepOsF call os fr' (a.put o.dst undef) S

theorem stepOs_rel {call : Callee → AS → T (En × AS)} : ∀ {os : List O} {fr : Nat} {a : Act} {b : ActF} (_ : AR a b) (S : AS), TRel RR (stepOs call os fr a S) (stepOsF call os fr b S)
  | [], fr, a, b, h, S => .ret ⟨rfl, h, rfl⟩
  | o :: os, fr, a, b, h, S => by
    unfold stepOs stepOsF
    simp only
    rw [h.wants]
    by_cases hw : wantsF b o.guard = true
    · simp only [hw, if_true]
      refine (stepO_rel h S).bind fun x y e => ?_
      obtain ⟨e1, a1, S1⟩ := x
      obtain ⟨e2, b2, S2⟩ := y
      obtain ⟨h1, h2, h3⟩ := e
      simp only at h1 h2 h3
      subst h1; subst h3
      cases e1 with
      | norm => exact stepOs_rel h2 S1
      | _ => exact .ret ⟨rfl, h2, rfl⟩
    · simp only [hw]
      exact stepOs_rel (h.put _ _) S

def stillF (S : AS) (mask : Nat) : List (DO × ActF × Value) → Bool
  | [] => true
  | (r, a, v) :: rest =>
    (mask.testBit r.id || (match r.o.i.eval a.ev 0 S with
      | .ret (v', _) => vb v' v
      | _ => false)) && stillF S mask rest
def forgetF : List DO → ActF → ActF
  | [], a => a
  | d :: ds, a => match d.o.dst with
    | some t => forgetF ds (a.put (some t) undef)
    | none => forgetF ds a

def RdsR : List (DO × Act × Value) → List (DO × ActF × Value) → Prop
  | [], [] => True
  | (d, a, v) :: l, (d', b, v') :: l' => d = d' ∧ AR a b ∧ v = v' ∧ RdsR l l'
  | _, _ => False
theorem RdsR.cons {d : DO} {a : Act} {b : ActF} {v : Value} {l : List (DO × Act × Value)} {l' : List (DO × ActF × Value)} (h : AR a b) (hr : RdsR l l') : RdsR ((d, a, v) :: l) ((d, b, v) :: l') := ⟨rfl, h, rfl, hr⟩
theorem RdsR.nil : RdsR [] [] := True.intro
theorem still_rel {S : AS} {mask : Nat} : ∀ {l : List (DO × Act × Value)} {l' : List (DO × ActF × Value)}, RdsR l l' → still S mask l = stillF S mask l'
  | [], [], _ => rfl
  | [], _ :: _, h => h.elim
  | _ :: _, [], h => h.elim
  | (d, a, v) :: l, (d', b, v') :: l', h => by
    obtain ⟨rfl, h2, rfl, h4⟩ := h
    unfold still stillF
    rw [h2.ev, still_rel h4]
    generalize d.o.i.eval b.ev 0 S = t
    cases t with
    | ret x =>
      obtain ⟨v', S'⟩ := x
      simp only
      by_cases hv : v' = v
      · subst hv; simp [vb_refl]
      · have : vb v' v = false := by
          cases e : vb v' v with
          | false => rfl
          | true => exact absurd (vb_eq _ _ e) hv
        simp [hv, this]
    | _ => rfl
theorem forget_rel : ∀ (ds : List DO) {a : Act} {b : ActF}, AR a b → AR { a with env := forget ds a.env } (forgetF ds b)
  | [], a, b, h => h
  | d :: ds, a, b, h => by
    unfold forget forgetF
    cases ht : d.o.dst with
    | some t => exact forget_rel ds (h.put (some t) undef)
    | none => exact forget_rel ds h

def drawOsF (call : Callee → AS → T (En × AS)) (all : List DO) : List DO → Nat → ActF → AS → List (Nat × Nat × AObj) → List (DO × ActF × Value) → RF
  | [], _, a, S, pend, _ => .ret (.norm, a, flushAll pend S)
  | d :: ds, n0, a, S, pend, rds =>
    if wantsF a d.o.guard then
      match d.cls with
      | .pure => (d.o.i.eval a.ev 0 S).bind fun (v, _) => drawOsF call all ds n0 (a.put d.o.dst v) S pend rds
      | .read => (d.o.i.eval a.ev 0 S).bind fun (v, _) => drawOsF call all ds n0 (a.put d.o.dst v) S pend ((d, a, v) :: rds)
      | .new => match d.o.i.newV a.ev (n0 + d.nm) with
        | some (v, o) => drawOsF call all ds n0 (a.put d.o.dst v) S ((d.id, n0 + d.nm, o) :: pend) rds
        | none => .fail
      | .lit => match litP d.o a.ev (d.lit.getD 0) pend with
        | some pend' => drawOsF call all ds n0 (a.put d.o.dst undef) S pend' rds
        | none => .fail
      | .other =>
        (stepOF call d.o (n0 + d.nm) a (flush d.bef pend S).2).bind fun
          | (.norm, a', S') => if stillF S' d.bef rds then drawOsF call all ds n0 a' S' (flush d.bef pend S).1 rds else .fail
          | (.panic v, a', S') => .ret (.panic v, forgetF all a', S')
          | _ => .fail
    else drawOsF call all ds n0 (a.put d.o.dst undef) S pend rds

theorem drawOs_rel {call : Callee → AS → T (En × AS)} {all : List DO} : ∀ {ds : List DO} {n0 : Nat} {a : Act} {b : ActF} {pend : List (Nat × Nat × AObj)} {rds : List (DO × Act × Value)} {rdf : List (DO × ActF × Value)} (_ : AR a b) (_ : RdsR rds rdf) (S : AS),
    TRel RR (drawOs call all ds n0 a S pend rds) (drawOsF call all ds n0 b S pend rdf)
  | [], n0, a, b, pend, rds, rdf, h, hr, S => by unfold drawOs drawOsF; exact .ret ⟨rfl, h, rfl⟩
  | d :: ds, n0, a, b, pend, rds, rdf, h, hr, S => by
    unfold drawOs drawOsF
    rw [h.wants, h.ev]
    by_cases hw : wantsF b d.o.guard = true
    · simp only [hw, if_true]
      cases hc : d.cls with
      | pure => exact (TRel.refl _).bind fun x y e => by subst e; exact drawOs_rel (h.put _ _) hr S
      | read => exact (TRel.refl _).bind fun x y e => by subst e; exact drawOs_rel (h.put _ _) (RdsR.cons h hr) S
      | new =>
        simp only
        generalize d.o.i.newV b.ev (n0 + d.nm) = t
        cases t with
        | none => exact .fail
        | some x => exact drawOs_rel (h.put _ _) hr S
      | lit =>
        simp only
        generalize litP d.o b.ev (d.lit.getD 0) pend = t
        cases t with
        | none => exact .fail
        | some x => exact drawOs_rel (h.put _ _) hr S
      | other =>
        refine (stepO_rel h _).bind fun x y e => ?_
        obtain ⟨e1, a1, S1⟩ := x
        obtain ⟨e2, b2, S2⟩ := y
        obtain ⟨h1, h2, h3⟩ := e
        simp only at h1 h2 h3
        subst h1; subst h3
        cases e1 with
        | norm =>
          simp only
          rw [still_rel hr]
          by_cases hs : stillF S1 d.bef rdf = true
          · simp only [hs, if_true]; exact drawOs_rel h2 hr S1
          · simp only [hs]; exact .fail
        | panic v => exact .ret ⟨rfl, forget_rel all h2, rfl⟩
        | _ => exact .fail
    · simp only [hw]
      exact drawOs_rel (h.put _ _) hr S

def loadRVF (a : ActF) (S : AS) : RV → Option Value
  | .tmp t => some (a.tmp t)
  | .cell t agg => match a.tmp t with
    | .pointer (some ⟨n, o, none⟩) => match S.get n with
      | some (.row cells _ _ _) => rowLoad cells o agg
      | _ => none
    | _ => none
def resVF (rs : List RV) (a : ActF) (S : AS) : Option Value :=
  match rs.mapM (loadRVF a S) with
  | some [v] => some v
  | some us => some (.tuple us.toArray)
  | none => none
theorem AR.res {a : Act} {b : ActF} (h : AR a b) (rs : List RV) (S : AS) : resV rs a.env S = resVF rs b S := by
  have : loadRV a.env S = loadRVF b S := by
    funext x
    cases x with
    | tmp t => show some _ = some _; rw [h.env]
    | cell t agg => simp only [loadRV, loadRVF, h.env]; rfl
  unfold resV resVF
  rw [this]
  rfl

def execDF (ex : C → ActF → AS → RF) (p : Option Value) (c : C) (a : ActF) (S : AS) : T (Bool × Ex × ActF × AS) :=
  match headRec c with
  | some (d, y) => (ex y (a.put d (p.getD .nilIface)) S).bind fun r => .ret (p.isSome, r)
  | none => (ex c a S).bind fun r => .ret (false, r)
def leaveDF (F : Nat → Option IFn) (ex : C → ActF → AS → RF) : List Deferred → Option Value → AS → T (Option Value × AS)
  | [], p, S => .ret (p, S)
  | d :: ds, p, S =>
    match d.target with
    | .collected r => match S.get r with
      | some (.defd (some [])) => leaveDF F ex ds p (S.put r (.defd none))
      | _ => .fail
    | .fn (.func k) cap => match F k with
      | some fn =>
        (execDF ex p fn.body (ActF.of (d.args.toList ++ cap.toList) ((d.args.toList ++ cap.toList).length + (fn.ntmps - (d.args.toList ++ cap.toList).length)) none) S).bind fun
          | (rc, .norm, a, S') | (rc, .ret, a, S') => match a.defers, resVF fn.results a S' with
            | [], some _ => leaveDF F ex ds (if rc then none else p) S'
            | _, _ => .fail
          | _ => .fail
      | none => .fail
    | _ => .fail
def callFnF (F : Nat → Option IFn) (ext : Nat → List Value → AS → Option (Value × AS)) (ex : C → ActF → AS → RF) (f : Nat) (args : List Value) (S : AS) : T (En × AS) :=
  match ext f args S with
  | some x => .ret (.ret x.1, x.2)
  | none => match F f with
    | none => .fail
    | some fn =>
      (ex fn.body (ActF.of args (args.length + (fn.ntmps - args.length)) none) S).bind fun
        | (.norm, a, S') | (.ret, a, S') => match drain a.defers S' with
          | some S2 => match resVF fn.results a S2 with
            | some v => .ret (.ret v, S2)
            | none => .fail
          | none => (leaveDF F ex a.defers none S').bind fun
            | (none, S2) => match resVF fn.results a S2 with
              | some v => .ret (.ret v, S2)
              | none => .fail
            | (some _, _) => .fail
        | (.panic v, a, S') => match a.defers with
          | [] => .ret (.panic v, S')
          | d :: ds => (leaveDF F ex (d :: ds) (some v) S').bind fun
            | (none, S2) => if cellsOnly fn.results then
                match resVF fn.results a S2 with
                | some v => .ret (.ret v, S2)
                | none => .fail
              else .fail
            | (some v, S2) => .ret (.panic v, S2)
        | _ => .fail

def callRoundF (ex : C → ActF → AS → RF) (l : Nat) (args : List Value) (S : AS) : T (En × AS) :=
  match S.get l with
  | some (.loop .ready pend env ps asg body dblk) =>
    if args.length = ps.length then
      (ex asg (ActF.of (setParams ps args env) (setParams ps args env).length (some l)) S).bind fun
        | (.norm, a, S1) => match S1.get l with
          | some (.loop .ready pend1 env1 ps1 asg1 body1 dblk1) =>
            (ex body a (S1.put l (.loop .busy pend1 env1 ps1 asg1 body1 dblk1))).bind fun (e, _, S2) =>
              match S2.get l with
              | some (.loop _ _ env2 ps2 asg2 body2 dblk2) => match e with
                | .norm => .ret (.ret (.bool true), S2.put l (.loop .ready none env2 ps2 asg2 body2 dblk2))
                | .exit id => .ret (.ret (.bool false), S2.put l (.loop .done (some (.exit id)) env2 ps2 asg2 body2 dblk2))
                | .ret => .ret (.ret (.bool false), S2.put l (.loop .done (some .ret) env2 ps2 asg2 body2 dblk2))
                | .panic _ => .fail
              | _ => .fail
          | _ => .fail
        | _ => .fail
    else .fail
  | _ => .fail

def callAnyF (F : Nat → Option IFn) (ext : Nat → List Value → AS → Option (Value × AS)) (ex : C → ActF → AS → RF) : Callee → AS → T (En × AS)
  | .fn f args, S => callFnF F ext ex f args S
  | .round l args, S => callRoundF ex l args S

def execF (F : Nat → Option IFn) (ext : Nat → List Value → AS → Option (Value × AS)) : Nat → C → ActF → AS → RF
  | 0, _, _, _ => .fail
  | n + 1, c, a, S =>
    match c with
    | .skip => .ret (.norm, a, S)
    | .region na ops => stepOsF (callAnyF F ext (execF F ext n)) ops S.next a (S.bump na)
    | .draw na ops => drawOsF (callAnyF F ext (execF F ext n)) ops ops S.next a (S.bump na) [] []
    | .seq x y => (execF F ext n x a S).bind fun
      | (.norm, a', S') => execF F ext n y a' S'
      | r => .ret r
    | .cond c x y => match a.ev c with
      | .bool b => execF F ext n (if b then x else y) a S
      | _ => .fail
    | .block id x => (execF F ext n x a S).bind fun
      | (.exit id', a', S') => .ret (if id' = id then .norm else .exit id', a', S')
      | r => .ret r
    | .loop x => (execF F ext n x a S).bind fun
      | (.norm, a', S') => execF F ext n (.loop x) a' S'
      | r => .ret r
    | .rangeF f ps asg body =>
      match a.rnd with
      | some _ => .fail
      | none =>
        let d := S.next
        let l := S.next + 1
        let S1 := ((S.bump 2).put d (.defd (some []))).put l (.loop .ready none a.list ps asg body d)
        let a1 := { a with defers := { target := .collected d, args := #[] } :: a.defers }
        match calleeOf (a.ev f) [.func (.yield l) #[] #[]] with
        | some (.fn k as) => (callAnyF F ext (execF F ext n) (.fn k as) S1).bind fun
          | (.ret _, S2) => match S2.get l with
            | some (.loop st pend env2 ps2 asg2 body2 dblk2) =>
              if st = .busy then .fail else
              let S3 := S2.put l (.loop .exhausted pend env2 ps2 asg2 body2 dblk2)
              match pend with
              | none => .ret (.norm, a1, S3)
              | some (.exit id) => .ret (.exit id, a1, S3)
              | some .ret => .ret (.ret, a1, S3)
            | _ => .fail
          | (.panic v, S2) => .ret (.panic v, a1, S2)
        | _ => .fail
    | .exit id => .ret (.exit id, a, S)
    | .ret => .ret (.ret, a, S)

section
variable {F : Nat → Option IFn} {ext : Nat → List Value → AS → Option (Value × AS)}
theorem execD_rel {ex : C → Act → AS → R} {exf : C → ActF → AS → RF} (h : ∀ c a b S, AR a b → TRel RR (ex c a S) (exf c b S)) (p : Option Value) (c : C) {a : Act} {b : ActF} (hab : AR a b) (S : AS) :
    TRel (fun x y => x.1 = y.1 ∧ RR x.2 y.2) (execD ex p c a S) (execDF exf p c b S) := by
  unfold execD execDF
  cases hh : headRec c with
  | some x =>
    obtain ⟨d, y⟩ := x
    exact (h _ _ _ _ (hab.put _ _)).bind fun x y e => .ret ⟨rfl, e⟩
  | none => exact (h _ _ _ _ hab).bind fun x y e => .ret ⟨rfl, e⟩
theorem leaveD_eq {ex : C → Act → AS → R} {exf : C → ActF → AS → RF} (h : ∀ c a b S, AR a b → TRel RR (ex c a S) (exf c b S)) : ∀ (ds : List Deferred) (p : Option Value) (S : AS), TRel Eq (leaveD F ex ds p S) (leaveDF F exf ds p S)
  | [], p, S => .ret rfl
  | d :: ds, p, S => by
    unfold leaveD leaveDF
    obtain ⟨tg, as⟩ := d
    cases tg with
    | collected r =>
      simp only
      cases S.get r with
      | none => exact .fail
      | some ob =>
        cases ob with
        | defd l =>
          cases l with
          | none => exact .fail
          | some l => cases l with
            | nil => exact leaveD_eq h ds _ _
            | cons _ _ => exact .fail
        | _ => exact .fail
    | fn f cap =>
      cases f with
      | func k =>
        simp only
        cases F k with
        | none => exact .fail
        | some fn =>
          refine (execD_rel h p _ (AR.of _ _ none) S).bind fun x y e => ?_
          obtain ⟨c1, e1, a1, S1⟩ := x
          obtain ⟨c2, e2, b2, S2⟩ := y
          obtain ⟨h0, h1, h2, h3⟩ := e
          simp only at h0 h1 h2 h3
          subst h0; subst h1; subst h3
          have fin : ∀ p' : Option Value, TRel Eq (match a1.defers, resV fn.results a1.env S1 with
              | [], some _ => leaveD F ex ds p' S1
              | _, _ => .fail) (match b2.defers, resVF fn.results b2 S1 with
              | [], some _ => leaveDF F exf ds p' S1
              | _, _ => .fail) := by
            intro p'
            rw [h2.defers, h2.res]
            generalize b2.defers = dd
            generalize resVF fn.results b2 S1 = rr
            cases dd with
            | nil => cases rr with
              | none => exact .fail
              | some v => exact leaveD_eq h ds _ _
            | cons _ _ => exact .fail
          cases e1 with
          | norm => exact fin _
          | ret => exact fin _
          | panic v => exact .fail
          | exit id => exact .fail
      | _ => exact .fail
    | _ => exact .fail
theorem callFn_eq {ex : C → Act → AS → R} {exf : C → ActF → AS → RF} (h : ∀ c a b S, AR a b → TRel RR (ex c a S) (exf c b S)) (k : Nat) (args : List Value) (S : AS) : callFn F ext ex k args S = callFnF F ext exf k args S := by
  apply TRel.eq
  unfold callFn callFnF
  cases ext k args S with
  | some x => exact .ret rfl
  | none =>
    simp only
    cases F k with
    | none => exact .fail
    | some fn =>
      refine (h _ _ _ _ (AR.of args _ none)).bind fun x y e => ?_
      obtain ⟨e1, a1, S1⟩ := x
      obtain ⟨e2, b2, S2⟩ := y
      obtain ⟨h1, h2, h3⟩ := e
      simp only at h1 h2 h3
      subst h1; subst h3
      have norm : TRel Eq (match drain a1.defers S1 with
          | some S2 => match resV fn.results a1.env S2 with
            | some v => (T.ret (En.ret v, S2) : T (En × AS))
            | none => .fail
          | none => (leaveD F ex a1.defers none S1).bind fun
            | (none, S2) => match resV fn.results a1.env S2 with
              | some v => .ret (.ret v, S2)
              | none => .fail
            | (some _, _) => .fail) (match drain b2.defers S1 with
          | some S2 => match resVF fn.results b2 S2 with
            | some v => (T.ret (En.ret v, S2) : T (En × AS))
            | none => .fail
          | none => (leaveDF F exf b2.defers none S1).bind fun
            | (none, S2) => match resVF fn.results b2 S2 with
              | some v => .ret (.ret v, S2)
              | none => .fail
            | (some _, _) => .fail) := by
        rw [h2.defers]
        simp only [h2.res]
        cases drain b2.defers S1 with
        | some S2 => exact .refl _
        | none => simp only; rw [(leaveD_eq h b2.defers none S1).eq]; exact .refl _
      cases e1 with
      | norm => exact norm
      | ret => exact norm
      | panic v =>
        simp only [h2.defers, h2.res]
        cases b2.defers with
        | nil => exact .refl _
        | cons d ds => simp only; rw [(leaveD_eq h _ (some v) S1).eq]; exact .refl _
      | exit id => exact .fail
theorem callRound_eq {ex : C → Act → AS → R} {exf : C → ActF → AS → RF} (h : ∀ c a b S, AR a b → TRel RR (ex c a S) (exf c b S)) (l : Nat) (args : List Value) (S : AS) : callRound ex l args S = callRoundF exf l args S := by
  apply TRel.eq
  unfold callRound callRoundF
  cases S.get l with
  | none => exact .fail
  | some ob =>
    cases ob with
    | loop st pend env ps asg body dblk =>
      cases st with
      | ready =>
        simp only
        by_cases hl : args.length = ps.length
        · simp only [hl, if_true]
          refine (h _ _ _ _ (AR.of0 _ _)).bind fun x y e => ?_
          obtain ⟨e1, a1, S1⟩ := x
          obtain ⟨e2, b2, S2⟩ := y
          obtain ⟨h1, h2, h3⟩ := e
          simp only at h1 h2 h3
          subst h1; subst h3
          cases e1 with
          | norm =>
            simp only
            cases S1.get l with
            | none => exact .fail
            | some ob1 =>
              cases ob1 with
              | loop st1 pend1 env1 ps1 asg1 body1 dblk1 =>
                cases st1 with
                | ready =>
                  refine (h _ _ _ _ h2).bind fun x y e => ?_
                  obtain ⟨e1, a1, S1⟩ := x
                  obtain ⟨e2, b2, S2⟩ := y
                  obtain ⟨h1, h2, h3⟩ := e
                  simp only at h1 h2 h3
                  subst h1; subst h3
                  exact .refl _
                | _ => exact .fail
              | _ => exact .fail
          | _ => exact .fail
        · simp only [hl, if_false]; exact .fail
      | _ => exact .fail
    | _ => exact .fail
theorem callAny_eq {ex : C → Act → AS → R} {exf : C → ActF → AS → RF} (h : ∀ c a b S, AR a b → TRel RR (ex c a S) (exf c b S)) : callAny F ext ex = callAnyF F ext exf := by
  funext c S
  cases c with
  | fn k as => exact callFn_eq h k as S
  | round l as => exact callRound_eq h l as S

theorem exec_rel : ∀ (n : Nat) (c : C) (a : Act) (b : ActF) (S : AS), AR a b → TRel RR (exec F ext n c a S) (execF F ext n c b S)
  | 0, c, a, b, S, h => .fail
  | n + 1, c, a, b, S, h => by
    have ih := exec_rel n
    have hcall := callAny_eq (F := F) (ext := ext) (ih)
    cases c with
    | skip => exact .ret ⟨rfl, h, rfl⟩
    | exit id => exact .ret ⟨rfl, h, rfl⟩
    | ret => exact .ret ⟨rfl, h, rfl⟩
    | region na ops => simp only [exec, execF]; rw [hcall]; exact stepOs_rel h _
    | draw na ops => simp only [exec, execF]; rw [hcall]; exact drawOs_rel h RdsR.nil _
    | seq x y =>
      simp only [exec, execF]
      refine (ih _ _ _ _ h).bind fun x y e => ?_
      obtain ⟨e1, a1, S1⟩ := x
      obtain ⟨e2, b2, S2⟩ := y
      obtain ⟨h1, h2, h3⟩ := e
      simp only at h1 h2 h3
      subst h1; subst h3
      cases e1 with
      | norm => exact ih _ _ _ _ h2
      | _ => exact .ret ⟨rfl, h2, rfl⟩
    | cond c x y =>
      simp only [exec, execF]
      rw [h.ev]
      generalize b.ev c = v
      cases v with
      | bool t => exact ih _ _ _ _ h
      | _ => exact .fail
    | block id x =>
      simp only [exec, execF]
      refine (ih _ _ _ _ h).bind fun x y e => ?_
      obtain ⟨e1, a1, S1⟩ := x
      obtain ⟨e2, b2, S2⟩ := y
      obtain ⟨h1, h2, h3⟩ := e
      simp only at h1 h2 h3
      subst h1; subst h3
      cases e1 <;> exact .ret ⟨rfl, h2, rfl⟩
    | loop x =>
      simp only [exec, execF]
      refine (ih _ _ _ _ h).bind fun x y e => ?_
      obtain ⟨e1, a1, S1⟩ := x
      obtain ⟨e2, b2, S2⟩ := y
      obtain ⟨h1, h2, h3⟩ := e
      simp only at h1 h2 h3
      subst h1; subst h3
      cases e1 with
      | norm => exact ih _ _ _ _ h2
      | _ => exact .ret ⟨rfl, h2, rfl⟩
    | rangeF f ps asg body =>
      simp only [exec, execF]
      have hS : ((S.bump 2).put S.next (.defd (some []))).put (S.next + 1) (.loop .ready none a.env ps asg body S.next) = ((S.bump 2).put S.next (.defd (some []))).put (S.next + 1) (.loop .ready none b.list ps asg body S.next) := by rw [h.list]
      rw [hS, h.ev, hcall]
      have hrn := h.rnd
      cases hb : b.rnd with
      | some r => rw [hb] at hrn; rw [hrn]; exact .fail
      | none =>
        rw [hb] at hrn
        rw [hrn]
        simp only
        have h1 : ∀ d, AR { env := a.env, defers := { target := .collected d, args := #[] } :: a.defers, pan := a.pan, recd := a.recd, rnd := none } { env := b.env, len := b.len, defers := { target := .collected d, args := #[] } :: b.defers, pan := b.pan, recd := b.recd, rnd := none } := fun d =>
          ⟨h.env, h.len, by rw [h.defers], h.pan, h.recd, rfl⟩
        generalize calleeOf (b.ev f) [.func (.yield (S.next + 1)) #[] #[]] = c
        cases c with
        | none => exact .fail
        | some c =>
          cases c with
          | round l as => exact .fail
          | fn k as =>
            refine (TRel.refl _).bind fun x y e => ?_
            subst e
            obtain ⟨e, S2⟩ := x
            cases e with
            | panic v => exact .ret ⟨rfl, h1 _, rfl⟩
            | ret v =>
              simp only
              cases S2.get (S.next + 1) with
              | none => exact .fail
              | some ob =>
                cases ob with
                | loop st pend env2 ps2 asg2 body2 dblk2 =>
                  simp only
                  by_cases hst : st = .busy
                  · simp only [hst, if_true]; exact .fail
                  · simp only [hst, if_false]
                    cases pend with
                    | none => exact .ret ⟨rfl, h1 _, rfl⟩
                    | some j => cases j <;> exact .ret ⟨rfl, h1 _, rfl⟩
                | _ => exact .fail

theorem fast_eq (n k : Nat) (args : List Value) (S : AS) : callFn F ext (exec F ext n) k args S = callFnF F ext (execF F ext n) k args S := callFn_eq (exec_rel n) k args S
end
end Go.Gx
