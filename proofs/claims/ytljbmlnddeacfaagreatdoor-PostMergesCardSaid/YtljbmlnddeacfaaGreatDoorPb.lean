/-
  Registers: checking, counting, merging (no program in sight).
-/
import Derived.Test.YtljbmlnddeacfaaGreatDoorPa

set_option linter.all false
set_option linter.deprecated false

namespace Go.Gx.B
open Go.Lib
set_option linter.all false

def Nt.dlt (x y : Nt) : Prop := x.day < y.day ∨ x.day = y.day ∧ x.lt y
instance (x y : Nt) : Decidable (x.dlt y) := by unfold Nt.dlt; exact inferInstance
theorem lt_irr (x : Nt) : ¬ x.lt x := by unfold Nt.lt; omega
theorem lt_tr {x y z : Nt} (h : x.lt y) (k : y.lt z) : x.lt z := by unfold Nt.lt at *; omega
theorem dlt_irr (x : Nt) : ¬ x.dlt x := by unfold Nt.dlt Nt.lt; omega
theorem dlt_tr {x y z : Nt} (h : x.dlt y) (k : y.dlt z) : x.dlt z := by unfold Nt.dlt Nt.lt at *; omega
theorem dlt_tot {x y : Nt} (h : ¬ x.dlt y) (k : ¬ y.dlt x) : x.day = y.day ∧ x.node = y.node ∧ x.num = y.num := by unfold Nt.dlt Nt.lt at *; omega
/-- adjacent ones rise -/
def risesD : List Nt → Bool
  | x :: y :: l => decide (x.dlt y) && risesD (y :: l)
  | _ => true
theorem risesD_pw : ∀ {l : List Nt}, risesD l = true ↔ l.Pairwise Nt.dlt
  | [] => by simp [risesD]
  | [x] => by simp [risesD]
  | x :: y :: l => by
    have ih := @risesD_pw (y :: l)
    simp only [risesD, Bool.and_eq_true, decide_eq_true_eq, ih, List.pairwise_cons (a := x)]
    constructor
    · rintro ⟨h1, h2⟩
      refine ⟨fun z hz => ?_, h2⟩
      rcases List.mem_cons.1 hz with rfl | hz
      · exact h1
      · rw [List.pairwise_cons] at h2
        exact dlt_tr h1 (h2.1 z hz)
    · rintro ⟨h1, h2⟩
      exact ⟨h1 y (List.mem_cons_self ..), h2⟩
theorem rises_pw : ∀ {l : List Nt}, rises l = true ↔ l.Pairwise Nt.lt
  | [] => by simp [rises]
  | [x] => by simp [rises]
  | x :: y :: l => by
    have ih := @rises_pw (y :: l)
    simp only [rises, Bool.and_eq_true, decide_eq_true_eq, ih, List.pairwise_cons (a := x)]
    constructor
    · rintro ⟨h1, h2⟩
      refine ⟨fun z hz => ?_, h2⟩
      rcases List.mem_cons.1 hz with rfl | hz
      · exact h1
      · rw [List.pairwise_cons] at h2
        exact lt_tr h1 (h2.1 z hz)
    · rintro ⟨h1, h2⟩
      exact ⟨h1 y (List.mem_cons_self ..), h2⟩
theorem pw_uniq {α : Type} {R : α → α → Prop} (irr : ∀ a, ¬ R a a) (tr : ∀ {a b c}, R a b → R b c → R a c) : ∀ {l m : List α}, l.Pairwise R → m.Pairwise R → (∀ x, x ∈ l ↔ x ∈ m) → l = m
  | [], [], _, _, _ => rfl
  | [], b :: m, _, _, h => absurd ((h b).2 (List.mem_cons_self ..)) (by simp)
  | a :: l, [], _, _, h => absurd ((h a).1 (List.mem_cons_self ..)) (by simp)
  | a :: l, b :: m, hl, hm, h => by
    rw [List.pairwise_cons] at hl hm
    have e : a = b := by
      rcases List.mem_cons.1 ((h a).1 (List.mem_cons_self ..)) with h1 | h1
      · exact h1
      · rcases List.mem_cons.1 ((h b).2 (List.mem_cons_self ..)) with h2 | h2
        · exact h2.symm
        · exact absurd (tr (hl.1 b h2) (hm.1 a h1)) (irr a)
    subst e
    rw [pw_uniq irr tr hl.2 hm.2 fun x => ?_]
    constructor
    · intro hx
      rcases List.mem_cons.1 ((h x).1 (List.mem_cons_of_mem _ hx)) with rfl | h1
      · exact absurd (hl.1 x hx) (irr x)
      · exact h1
    · intro hx
      rcases List.mem_cons.1 ((h x).2 (List.mem_cons_of_mem _ hx)) with rfl | h1
      · exact absurd (hm.1 x hx) (irr x)
      · exact h1
def fil (v : Int) (l : List Nt) : List Nt := l.filter fun x => decide (x.node = v)
def cnt (v : Int) (l : List Nt) : Nat := (fil v l).length
/-- numbers follow one another -/
def numsGo (done : List Nt) : List Nt → Bool
  | [] => true
  | x :: l => x.ok && decide (x.num = cnt x.node done + 1) && numsGo (done ++ [x]) l
def regB (l : List Nt) : Bool := risesD l && numsGo [] l
def upto (n : Nat) : List Int := (List.range n).map fun (i : Nat) => (i : Int) + 1
theorem upto_succ (n : Nat) : upto (n + 1) = upto n ++ [(n : Int) + 1] := by simp [upto, List.range_succ]
theorem fil_app (v : Int) (a b : List Nt) : fil v (a ++ b) = fil v a ++ fil v b := by simp [fil]
theorem cnt_app (v : Int) (a b : List Nt) : cnt v (a ++ b) = cnt v a + cnt v b := by simp [cnt, fil_app]
theorem fil_one (v : Int) (x : Nt) : fil v [x] = if x.node = v then [x] else [] := by
  unfold fil
  by_cases h : x.node = v <;> simp [h]
theorem numsGo_iff : ∀ {l done : List Nt}, (∀ v, (fil v done).map (·.num) = upto (cnt v done)) → (numsGo done l = true ↔ (∀ x ∈ l, x.ok = true) ∧ ∀ v, (fil v (done ++ l)).map (·.num) = upto (cnt v (done ++ l)))
  | [], done, h => by simp [numsGo]; exact h
  | x :: l, done, h => by
    simp only [numsGo, Bool.and_eq_true, decide_eq_true_eq]
    have app : done ++ x :: l = (done ++ [x]) ++ l := by simp
    have step : x.num = cnt x.node done + 1 → ∀ v, (fil v (done ++ [x])).map (·.num) = upto (cnt v (done ++ [x])) := by
      intro hx v
      rw [fil_app, cnt_app, List.map_append, h v]
      have e : cnt v [x] = (fil v [x]).length := rfl
      rw [e, fil_one]
      split
      · rename_i hv
        subst hv
        simp only [List.map_cons, List.map_nil, List.length_singleton, hx, upto_succ]
      · simp
    constructor
    · rintro ⟨⟨h1, h2⟩, h3⟩
      obtain ⟨h4, h5⟩ := (numsGo_iff (step h2)).1 h3
      exact ⟨fun y hy => by
        rcases List.mem_cons.1 hy with rfl | hy
        · exact h1
        · exact h4 y hy, fun v => by rw [app]; exact h5 v⟩
    · rintro ⟨h1, h2⟩
      have hx : x.num = cnt x.node done + 1 := by
        have := h2 x.node
        rw [fil_app, cnt_app, List.map_append, h x.node] at this
        have e : fil x.node (x :: l) = x :: fil x.node l := by simp [fil]
        have e2 : cnt x.node (x :: l) = cnt x.node l + 1 := by simp [cnt, e]
        rw [e, e2] at this
        have h3 := congrArg (fun l => l[cnt x.node done]?) this
        simp only [List.map_cons] at h3
        rw [List.getElem?_append_right (by simp [upto])] at h3
        simp [upto] at h3
        exact h3
      refine ⟨⟨h1 x (List.mem_cons_self ..), hx⟩, (numsGo_iff (step hx)).2 ⟨fun y hy => h1 y (List.mem_cons_of_mem _ hy), fun v => ?_⟩⟩
      have := h2 v
      rw [app] at this
      exact this
structure Reg (l : List Nt) : Prop where
  srt : l.Pairwise Nt.dlt
  ok : ∀ x ∈ l, x.ok = true
  seq : ∀ v, (fil v l).map (·.num) = upto (cnt v l)
theorem regB_iff {l : List Nt} : regB l = true ↔ Reg l := by
  unfold regB
  rw [Bool.and_eq_true, risesD_pw, numsGo_iff (by intro v; simp [fil, cnt, upto])]
  simp only [List.nil_append]
  exact ⟨fun ⟨a, b, c⟩ => ⟨a, b, c⟩, fun h => ⟨h.srt, h.ok, h.seq⟩⟩
theorem Reg.at {l : List Nt} (h : Reg l) {v : Int} {i : Nat} (hi : i < cnt v l) : ∃ x ∈ l, x.node = v ∧ x.num = (i : Int) + 1 ∧ (fil v l)[i]? = some x := by
  have hi' : i < (fil v l).length := hi
  have h1 := congrArg (fun l => l[i]?) (h.seq v)
  simp only [List.getElem?_map, List.getElem?_eq_getElem hi', Option.map_some, upto] at h1
  rw [List.getElem?_range hi] at h1
  simp only [Option.map_some, Option.some.injEq] at h1
  have hm := List.getElem_mem hi'
  obtain ⟨h2, h3⟩ := List.mem_filter.1 (show (fil v l)[i] ∈ l.filter fun x => decide (x.node = v) from hm)
  exact ⟨(fil v l)[i], h2, by simpa using h3, h1, List.getElem?_eq_getElem hi'⟩
theorem mem_fil {v : Int} {l : List Nt} {x : Nt} : x ∈ fil v l ↔ x ∈ l ∧ x.node = v := by simp [fil]
theorem Reg.num {l : List Nt} (h : Reg l) {x : Nt} (hx : x ∈ l) : ∃ i : Nat, i < cnt x.node l ∧ x.num = (i : Int) + 1 ∧ (fil x.node l)[i]? = some x := by
  obtain ⟨i, hi, e⟩ := List.mem_iff_getElem.1 (mem_fil.2 ⟨hx, rfl⟩ : x ∈ fil x.node l)
  obtain ⟨y, _, _, h3, h4⟩ := h.at (v := x.node) hi
  rw [List.getElem?_eq_getElem hi] at h4
  simp only [Option.some.injEq] at h4
  refine ⟨i, hi, by rw [← e, h4]; exact h3, by rw [List.getElem?_eq_getElem hi, e]⟩
theorem Reg.inj {l : List Nt} (h : Reg l) {x y : Nt} (hx : x ∈ l) (hy : y ∈ l) (h1 : x.node = y.node) (h2 : x.num = y.num) : x = y := by
  obtain ⟨i, _, a, b⟩ := h.num hx
  obtain ⟨j, _, c, d⟩ := h.num hy
  have : i = j := by omega
  subst this
  rw [h1] at b
  rw [b] at d
  exact Option.some.inj d
theorem Reg.num_le {l : List Nt} (h : Reg l) {x : Nt} (hx : x ∈ l) : 1 ≤ x.num ∧ x.num ≤ cnt x.node l := by
  obtain ⟨i, hi, a, _⟩ := h.num hx
  omega
/-- no note has two texts -/
def Agree (a b : List Nt) : Prop := ∀ x ∈ a, ∀ y ∈ b, x.node = y.node → x.num = y.num → x = y
theorem Agree.symm {a b : List Nt} (h : Agree a b) : Agree b a := fun x hx y hy h1 h2 => (h y hy x hx h1.symm h2.symm).symm
theorem fil_sub {a b : List Nt} (ha : Reg a) (hb : Reg b) (hab : Agree a b) {v : Int} (h : cnt v a ≤ cnt v b) : ∀ x ∈ fil v a, x ∈ fil v b := by
  intro x hx
  obtain ⟨h1, rfl⟩ := mem_fil.1 hx
  obtain ⟨i, hi, h2, h3⟩ := ha.num h1
  obtain ⟨y, hy, k1, k2, _⟩ := hb.at (v := x.node) (i := i) (by omega)
  rw [hab x h1 y hy k1.symm (by omega)]
  exact mem_fil.2 ⟨hy, rfl⟩
/-- a list that rises and has what two registers have -/
theorem reg_union {a b m : List Nt} (ha : Reg a) (hb : Reg b) (hab : Agree a b) (hs : m.Pairwise Nt.dlt) (hm : ∀ x, x ∈ m ↔ x ∈ a ∨ x ∈ b) : Reg m ∧ ∀ v, cnt v m = max (cnt v a) (cnt v b) := by
  have key : ∀ v, fil v m = if cnt v a ≤ cnt v b then fil v b else fil v a := by
    intro v
    split
    · rename_i h
      refine pw_uniq dlt_irr dlt_tr (hs.filter _) (hb.srt.filter _) fun x => ?_
      show x ∈ fil v m ↔ x ∈ fil v b
      rw [mem_fil, hm]
      constructor
      · rintro ⟨h1 | h1, h2⟩
        · exact fil_sub ha hb hab h x (mem_fil.2 ⟨h1, h2⟩)
        · exact mem_fil.2 ⟨h1, h2⟩
      · intro hx
        have := mem_fil.1 hx
        exact ⟨.inr this.1, this.2⟩
    · rename_i h
      refine pw_uniq dlt_irr dlt_tr (hs.filter _) (ha.srt.filter _) fun x => ?_
      show x ∈ fil v m ↔ x ∈ fil v a
      rw [mem_fil, hm]
      constructor
      · rintro ⟨h1 | h1, h2⟩
        · exact mem_fil.2 ⟨h1, h2⟩
        · exact fil_sub hb ha hab.symm (by omega) x (mem_fil.2 ⟨h1, h2⟩)
      · intro hx
        have := mem_fil.1 hx
        exact ⟨.inl this.1, this.2⟩
  refine ⟨⟨hs, fun x hx => ?_, fun v => ?_⟩, fun v => ?_⟩
  · rcases (hm x).1 hx with h | h
    · exact ha.ok x h
    · exact hb.ok x h
  · have hk := key v
    have e : cnt v m = (fil v m).length := rfl
    rw [e, hk]
    split
    · exact hb.seq v
    · exact ha.seq v
  · have e : cnt v m = (fil v m).length := rfl
    rw [e, key v]
    split
    · rename_i h; show cnt v b = _; omega
    · rename_i h; show cnt v a = _; omega
/-! ## merging -/
def cmpN (a b : Int) : Int := if a < b then -1 else if b < a then 1 else 0
def merge : List Nt → List Nt → List Nt
  | [], b => b
  | a, [] => a
  | x :: a, y :: b => if x.dlt y then x :: merge a (y :: b) else if y.dlt x then y :: merge (x :: a) b else x :: merge a b
termination_by a b => a.length + b.length
theorem mem_merge : ∀ {a b : List Nt} {z : Nt}, (∀ x ∈ a, ∀ y ∈ b, ¬ x.dlt y → ¬ y.dlt x → x = y) → (z ∈ merge a b ↔ z ∈ a ∨ z ∈ b)
  | [], b, z, _ => by simp [merge]
  | x :: a, [], z, _ => by simp [merge]
  | x :: a, y :: b, z, h => by
    rw [merge]
    split
    · have ih := mem_merge (a := a) (b := y :: b) (z := z) fun u hu w hw => h u (List.mem_cons_of_mem _ hu) w hw
      rw [List.mem_cons, ih, List.mem_cons (l := a), or_assoc]
    · split
      · have ih := mem_merge (a := x :: a) (b := b) (z := z) fun u hu w hw => h u hu w (List.mem_cons_of_mem _ hw)
        rw [List.mem_cons, ih, List.mem_cons (l := b)]
        constructor
        · rintro (h | h | h)
          · exact .inr (.inl h)
          · exact .inl h
          · exact .inr (.inr h)
        · rintro (h | h | h)
          · exact .inr (.inl h)
          · exact .inl h
          · exact .inr (.inr h)
      · rename_i h1 h2
        have e := h x (List.mem_cons_self ..) y (List.mem_cons_self ..) h1 h2
        have ih := mem_merge (a := a) (b := b) (z := z) fun u hu w hw => h u (List.mem_cons_of_mem _ hu) w (List.mem_cons_of_mem _ hw)
        rw [List.mem_cons, ih, List.mem_cons (l := a), List.mem_cons (l := b), ← e]
        constructor
        · rintro (h | h | h)
          · exact .inl (.inl h)
          · exact .inl (.inr h)
          · exact .inr (.inr h)
        · rintro ((h | h) | (h | h))
          · exact .inl h
          · exact .inr (.inl h)
          · exact .inl h
          · exact .inr (.inr h)
theorem merge_mem_sub : ∀ {a b : List Nt} {z : Nt}, z ∈ merge a b → z ∈ a ∨ z ∈ b
  | [], b, z, h => by rw [merge] at h; exact .inr h
  | x :: a, [], z, h => by simp [merge] at h; exact .inl (by simpa using h)
  | x :: a, y :: b, z, h => by
    rw [merge] at h
    split at h
    · rcases List.mem_cons.1 h with rfl | h
      · exact .inl (List.mem_cons_self ..)
      · rcases merge_mem_sub h with h | h
        · exact .inl (List.mem_cons_of_mem _ h)
        · exact .inr h
    · split at h
      · rcases List.mem_cons.1 h with rfl | h
        · exact .inr (List.mem_cons_self ..)
        · rcases merge_mem_sub h with h | h
          · exact .inl h
          · exact .inr (List.mem_cons_of_mem _ h)
      · rcases List.mem_cons.1 h with rfl | h
        · exact .inl (List.mem_cons_self ..)
        · rcases merge_mem_sub h with h | h
          · exact .inl (List.mem_cons_of_mem _ h)
          · exact .inr (List.mem_cons_of_mem _ h)
theorem dlt_eqv {x y z : Nt} (h : y.dlt z) (h1 : ¬ x.dlt y) (h2 : ¬ y.dlt x) : x.dlt z := by unfold Nt.dlt Nt.lt at *; omega
theorem merge_pw : ∀ {a b : List Nt}, a.Pairwise Nt.dlt → b.Pairwise Nt.dlt → (merge a b).Pairwise Nt.dlt
  | [], b, _, hb => by rw [merge]; exact hb
  | x :: a, [], ha, _ => by simp [merge]; simpa using ha
  | x :: a, y :: b, ha, hb => by
    have ha' := List.pairwise_cons.1 ha
    have hb' := List.pairwise_cons.1 hb
    rw [merge]
    split
    · rename_i h
      refine List.pairwise_cons.2 ⟨fun z hz => ?_, merge_pw ha'.2 hb⟩
      rcases merge_mem_sub hz with h1 | h1
      · exact ha'.1 z h1
      · rcases List.mem_cons.1 h1 with rfl | h1
        · exact h
        · exact dlt_tr h (hb'.1 z h1)
    · split
      · rename_i _ h
        refine List.pairwise_cons.2 ⟨fun z hz => ?_, merge_pw ha hb'.2⟩
        rcases merge_mem_sub hz with h1 | h1
        · rcases List.mem_cons.1 h1 with rfl | h1
          · exact h
          · exact dlt_tr h (ha'.1 z h1)
        · exact hb'.1 z h1
      · rename_i h1 h2
        refine List.pairwise_cons.2 ⟨fun z hz => ?_, merge_pw ha'.2 hb'.2⟩
        rcases merge_mem_sub hz with h3 | h3
        · exact ha'.1 z h3
        · exact dlt_eqv (hb'.1 z h3) h1 h2
theorem Agree.eq {a b : List Nt} (h : Agree a b) : ∀ x ∈ a, ∀ y ∈ b, ¬ x.dlt y → ¬ y.dlt x → x = y := fun x hx y hy h1 h2 => by
  obtain ⟨_, h3, h4⟩ := dlt_tot h1 h2
  exact h x hx y hy h3 h4
theorem merge_reg {a b : List Nt} (ha : Reg a) (hb : Reg b) (hab : Agree a b) : Reg (merge a b) ∧ (∀ x, x ∈ merge a b ↔ x ∈ a ∨ x ∈ b) ∧ ∀ v, cnt v (merge a b) = max (cnt v a) (cnt v b) := by
  have hm : ∀ x, x ∈ merge a b ↔ x ∈ a ∨ x ∈ b := fun x => mem_merge hab.eq
  obtain ⟨h1, h2⟩ := reg_union ha hb hab (merge_pw ha.srt hb.srt) hm
  exact ⟨h1, hm, h2⟩
instance (a b : List Nt) : Decidable (Agree a b) := by unfold Agree; exact inferInstance
/-- what merging answers -/
def mergeE (a b : List Nt) : Int := if regB a = false ∨ regB b = false then 1 else if Agree a b then 0 else 8
def mergeV (a b : List Nt) : List Nt := if mergeE a b = 0 then merge a b else []
theorem mergeE_zero {a b : List Nt} : mergeE a b = 0 ↔ Reg a ∧ Reg b ∧ Agree a b := by
  unfold mergeE
  rw [← regB_iff, ← regB_iff]
  constructor
  · intro h
    split at h
    · cases h
    · rename_i h1
      split at h
      · rename_i h2
        exact ⟨by cases e : regB a <;> simp_all, by cases e : regB b <;> simp_all, h2⟩
      · cases h
  · rintro ⟨h1, h2, h3⟩
    rw [if_neg (by simp [h1, h2]), if_pos h3]
theorem mergeE_comm (a b : List Nt) : mergeE a b = mergeE b a := by
  unfold mergeE
  have e : Agree a b ↔ Agree b a := ⟨Agree.symm, Agree.symm⟩
  by_cases h1 : regB a = false <;> by_cases h2 : regB b = false <;> by_cases h3 : Agree a b <;> simp [h1, h2, h3, e.symm]
theorem merge_comm {a b : List Nt} (h : mergeE a b = 0) : merge a b = merge b a := by
  obtain ⟨ha, hb, hab⟩ := mergeE_zero.1 h
  obtain ⟨h1, h2, _⟩ := merge_reg ha hb hab
  obtain ⟨k1, k2, _⟩ := merge_reg hb ha hab.symm
  exact pw_uniq dlt_irr dlt_tr h1.srt k1.srt fun x => by rw [h2, k2, or_comm]
theorem merge_self {a : List Nt} (ha : Reg a) : mergeE a a = 0 ∧ merge a a = a := by
  have hab : Agree a a := fun x hx y hy h1 h2 => ha.inj hx hy h1 h2
  obtain ⟨h1, h2, _⟩ := merge_reg ha ha hab
  exact ⟨mergeE_zero.2 ⟨ha, ha, hab⟩, pw_uniq dlt_irr dlt_tr h1.srt ha.srt fun x => by rw [h2, or_self]⟩
theorem merge_assoc {a b c : List Nt} (h1 : mergeE a b = 0) (h2 : mergeE (merge a b) c = 0) (h3 : mergeE b c = 0) : mergeE a (merge b c) = 0 ∧ merge a (merge b c) = merge (merge a b) c := by
  obtain ⟨ha, hb, hab⟩ := mergeE_zero.1 h1
  obtain ⟨hm, hc, hmc⟩ := mergeE_zero.1 h2
  obtain ⟨_, _, hbc⟩ := mergeE_zero.1 h3
  obtain ⟨_, m1, _⟩ := merge_reg ha hb hab
  obtain ⟨r2, m2, _⟩ := merge_reg hb hc hbc
  have hac : Agree a (merge b c) := fun x hx y hy k1 k2 => by
    rcases (m2 y).1 hy with h | h
    · exact hab x hx y h k1 k2
    · exact hmc x ((m1 x).2 (.inl hx)) y h k1 k2
  obtain ⟨r3, m3, _⟩ := merge_reg ha r2 hac
  obtain ⟨r4, m4, _⟩ := merge_reg hm hc hmc
  exact ⟨mergeE_zero.2 ⟨ha, r2, hac⟩, pw_uniq dlt_irr dlt_tr r3.srt r4.srt fun x => by rw [m3, m4, m2, m1, or_assoc]⟩
end Go.Gx.B

/-
  How the reference merges; what somebody lacks (no program in sight).
-/
namespace Go.Gx.B
open Go.Lib
set_option linter.all false

def ins (x : Nt) : List Nt → List Nt
  | [] => [x]
  | y :: l => if x.dlt y then x :: y :: l else y :: ins x l
theorem mem_ins {x z : Nt} : ∀ {l : List Nt}, z ∈ ins x l ↔ z = x ∨ z ∈ l
  | [] => by simp [ins]
  | y :: l => by
    rw [ins]
    split
    · simp
    · rw [List.mem_cons, mem_ins, List.mem_cons]
      constructor
      · rintro (h | h | h)
        · exact .inr (.inl h)
        · exact .inl h
        · exact .inr (.inr h)
      · rintro (h | h | h)
        · exact .inr (.inl h)
        · exact .inl h
        · exact .inr (.inr h)
theorem ins_pw {x : Nt} : ∀ {l : List Nt}, l.Pairwise Nt.dlt → (∀ y ∈ l, x.dlt y ∨ y.dlt x) → (ins x l).Pairwise Nt.dlt
  | [], _, _ => by simp [ins]
  | y :: l, h, hx => by
    have h' := List.pairwise_cons.1 h
    rw [ins]
    split
    · rename_i e
      refine List.pairwise_cons.2 ⟨fun z hz => ?_, h⟩
      rcases List.mem_cons.1 hz with rfl | hz
      · exact e
      · exact dlt_tr e (h'.1 z hz)
    · rename_i e
      have hy : y.dlt x := (hx y (List.mem_cons_self ..)).resolve_left e
      refine List.pairwise_cons.2 ⟨fun z hz => ?_, ins_pw h'.2 fun z hz => hx z (List.mem_cons_of_mem _ hz)⟩
      rcases mem_ins.1 hz with rfl | hz
      · exact hy
      · exact h'.1 z hz
def findN (l : List Nt) (node num : Int) : Option Nt := l.find? fun x => decide (x.node = node) && decide (x.num = num)
theorem findN_some {l : List Nt} (h : Reg l) {v n : Int} {x : Nt} : findN l v n = some x ↔ x ∈ l ∧ x.node = v ∧ x.num = n := by
  unfold findN
  constructor
  · intro e
    have h1 := List.find?_some e
    have h2 := List.mem_of_find?_eq_some e
    simp only [Bool.and_eq_true, decide_eq_true_eq] at h1
    exact ⟨h2, h1⟩
  · rintro ⟨h1, h2, h3⟩
    cases e : l.find? fun x => decide (x.node = v) && decide (x.num = n) with
    | none =>
      rw [List.find?_eq_none] at e
      have := e x h1
      simp [h2, h3] at this
    | some y =>
      have k1 := List.find?_some e
      have k2 := List.mem_of_find?_eq_some e
      simp only [Bool.and_eq_true, decide_eq_true_eq] at k1
      rw [h.inj k2 h1 (by rw [k1.1, h2]) (by rw [k1.2, h3])]
theorem findN_none {l : List Nt} {v n : Int} : findN l v n = none ↔ ∀ x ∈ l, ¬ (x.node = v ∧ x.num = n) := by
  unfold findN
  rw [List.find?_eq_none]
  simp only [Bool.and_eq_true, decide_eq_true_eq]
/-- the reference merges: notes of b, one after another -/
def refMerge (a : List Nt) : List Nt → List Nt → Int × List Nt
  | out, [] => (0, out)
  | out, y :: b => match findN a y.node y.num with
    | some x => if x ≠ y then (8, []) else refMerge a out b
    | none => refMerge a (ins y out) b
theorem refMerge_err {a : List Nt} (ha : Reg a) : ∀ {b out : List Nt}, ¬ Agree a b → refMerge a out b = (8, [])
  | [], out, h => absurd (fun x _ y hy => by cases hy) h
  | y :: b, out, h => by
    rw [refMerge]
    cases e : findN a y.node y.num with
    | some x =>
      obtain ⟨h1, h2, h3⟩ := (findN_some ha).1 e
      simp only
      by_cases hxy : x = y
      · rw [if_neg (by simp [hxy])]
        refine refMerge_err ha fun hb => h fun u hu w hw k1 k2 => ?_
        rcases List.mem_cons.1 hw with rfl | hw
        · rw [← hxy]
          exact ha.inj hu h1 (by rw [k1, h2]) (by rw [k2, h3])
        · exact hb u hu w hw k1 k2
      · rw [if_pos hxy]
    | none =>
      simp only
      have h1 := findN_none.1 e
      refine refMerge_err ha fun hb => h fun u hu w hw k1 k2 => ?_
      rcases List.mem_cons.1 hw with rfl | hw
      · exact absurd ⟨k1, k2⟩ (h1 u hu)
      · exact hb u hu w hw k1 k2
theorem refMerge_ok {a : List Nt} (ha : Reg a) : ∀ {b out : List Nt}, Agree a b → out.Pairwise Nt.dlt → (∀ y ∈ b, ∀ z ∈ out, z ∈ a ∨ (z.node ≠ y.node ∨ z.num ≠ y.num)) → (∀ x ∈ a, x ∈ out) →
    b.Pairwise (fun x y => x.node ≠ y.node ∨ x.num ≠ y.num) → ∃ m, refMerge a out b = (0, m) ∧ m.Pairwise Nt.dlt ∧ ∀ z, z ∈ m ↔ z ∈ out ∨ z ∈ b
  | [], out, _, ho, _, _, _ => ⟨out, rfl, ho, by simp⟩
  | y :: b, out, hab, ho, hk, hao, hb => by
    have hb' := List.pairwise_cons.1 hb
    have hab' : Agree a b := fun u hu w hw => hab u hu w (List.mem_cons_of_mem _ hw)
    rw [refMerge]
    cases e : findN a y.node y.num with
    | some x =>
      obtain ⟨h1, h2, h3⟩ := (findN_some ha).1 e
      have hxy : x = y := hab x h1 y (List.mem_cons_self ..) h2 h3
      simp only
      rw [if_neg (by simp [hxy])]
      obtain ⟨m, m1, m2, m3⟩ := refMerge_ok ha hab' ho (fun w hw z hz => hk w (List.mem_cons_of_mem _ hw) z hz) hao hb'.2
      refine ⟨m, m1, m2, fun z => ?_⟩
      rw [m3, List.mem_cons]
      constructor
      · rintro (h | h)
        · exact .inl h
        · exact .inr (.inr h)
      · rintro (h | h | h)
        · exact .inl h
        · exact .inl (by rw [h, ← hxy]; exact hao x h1)
        · exact .inr h
    | none =>
      simp only
      have h1 := findN_none.1 e
      have hne : ∀ z ∈ out, y.dlt z ∨ z.dlt y := fun z hz => by
        rcases Decidable.em (y.dlt z) with h | h
        · exact .inl h
        · rcases Decidable.em (z.dlt y) with h' | h'
          · exact .inr h'
          · obtain ⟨_, k1, k2⟩ := dlt_tot h h'
            rcases hk y (List.mem_cons_self ..) z hz with h3 | h3
            · exact absurd ⟨k1.symm, k2.symm⟩ (h1 z h3)
            · exact absurd k2.symm (h3.resolve_left fun q => q k1.symm)
      obtain ⟨m, m1, m2, m3⟩ := refMerge_ok ha hab' (ins_pw ho hne) (fun w hw z hz => by
        rcases mem_ins.1 hz with rfl | hz
        · exact .inr (hb'.1 w hw)
        · exact hk w (List.mem_cons_of_mem _ hw) z hz) (fun x hx => mem_ins.2 (.inr (hao x hx))) hb'.2
      refine ⟨m, m1, m2, fun z => ?_⟩
      rw [m3, mem_ins, List.mem_cons]
      constructor
      · rintro ((h | h) | h)
        · exact .inr (.inl h)
        · exact .inl h
        · exact .inr (.inr h)
      · rintro (h | h | h)
        · exact .inl (.inr h)
        · exact .inl (.inl h)
        · exact .inr h
theorem Reg.keys {b : List Nt} (h : Reg b) : b.Pairwise (fun x y => x.node ≠ y.node ∨ x.num ≠ y.num) := by
  have : b.Pairwise fun x y => x ∈ b ∧ y ∈ b ∧ x.dlt y := List.Pairwise.and_mem.1 h.srt
  refine this.imp ?_
  rintro x y ⟨hx, hy, hd⟩
  rcases Decidable.em (x.node = y.node) with h1 | h1
  · rcases Decidable.em (x.num = y.num) with h2 | h2
    · have := h.inj hx hy h1 h2
      subst this
      exact absurd hd (dlt_irr x)
    · exact .inr h2
  · exact .inl h1
/-- the reference's answer is the program's -/
def refMergeE (a b : List Nt) : Int × List Nt := if regB a = false ∨ regB b = false then (1, []) else refMerge a a b
theorem refMergeE_eq (a b : List Nt) : refMergeE a b = (mergeE a b, mergeV a b) := by
  unfold refMergeE
  by_cases h : regB a = false ∨ regB b = false
  · have e : mergeE a b = 1 := by unfold mergeE; rw [if_pos h]
    rw [if_pos h]
    unfold mergeV
    rw [e, if_neg (by decide)]
  · rw [if_neg h]
    have ha : Reg a := regB_iff.1 (by cases e : regB a <;> simp_all)
    have hb : Reg b := regB_iff.1 (by cases e : regB b <;> simp_all)
    by_cases hab : Agree a b
    · have e : mergeE a b = 0 := mergeE_zero.2 ⟨ha, hb, hab⟩
      obtain ⟨m, m1, m2, m3⟩ := refMerge_ok ha hab ha.srt (fun y _ z hz => .inl hz) (fun x hx => hx) hb.keys
      obtain ⟨k1, k2, _⟩ := merge_reg ha hb hab
      unfold mergeV
      rw [m1, e, if_pos rfl, pw_uniq dlt_irr dlt_tr m2 k1.srt fun z => by rw [m3, k2]]
    · have e : mergeE a b = 8 := by unfold mergeE; rw [if_neg h, if_neg hab]
      unfold mergeV
      rw [refMerge_err ha hab, e, if_neg (by decide)]
/-! ## what somebody lacks -/
def lack (s : List Int) (l : List Nt) : List Nt := l.filter fun x => decide (s.getD x.node.toNat 0 < x.num)
/-- in the order of a letter -/
def lackN (s : List Int) (l : List Nt) : List Nt := (List.range 8).flatMap fun (v : Nat) => (fil (v : Int) l).filter fun x => decide (s.getD (v : Nat) 0 < x.num)
theorem mem_lack {s : List Int} {l : List Nt} {x : Nt} : x ∈ lack s l ↔ x ∈ l ∧ s.getD x.node.toNat 0 < x.num := by simp [lack]
theorem mem_lackN {s : List Int} {l : List Nt} (h : ∀ x ∈ l, x.ok = true) {x : Nt} : x ∈ lackN s l ↔ x ∈ l ∧ s.getD x.node.toNat 0 < x.num := by
  unfold lackN
  simp only [List.mem_flatMap, List.mem_range, List.mem_filter, mem_fil, decide_eq_true_eq]
  constructor
  · rintro ⟨v, hv, ⟨h1, h2⟩, h3⟩
    exact ⟨h1, by rw [h2]; simpa using h3⟩
  · rintro ⟨h1, h2⟩
    obtain ⟨⟨a, b⟩, _⟩ := Nt.ok_iff.1 (h x h1)
    exact ⟨x.node.toNat, by omega, ⟨h1, by omega⟩, h2⟩
theorem fil_lt {l : List Nt} (h : Reg l) (v : Int) : (fil v l).Pairwise Nt.lt := by
  rw [List.pairwise_iff_getElem]
  intro i j hi hj hij
  have hn := h.seq v
  have e : ∀ k (hk : k < (fil v l).length), (fil v l)[k].num = (k : Int) + 1 := by
    intro k hk
    obtain ⟨x, _, _, h3, h4⟩ := h.at (v := v) (i := k) hk
    rw [List.getElem?_eq_getElem hk] at h4
    simp only [Option.some.injEq] at h4
    rw [h4]; exact h3
  have e1 := e i hi
  have e2 := e j hj
  have n1 := (mem_fil.1 (List.getElem_mem hi)).2
  have n2 := (mem_fil.1 (List.getElem_mem hj)).2
  unfold Nt.lt
  right
  exact ⟨by rw [n1, n2], by omega⟩
theorem lackN_pw {s : List Int} {l : List Nt} (h : Reg l) : (lackN s l).Pairwise Nt.lt := by
  unfold lackN
  rw [List.pairwise_flatMap]
  refine ⟨fun v _ => (fil_lt h v).filter _, ?_⟩
  refine List.Pairwise.imp ?_ (List.pairwise_lt_range (n := 8))
  intro v w hvw x hx y hy
  have h1 := (mem_fil.1 (List.mem_filter.1 hx).1).2
  have h2 := (mem_fil.1 (List.mem_filter.1 hy).1).2
  unfold Nt.lt
  left
  omega
def fitGo : Nat → Nat → List Nt → List Nt
  | _, _, [] => []
  | i, size, x :: l => if i = 64 ∨ 60000 < size + (noteT x).length + 7 + (decDigits (i + 1)).length then [] else x :: fitGo (i + 1) (size + (noteT x).length) l
def fit (l : List Nt) : List Nt := fitGo 0 0 l
/-- as the reference does it -/
def refFit : List Nt → Nat → Bool → List Nt → List Nt
  | out, _, _, [] => out
  | out, size, true, _ :: l => refFit out size true l
  | out, size, false, x :: l =>
    if 64 < out.length + 1 ∨ 60001 < size + (noteT x).length then refFit out (size + (noteT x).length) true l
    else if letterE (out ++ [x]) ≠ 0 then refFit out (size + (noteT x).length) true l
    else refFit (out ++ [x]) (size + (noteT x).length) false l
theorem refFit_full : ∀ (l out : List Nt) (size : Nat), refFit out size true l = out
  | [], _, _ => rfl
  | _ :: l, out, size => by rw [refFit]; exact refFit_full l out size
theorem lettT_len (l : List Nt) : (lettT l).length = 7 + (decDigits l.length).length + (l.flatMap noteT).length := by
  simp [lettT, notesS, nl]
  omega
theorem refFit_eq : ∀ (l out : List Nt) (size : Nat), (out ++ l).Pairwise Nt.lt → (∀ x ∈ out ++ l, x.ok = true) → size = (out.flatMap noteT).length + 9 → out.length ≤ 64 → refFit out size false l = out ++ fitGo out.length (out.flatMap noteT).length l
  | [], out, size, _, _, _, _ => by simp [refFit, fitGo]
  | x :: l, out, size, hp, hok, hs, hl => by
    have app : out ++ x :: l = (out ++ [x]) ++ l := by simp
    have hn : (out ++ [x]).Pairwise Nt.lt := by rw [app] at hp; exact (List.pairwise_append.1 hp).1
    have hokx : ∀ y ∈ out ++ [x], y.ok = true := fun y hy => hok y (by rw [app]; exact List.mem_append_left _ hy)
    have hlen : (lettT (out ++ [x])).length = 7 + (decDigits (out.length + 1)).length + ((out.flatMap noteT).length + (noteT x).length) := by
      rw [lettT_len]; simp
    have hd := decDigits_length (out.length + 1)
    have hd1 := nDigits_pos (out.length + 1)
    have hE : letterE (out ++ [x]) = 0 ↔ out.length + 1 ≤ 64 ∧ (lettT (out ++ [x])).length ≤ 60000 := by
      rw [letterE_zero]
      constructor
      · rintro ⟨_, _, _, h1, h2⟩; exact ⟨by simpa using h1, h2⟩
      · rintro ⟨h1, h2⟩; exact ⟨by simp, hokx, rises_pw.2 hn, by simpa using h1, h2⟩
    rw [refFit, fitGo]
    by_cases h64 : out.length = 64
    · rw [if_pos (by omega), if_pos (.inl h64), refFit_full]
      simp
    · by_cases hbig : 60000 < (out.flatMap noteT).length + (noteT x).length + 7 + (decDigits (out.length + 1)).length
      · have hne : letterE (out ++ [x]) ≠ 0 := fun h => by
          have := (hE.1 h).2
          omega
        have e1 : (if 64 < out.length + 1 ∨ 60001 < size + (noteT x).length then refFit out (size + (noteT x).length) true l else if letterE (out ++ [x]) ≠ 0 then refFit out (size + (noteT x).length) true l else refFit (out ++ [x]) (size + (noteT x).length) false l) = out := by
          split
          · exact refFit_full ..
          · first
            | exact refFit_full ..
            | (rw [if_pos hne]; exact refFit_full ..)
        rw [e1, if_pos (.inr hbig)]
        simp
      · have he : letterE (out ++ [x]) = 0 := hE.2 ⟨by omega, by omega⟩
        rw [if_neg (by omega), if_neg (fun h => h he), if_neg (fun h => h.elim h64 hbig)]
        have := refFit_eq l (out ++ [x]) (size + (noteT x).length) (by rw [← app]; exact hp) (by rw [← app]; exact hok) (by rw [List.flatMap_append, List.length_append]; simp only [List.flatMap_cons, List.flatMap_nil, List.append_nil]; omega) (by simp; omega)
        rw [this]
        simp only [List.length_append, List.length_singleton, List.flatMap_append, List.flatMap_cons, List.flatMap_nil, List.append_nil, List.append_assoc, List.cons_append, List.nil_append]
theorem refFit_fit {l : List Nt} (hp : l.Pairwise Nt.lt) (hok : ∀ x ∈ l, x.ok = true) : refFit [] 9 false l = fit l := by
  have := refFit_eq l [] 9 (by simpa using hp) (by simpa using hok) rfl (by simp)
  simpa [fit] using this
theorem fitGo_prefix : ∀ (l : List Nt) (i size : Nat), fitGo i size l <+: l
  | [], _, _ => by simp [fitGo]
  | x :: l, i, size => by
    rw [fitGo]
    split
    · exact List.nil_prefix
    · obtain ⟨t, ht⟩ := fitGo_prefix l (i + 1) (size + (noteT x).length)
      exact ⟨t, by simp [ht]⟩
theorem fitGo_fits : ∀ (l : List Nt) (i size : Nat), i ≤ 64 → (fitGo i size l).length + i ≤ 64 ∧ (fitGo i size l ≠ [] → size + ((fitGo i size l).flatMap noteT).length + 7 + (decDigits (i + (fitGo i size l).length)).length ≤ 60000)
  | [], i, size, h => by simp [fitGo]; exact h
  | x :: l, i, size, h => by
    rw [fitGo]
    split
    · simp; exact h
    · rename_i hc
      obtain ⟨h1, h2⟩ := fitGo_fits l (i + 1) (size + (noteT x).length) (by omega)
      refine ⟨by simp; omega, fun _ => ?_⟩
      by_cases hz : fitGo (i + 1) (size + (noteT x).length) l = []
      · rw [hz]
        simp
        omega
      · have h3 := h2 hz
        simp only [List.flatMap_cons, List.length_append, List.length_cons]
        rw [show i + ((fitGo (i + 1) (size + (noteT x).length) l).length + 1) = i + 1 + (fitGo (i + 1) (size + (noteT x).length) l).length by omega]
        omega
theorem fit_letter {l : List Nt} (hp : l.Pairwise Nt.lt) (hok : ∀ x ∈ l, x.ok = true) (hne : fit l ≠ []) : letterE (fit l) = 0 := by
  have hpre := fitGo_prefix l 0 0
  obtain ⟨h1, h2⟩ := fitGo_fits l 0 0 (by omega)
  have h3 := h2 hne
  have hsub : (fit l).Sublist l := hpre.sublist
  refine letterE_zero.2 ⟨hne, fun x hx => hok x (hsub.subset hx), rises_pw.2 (hp.sublist hsub), by show (fitGo 0 0 l).length ≤ 64; omega, ?_⟩
  rw [lettT_len]
  rw [Nat.zero_add, Nat.zero_add] at h3
  show 7 + (decDigits (fitGo 0 0 l).length).length + ((fitGo 0 0 l).flatMap noteT).length ≤ 60000
  omega
theorem note_len {x : Nt} (h : x.ok = true) : (noteT x).length ≤ 8100 := by
  obtain ⟨⟨a0, a1⟩, ⟨b0, b1⟩, ⟨c0, c1⟩, d⟩ := Nt.ok_iff.1 h
  have n9 : ∀ k : Nat, k < 1000000000 → nDigits k ≤ 10 := by
    intro k hk
    have key : ∀ (j k : Nat), k < 10 ^ j → 1 ≤ j → nDigits k ≤ j := by
      intro j
      induction j with
      | zero => intro k _ h; omega
      | succ j ih =>
        intro k hk _
        by_cases h10 : k < 10
        · rw [nDigits_small h10]; omega
        · rw [nDigits_big h10]
          rw [Nat.pow_succ] at hk
          by_cases hj : j = 0
          · subst hj; simp at hk; omega
          · have := ih (k / 10) (by omega) (by omega)
            omega
    exact key 10 k (by omega) (by omega)
  have e1 := n9 x.node.toNat (by omega)
  have e2 := n9 x.num.toNat (by omega)
  have e3 := n9 x.day.toNat (by omega)
  have e4 := n9 x.text.length (by omega)
  simp only [noteT, List.length_append, itoa_of a0, itoa_of (show 0 ≤ x.num by omega), itoa_of c0, decDigits_length, sp, nl, List.length_singleton]
  omega
theorem fit_nil {l : List Nt} (hok : ∀ x ∈ l, x.ok = true) (h : fit l = []) : l = [] := by
  cases l with
  | nil => rfl
  | cons x l =>
    unfold fit at h
    rw [fitGo] at h
    split at h
    · rename_i hc
      have := note_len (hok x (List.mem_cons_self ..))
      have e : (decDigits (0 + 1)).length = 1 := by rw [decDigits_length, nDigits_small (by omega)]
      omega
    · cases h
end Go.Gx.B
