/-
  Kept guests of two lists (no program in sight): a longest common list, always with the first place that will do.
-/
import Derived.Test.YtamljcdnphjgaaaGf

set_option linter.all false
set_option linter.deprecated false
set_option linter.unusedSimpArgs false
set_option linter.unusedVariables false

namespace Go.Gx.A
set_option linter.all false
abbrev Pl := Option Nat × Int
def L : List Pl → Nat → Nat
  | [], _ => 0
  | (none, _) :: r, a => L r a
  | (some b, _) :: r, a => if a ≤ b then max (L r a) (1 + L r (b + 1)) else L r a
def keptG : List Pl → Nat → List Int
  | [], _ => []
  | (none, _) :: r, a => keptG r a
  | (some b, x) :: r, a => if a ≤ b ∧ 1 + L r (b + 1) = L ((some b, x) :: r) a then x :: keptG r (b + 1) else keptG r a
theorem L_le : ∀ (r : List Pl) (a : Nat), L r a ≤ r.length
  | [], _ => Nat.le_refl _
  | (none, _) :: r, a => by simp only [L, List.length_cons]; have := L_le r a; omega
  | (some b, _) :: r, a => by
    simp only [L, List.length_cons]
    have := L_le r a
    have := L_le r (b + 1)
    split <;> omega
theorem keptG_len : ∀ (r : List Pl) (a : Nat), (keptG r a).length = L r a
  | [], _ => rfl
  | (none, _) :: r, a => keptG_len r a
  | (some b, x) :: r, a => by
    simp only [keptG]
    split
    · rename_i h
      rw [← h.2, List.length_cons, keptG_len r (b + 1)]; omega
    · rename_i h
      rw [keptG_len r a]
      simp only [L] at h ⊢
      by_cases hb : a ≤ b
      · simp only [hb, if_true, true_and] at h ⊢; omega
      · simp [hb]
def lgHead : Pl → List Pl → Nat
  | (none, _), _ => 0
  | (some b, _), r => 1 + L r (b + 1)
def lg : List Pl → List Nat
  | [] => []
  | p :: r => lgHead p r :: lg r
theorem lg_get : ∀ (r : List Pl) (i : Nat) (p : Pl), r[i]? = some p → (lg r)[i]? = some (lgHead p (r.drop (i + 1)))
  | [], i, p, h => by simp at h
  | q :: r, 0, p, h => by simp at h; subst h; simp [lg]
  | q :: r, i + 1, p, h => by
    simp only [List.getElem?_cons_succ] at h
    simp only [lg, List.getElem?_cons_succ, List.drop_succ_cons]
    exact lg_get r i p h
def mx (a : Nat) : List Pl → Nat
  | [] => 0
  | (none, _) :: r => mx a r
  | (some b, x) :: r => if a ≤ b then max (lgHead (some b, x) r) (mx a r) else mx a r
def places (old order : List Int) : List Pl := old.map fun x => (order.idxOf? x, x)
def kept (old order : List Int) : List Int := keptG (places old order) 0
def movedN (old order : List Int) : Int := ((old.filter fun x => decide (x ∈ order)).length : Int) - L (places old order) 0
theorem kept_len (old order : List Int) : (kept old order).length = L (places old order) 0 := keptG_len _ _
theorem idxOf_some {l : List Int} {x : Int} {i : Nat} (h : l.idxOf? x = some i) : l[i]? = some x ∧ ∀ j, j < i → l[j]? ≠ some x := by
  rw [List.idxOf?, List.findIdx?_eq_some_iff_getElem] at h
  obtain ⟨h1, h2, h3⟩ := h
  refine ⟨by rw [List.getElem?_eq_getElem h1]; simpa using h2, fun j hj e => ?_⟩
  have := h3 j hj
  rw [List.getElem?_eq_getElem (by omega)] at e
  simp at e this
  exact this e
theorem idxOf_none {l : List Int} {x : Int} : l.idxOf? x = none ↔ x ∉ l := by
  rw [List.idxOf?, List.findIdx?_eq_none_iff]
  simp
  constructor
  · intro h hx; exact h x hx rfl
  · intro h y hy e; subst e; exact h hy
end Go.Gx.A

/-
  Costs, steps, paths and the least costs (no program in sight).
-/
namespace Go.Gx.A
set_option linter.all false
abbrev Cost := Int × Int
def cadd (a b : Cost) : Cost := (a.1 + b.1, a.2 + b.2)
def clt (a b : Cost) : Bool := decide (a.1 < b.1 ∨ a.1 = b.1 ∧ a.2 < b.2)
def leastO : Option Cost → List Cost → Option Cost
  | b, [] => b
  | none, c :: r => leastO (some c) r
  | some b, c :: r => leastO (some (if clt c b then c else b)) r
def isum : List Int → Int
  | [] => 0
  | x :: r => x + isum r
def cnt (f set : Nat) : Nat := (List.range f).countP fun i => !set.testBit i
structure Tk where
  free : List Int
  front : List Int
  place : Int → Option Int
  w : Int → Int → Int
abbrev St := Nat × Int
abbrev Sp := Nat × St × Cost
namespace Tk
def f (T : Tk) : Nat := T.free.length
def at' (T : Tk) (i : Nat) : Int := T.free.getD i 0
def behind (T : Tk) (x : Int) (set : Nat) : Int := isum (T.front.map (T.w x)) + isum ((List.range T.f).map fun k => if set.testBit k = true then T.w x (T.at' k) else 0)
def stepAt (T : Tk) (s : St) (i : Nat) : List Sp :=
  if s.1.testBit i = true then [] else
    match T.place (T.at' i) with
    | none => [(i, (s.1 ||| 2 ^ i, s.2), (T.behind (T.at' i) s.1, 0))]
    | some p => (if s.2 < p then [(i, (s.1 ||| 2 ^ i, p), (T.behind (T.at' i) s.1, 0))] else []) ++ [(i, (s.1 ||| 2 ^ i, s.2), (T.behind (T.at' i) s.1, 1))]
def steps (T : Tk) (s : St) : List Sp := (List.range T.f).flatMap (T.stepAt s)
end Tk
def restF (T : Tk) : Nat → St → Cost
  | 0, _ => (0, 0)
  | k + 1, s => (leastO none ((T.steps s).map fun x => cadd x.2.2 (restF T k x.2.1))).getD (0, 0)
def Tk.rest (T : Tk) (s : St) : Cost := restF T (cnt T.f s.1) s
def Vd (T : Tk) : Nat → List Nat → Prop
  | _, [] => True
  | set, i :: q => i < T.f ∧ set.testBit i = false ∧ Vd T (set ||| 2 ^ i) q
def offQ (T : Tk) : Nat → List Nat → Int
  | _, [] => 0
  | set, i :: q => T.behind (T.at' i) set + offQ T (set ||| 2 ^ i) q
def movS (p : Option Int) (last : Int) (g : Int → Int) : Int := match p with
  | none => g last
  | some p => if last < p then min (g p) (1 + g last) else 1 + g last
def movQ (T : Tk) : Int → List Nat → Int
  | _, [] => 0
  | last, i :: q => movS (T.place (T.at' i)) last fun l => movQ T l q
def permsX (f : Nat) : Nat → List Nat → List (List Nat)
  | 0, q => [q]
  | k + 1, q => (List.range f).flatMap fun i => if i ∈ q then [] else permsX f k (q ++ [i])
structure Goal where
  T : Tk
  last0 : Int
  base : Int
namespace Goal
def cost (g : Goal) (q : List Nat) : Cost := cadd (g.base, 0) (offQ g.T 0 q, movQ g.T g.last0 q)
def all (g : Goal) : List (List Nat) := permsX g.T.f g.T.f []
end Goal
end Go.Gx.A

/-
  Orders and their costs: as the reference reckons them, and as the steps do (no program in sight).
-/
namespace Go.Gx.A
set_option linter.all false
structure Cg where
  n : Nat
  w : Int → Int → Int
  old : List Int
  passed : Nat
namespace Cg
def front (c : Cg) : List Int := c.old.take c.passed
def free (c : Cg) : List Int := ((List.range c.n).map fun (x : Nat) => (x : Int)).filter fun x => decide (x ∉ c.front)
def tk (c : Cg) : Tk := ⟨c.free, c.front, fun x => (c.old.idxOf? x).map fun (i : Nat) => (i : Int), c.w⟩
def order (c : Cg) (q : List Nat) : List Int := c.front ++ q.map c.tk.at'
end Cg
end Go.Gx.A
