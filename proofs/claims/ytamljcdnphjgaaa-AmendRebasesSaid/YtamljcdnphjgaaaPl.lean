/-
  Lists of numbers: twice, index, contains.
-/
import Derived.Test.YtamljcdnphjgaaaPa
import Derived.Test.YtamljcdnphjgaaaPk
import Derived.Test.YtamljcdnphjgaaaGh

set_option linter.all false
set_option linter.deprecated false
set_option linter.unusedSimpArgs false
set_option linter.unusedVariables false

namespace Go.Gx.A
open Go.Gx Go.Proofs
set_option maxRecDepth 100000
set_option linter.all false
set_option maxHeartbeats 4000000
end Go.Gx.A

/-
  The errors of lists.
-/
namespace Go.Gx.A
open Go.Gx Go.Proofs
set_option maxRecDepth 100000
set_option linter.all false
set_option maxHeartbeats 4000000
structure Ls (S : AS) (v : Value) (vs : List Value) (ls : List (List Int)) : Prop where
  cs : Cs S v vs
  len : vs.length = ls.length
  small : vs.length ≤ 9223372036854775807
  pt : ∀ (i : Nat) (v : Value) (l : List Int), vs[i]? = some v → ls[i]? = some l → Is S v l
theorem Ls.at {S : AS} {v : Value} {vs : List Value} {ls : List (List Int)} (h : Ls S v vs ls) {i : Nat} (hi : i < ls.length) :
    ∃ p o cells e wr ex b cap, (∀ (S' : AS) (j : IntKind), idxE S' 1 none (.int j i) v = .ret (.pointer (some ⟨p, o, none⟩), S')) ∧ S.get p = some (.row cells e wr ex) ∧ p < S.next ∧ p ∈ ownsOf v ∧ cells[o]? = some (.slice b ls[i].length cap) ∧ Is S (.slice b ls[i].length cap) ls[i] ∧ vs[i]? = some (.slice b ls[i].length cap) := by
  have hiv : i < vs.length := by rw [h.len]; exact hi
  obtain ⟨p, o, cells, e, wr, ex, h1, h2, h3, h4, h5⟩ := h.cs.idx (S' := S) (j := .i64) (i := i) hiv
  have his := h.pt i vs[i] ls[i] (List.getElem?_eq_getElem hiv) (List.getElem?_eq_getElem hi)
  obtain ⟨b, cap, hb⟩ := his.shape
  refine ⟨p, o, cells, e, wr, ex, b, cap, fun S' j => ?_, h2, h3, h4, by rw [h5, hb], by rw [← hb]; exact his, by rw [List.getElem?_eq_getElem hiv, hb]⟩
  obtain ⟨a, cap, rfl⟩ := h.cs.shape
  match a with
  | none => simp [idxE] at h1
  | some ⟨b, q, some s⟩ => simp [idxE] at h1
  | some ⟨b, q, none⟩ =>
    simp [hiv] at h1 ⊢
    exact h1
end Go.Gx.A

/-
  Tables in memory.
-/
namespace Go.Gx.A
open Go.Gx Go.Proofs
set_option maxRecDepth 100000
set_option linter.all false
set_option maxHeartbeats 4000000
@[simp] theorem nn1 (k : Nat) : (0 ≤ (k : Int) + 1) = True := eq_true (by omega)
@[simp] theorem nn1' (k : Nat) : ((k : Int) + 1 < 0) = False := eq_false (by omega)
@[simp] theorem tn1 (k : Nat) : ((k : Int) + 1).toNat = k + 1 := by omega
def rowv (w r : Nat) : Value := .slice (some ⟨r, 0, none⟩) w w
def rowc (w : Nat) (f : Nat → Int) : List Value := (List.range w).map fun k => .int .i64 (f k)
@[simp] theorem rowc_len (w : Nat) (f : Nat → Int) : (rowc w f).length = w := by simp [rowc]
@[simp] theorem rowc_elem {w : Nat} {f : Nat → Int} {k : Nat} (h : k < (rowc w f).length) : (rowc w f)[k]'h = .int .i64 (f k) := by simp [rowc]
@[simp] theorem foldV_two {f : Value → Value → Option Value} {a b : Value} : foldV f [a, b] = f a b := by
  simp only [foldV, List.foldlM_cons, List.foldlM_nil]
  cases f a b <;> rfl
@[simp] theorem rowStore1 {x y : Value} : rowStore [x] 0 [y] = if okc y = true then some [y] else none := by
  unfold rowStore
  by_cases h : okc y = true
  · simp [h, splice]
  · simp [h]
structure Tb (S : AS) (e : TypeId) (v : Value) (rs : List Nat) (w : Nat) (M : Nat → Nat → Int) : Prop where
  sl : SlAt S e v (rs.map fun r => [rowv w r])
  rows : ∀ (i r : Nat), rs[i]? = some r → S.get r = some (.row (rowc w (M i)) 3 true true) ∧ r < S.next ∧ r ∉ ownsOf v
  nd : rs.Nodup
theorem flat1 (w : Nat) (rs : List Nat) : (rs.map fun r => [rowv w r]).flatten = rs.map (rowv w) := by
  induction rs with
  | nil => rfl
  | cons r rs ih => simp [ih]
theorem Tb.at {S : AS} {e : TypeId} {v : Value} {rs : List Nat} {w : Nat} {M : Nat → Nat → Int} (h : Tb S e v rs w M) {i : Nat} (hi : i < rs.length) :
    ∃ p ex r, (∀ (S' : AS) (j : IntKind), idxE S' 1 none (.int j i) v = .ret (.pointer (some ⟨p, i, none⟩), S')) ∧ S.get p = some (.row (rs.map (rowv w)) e true ex) ∧ (rs.map (rowv w))[i]? = some (.slice (some ⟨r, 0, none⟩) w w) ∧
      S.get r = some (.row (rowc w (M i)) 3 true true) ∧ r < S.next ∧ p < S.next ∧ r ≠ p ∧ rs[i]? = some r ∧ p ∈ ownsOf v := by
  have hl : (rs.map fun r => [rowv w r]).length = rs.length := by simp
  obtain ⟨p, ex, h1, h2, h3, h4⟩ := h.sl.idx (S' := S) (k := 1) (i := i) (j := .i64) (by rw [hl]; exact hi)
  obtain ⟨g1, g2, g3⟩ := h.rows i rs[i] (List.getElem?_eq_getElem hi)
  refine ⟨p, ex, rs[i], fun S' j => ?_, by rw [h2, flat1], by simp [hi, rowv], g1, g2, h3, fun e => g3 (e ▸ h4), List.getElem?_eq_getElem hi, h4⟩
  rcases h.sl with ⟨rfl, hn⟩ | ⟨p', ex', rfl, h5, h6⟩
  · simp at hn; subst hn; simp at hi
  · simp [ownsOf] at h4
    subst h4
    simp [hi]
theorem Tb.stays {S S' : AS} {e : TypeId} {v : Value} {rs : List Nat} {w : Nat} {M : Nat → Nat → Int} (h : Tb S e v rs w M) {fp : List Nat} (hs : Same S S' fp) (hd : ∀ m ∈ ownsOf v, m ∉ fp) (hr : ∀ m ∈ rs, m ∉ fp) : Tb S' e v rs w M := by
  refine ⟨h.sl.stays hs hd, fun i r hi => ?_, h.nd⟩
  obtain ⟨g1, g2, g3⟩ := h.rows i r hi
  exact ⟨by rw [hs.2 r g2 (hr r (List.mem_of_getElem? hi))]; exact g1, Nat.lt_of_lt_of_le g2 hs.1, g3⟩
end Go.Gx.A

/-
  The reference's table of longest lists.
-/
namespace Go.Gx.A
open Go.Gx Go.Proofs
set_option maxRecDepth 100000
set_option linter.all false
set_option maxHeartbeats 4000000
end Go.Gx.A
