/-
  The functions of this seat as the proofs use them; small ones.
-/
import Derived.Test.YtamljcdnphjgaaaFc
import Derived.Test.YtamljcdnphjgaaaGf
import Derived.Test.YtamljcdnphjgaaaGg
import Derived.Test.YtamljcdnphjgaaaDe

set_option linter.all false
set_option linter.deprecated false
set_option linter.unusedSimpArgs false
set_option linter.unusedVariables false

namespace Go.Gx.A
open Go.Gx Go.Proofs
set_option maxRecDepth 100000
set_option linter.all false
def G : Tab := ⟨tab, extOr insX (extOf [23])⟩
theorem ext_none {k : Nat} {args : List Value} {S : AS} (h : ¬ (k = 78 ∨ k = 23)) : G.ext k args S = none := by
  have h1 : k ≠ 78 := fun e => h (.inl e)
  have h2 : k ∉ [23] := fun e => h (.inr (by simpa using e))
  show extOr insX (extOf [23]) k args S = none
  rw [extOr_right]
  · exact extOf_none (.inr h2)
  · unfold insX; rw [if_neg h1]
theorem alive_ok {S : AS} {Q : En → AS → Prop} (hq : Q (.ret (.bool true)) S) : Call G 23 [] S Q := call_ext (by
  show extOr insX (extOf [23]) 23 [] S = some (.bool true, S)
  rw [extOr_right]
  · exact extOf_some (by simp)
  · rfl) hq
abbrev ptr (d : Nat) : Value := .pointer (some ⟨d, 0, none⟩)
theorem wrap64 {x : Int} (h1 : -9223372036854775808 ≤ x) (h2 : x ≤ 9223372036854775807) : IntKind.i64.wrap x = x := by
  simp only [IntKind.wrap, IntKind.bits, IntKind.signed]
  simp
  omega
theorem wrapS {i : Nat} (h : i < 9223372036854775807) : IntKind.i64.wrap ((i : Int) + 1) = ((i + 1 : Nat) : Int) := by rw [wrap64 (by omega) (by omega)]; rfl
theorem _root_.Go.Gx.Same.bu {S U : AS} {fp : List Nat} {k : Nat} (h : Same S U fp) : Same S (U.bump k) fp := ⟨by have := h.1; simp; omega, fun m hm hn => by rw [AS.get_bump]; exact h.2 m hm hn⟩
theorem _root_.Go.Gx.Same.pn {S U : AS} {fp : List Nat} {d : Nat} {o : AObj} (h : Same S U fp) (hd : S.next ≤ d) : Same S (U.put d o) fp := ⟨by have := h.1; simp; omega, fun m hm hn => by rw [AS.get_put_ne _ _ (by omega)]; exact h.2 m hm hn⟩
theorem _root_.Go.Gx.Same.po {S U : AS} {fp : List Nat} {d : Nat} {o : AObj} (h : Same S U fp) (hd : d ∈ fp) : Same S (U.put d o) fp := ⟨by have := h.1; simp; omega, fun m hm hn => by rw [AS.get_put_ne _ _ (by rintro rfl; exact hn hd)]; exact h.2 m hm hn⟩
theorem _root_.Go.Gx.Same.tr0 {S U V : AS} (h : Same S U []) (k : Same U V []) : Same S V [] := h.trans k (by simp)
@[simp] theorem rowLoad2 {a b : Value} : rowLoad [a, b] 0 (some 2) = some (.agg #[a, b]) := rfl
@[simp] theorem rowLoad2' {a b c d : Value} : rowLoad [a, b, c, d] 0 (some 2) = some (.agg #[a, b]) := rfl
@[simp] theorem rowLoad3 {a b c : Value} : rowLoad [a, b, c] 0 (some 3) = some (.agg #[a, b, c]) := rfl
@[simp] theorem rowLoad4 {a b c d : Value} : rowLoad [a, b, c, d] 0 (some 4) = some (.agg #[a, b, c, d]) := rfl
def ints (l : List Int) : List Value := l.map fun n => .int .i64 n
@[simp] theorem ints_len (l : List Int) : (ints l).length = l.length := by simp [ints]
@[simp] theorem ints_nil : ints [] = [] := rfl
@[simp] theorem ints_cons (n : Int) (l : List Int) : ints (n :: l) = .int .i64 n :: ints l := rfl
theorem ints_ok (l : List Int) : (ints l).all okc = true := by simp [ints, okc]
structure Is (S : AS) (v : Value) (l : List Int) : Prop where
  small : l.length ≤ 9223372036854775807
  c : (l = [] ∧ (v = .slice none 0 0 ∨ ∃ b o s, v = .slice (some ⟨b, o, some s⟩) 0 0)) ∨
    ∃ p o cap cells e wr ex, v = .slice (some ⟨p, o, none⟩) l.length cap ∧ l.length ≤ cap ∧ S.get p = some (.row cells e wr ex) ∧ p < S.next ∧ (ex = true ∨ e = 3) ∧ o + l.length ≤ cells.length ∧ (cells.drop o).take l.length = ints l
theorem Is.row {S : AS} {p : Nat} {l : List Int} {wr ex : Bool} (h : S.get p = some (.row (ints l) 3 wr ex)) (hp : p < S.next) (hs : l.length ≤ 9223372036854775807) : Is S (.slice (some ⟨p, 0, none⟩) l.length l.length) l :=
  ⟨hs, .inr ⟨p, 0, l.length, ints l, 3, wr, ex, rfl, Nat.le_refl _, h, hp, .inr rfl, by simp, by rw [List.drop_zero, ← ints_len, List.take_length]⟩⟩
theorem Is.nil {S : AS} : Is S (.slice none 0 0) [] := ⟨by simp, .inl ⟨rfl, .inl rfl⟩⟩
theorem Is.cs {S : AS} {v : Value} {l : List Int} (h : Is S v l) : Cs S v (ints l) := by
  rcases h.c with ⟨rfl, rfl | ⟨b, o, s, rfl⟩⟩ | ⟨p, o, cap, cells, e, wr, ex, rfl, h1, h2, h3, h4, h5, h6⟩
  · exact ⟨⟨_, _, rfl⟩, rfl, by simp [ownsOf]⟩
  · exact ⟨⟨_, _, rfl⟩, rfl, by simp [ownsOf]⟩
  · refine ⟨⟨_, _, by rw [ints_len]⟩, ?_, fun b hb => by simp [ownsOf] at hb; subst hb; exact h3⟩
    simp only [srcCells, Nat.mul_one, ints_len]
    split
    · rename_i h0
      have : l = [] := List.length_eq_zero_iff.1 h0
      subst this; rfl
    · rw [h2]
      simp only
      rw [if_pos h5, h6]
theorem Is.shape {S : AS} {v : Value} {l : List Int} (h : Is S v l) : ∃ a cap, v = .slice a l.length cap := by
  obtain ⟨a, cap, e⟩ := h.cs.shape
  exact ⟨a, cap, by rw [e, ints_len]⟩
theorem Is.owns_lt {S : AS} {v : Value} {l : List Int} (h : Is S v l) : ∀ b ∈ ownsOf v, b < S.next := h.cs.lt
theorem Is.stays {S S' : AS} {v : Value} {l : List Int} (h : Is S v l) {fp : List Nat} (hs : Same S S' fp) (hd : ∀ m ∈ ownsOf v, m ∉ fp) : Is S' v l := by
  refine ⟨h.small, ?_⟩
  rcases h.c with h | ⟨p, o, cap, cells, e, wr, ex, rfl, h1, h2, h3, h4, h5, h6⟩
  · exact .inl h
  · exact .inr ⟨p, o, cap, cells, e, wr, ex, rfl, h1, by rw [hs.2 p h3 (hd p (by simp [ownsOf]))]; exact h2, Nat.lt_of_lt_of_le h3 hs.1, h4, h5, h6⟩
theorem Is.stay0 {S S' : AS} {v : Value} {l : List Int} (h : Is S v l) (hs : Same S S' []) : Is S' v l := h.stays hs (by simp)
theorem Is.at {S : AS} {v : Value} {l : List Int} (h : Is S v l) {i : Nat} (hi : i < l.length) :
    ∃ p o cells e wr ex, (∀ (S' : AS) (j : IntKind), idxE S' 1 none (.int j i) v = .ret (.pointer (some ⟨p, o, none⟩), S')) ∧ S.get p = some (.row cells e wr ex) ∧ p < S.next ∧ p ∈ ownsOf v ∧ cells[o]? = some (.int .i64 l[i]) := by
  obtain ⟨p, o, cells, e, wr, ex, h1, h2, h3, h4, h5⟩ := h.cs.idx (S' := S) (j := .i64) (i := i) (by simpa using hi)
  refine ⟨p, o, cells, e, wr, ex, fun S' j => ?_, h2, h3, h4, ?_⟩
  · obtain ⟨a, cap, rfl⟩ := h.shape
    match a with
    | none => simp [idxE] at h1
    | some ⟨b, q, some s⟩ => simp [idxE] at h1
    | some ⟨b, q, none⟩ =>
      simp [hi] at h1 ⊢
      exact h1
  · rw [h5]
    simp [ints]
end Go.Gx.A

/-
  What is known of calls from elsewhere is so.
-/
namespace Go.Gx.A
open Go.Gx Go.Proofs
set_option maxRecDepth 100000
set_option linter.all false
theorem extOK : ExtOK Try.prog G.ext := extOr_ok insX_ok (extOf_ok (P := Try.prog) (ks := [23]) fun k hk => by
  simp only [List.mem_cons, List.not_mem_nil, or_false] at hk
  subst hk
  exact ⟨⟨Try.f23, Try.func23, by kernel_rfl, by kernel_rfl⟩, top_true⟩)
end Go.Gx.A

/-
  Relations: comparing arrows, checking a relation.
-/
namespace Go.Gx.A
open Go.Gx Go.Proofs
set_option maxRecDepth 100000
set_option linter.all false
structure Arw where
  f : Int
  t : Int
  r : Int
  w : Int
  deriving DecidableEq
def Arw.cells (x : Arw) : List Value := [.int .i64 x.f, .int .i64 x.t, .int .i64 x.r, .int .i64 x.w]
structure As (S : AS) (v : Value) (l : List Arw) : Prop where
  ps : Ps S 4 v (l.map Arw.cells)
  small : l.length ≤ 9223372036854775807
theorem As.stays {S S' : AS} {v : Value} {l : List Arw} (h : As S v l) {fp : List Nat} (hs : Same S S' fp) (hd : ∀ m ∈ ownsOf v, m ∉ fp) : As S' v l := ⟨h.ps.stays hs hd, h.small⟩
theorem As.shape {S : AS} {v : Value} {l : List Arw} (h : As S v l) : ∃ a cap, v = .slice a l.length cap := by
  obtain ⟨a, cap, e⟩ := h.ps.shape
  exact ⟨a, cap, by rw [e, List.length_map]⟩
theorem As.at {S : AS} {v : Value} {l : List Arw} (h : As S v l) {i : Nat} (hi : i < l.length) :
    ∃ p o cells e wr ex, (∀ (S' : AS) (j : IntKind), idxE S' 4 none (.int j i) v = .ret (.pointer (some ⟨p, o, none⟩), S')) ∧ S.get p = some (.row cells e wr ex) ∧ p < S.next ∧ p ∈ ownsOf v ∧
      rowLoad cells o (some 4) = some (.agg l[i].cells.toArray) ∧ cells[o]? = some (.int .i64 l[i].f) ∧ cells[o + 1]? = some (.int .i64 l[i].t) ∧ cells[o + 2]? = some (.int .i64 l[i].r) ∧ cells[o + 3]? = some (.int .i64 l[i].w) := by
  obtain ⟨p, o, cells, e, wr, ex, h1, h2, h3, h4, h5, h6⟩ := h.ps.idx (S' := S) (by omega) (j := .i64) (i := i) (l := l[i].cells) (by simp [hi])
  refine ⟨p, o, cells, e, wr, ex, fun S' j => ?_, h2, h3, h4, h6, h5 0 (by omega), h5 1 (by omega), h5 2 (by omega), h5 3 (by omega)⟩
  obtain ⟨a, cap, rfl⟩ := h.shape
  match a with
  | none => simp [idxE] at h1
  | some ⟨b, q, some s⟩ => simp [idxE] at h1
  | some ⟨b, q, none⟩ =>
    simp [hi] at h1 ⊢
    exact h1
end Go.Gx.A

/-
  The reference's check of a relation; both checks of a change.
-/
namespace Go.Gx.A
open Go.Gx Go.Proofs
set_option maxRecDepth 100000
set_option linter.all false
set_option maxHeartbeats 4000000
end Go.Gx.A
