/-
  Lists that are made; the reference's kept list.
-/
import Derived.Test.YtamljcdnphjgaaaPl

set_option linter.all false
set_option linter.deprecated false
set_option linter.unusedSimpArgs false
set_option linter.unusedVariables false

namespace Go.Gx.A
open Go.Gx Go.Proofs
set_option maxRecDepth 100000
set_option linter.all false
set_option maxHeartbeats 4000000
def ones (l : List Int) : List (List Value) := l.map fun x => [.int .i64 x]
theorem ones_flat (l : List Int) : (ones l).flatten = ints l := by
  induction l with
  | nil => rfl
  | cons x l ih => simp only [ones, List.map_cons, List.flatten_cons] at ih ⊢; rw [ih]; rfl
@[simp] theorem ones_len (l : List Int) : (ones l).length = l.length := by simp [ones]
theorem ones_uni (l : List Int) : Uni 1 (ones l) := by
  intro x hx
  obtain ⟨y, _, rfl⟩ := List.mem_map.1 hx
  rfl
theorem ones_append (l m : List Int) : ones (l ++ m) = ones l ++ ones m := by simp [ones]
def Ow (S : AS) (v : Value) (l : List Int) : Prop := SlAt S 3 v (ones l) ∧ l.length ≤ 9223372036854775807
theorem Ow.nil {S : AS} : Ow S (.slice none 0 0) [] := ⟨.inl ⟨rfl, rfl⟩, by simp⟩
theorem Ow.is {S : AS} {v : Value} {l : List Int} (h : Ow S v l) : Is S v l := by
  refine ⟨h.2, ?_⟩
  rcases h.1 with ⟨rfl, hn⟩ | ⟨p, ex, rfl, h2, h3⟩
  · have : l = [] := by
      have := congrArg List.length hn
      simp at this
      exact this
    exact .inl ⟨this, .inl rfl⟩
  · rw [ones_flat] at h2
    refine .inr ⟨p, 0, l.length, ints l, 3, true, ex, by simp, Nat.le_refl _, h2, h3, .inr rfl, by simp, by rw [List.drop_zero, ← ints_len, List.take_length]⟩
theorem Ow.shape {S : AS} {v : Value} {l : List Int} (h : Ow S v l) : ∃ a, v = .slice a l.length l.length := by
  rcases h.1 with ⟨rfl, hn⟩ | ⟨p, ex, rfl, h2, h3⟩
  · have := congrArg List.length hn
    simp at this
    exact ⟨none, by rw [this]; rfl⟩
  · exact ⟨some ⟨p, 0, none⟩, by simp⟩
theorem Ow.owns_lt {S : AS} {v : Value} {l : List Int} (h : Ow S v l) : ∀ b ∈ ownsOf v, b < S.next := h.1.owns_lt
theorem Ow.stays {S S' : AS} {v : Value} {l : List Int} (h : Ow S v l) {fp : List Nat} (hs : Same S S' fp) (hd : ∀ m ∈ ownsOf v, m ∉ fp) : Ow S' v l := ⟨h.1.stays hs hd, h.2⟩
theorem Ow.stay0 {S S' : AS} {v : Value} {l : List Int} (h : Ow S v l) (hs : Same S S' []) : Ow S' v l := h.stays hs (by simp)
theorem Ow.app {S : AS} {v : Value} {l : List Int} (h : Ow S v l) {T : AS} {y : Value} {m : List Int} {fr : Nat} (hb : l.length + m.length ≤ 100000) (hT : Same S T []) (hy : Is T y m) (hfr : fr < T.next) (hfS : S.next ≤ fr) :
    ∃ T' a, appV T fr 3 1 8 v y = some (.slice a (l.length + m.length) (l.length + m.length), T') ∧ Ow T' (.slice a (l.length + m.length) (l.length + m.length)) (l ++ m) ∧ Same S T' (ownsOf v) ∧ T'.next = T.next ∧ ∀ q ∈ ownsOf (.slice a (l.length + m.length) (l.length + m.length)), q ∈ ownsOf v ∨ q = fr := by
  have hsl := h.1.stays hT (by simp)
  have hc := hy.cs.cells
  rw [ints_len] at hc
  by_cases hm : m = []
  · subst hm
    obtain ⟨a, rfl⟩ := h.shape
    refine ⟨T, a, ?_, ?_, ⟨hT.1, fun q hq _ => hT.2 q hq (by simp)⟩, rfl, fun q hq => .inl hq⟩
    · unfold appV
      rw [hc]
      simp
    · have := h.stay0 hT
      simpa using this
  · have hne : ones m ≠ [] := by
      intro e
      have := congrArg List.length e
      simp at this
      exact hm this
    obtain ⟨T0, a1, a2, a3⟩ := appV_new (fr := fr) (bytes := 8) (ms := ones m) (y := y) hsl (ones_uni l) (by omega) hne (ones_uni m) (by rw [hc, ones_len, ones_flat]) (by simp; omega) (by omega) (by rw [ones_flat]; exact ints_ok m)
    simp only [ones_len] at a1
    refine ⟨_, some ⟨fr, 0, none⟩, a1, ⟨.inr ⟨fr, false, by simp, ?_, by simp only [AS.next_put, a2]; exact hfr⟩, by simp; omega⟩, ?_, by simp only [AS.next_put]; exact a2, fun q hq => .inr (by simpa [ownsOf] using hq)⟩
    · rw [AS.get_put_self, ones_append]
    · refine ⟨by simp only [AS.next_put, a2]; exact hT.1, fun q hq hn => ?_⟩
      rw [AS.get_put_ne _ _ (by omega), a3 q hn, hT.2 q hq (by simp)]
theorem Is.one {S : AS} {p : Nat} {x : Int} {wr ex : Bool} (h : S.get p = some (.row [.int .i64 x] 3 wr ex)) (hp : p < S.next) : Is S (.slice (some ⟨p, 0, none⟩) 1 1) [x] := Is.row (l := [x]) h hp (by simp)
end Go.Gx.A

/-
  The program's kept list: the closure that follows.
-/
namespace Go.Gx.A
open Go.Gx Go.Proofs
set_option maxRecDepth 100000
set_option linter.all false
set_option maxHeartbeats 4000000
def SB (B : Nat) (S S' : AS) (fp : List Nat) : Prop := S.next ≤ S'.next ∧ ∀ m, m < B → m ∉ fp → S'.get m = S.get m
theorem SB.of {B : Nat} {S U V : AS} {fp gp : List Nat} (h : SB B S U fp) (k : Same U V gp) (hB : B ≤ U.next) (hg : ∀ m ∈ gp, B ≤ m ∨ m ∈ fp) : SB B S V fp := by
  refine ⟨Nat.le_trans h.1 k.1, fun m hm hn => ?_⟩
  have : m ∉ gp := fun hk => by
    rcases hg m hk with h | h
    · omega
    · exact hn h
  rw [k.2 m (by omega) this, h.2 m hm hn]
theorem Is.sb {B : Nat} {S S' : AS} {v : Value} {l : List Int} (h : Is S v l) {fp : List Nat} (hs : SB B S S' fp) (hb : ∀ m ∈ ownsOf v, m < B ∧ m ∉ fp) : Is S' v l := by
  refine ⟨h.small, ?_⟩
  rcases h.c with h | ⟨p, o, cap, cells, e, wr, ex, rfl, h1, h2, h3, h4, h5, h6⟩
  · exact .inl h
  · have := hb p (by simp [ownsOf])
    exact .inr ⟨p, o, cap, cells, e, wr, ex, rfl, h1, by rw [hs.2 p this.1 this.2]; exact h2, Nat.lt_of_lt_of_le h3 hs.1, h4, h5, h6⟩
def plV (order : List Int) (x : Int) : Option Value := (order.idxOf? x).map fun (i : Nat) => Value.int .i64 i
end Go.Gx.A

/-
  The program's kept list.
-/
namespace Go.Gx.A
open Go.Gx Go.Proofs
set_option maxRecDepth 100000
set_option linter.all false
set_option maxHeartbeats 4000000
def plN (order : List Int) (i : Nat) (x : Int) : Option Value := plV (order.take i) x
theorem plN_succ {order : List Int} (hn : order.Nodup) {i : Nat} (hi : i < order.length) : plN order (i + 1) = upd1 (plN order i) order[i] (.int .i64 i) := by
  funext x
  unfold upd1 plN plV
  rw [List.take_succ_eq_append_getElem hi]
  have hnt : ∀ j, j < i → order[j]? ≠ some order[i] := fun j hj e => by
    have := nodup_inj hn e (List.getElem?_eq_getElem hi)
    omega
  have hni : order[i] ∉ order.take i := by
    intro hm
    obtain ⟨j, hj⟩ := List.getElem?_of_mem hm
    have hjl : j < i := by
      have := (List.getElem?_eq_some_iff.1 hj).1
      simp at this; omega
    rw [List.getElem?_take_of_lt hjl] at hj
    exact hnt j hjl hj
  simp only [List.idxOf?]
  rw [List.findIdx?_append]
  by_cases hx : x = order[i]
  · subst hx
    have : List.findIdx? (fun y => y == order[i]) (order.take i) = none := by
      rw [List.findIdx?_eq_none_iff]
      intro y hy
      simp
      rintro rfl; exact hni hy
    rw [this]
    simp; omega
  · rw [if_neg hx]
    cases h : List.findIdx? (fun y => y == x) (order.take i) with
    | some j => simp
    | none =>
      have : List.findIdx? (fun y => y == x) [order[i]] = none := by
        rw [List.findIdx?_eq_none_iff]
        intro y hy
        simp at hy ⊢
        subst hy
        exact fun e => hx e.symm
      rw [this]; rfl
end Go.Gx.A

/-
  Moved, Kept, Moved with their errors; lists compared.
-/
namespace Go.Gx.A
open Go.Gx Go.Proofs
set_option maxRecDepth 100000
set_option linter.all false
set_option maxHeartbeats 4000000
end Go.Gx.A
