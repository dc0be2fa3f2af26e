/-
  Lists that are made; the reference's kept list.
-/
import Derived.Test.YtamljcdnphjgaaaPl

set_option linter.all false
set_option linter.deprecated false
set_option linter.unusedSimpArgs false
set_option linter.unusedVariables false

namespace Go.Gx.A
open Go.Gx Go.Proofs
set_option maxRecDepth 100000
set_option linter.all false
set_option maxHeartbeats 4000000
def ones (l : List Int) : List (List Value) := l.map fun x => [.int .i64 x]
theorem ones_flat (l : List Int) : (ones l).flatten = ints l := by
  induction l with
  | nil => rfl
  | cons x l ih => simp only [ones, List.map_cons, List.flatten_cons] at ih ⊢; rw [ih]; rfl
@[simp] theorem ones_len (l : List Int) : (ones l).length = l.length := by simp [ones]
theorem ones_uni (l : List Int) : Uni 1 (ones l) := by
  intro x hx
  obtain ⟨y, _, rfl⟩ := List.mem_map.1 hx
  rfl
theorem ones_append (l m : List Int) : ones (l ++ m) = ones l ++ ones m := by simp [ones]
def Ow (S : AS) (v : Value) (l : List Int) : Prop := SlAt S 3 v (ones l) ∧ l.length ≤ 9223372036854775807
theorem Ow.nil {S : AS} : Ow S (.slice none 0 0) [] := ⟨.inl ⟨rfl, rfl⟩, by simp⟩
theorem Ow.is {S : AS} {v : Value} {l : List Int} (h : Ow S v l) : Is S v l := by
  refine ⟨h.2, ?_⟩
  rcases h.1 with ⟨rfl, hn⟩ | ⟨p, ex, rfl, h2, h3⟩
  · have : l = [] := by
      have := congrArg List.length hn
      simp at this
      exact this
    exact .inl ⟨this, .inl rfl⟩
  · rw [ones_flat] at h2
    refine .inr ⟨p, 0, l.length, ints l, 3, true, ex, by simp, Nat.le_refl _, h2, h3, .inr rfl, by simp, by rw [List.drop_zero, ← ints_len, List.take_length]⟩
theorem Ow.shape {S : AS} {v : Value} {l : List Int} (h : Ow S v l) : ∃ a, v = .slice a l.length l.length := by
  rcases h.1 with ⟨rfl, hn⟩ | ⟨p, ex, rfl, h2, h3⟩
  · have := congrArg List.length hn
    simp at this
    exact ⟨none, by rw [this]; rfl⟩
  · exact ⟨some ⟨p, 0, none⟩, by simp⟩
theorem Ow.stays {S S' : AS} {v : Value} {l : List Int} (h : Ow S v l) {fp : List Nat} (hs : Same S S' fp) (hd : ∀ m ∈ ownsOf v, m ∉ fp) : Ow S' v l := ⟨h.1.stays hs hd, h.2⟩
theorem Ow.stay0 {S S' : AS} {v : Value} {l : List Int} (h : Ow S v l) (hs : Same S S' []) : Ow S' v l := h.stays hs (by simp)
theorem Ow.app {S : AS} {v : Value} {l : List Int} (h : Ow S v l) {T : AS} {y : Value} {m : List Int} {fr : Nat} (hb : l.length + m.length ≤ 100000) (hT : Same S T []) (hy : Is T y m) (hfr : fr < T.next) (hfS : S.next ≤ fr) :
    ∃ T' a, appV T fr 3 1 8 v y = some (.slice a (l.length + m.length) (l.length + m.length), T') ∧ Ow T' (.slice a (l.length + m.length) (l.length + m.length)) (l ++ m) ∧ Same S T' (ownsOf v) ∧ T'.next = T.next ∧ ∀ q ∈ ownsOf (.slice a (l.length + m.length) (l.length + m.length)), q ∈ ownsOf v ∨ q = fr := by
  have hsl := h.1.stays hT (by simp)
  have hc := hy.cs.cells
  rw [ints_len] at hc
  by_cases hm : m = []
  · subst hm
    obtain ⟨a, rfl⟩ := h.shape
    refine ⟨T, a, ?_, ?_, ⟨hT.1, fun q hq _ => hT.2 q hq (by simp)⟩, rfl, fun q hq => .inl hq⟩
    · unfold appV
      rw [hc]
      simp
    · have := h.stay0 hT
      simpa using this
  · have hne : ones m ≠ [] := by
      intro e
      have := congrArg List.length e
      simp at this
      exact hm this
    obtain ⟨T0, a1, a2, a3⟩ := appV_new (fr := fr) (bytes := 8) (ms := ones m) (y := y) hsl (ones_uni l) (by omega) hne (ones_uni m) (by rw [hc, ones_len, ones_flat]) (by simp; omega) (by omega) (by rw [ones_flat]; exact ints_ok m)
    simp only [ones_len] at a1
    refine ⟨_, some ⟨fr, 0, none⟩, a1, ⟨.inr ⟨fr, false, by simp, ?_, by simp only [AS.next_put, a2]; exact hfr⟩, by simp; omega⟩, ?_, by simp only [AS.next_put]; exact a2, fun q hq => .inr (by simpa [ownsOf] using hq)⟩
    · rw [AS.get_put_self, ones_append]
    · refine ⟨by simp only [AS.next_put, a2]; exact hT.1, fun q hq hn => ?_⟩
      rw [AS.get_put_ne _ _ (by omega), a3 q hn, hT.2 q hq (by simp)]
theorem Is.one {S : AS} {p : Nat} {x : Int} {wr ex : Bool} (h : S.get p = some (.row [.int .i64 x] 3 wr ex)) (hp : p < S.next) : Is S (.slice (some ⟨p, 0, none⟩) 1 1) [x] := Is.row (l := [x]) h hp (by simp)
end Go.Gx.A

/-
  The program's kept list: the closure that follows.
-/
namespace Go.Gx.A
open Go.Gx Go.Proofs
set_option maxRecDepth 100000
set_option linter.all false
set_option maxHeartbeats 4000000
def SB (B : Nat) (S S' : AS) (fp : List Nat) : Prop := S.next ≤ S'.next ∧ ∀ m, m < B → m ∉ fp → S'.get m = S.get m
theorem SB.of {B : Nat} {S U V : AS} {fp gp : List Nat} (h : SB B S U fp) (k : Same U V gp) (hB : B ≤ U.next) (hg : ∀ m ∈ gp, B ≤ m ∨ m ∈ fp) : SB B S V fp := by
  refine ⟨Nat.le_trans h.1 k.1, fun m hm hn => ?_⟩
  have : m ∉ gp := fun hk => by
    rcases hg m hk with h | h
    · omega
    · exact hn h
  rw [k.2 m (by omega) this, h.2 m hm hn]
end Go.Gx.A

/-
  The program's kept list.
-/
namespace Go.Gx.A
open Go.Gx Go.Proofs
set_option maxRecDepth 100000
set_option linter.all false
set_option maxHeartbeats 4000000
end Go.Gx.A

/-
  Moved, Kept, Moved with their errors; lists compared.
-/
namespace Go.Gx.A
open Go.Gx Go.Proofs
set_option maxRecDepth 100000
set_option linter.all false
set_option maxHeartbeats 4000000
theorem sameInts_ok {S : AS} {v w : Value} {l m : List Int} (h : Is S v l) (k : Is S w m) {Q : En → AS → Prop} (hq : Q (.ret (.bool (decide (l = m)))) S) : Call G 40 [v, w] S Q := by
  obtain ⟨a, cap, rfl⟩ := h.shape
  obtain ⟨b, cap', rfl⟩ := k.shape
  refine call_run' (G := G) rfl (ext_none (by decide)) ?_
  simp
  by_cases hlen : l.length = m.length
  · have hlen' : (l.length : Int) = m.length := by omega
    simp [hlen]
    have hsm := h.small
    refine run_loop (fun j a' S' => ∃ i, j = l.length - i ∧ i ≤ l.length ∧ S' = S ∧ Has a' 26 [(0, .slice a l.length cap), (1, .slice b m.length cap'), (5, .int .i64 i)] ∧ (l = m ↔ l.drop i = m.drop i)) _ ⟨0, rfl, by omega, rfl, ⟨rfl, rfl, by simp [hlen]⟩, by simp⟩ ?_
    rintro _ R hR _ S ⟨i, rfl, hi, rfl, hA, hiff⟩
    obtain ⟨x, rfl⟩ := hA.lit
    by_cases hlt : i < l.length
    · have hltm : i < m.length := by omega
      obtain ⟨p, o, cells, e, wr, ex, h1, h2, h3, h4, h5⟩ := h.at hlt
      obtain ⟨p', o', cells', e', wr', ex', q1, q2, q3, q4, q5⟩ := k.at hltm
      rw [List.drop_eq_getElem_cons hlt, List.drop_eq_getElem_cons hltm, List.cons.injEq] at hiff
      simp [fillF, pickL, hlt, h1, h2, h5, q1, q2, q5]
      by_cases hc : l[i] = m[i]
      · simp [hc]
        refine hR _ _ _ (by omega) ⟨i + 1, rfl, by omega, rfl, ⟨rfl, rfl, by simp [wrapS (show i < 9223372036854775807 by omega)]⟩, ?_⟩
        rw [hiff]; simp [hc]
      · simp [hc]
        have : ¬ l = m := fun e => hc (hiff.1 e).1
        simp [this] at hq
        exact hq
    · obtain rfl : i = l.length := by omega
      rw [List.drop_length, List.drop_eq_nil_of_le (by omega)] at hiff
      simp [fillF, pickL]
      have : l = m := hiff.2 rfl
      simp [this] at hq
      exact hq
  · have hlen' : ¬ (l.length : Int) = m.length := by omega
    simp [hlen, hlen']
    have : ¬ l = m := fun e => hlen (by rw [e])
    simp [this] at hq
    exact hq
end Go.Gx.A
