/-
  Numerals, words, texts (no program in sight).
-/
import Derived.Lib.ItoaNum
import Derived.Lib.AtoiAll

set_option linter.all false
set_option linter.deprecated false

namespace Go.Gx.B
open Go.Lib
set_option linter.all false

theorem parseUint10_append : ∀ (a b : List UInt8) (acc : Nat), parseUint10 acc (a ++ b) = match parseUint10 acc a with
    | .ok x => parseUint10 x b
    | NumEnd.syntax => NumEnd.syntax
    | .range => .range
  | [], b, acc => rfl
  | c :: a, b, acc => by
    simp only [List.cons_append, parseUint10]
    split
    · split
      · rfl
      · split
        · rfl
        · exact parseUint10_append a b _
    · rfl
theorem digit_nat {d : Nat} (h : d < 10) : (UInt8.ofNat (48 + d)).toNat = 48 + d := by
  rw [UInt8.toNat_ofNat']
  omega
theorem parse_dec : ∀ (u acc : Nat), acc * 10 ^ nDigits u + u < 18446744073709551616 → parseUint10 acc (decDigits u) = .ok (acc * 10 ^ nDigits u + u) := by
  intro u
  induction u using Nat.strongRecOn with
  | _ u ih =>
    intro acc h
    by_cases hu : u < 10
    · rw [decDigits, dif_pos hu]
      rw [nDigits_small hu] at h ⊢
      simp only [parseUint10, digit_nat hu]
      rw [if_pos (by omega), if_neg (by omega), if_neg (by omega)]
      congr 1
      omega
    · rw [decDigits, dif_neg hu, parseUint10_append]
      rw [nDigits_big hu, Nat.pow_succ] at h ⊢
      have e : acc * (10 ^ nDigits (u / 10) * 10) = acc * 10 ^ nDigits (u / 10) * 10 := by rw [Nat.mul_assoc]
      rw [e] at h ⊢
      rw [ih (u / 10) (by omega) acc (by omega)]
      have hm : u % 10 < 10 := by omega
      simp only [parseUint10, digit_nat hm]
      rw [if_pos (by omega), if_neg (by omega), if_neg (by omega)]
      congr 1
      omega
theorem decDigits_ne (u : Nat) : decDigits u ≠ [] := by
  intro h
  have := decDigits_length u
  rw [h] at this
  have := nDigits_pos u
  simp at *
  omega
theorem decDigits_digit {u : Nat} : ∀ c ∈ decDigits u, 48 ≤ c.toNat ∧ c.toNat ≤ 57 := by
  induction u using Nat.strongRecOn with
  | _ u ih =>
    intro c hc
    rw [decDigits] at hc
    split at hc
    · rename_i hu
      simp only [List.mem_singleton] at hc
      subst hc
      rw [digit_nat hu]
      omega
    · rename_i hu
      rcases List.mem_append.1 hc with h | h
      · exact ih (u / 10) (by omega) c h
      · simp only [List.mem_singleton] at h
        subst h
        rw [digit_nat (by omega)]
        omega
theorem atoi_dec {u : Nat} (h : u < 9223372036854775808) : atoiAll (decDigits u) = .ok (u : Int) := by
  unfold atoiAll
  split
  · rename_i e; exact absurd e (decDigits_ne u)
  · rename_i c r e
    have hc := decDigits_digit c (by rw [e]; simp)
    have h43 : ¬ (c.toNat = 43 ∨ c.toNat = 45) := by omega
    rw [if_neg h43]
    unfold parseMag
    rw [if_neg (decDigits_ne u), parse_dec u 0 (by omega)]
    simp only [Nat.zero_mul, Nat.zero_add]
    have h45 : ¬ c.toNat = 45 := by omega
    rw [if_neg (by omega), if_neg (by omega), if_neg h45]
/-- a word that is a numeral as it is written -/
def numOf (a : List UInt8) : Option Nat := match atoiAll a with
  | .ok v => if 0 ≤ v ∧ itoa v = a then some v.toNat else none
  | _ => none
theorem itoa_nat (u : Nat) : itoa (u : Int) = decDigits u := by
  unfold itoa
  rw [if_neg (by omega)]
  rfl
theorem atoi_lt {a : List UInt8} {v : Int} (h : atoiAll a = .ok v) : v ≤ 9223372036854775807 := by
  unfold atoiAll at h
  split at h
  · cases h
  · simp only at h
    split at h
    · cases h
    · cases h
    · split at h
      · cases h
      · split at h
        · cases h
        · rename_i h1 h2
          injection h with h
          split at h <;> omega
theorem numOf_some {a : List UInt8} {n : Nat} : numOf a = some n ↔ a = decDigits n ∧ n < 9223372036854775808 := by
  unfold numOf
  constructor
  · intro h
    split at h
    · rename_i v hv
      split at h
      · rename_i h1
        obtain ⟨h0, h2⟩ := h1
        obtain ⟨u, rfl⟩ : ∃ u : Nat, v = u := ⟨v.toNat, by omega⟩
        simp at h
        subst h
        rw [itoa_nat] at h2
        have := atoi_lt hv
        exact ⟨h2.symm, by omega⟩
      · cases h
    · cases h
  · rintro ⟨rfl, h⟩
    rw [atoi_dec h]
    simp [itoa_nat]
theorem dec_inj {u v : Nat} (hu : u < 9223372036854775808) (hv : v < 9223372036854775808) (h : decDigits u = decDigits v) : u = v := by
  have h1 := numOf_some.2 ⟨rfl, hu⟩
  have h2 := numOf_some.2 ⟨h, hv⟩
  rw [h1] at h2
  exact Option.some.inj h2
/-! ## cutting -/
def cutAt (c : UInt8) : List UInt8 → Option (List UInt8 × List UInt8)
  | [] => none
  | x :: l => if x = c then some ([], l) else (cutAt c l).map fun p => (x :: p.1, p.2)
theorem cutAt_some {c : UInt8} : ∀ {s a r : List UInt8}, cutAt c s = some (a, r) ↔ s = a ++ c :: r ∧ c ∉ a
  | [], a, r => by simp [cutAt]
  | x :: l, a, r => by
    unfold cutAt
    by_cases h : x = c
    · rw [if_pos h]
      subst h
      constructor
      · intro h; simp only [Option.some.injEq, Prod.mk.injEq] at h; obtain ⟨rfl, rfl⟩ := h; simp
      · rintro ⟨h1, h2⟩
        cases a with
        | nil => simp at h1; simp [h1]
        | cons y a => simp at h1 h2; exact absurd h1.1 h2.1
    · rw [if_neg h]
      simp only [Option.map_eq_some_iff, Prod.mk.injEq, Prod.exists]
      constructor
      · rintro ⟨a', r', h1, rfl, rfl⟩
        obtain ⟨h2, h3⟩ := cutAt_some.1 h1
        exact ⟨by rw [h2]; rfl, by simp [Ne.symm h, h3]⟩
      · rintro ⟨h1, h2⟩
        cases a with
        | nil => simp at h1; exact absurd h1.1 h
        | cons y a =>
          simp at h1 h2
          exact ⟨a, r, cutAt_some.2 ⟨h1.2, h2.2⟩, by rw [h1.1], rfl⟩
def wordAt (c : UInt8) (s : List UInt8) : Option (Nat × List UInt8) := match cutAt c s with
  | none => none
  | some (a, r) => (numOf a).map fun n => (n, r)
theorem wordAt_some {c : UInt8} (hc : c.toNat < 48) {s r : List UInt8} {n : Nat} : wordAt c s = some (n, r) ↔ s = decDigits n ++ c :: r ∧ n < 9223372036854775808 := by
  have hnd : ∀ n, c ∉ decDigits n := fun n hm => by have := decDigits_digit c hm; omega
  unfold wordAt
  constructor
  · intro h
    split at h
    · cases h
    · rename_i a r' e
      simp only [Option.map_eq_some_iff, Prod.mk.injEq] at h
      obtain ⟨m, h1, rfl, rfl⟩ := h
      obtain ⟨h2, h3⟩ := numOf_some.1 h1
      obtain ⟨h4, h5⟩ := cutAt_some.1 e
      exact ⟨by rw [h4, h2], h3⟩
  · rintro ⟨h1, h2⟩
    rw [cutAt_some.2 ⟨h1, hnd n⟩]
    simp [numOf_some.2 ⟨rfl, h2⟩]
def takeAt (n : Nat) (s : List UInt8) : Option (List UInt8 × List UInt8) := if s[n]? = some 10 then some (s.take n, s.drop (n + 1)) else none
theorem takeAt_some {n : Nat} {s a r : List UInt8} : takeAt n s = some (a, r) ↔ s = a ++ 10 :: r ∧ a.length = n := by
  unfold takeAt
  constructor
  · intro h
    split at h
    · rename_i e
      simp only [Option.some.injEq, Prod.mk.injEq] at h
      obtain ⟨rfl, rfl⟩ := h
      obtain ⟨h1, h2⟩ := List.getElem?_eq_some_iff.1 e
      refine ⟨?_, by rw [List.length_take]; omega⟩
      rw [← h2, ← List.drop_eq_getElem_cons h1, List.take_append_drop]
    · cases h
  · rintro ⟨rfl, rfl⟩
    rw [if_pos (by simp)]
    simp
end Go.Gx.B

/-
  Greetings and letters: their texts, and how they are read (no program in sight).
-/
namespace Go.Gx.B
open Go.Lib
set_option linter.all false

structure Nt where
  node : Int
  num : Int
  day : Int
  text : List UInt8
  deriving DecidableEq
def Nt.ok (x : Nt) : Bool := decide (0 ≤ x.node) && decide (x.node < 8) && decide (1 ≤ x.num) && decide (x.num ≤ 2000) && decide (0 ≤ x.day) && decide (x.day ≤ 100000) && decide (x.text.length ≤ 8000)
def Nt.lt (x y : Nt) : Prop := x.node < y.node ∨ x.node = y.node ∧ x.num < y.num
instance (x y : Nt) : Decidable (x.lt y) := by unfold Nt.lt; exact inferInstance
def rises : List Nt → Bool
  | x :: y :: l => decide (x.lt y) && rises (y :: l)
  | _ => true
def sp : List UInt8 := [32]
def nl : List UInt8 := [10]
def noteT (x : Nt) : List UInt8 := itoa x.node ++ sp ++ itoa x.num ++ sp ++ itoa x.day ++ sp ++ decDigits x.text.length ++ nl ++ x.text ++ nl
def haveS : List UInt8 := [104, 97, 118, 101]
def notesS : List UInt8 := [110, 111, 116, 101, 115, 32]
def stockT (ns : List Int) : List UInt8 := haveS ++ ns.flatMap (fun n => sp ++ itoa n) ++ nl
def lettT (l : List Nt) : List UInt8 := notesS ++ decDigits l.length ++ nl ++ l.flatMap noteT
def letterE (l : List Nt) : Int := if l = [] ∨ (∃ x ∈ l, x.ok = false) ∨ rises l = false then 1 else if 64 < l.length ∨ 60000 < (lettT l).length then 2 else 0
def okStock (ns : List Int) : Bool := decide (ns.length = 8) && ns.all fun n => decide (0 ≤ n) && decide (n ≤ 2000)

/-! ## reading -/
def wordsAt : List UInt8 → List UInt8 → Option (List Nat × List UInt8)
  | [], s => some ([], s)
  | c :: cs, s => match wordAt c s with
    | none => none
    | some (n, r) => (wordsAt cs r).map fun p => (n :: p.1, p.2)
def wordsT : List UInt8 → List Nat → List UInt8
  | c :: cs, n :: ns => decDigits n ++ c :: wordsT cs ns
  | _, _ => []
theorem wordsAt_some : ∀ {cs s r : List UInt8} {ns : List Nat}, (∀ c ∈ cs, c.toNat < 48) → (wordsAt cs s = some (ns, r) ↔ ns.length = cs.length ∧ (∀ n ∈ ns, n < 9223372036854775808) ∧ s = wordsT cs ns ++ r)
  | [], s, r, ns, _ => by
    simp only [wordsAt, Option.some.injEq, Prod.mk.injEq, List.length_nil]
    constructor
    · rintro ⟨rfl, rfl⟩; simp [wordsT]
    · rintro ⟨h, _, h2⟩
      have := List.length_eq_zero_iff.1 h
      subst this
      simp [wordsT] at h2
      exact ⟨rfl, h2⟩
  | c :: cs, s, r, ns, hc => by
    have h0 := hc c (List.mem_cons_self ..)
    have hcs : ∀ d ∈ cs, d.toNat < 48 := fun d hd => hc d (List.mem_cons_of_mem _ hd)
    simp only [wordsAt]
    constructor
    · intro h
      split at h
      · cases h
      · rename_i n t e
        obtain ⟨e1, e2⟩ := (wordAt_some h0).1 e
        simp only [Option.map_eq_some_iff, Prod.mk.injEq, Prod.exists] at h
        obtain ⟨ns', r', h1, rfl, rfl⟩ := h
        obtain ⟨k1, k2, k3⟩ := (wordsAt_some hcs).1 h1
        refine ⟨by simp [k1], fun m hm => ?_, by rw [e1, k3]; simp [wordsT]⟩
        rcases List.mem_cons.1 hm with rfl | hm
        · exact e2
        · exact k2 m hm
    · rintro ⟨h1, h2, h3⟩
      match ns, h1 with
      | n :: ns, h1 =>
        simp only [wordsT] at h3
        have e : wordAt c s = some (n, wordsT cs ns ++ r) := (wordAt_some h0).2 ⟨by rw [h3]; simp, h2 n (List.mem_cons_self ..)⟩
        rw [e]
        simp only [Option.map_eq_some_iff, Prod.mk.injEq, Prod.exists]
        exact ⟨ns, r, (wordsAt_some hcs).2 ⟨by simpa using h1, fun m hm => h2 m (List.mem_cons_of_mem _ hm), rfl⟩, rfl, rfl⟩
def cutP (p s : List UInt8) : Option (List UInt8) := if p.isPrefixOf s then some (s.drop p.length) else none
theorem cutP_some {p s r : List UInt8} : cutP p s = some r ↔ s = p ++ r := by
  unfold cutP
  constructor
  · intro h
    split at h
    · rename_i e
      rw [List.isPrefixOf_iff_prefix] at e
      obtain ⟨t, rfl⟩ := e
      simp at h
      rw [h]
    · cases h
  · rintro rfl
    rw [if_pos (List.isPrefixOf_iff_prefix.2 ⟨r, rfl⟩)]
    simp
def ends8 : List UInt8 := [32, 32, 32, 32, 32, 32, 32, 10]
/-- a greeting, read -/
def readS (m : List UInt8) : Option (List Int) := match cutP (haveS ++ sp) m with
  | none => none
  | some s => match wordsAt ends8 s with
    | none => none
    | some (ns, r) => if r = [] ∧ okStock (ns.map (Int.ofNat ·)) = true then some (ns.map (Int.ofNat ·)) else none
theorem itoa_of {n : Int} (h : 0 ≤ n) : itoa n = decDigits n.toNat := by
  unfold itoa
  rw [if_neg (by omega)]
theorem nats_of : ∀ {ns : List Int}, (∀ n ∈ ns, 0 ≤ n) → ∃ ms : List Nat, ns = ms.map (Int.ofNat ·)
  | [], _ => ⟨[], rfl⟩
  | n :: ns, h => by
    obtain ⟨ms, rfl⟩ := nats_of (ns := ns) fun m hm => h m (List.mem_cons_of_mem _ hm)
    exact ⟨n.toNat :: ms, by have := h n (List.mem_cons_self ..); simp; omega⟩
theorem okStock_iff {ns : List Int} : okStock ns = true ↔ ns.length = 8 ∧ ∀ n ∈ ns, 0 ≤ n ∧ n ≤ 2000 := by
  unfold okStock
  simp only [Bool.and_eq_true, decide_eq_true_eq, List.all_eq_true]
theorem stockT_words {ms : List Nat} (h : ms.length = 8) : stockT (ms.map (Int.ofNat ·)) = (haveS ++ sp) ++ wordsT ends8 ms := by
  match ms, h with
  | [a, b, c, d, e, f, g, i], _ =>
    simp [stockT, wordsT, ends8, sp, nl, haveS, itoa_nat]
theorem readS_some {m : List UInt8} {ns : List Int} : readS m = some ns ↔ okStock ns = true ∧ m = stockT ns := by
  have hends : ∀ c ∈ ends8, c.toNat < 48 := by decide
  unfold readS
  constructor
  · intro h
    split at h
    · cases h
    · rename_i s e
      have e := cutP_some.1 e
      split at h
      · cases h
      · rename_i ms r e2
        obtain ⟨k1, k2, k3⟩ := (wordsAt_some hends).1 e2
        split at h
        · rename_i hr
          obtain ⟨rfl, hr⟩ := hr
          simp only [Option.some.injEq] at h
          subst h
          exact ⟨hr, by rw [e, k3, stockT_words (by rw [k1]; rfl)]; simp⟩
        · cases h
  · rintro ⟨h, rfl⟩
    obtain ⟨h8, hb⟩ := okStock_iff.1 h
    obtain ⟨ms, rfl⟩ := nats_of fun n hn => (hb n hn).1
    have hl : ms.length = 8 := by simpa using h8
    rw [cutP_some.2 (stockT_words hl)]
    have e : wordsAt ends8 (wordsT ends8 ms) = some (ms, []) := (wordsAt_some hends).2 ⟨by rw [hl]; rfl, fun n hn => by
      have := (hb (Int.ofNat n) (List.mem_map.2 ⟨n, hn, rfl⟩)).2
      have e : Int.ofNat n = (n : Int) := rfl
      omega, by simp⟩
    simp only [e]
    rw [if_pos ⟨trivial, h⟩]
def ends4 : List UInt8 := [32, 32, 32, 10]
/-- a note, read -/
def readN (s : List UInt8) : Option (Nt × List UInt8) := match wordsAt ends4 s with
  | some ([a, b, d, n], r) => (takeAt n r).map fun p => (⟨a, b, d, p.1⟩, p.2)
  | _ => none
theorem readN_some {s r : List UInt8} {x : Nt} : readN s = some (x, r) ↔ (0 ≤ x.node ∧ x.node < 9223372036854775808) ∧ (0 ≤ x.num ∧ x.num < 9223372036854775808) ∧ (0 ≤ x.day ∧ x.day < 9223372036854775808) ∧ x.text.length < 9223372036854775808 ∧ s = noteT x ++ r := by
  have hends : ∀ c ∈ ends4, c.toNat < 48 := by decide
  unfold readN
  constructor
  · intro h
    split at h
    · rename_i a b d n t e
      obtain ⟨k1, k2, k3⟩ := (wordsAt_some hends).1 e
      simp only [Option.map_eq_some_iff, Prod.mk.injEq, Prod.exists] at h
      obtain ⟨u, v, h1, rfl, rfl⟩ := h
      obtain ⟨e1, e2⟩ := takeAt_some.1 h1
      have h0 := k2 a (by simp)
      have h1 := k2 b (by simp)
      have h2 := k2 d (by simp)
      have h3 := k2 n (by simp)
      refine ⟨⟨by simp, by simp; omega⟩, ⟨by simp, by simp; omega⟩, ⟨by simp, by simp; omega⟩, by simp; omega, ?_⟩
      rw [k3, e1]
      simp [noteT, wordsT, ends4, sp, nl, itoa_nat, e2]
    · cases h
  · rintro ⟨⟨a0, a1⟩, ⟨b0, b1⟩, ⟨d0, d1⟩, hn, rfl⟩
    obtain ⟨a, b, d, t⟩ := x
    simp only at *
    obtain ⟨a, rfl⟩ : ∃ k : Nat, a = k := ⟨a.toNat, by omega⟩
    obtain ⟨b, rfl⟩ : ∃ k : Nat, b = k := ⟨b.toNat, by omega⟩
    obtain ⟨d, rfl⟩ : ∃ k : Nat, d = k := ⟨d.toNat, by omega⟩
    have e : wordsAt ends4 (noteT ⟨a, b, d, t⟩ ++ r) = some ([a, b, d, t.length], t ++ 10 :: r) := (wordsAt_some hends).2 ⟨rfl, fun n hn' => by simp at hn'; omega, by simp [noteT, wordsT, ends4, sp, nl, itoa_nat]⟩
    rw [e]
    simp [takeAt_some.2 ⟨rfl, rfl⟩]
def readL : Nat → List UInt8 → Option (List Nt × List UInt8)
  | 0, s => some ([], s)
  | k + 1, s => match readN s with
    | none => none
    | some (x, r) => (readL k r).map fun p => (x :: p.1, p.2)
theorem readL_fwd : ∀ {k : Nat} {s r : List UInt8} {l : List Nt}, readL k s = some (l, r) → l.length = k ∧ s = l.flatMap noteT ++ r
  | 0, s, r, l, h => by
    simp only [readL, Option.some.injEq, Prod.mk.injEq] at h
    obtain ⟨rfl, rfl⟩ := h
    simp
  | k + 1, s, r, l, h => by
    simp only [readL] at h
    split at h
    · cases h
    · rename_i x t e
      obtain ⟨_, _, _, _, e1⟩ := readN_some.1 e
      simp only [Option.map_eq_some_iff, Prod.mk.injEq, Prod.exists] at h
      obtain ⟨l', r', h1, rfl, rfl⟩ := h
      obtain ⟨k1, k2⟩ := readL_fwd h1
      exact ⟨by simp [k1], by rw [e1, k2]; simp⟩
theorem Nt.ok_iff {x : Nt} : x.ok = true ↔ (0 ≤ x.node ∧ x.node < 8) ∧ (1 ≤ x.num ∧ x.num ≤ 2000) ∧ (0 ≤ x.day ∧ x.day ≤ 100000) ∧ x.text.length ≤ 8000 := by
  unfold Nt.ok
  simp only [Bool.and_eq_true, decide_eq_true_eq]
  constructor
  · rintro ⟨⟨⟨⟨⟨⟨a, b⟩, c⟩, d⟩, e⟩, f⟩, g⟩; exact ⟨⟨a, b⟩, ⟨c, d⟩, ⟨e, f⟩, g⟩
  · rintro ⟨⟨a, b⟩, ⟨c, d⟩, ⟨e, f⟩, g⟩; exact ⟨⟨⟨⟨⟨⟨a, b⟩, c⟩, d⟩, e⟩, f⟩, g⟩
theorem readL_back : ∀ {l : List Nt} {r : List UInt8}, (∀ x ∈ l, x.ok = true) → readL l.length (l.flatMap noteT ++ r) = some (l, r)
  | [], r, _ => by simp [readL]
  | x :: l, r, h => by
    obtain ⟨a, b, c, d⟩ := Nt.ok_iff.1 (h x (List.mem_cons_self ..))
    have e : readN ((x :: l).flatMap noteT ++ r) = some (x, l.flatMap noteT ++ r) := readN_some.2 ⟨⟨a.1, by omega⟩, ⟨by omega, by omega⟩, ⟨by omega, by omega⟩, by omega, by simp⟩
    simp only [List.length_cons, readL, e]
    rw [readL_back fun y hy => h y (List.mem_cons_of_mem _ hy)]
    rfl
/-- a letter, read -/
def readM (m : List UInt8) : Option (List Nt) := match cutP notesS m with
  | none => none
  | some s => if 60000 < m.length then none else match wordAt 10 s with
    | none => none
    | some (k, r) => match readL (min k 65) r with
      | none => none
      | some (l, t) => if t = [] ∧ letterE l = 0 then some l else none
theorem letterE_zero {l : List Nt} : letterE l = 0 ↔ l ≠ [] ∧ (∀ x ∈ l, x.ok = true) ∧ rises l = true ∧ l.length ≤ 64 ∧ (lettT l).length ≤ 60000 := by
  unfold letterE
  constructor
  · intro h
    split at h
    · cases h
    · rename_i h1
      split at h
      · cases h
      · rename_i h2
        refine ⟨fun e => h1 (.inl e), fun x hx => ?_, ?_, by omega, by omega⟩
        · cases e : x.ok with
          | true => rfl
          | false => exact absurd (.inr (.inl ⟨x, hx, e⟩)) h1
        · cases e : rises l with
          | true => rfl
          | false => exact absurd (.inr (.inr e)) h1
  · rintro ⟨h1, h2, h3, h4, h5⟩
    rw [if_neg, if_neg (by omega)]
    rintro (h | ⟨x, hx, e⟩ | h)
    · exact h1 h
    · rw [h2 x hx] at e; cases e
    · rw [h3] at h; cases h
theorem readM_some {m : List UInt8} {l : List Nt} : readM m = some l ↔ letterE l = 0 ∧ m = lettT l := by
  unfold readM
  constructor
  · intro h
    split at h
    · cases h
    · rename_i s e
      have e := cutP_some.1 e
      split at h
      · cases h
      · split at h
        · cases h
        · rename_i k r e2
          obtain ⟨e3, e4⟩ := (wordAt_some (by decide)).1 e2
          split at h
          · cases h
          · rename_i l' t e5
            obtain ⟨k1, k2⟩ := readL_fwd e5
            split at h
            · rename_i hr
              obtain ⟨rfl, hr⟩ := hr
              simp only [Option.some.injEq] at h
              subst h
              obtain ⟨h1, h2, h3, h4, h5⟩ := letterE_zero.1 hr
              have hk : k = l'.length := by omega
              refine ⟨hr, ?_⟩
              rw [e, e3, k2, hk]
              simp [lettT, nl]
            · cases h
  · rintro ⟨h, rfl⟩
    obtain ⟨h1, h2, h3, h4, h5⟩ := letterE_zero.1 h
    have e1 : cutP notesS (lettT l) = some (decDigits l.length ++ 10 :: l.flatMap noteT) := cutP_some.2 (by simp [lettT, nl])
    have e2 : wordAt 10 (decDigits l.length ++ 10 :: l.flatMap noteT) = some (l.length, l.flatMap noteT) := (wordAt_some (by decide)).2 ⟨rfl, by omega⟩
    have e3 : readL (min l.length 65) (l.flatMap noteT) = some (l, []) := by
      have := readL_back (l := l) (r := []) h2
      rw [List.append_nil] at this
      rw [show min l.length 65 = l.length by omega]
      exact this
    simp only [e1, e2, e3]
    rw [if_neg (by omega), if_pos ⟨trivial, h⟩]
/-- none is both -/
theorem not_both {m : List UInt8} {ns : List Int} {l : List Nt} (h1 : readS m = some ns) (h2 : readM m = some l) : False := by
  obtain ⟨_, e1⟩ := readS_some.1 h1
  obtain ⟨_, e2⟩ := readM_some.1 h2
  rw [e1] at e2
  simp [stockT, lettT, haveS, notesS] at e2
end Go.Gx.B
