/-
  Lists that are changed: Clone, Delete, Insert; the reference's ways.
-/
import Derived.Test.YtamljcdnphjgaaaPm

set_option linter.all false
set_option linter.deprecated false
set_option linter.unusedSimpArgs false
set_option linter.unusedVariables false

namespace Go.Gx.A
open Go.Gx Go.Proofs
set_option maxRecDepth 100000
set_option linter.all false
set_option maxHeartbeats 1000000
def Oc (S : AS) (v : Value) (l : List Int) : Prop := (l = [] ∧ v = .slice none 0 0) ∨
  ∃ p cap rest ex, v = .slice (some ⟨p, 0, none⟩) l.length cap ∧ l.length + rest.length = cap ∧ rest.all okc = true ∧ S.get p = some (.row (ints l ++ rest) 3 true ex) ∧ p < S.next ∧ cap ≤ 100000
theorem Oc.is {S : AS} {v : Value} {l : List Int} (h : Oc S v l) : Is S v l := by
  rcases h with ⟨rfl, rfl⟩ | ⟨p, cap, rest, ex, rfl, h1, h2, h3, h4, h5⟩
  · exact Is.nil
  · refine ⟨by omega, .inr ⟨p, 0, cap, _, 3, true, ex, rfl, by omega, h3, h4, .inr rfl, by simp, ?_⟩⟩
    rw [List.drop_zero, List.take_append_of_le_length (by simp), ← ints_len l, List.take_length]
theorem Oc.stays {S S' : AS} {v : Value} {l : List Int} (h : Oc S v l) {fp : List Nat} (hs : Same S S' fp) (hd : ∀ m ∈ ownsOf v, m ∉ fp) : Oc S' v l := by
  rcases h with h | ⟨p, cap, rest, ex, rfl, h1, h2, h3, h4, h5⟩
  · exact .inl h
  · exact .inr ⟨p, cap, rest, ex, rfl, h1, h2, by rw [hs.2 p h4 (hd p (by simp [ownsOf]))]; exact h3, Nat.lt_of_lt_of_le h4 hs.1, h5⟩
theorem Oc.stay0 {S S' : AS} {v : Value} {l : List Int} (h : Oc S v l) (hs : Same S S' []) : Oc S' v l := h.stays hs (by simp)
theorem clone_ok {S : AS} {v : Value} {l : List Int} (h : Is S v l) (hl : l.length ≤ 100000) {Q : En → AS → Prop}
    (hq : ∀ S' a cap, Same S S' [] → Oc S' (.slice a l.length cap) l → (∀ m ∈ ownsOf (.slice a l.length cap), S.next ≤ m) → Q (.ret (.slice a l.length cap)) S') : Call G 73 [v] S Q := by
  have hc := h.cs.cells
  rw [ints_len] at hc
  rcases h.c with ⟨rfl, rfl | ⟨b, o, s, rfl⟩⟩ | ⟨p, o, cap, cells, e, wr, ex, rfl, h1, h2, h3, h4, h5, h6⟩
  · refine call_run' (G := G) rfl (ext_none (by decide)) ?_
    simp [isNil]
    exact hq S none 0 (.refl _ _) (.inl ⟨rfl, rfl⟩) (by simp [ownsOf])
  · refine call_run' (G := G) rfl (ext_none (by decide)) ?_
    simp [isNil, placeIn, appV, srcCells]
    refine hq _ (some ⟨S.next, 0, none⟩) 0 ?_ (.inr ⟨S.next, 0, [], true, rfl, rfl, rfl, by simp, by simp, by omega⟩) (by simp [ownsOf])
    repeat' first | exact Same.refl _ _ | apply Same.bu | (refine Same.pn ?_ (by first | omega | (simp; omega)))
  · refine call_run' (G := G) rfl (ext_none (by decide)) ?_
    have s1 : Same S ((S.bump 2).put S.next (.row [] 3 true true)) [] := by
      repeat' first | exact Same.refl _ _ | apply Same.bu | (refine Same.pn ?_ (by first | omega | (simp; omega)))
    have hy := (h.stay0 s1).cs.cells
    rw [ints_len] at hy
    have hsl : SlAt ((S.bump 2).put S.next (.row [] 3 true true)) 3 (.slice (some ⟨S.next, 0, none⟩) 0 0) (ones []) := .inr ⟨S.next, true, rfl, by simp [ones], by simp⟩
    by_cases hl0 : l = []
    · subst hl0
      have e1 : appV ((S.bump 2).put S.next (.row [] 3 true true)) (S.next + 1) 3 1 8 (.slice (some ⟨S.next, 0, none⟩) 0 0) (.slice (some ⟨p, o, none⟩) ([] : List Int).length cap) = some (.slice (some ⟨S.next, 0, none⟩) 0 0, (S.bump 2).put S.next (.row [] 3 true true)) := by
        unfold appV
        rw [hy]
        simp
      simp only [List.length_nil] at e1 ⊢
      simp [isNil, placeIn, e1]
      exact hq _ (some ⟨S.next, 0, none⟩) 0 s1 (.inr ⟨S.next, 0, [], true, rfl, rfl, rfl, by simp, by simp, by omega⟩) (by simp [ownsOf])
    · obtain ⟨T0, a1, a2, a3⟩ := appV_new (fr := S.next + 1) (bytes := 8) (ms := ones l) (y := .slice (some ⟨p, o, none⟩) l.length cap) hsl (ones_uni []) (by omega) (by
          intro e
          have := congrArg List.length e
          simp at this
          exact hl0 this) (ones_uni l) (by rw [hy, ones_len, ones_flat]) (by simp [ones]; omega) (by omega) (by rw [ones_flat]; exact ints_ok l)
      simp only [ones_len, List.length_nil, Nat.zero_add] at a1
      simp [isNil, placeIn, a1]
      refine hq _ (some ⟨S.next + 1, 0, none⟩) l.length ?_ (.inr ⟨S.next + 1, l.length, [], false, rfl, by simp, rfl, ?_, by simp [a2], hl⟩) (by simp [ownsOf])
      · refine ⟨by simp [a2], fun m hm hn => ?_⟩
        rw [AS.get_put_ne _ _ (by omega), a3 m (by simp [ownsOf]; omega)]
        exact s1.2 m hm hn
      · rw [AS.get_put_self]
        simp [ones_flat]
theorem splice_app {A B C D : List Value} (h : B.length = C.length) : splice (A ++ (B ++ D)) A.length C = A ++ (C ++ D) := by
  unfold splice
  rw [List.take_left, List.drop_append, List.drop_eq_nil_of_le (by omega)]
  have : A.length + C.length - A.length = B.length := by omega
  rw [this, List.drop_left]
  simp
theorem del_row {l : List Int} {i : Nat} (hi : i < l.length) (rest : List Value) :
    ∃ z, splice (ints l ++ rest) i (ints (l.drop (i + 1))) = ints (l.eraseIdx i) ++ (z :: rest) := by
  have h1 : l = l.take i ++ (l.drop i) := (List.take_append_drop i l).symm
  have hd : l.drop i = l[i] :: l.drop (i + 1) := List.drop_eq_getElem_cons hi
  have hl : (l.drop i).length = (l.drop (i + 1)).length + 1 := by rw [hd]; rfl
  have h2 : (l.drop i).take (l.drop (i+1)).length ++ (l.drop i).drop (l.drop (i+1)).length = l.drop i := List.take_append_drop _ _
  have h3 : ((l.drop i).drop (l.drop (i+1)).length).length = 1 := by rw [List.length_drop]; omega
  obtain ⟨z, hz⟩ := List.length_eq_one_iff.1 h3
  refine ⟨.int .i64 z, ?_⟩
  have he : ints l ++ rest = ints (l.take i) ++ (ints ((l.drop i).take (l.drop (i+1)).length) ++ (.int .i64 z :: rest)) := by
    have : l = l.take i ++ ((l.drop i).take (l.drop (i+1)).length ++ [z]) := by rw [← hz, h2, ← h1]
    conv => lhs; rw [this]
    simp [ints]
  have hl' : (ints (l.take i)).length = i := by simp; omega
  rw [he, List.eraseIdx_eq_take_drop_succ]
  have := splice_app (A := ints (l.take i)) (B := ints ((l.drop i).take (l.drop (i+1)).length)) (C := ints (l.drop (i + 1))) (D := .int .i64 z :: rest) (by simp; omega)
  rw [hl'] at this
  rw [this]
  simp [ints]
theorem del_app {T : AS} {p cap fr i : Nat} {l : List Int} {rest : List Value} {ex : Bool} (h : T.get p = some (.row (ints l ++ rest) 3 true ex)) (hi : i < l.length) (hc : l.length + rest.length = cap) (hb : l.length ≤ 100000) :
    ∃ U z, appV T fr 3 1 8 (.slice (some ⟨p, 0, none⟩) i cap) (.slice (some ⟨p, i + 1, none⟩) (l.length - (i + 1)) (cap - (i + 1))) = some (.slice (some ⟨p, 0, none⟩) (l.length - 1) cap, U) ∧
      U.get p = some (.row (ints (l.eraseIdx i) ++ (z :: rest)) 3 true ex) ∧ Same T U [p] ∧ U.next = T.next := by
  obtain ⟨z, hz⟩ := del_row hi rest
  by_cases h0 : l.length - (i + 1) = 0
  · have hd : l.drop (i + 1) = [] := List.drop_eq_nil_of_le (by omega)
    refine ⟨T, z, ?_, ?_, .refl _ _, rfl⟩
    · unfold appV srcCells
      rw [h0]
      have : i = l.length - 1 := by omega
      have h5 : l.length - 1 ≤ cap := by omega
      simp [← this, this ▸ h5]
    · rw [h, ← hz, hd]
      simp [splice, ints]
  · have hs : srcCells T 1 (.slice (some ⟨p, i + 1, none⟩) (l.length - (i + 1)) (cap - (i + 1))) = some (l.length - (i + 1), ints (l.drop (i + 1))) := by
      unfold srcCells
      simp only [Nat.mul_one, if_neg h0, h]
      rw [if_pos (by simp; omega)]
      have : (ints l ++ rest).drop (i + 1) = ints (l.drop (i + 1)) ++ rest := by
        rw [List.drop_append_of_le_length (by simp; omega)]
        simp [ints, List.map_drop]
      rw [this, List.take_append_of_le_length (by simp), List.take_of_length_le (by simp)]
    refine ⟨T.put p (.row (splice (ints l ++ rest) i (ints (l.drop (i + 1)))) 3 true ex), z, ?_, ?_, ?_, rfl⟩
    · unfold appV
      rw [hs]
      have h6 : (ints (l.drop (i + 1))).isEmpty = false := by
        cases hq : ints (l.drop (i + 1)) with
        | nil => have := congrArg List.length hq; simp at this; omega
        | cons => rfl
      have h7 : i + (l.length - (i + 1)) = l.length - 1 := by omega
      have h8 : l.length - 1 ≤ cap := by omega
      have h9 : 0 + i * 1 + (ints (l.drop (i + 1))).length ≤ (ints l ++ rest).length := by simp; omega
      have h10 := ints_ok (l.drop (i + 1))
      have h11 : rowStore (ints l ++ rest) (0 + i * 1) (ints (l.drop (i + 1))) = some (splice (ints l ++ rest) i (ints (l.drop (i + 1)))) := by
        unfold rowStore
        rw [if_pos ⟨h9, h10⟩]
        simp
      simp only [h7, h6, h, if_pos h8, h11, Option.map_some]
      rfl
    · rw [AS.get_put_self, hz]
    · exact .po (.refl _ _) (by simp)
theorem delete_ok {S : AS} {v : Value} {l : List Int} (h : Oc S v l) {i : Nat} (hi : i < l.length) {Q : En → AS → Prop}
    (hq : ∀ S' a cap, Same S S' (ownsOf v) → Oc S' (.slice a (l.eraseIdx i).length cap) (l.eraseIdx i) → (∀ m ∈ ownsOf (.slice a (l.eraseIdx i).length cap), m ∈ ownsOf v) → Q (.ret (.slice a (l.eraseIdx i).length cap)) S') : Call G 76 [v, .int .i64 i, .int .i64 ((i : Int) + 1)] S Q := by
  rcases h with ⟨rfl, _⟩ | ⟨p, cap, rest, ex, rfl, h1, h2, h3, h4, h5⟩
  · simp at hi
  refine call_run' (G := G) rfl (ext_none (by decide)) ?_
  have b1 : (i : Int) + 1 ≤ l.length := by omega
  have b2 : i + 1 ≤ l.length := by omega
  have b3 : l.length ≤ cap := by omega
  have b4 : i ≤ i + 1 := by omega
  have b5 : i ≤ cap := by omega
  have b6 : ¬ (i : Int) = (i : Int) + 1 := by omega
  have b7 : i ≤ l.length := by omega
  simp [bndsV, bndV, b1, b2, b3, b4, b5, b6, b7, h3]
  have hb1 : (S.bump 1).get p = some (.row (ints l ++ rest) 3 true ex) := h3
  obtain ⟨U, z, a1, a2, a3, a4⟩ := del_app (fr := S.next) hb1 hi h1 (by omega)
  simp [a1]
  have hE : (l.eraseIdx i).length = l.length - 1 := by rw [List.length_eraseIdx_of_lt hi]
  have c1 : l.length - 1 ≤ l.length := by omega
  have c2 : ((l.length - 1 : Nat) : Int) ≤ (l.length : Int) := by omega
  have c3 : l.length - (l.length - 1) = 1 := by omega
  have c4 : l.length - 1 + 1 ≤ cap := by omega
  have c5 : l.length ≤ 1 + (l.length - 1) := by omega
  have c6 : l.length - 1 ≤ cap := by omega
  have hsp : splice (ints (l.eraseIdx i) ++ (z :: rest)) (l.length - 1) [.int .i64 0] = ints (l.eraseIdx i) ++ (.int .i64 0 :: rest) := by
    have := splice_app (A := ints (l.eraseIdx i)) (B := [z]) (C := [.int .i64 0]) (D := rest) rfl
    have hq : (ints (l.eraseIdx i)).length = l.length - 1 := by simp [hE]
    rw [hq] at this
    simpa using this
  simp [bndsV, bndV, c1, c2, c3, c4, c5, c6, b3, a2, slcRow, I.eval, rowStore, repCells, hE]
  rw [hsp]
  have := hq (U.put p (.row (ints (l.eraseIdx i) ++ (.int .i64 0 :: rest)) 3 true ex)) (some ⟨p, 0, none⟩) cap ?_ (.inr ⟨p, cap, .int .i64 0 :: rest, ex, rfl, by simp [hE]; omega, by simp [h2, okc], by simp, ?_, h5⟩) (by simp [ownsOf])
  · simpa [hE] using this
  · refine .po ?_ (by simp [ownsOf])
    exact ⟨by rw [a4]; simp, fun m hm hn => by rw [a3.2 m (by simp; omega) (by simpa [ownsOf] using hn)]; rfl⟩
  · show p < U.next
    rw [a4]; simp; omega
def ins1 (l : List Int) (i : Nat) (x : Int) : List Int := l.take i ++ x :: l.drop i
theorem insert_ok {S : AS} {v : Value} {l : List Int} (h : Oc S v l) {i vb cy : Nat} {x : Int} {exv : Bool} (hi : i ≤ l.length) (hl : l.length ≤ 1000) (hv : S.get vb = some (.row [.int .i64 x] 3 true exv)) (hvb : vb ∉ ownsOf v) {Q : En → AS → Prop}
    (hq : ∀ S', Same S S' (ownsOf v) → Oc S' (.slice (some ⟨S.next, 0, none⟩) (ins1 l i x).length (ins1 l i x).length) (ins1 l i x) → Q (.ret (.slice (some ⟨S.next, 0, none⟩) (ins1 l i x).length (ins1 l i x).length)) S') :
    Call G 78 [v, .int .i64 i, .slice (some ⟨vb, 0, none⟩) 1 cy] S Q := by
  have hlen : (ins1 l i x).length = l.length + 1 := by simp [ins1]; omega
  have hval : ins1 l i x = l.take i ++ [x] ++ l.drop i := by
    simp [ins1]
  rw [hlen] at hq
  have hG : ∀ args, G.ext 78 args S = insV 3 args S := fun args => by
    show extOr insX (extOf [23]) 78 args S = _
    unfold extOr insX
    simp only [if_pos]
    have : extOf [23] 78 args S = none := extOf_none (.inr (by decide))
    rw [this]
    cases insV 3 args S <;> rfl
  rcases h with ⟨rfl, rfl⟩ | ⟨p, cap, rest, ex, rfl, h1, h2, h3, h4, h5⟩
  · have : i = 0 := by simpa using hi
    subst this
    refine call_ext (v := vs S.next 0 1 1) (S' := (S.bump 1).put S.next (.row [.int .i64 x] 3 true false)) ?_ ?_
    · rw [hG]
      unfold insV
      simp [hv, okc]
    · refine hq _ (.pn (.bu (.refl _ _)) (by omega)) (.inr ⟨S.next, 1, [], false, rfl, rfl, rfl, by rw [AS.get_put_self]; simp [ints, ins1], by simp, by omega⟩)
  · have hne : p ≠ vb := fun e => hvb (by simp [ownsOf, e])
    refine call_ext (v := vs S.next 0 (l.length + 1) (l.length + 1)) (S' := ((S.bump 1).put p .dead).put S.next (.row (ints (ins1 l i x)) 3 true false)) ?_ ?_
    · rw [hG]
      unfold insV
      have e1 : ((ints l ++ rest).drop 0).take l.length = ints l := by rw [List.drop_zero, List.take_append_of_le_length (by simp), List.take_of_length_le (by simp)]
      have e2 : ints (ins1 l i x) = (ints l).take i ++ [.int .i64 x] ++ (ints l).drop i := by rw [hval]; simp [ints, List.map_take, List.map_drop]
      have e3 : (ints l).all okc = true := ints_ok l
      simp only [hv, h3, e1, e2]
      rw [if_pos (by refine ⟨trivial, by omega, by simp, by omega, by omega, by omega, by omega, by omega, by simp [okc]⟩), if_pos ⟨hne, trivial, by simp; omega, e3⟩]
      simp
    · refine hq _ (.pn (.po (.bu (.refl _ _)) (by simp [ownsOf])) (by simp)) (.inr ⟨S.next, l.length + 1, [], false, by rw [hlen], by simp [hlen], rfl, by rw [AS.get_put_self]; simp, by simp, by omega⟩)
theorem without_ok {S : AS} {v : Value} {l : List Int} (h : Is S v l) {i : Nat} (hi : i < l.length) (hl : l.length ≤ 1000) {Q : En → AS → Prop}
    (hq : ∀ S' a n, Same S S' [] → n = (l.eraseIdx i).length → Ow S' (.slice a n n) (l.eraseIdx i) → (∀ m ∈ ownsOf (.slice a n n), S.next ≤ m) → Q (.ret (.slice a n n)) S') : Call G 82 [v, .int .i64 i] S Q := by
  obtain ⟨a, cap, rfl⟩ := h.shape
  refine call_run' (G := G) rfl (ext_none (by decide)) ?_
  have t1 : Same S (S.bump 1) [] := .bu (.refl _ _)
  obtain ⟨v1, p1, p2, p3⟩ := (h.stay0 t1).slc (lo := none) (hi := some (.int .i64 i)) (i := 0) (j := i) (.inl ⟨rfl, rfl⟩) (.inr rfl) (by omega) (by omega)
  rw [List.drop_zero] at p2
  have hti : (l.take i).length = i := by simp; omega
  obtain ⟨T1, b1, q1, q2, q3, q4, q5⟩ := (Ow.nil (S := S)).app (fr := S.next) (T := S.bump 1) (by simp; omega) t1 p2 (by simp) (Nat.le_refl _)
  simp only [List.length_nil, Nat.zero_add, hti, List.nil_append] at q1 q2 q4 q5
  have hwS : IntKind.i64.wrap ((i : Int) + 1) = ((i + 1 : Nat) : Int) := wrapS (by omega)
  simp [p1]
  simp only [q1]
  simp
  have t2 : Same S (T1.bump 1) [] := .bu ⟨q3.1, fun m hm hn => q3.2 m hm (by simp [ownsOf])⟩
  have t3 : Same T1 (T1.bump 1) [] := .bu (.refl _ _)
  obtain ⟨v2, r1, r2, r3⟩ := (h.stay0 t2).slc (lo := some (.int .i64 (i + 1 : Nat))) (hi := none) (i := i + 1) (j := l.length) (.inr rfl) (.inl ⟨rfl, rfl⟩) (by omega) (by omega)
  rw [List.take_length] at r2
  obtain ⟨T2, b2, u1, u2, u3, u4, u5⟩ := q2.app (fr := T1.next) (T := T1.bump 1) (by simp; omega) t3 r2 (by simp) (Nat.le_refl _)
  have hT1 : T1.next = S.next + 1 := by rw [q4]; simp
  have hld : i + (l.drop (i + 1)).length = (l.eraseIdx i).length := by rw [List.length_drop, List.length_eraseIdx_of_lt hi]; omega
  simp only [hti, hld, ← List.eraseIdx_eq_take_drop_succ] at u1 u2 u4 u5
  simp only [hwS, r1]
  simp [u1]
  refine hq T2 b2 _ ⟨?_, fun m hm _ => ?_⟩ rfl u2 fun m hm => ?_
  · have := u3.1; omega
  · rw [u3.2 m (by omega) (fun h => ?_), q3.2 m hm (by simp [ownsOf])]
    have := q5 m h
    simp [ownsOf] at this
    omega
  · rcases u5 m hm with h | h
    · have := q5 m h
      simp [ownsOf] at this
      omega
    · omega
theorem inserted_ok {S : AS} {v : Value} {l : List Int} (h : Is S v l) {i : Nat} {x : Int} (hi : i ≤ l.length) (hl : l.length ≤ 1000) {Q : En → AS → Prop}
    (hq : ∀ S' a n, Same S S' [] → n = (ins1 l i x).length → Ow S' (.slice a n n) (ins1 l i x) → (∀ m ∈ ownsOf (.slice a n n), S.next ≤ m) → Q (.ret (.slice a n n)) S') : Call G 83 [v, .int .i64 i, .int .i64 x] S Q := by
  obtain ⟨a, cap, rfl⟩ := h.shape
  refine call_run' (G := G) rfl (ext_none (by decide)) ?_
  have t1 : Same S (S.bump 1) [] := .bu (.refl _ _)
  obtain ⟨v1, p1, p2, p3⟩ := (h.stay0 t1).slc (lo := none) (hi := some (.int .i64 i)) (i := 0) (j := i) (.inl ⟨rfl, rfl⟩) (.inr rfl) (by omega) (by omega)
  rw [List.drop_zero] at p2
  have hti : (l.take i).length = i := by simp; omega
  obtain ⟨T1, b1, q1, q2, q3, q4, q5⟩ := (Ow.nil (S := S)).app (fr := S.next) (T := S.bump 1) (by simp; omega) t1 p2 (by simp) (Nat.le_refl _)
  simp only [List.length_nil, Nat.zero_add, hti, List.nil_append] at q1 q2 q4 q5
  simp [p1]
  simp only [q1]
  simp [placeIn]
  have hT1 : T1.next = S.next + 1 := by rw [q4]; simp
  have t3 : Same T1 ((T1.bump 2).put T1.next (.row [.int .i64 x] 3 true true)) [] := by
    repeat' first | exact Same.refl _ _ | apply Same.bu | (refine Same.pn ?_ (by first | omega | (simp; omega)))
  have hsp : splice [Value.int IntKind.i64 0] 0 [Value.int IntKind.i64 x] = [.int .i64 x] := rfl
  simp only [hsp]
  have one : Is ((T1.bump 2).put T1.next (.row [.int .i64 x] 3 true true)) (.slice (some ⟨T1.next, 0, none⟩) 1 1) [x] := Is.one (by rw [AS.get_put_self]) (by simp)
  obtain ⟨T2, b2, r1, r2, r3, r4, r5⟩ := q2.app (fr := T1.next + 1) (by simp; omega) t3 one (by simp) (by omega)
  simp only [hti, List.length_singleton] at r1 r2 r4 r5
  simp only [r1]
  simp
  have hT2 : T2.next = T1.next + 2 := by rw [r4]; simp
  have d1 : ∀ m, m < S.next → T2.get m = S.get m := fun m hm => by
    rw [r3.2 m (by omega) (fun h => ?_), q3.2 m hm (by simp [ownsOf])]
    have := q5 m h
    simp [ownsOf] at this
    omega
  have d2 : ∀ q ∈ ownsOf (.slice b2 (i + 1) (i + 1)), S.next ≤ q := fun q hq => by
    rcases r5 q hq with h | h
    · have := q5 q h
      simp [ownsOf] at this
      omega
    · omega
  have t2 : Same S (T2.bump 1) [] := .bu ⟨by omega, fun m hm hn => d1 m hm⟩
  have t4 : Same T2 (T2.bump 1) [] := .bu (.refl _ _)
  obtain ⟨v2, w1, w2, w3⟩ := (h.stay0 t2).slc (lo := some (.int .i64 i)) (hi := none) (i := i) (j := l.length) (.inr rfl) (.inl ⟨rfl, rfl⟩) (by omega) (by omega)
  rw [List.take_length] at w2
  obtain ⟨T3, b3, u1, u2, u3, u4, u5⟩ := r2.app (fr := T2.next) (T := T2.bump 1) (by simp; omega) t4 w2 (by simp) (Nat.le_refl _)
  have hv : l.take i ++ [x] ++ l.drop i = ins1 l i x := by simp [ins1]
  have hle : (l.take i ++ [x]).length = i + 1 := by simp; omega
  have hld : i + 1 + (l.drop i).length = (ins1 l i x).length := by rw [← hv]; simp; omega
  simp only [hle, hld, hv] at u1 u2 u4 u5
  simp only [w1]
  simp [u1]
  refine hq T3 b3 _ ⟨?_, fun m hm _ => ?_⟩ rfl u2 fun m hm => ?_
  · have := u3.1; omega
  · rw [u3.2 m (by omega) (fun h => ?_), d1 m hm]
    have := d2 m h
    omega
  · rcases u5 m hm with h | h
    · exact d2 m h
    · omega
end Go.Gx.A

/-
  Lists of moves; sameMoves.
-/
namespace Go.Gx.A
open Go.Gx Go.Proofs
set_option maxRecDepth 100000
set_option linter.all false
set_option maxHeartbeats 1000000
abbrev Mv := Int × Int × Int
def mvC (m : Mv) : List Value := [.int .i64 m.1, .int .i64 m.2.1, .int .i64 m.2.2]
def mvsC (ms : List Mv) : List (List Value) := ms.map mvC
theorem mvs_uni (ms : List Mv) : Uni 3 (mvsC ms) := by
  intro l hl
  obtain ⟨m, _, rfl⟩ := List.mem_map.1 hl
  rfl
@[simp] theorem mvs_len (ms : List Mv) : (mvsC ms).length = ms.length := by simp [mvsC]
theorem mvs_ok (ms : List Mv) : (mvsC ms).flatten.all okc = true := by
  induction ms with
  | nil => rfl
  | cons m ms ih => simp [mvsC, mvC, okc] at ih ⊢
def Ms (S : AS) (v : Value) (ms : List Mv) : Prop := SlAt S 97 v (mvsC ms)
def drop1 (order : List Int) (s : List Int × List Mv) (x : Int) : List Int × List Mv :=
  if x ∈ order then s else (s.1.eraseIdx (ixI s.1 x).toNat, s.2 ++ [(x, ixI s.1 x, -1)])
def dropN (old order : List Int) : Nat → List Int × List Mv
  | 0 => (old, [])
  | i + 1 => drop1 order (dropN old order i) (old.getD i 0)
def cutO (w : List Int) (x : Int) : List Int := if 0 ≤ ixI w x then w.eraseIdx (ixI w x).toNat else w
def toO (order w : List Int) (j : Nat) : Int := if 0 < j then ixI w (order.getD (j - 1) 0) + 1 else 0
def place1 (kept order : List Int) (s : List Int × List Mv) (j : Nat) (x : Int) : List Int × List Mv :=
  if x ∈ kept then s else (ins1 (cutO s.1 x) (toO order (cutO s.1 x) j).toNat x, s.2 ++ [(x, ixI s.1 x, toO order (cutO s.1 x) j)])
def placeN (kept order : List Int) (s : List Int × List Mv) : Nat → List Int × List Mv
  | 0 => s
  | j + 1 => place1 kept order (placeN kept order s j) j (order.getD j 0)
def movesO (kept old order : List Int) : List Mv := (placeN kept order (dropN old order old.length) order.length).2
theorem veq_mv (m : Mv) : veq [.int .i64, .int .i64, .int .i64] true (.agg (mvC m).toArray) (.agg (mvC m).toArray) = some true := by
  simp [veq, mvC, cellsL, cseq, ceq]
theorem sameMoves_ok {S : AS} {v w : Value} {ms : List Mv} (h : Ms S v ms) (k : Ms S w ms) (hl : ms.length ≤ 100000) {Q : En → AS → Prop} (hq : Q (.ret (.bool true)) S) : Call G 28 [v, w] S Q := by
  have sh : ∀ {v}, Ms S v ms → ∃ a, v = .slice a ms.length ms.length := by
    intro v h
    rcases h with ⟨rfl, h0⟩ | ⟨p, ex, rfl, h2, h3⟩
    · have := congrArg List.length h0
      simp at this
      subst this
      exact ⟨none, rfl⟩
    · exact ⟨some ⟨p, 0, none⟩, by simp⟩
  obtain ⟨a, rfl⟩ := sh h
  obtain ⟨b, rfl⟩ := sh k
  refine call_run' (G := G) rfl (ext_none (by decide)) ?_
  simp
  refine run_loop (fun j a' S' => ∃ i, j = ms.length - i ∧ i ≤ ms.length ∧ S' = S ∧ Has a' 26 [(0, .slice a ms.length ms.length), (1, .slice b ms.length ms.length), (12, .int .i64 ms.length), (13, .int .i64 i)]) _ ⟨0, rfl, by omega, rfl, ⟨rfl, rfl, by simp⟩⟩ ?_
  rintro _ R hR _ S ⟨i, rfl, hi, rfl, hA⟩
  obtain ⟨x, rfl⟩ := hA.lit
  by_cases hlt : i < ms.length
  · have hwS := wrapS (show i < 9223372036854775807 by omega)
    have get : ∀ {a}, Ms S (.slice a ms.length ms.length) ms → ∃ p ex, a = some ⟨p, 0, none⟩ ∧ S.get p = some (.row (mvsC ms).flatten 97 true ex) := by
      intro a h
      rcases h with ⟨e, h0⟩ | ⟨p, ex, e, h2, h3⟩
      · injection e with e1 e2
        omega
      · injection e with e1 e2
        exact ⟨p, ex, e1, h2⟩
    obtain ⟨p, ex, rfl, g1⟩ := get h
    obtain ⟨q, ex', rfl, g2⟩ := get k
    have hld : rowLoad (mvsC ms).flatten (i * 3) (some 3) = some (.agg (mvC ms[i]).toArray) := by
      have := (mvs_uni ms).get (i := i) (l := mvC ms[i]) (by simp [mvsC, hlt])
      have hfl := (mvs_uni ms).len
      simp only [mvs_len] at hfl
      simp [rowLoad, this, hfl]
      omega
    simp [fillF, pickL, hlt, g1, g2, hld]
    simp [veq_mv, hwS]
    exact hR _ _ _ (by omega) ⟨i + 1, rfl, by omega, rfl, ⟨rfl, rfl, by simp⟩⟩
  · obtain rfl : i = ms.length := by omega
    simp [fillF, pickL]
    exact hq
theorem ixI_lt (l : List Int) (x : Int) : ixI l x < l.length := by
  unfold ixI
  cases h : l.idxOf? x with
  | none => simp; omega
  | some i =>
    have := (List.getElem?_eq_some_iff.1 (idxOf_some h).1).1
    simp; omega
theorem ixI_erase {l : List Int} {x : Int} (h : x ∈ l) : l.eraseIdx (ixI l x).toNat = l.erase x := by
  have h2 := ixI_mem.2 h
  unfold ixI at h2 ⊢
  cases hq : l.idxOf? x with
  | none => rw [hq] at h2; simp at h2
  | some i =>
    have := List.erase_eq_eraseIdx (l := l) (a := x)
    rw [hq] at this
    simpa using this.symm
theorem dropN_mem {old order : List Int} (hn : old.Nodup) : ∀ i, i ≤ old.length → (∀ k, i ≤ k → (hk : k < old.length) → old[k] ∈ (dropN old order i).1) ∧ (dropN old order i).1.length ≤ old.length ∧ (dropN old order i).2.length ≤ i
  | 0, _ => ⟨fun k _ hk => List.getElem_mem hk, Nat.le_refl _, Nat.le_refl _⟩
  | i + 1, hi => by
    obtain ⟨h1, h2, h3⟩ := dropN_mem (order := order) hn i (by omega)
    have hg : old.getD i 0 = old[i] := by rw [List.getD_eq_getElem?_getD, List.getElem?_eq_getElem (by omega)]; rfl
    simp only [dropN, drop1, hg]
    split
    · exact ⟨fun k hk hkl => h1 k (by omega) hkl, h2, by omega⟩
    · have hm := h1 i (Nat.le_refl _) (by omega)
      rw [ixI_erase hm]
      refine ⟨fun k hk hkl => ?_, ?_, by simp; omega⟩
      · refine (List.mem_erase_of_ne fun e => ?_).2 (h1 k (by omega) hkl)
        have := (List.getElem_inj hn).1 e
        omega
      · rw [List.length_erase_of_mem hm]; omega
theorem cutO_len (w : List Int) (x : Int) : (cutO w x).length ≤ w.length := by
  unfold cutO
  split
  · exact List.length_eraseIdx_le _ _
  · exact Nat.le_refl _
theorem toO_ok (order w : List Int) (j : Nat) : 0 ≤ toO order w j ∧ toO order w j ≤ w.length := by
  unfold toO
  have h1 := ixI_lt w (order.getD (j - 1) 0)
  have h2 := ixI_ge w (order.getD (j - 1) 0)
  split <;> omega
theorem placeN_len {kept order : List Int} {s : List Int × List Mv} : ∀ j, (placeN kept order s j).1.length ≤ s.1.length + j ∧ (placeN kept order s j).2.length ≤ s.2.length + j
  | 0 => ⟨Nat.le_refl _, Nat.le_refl _⟩
  | j + 1 => by
    obtain ⟨h1, h2⟩ := placeN_len (kept := kept) (order := order) (s := s) j
    simp only [placeN, place1]
    split
    · omega
    · have := cutO_len (placeN kept order s j).1 (order.getD j 0)
      have h3 := toO_ok order (cutO (placeN kept order s j).1 (order.getD j 0)) j
      refine ⟨?_, by simp; omega⟩
      simp only [ins1, List.length_append, List.length_take, List.length_cons, List.length_drop]
      omega
theorem Ms.app1 {S T : AS} {v : Value} {ms : List Mv} (h : Ms S v ms) (hT : Same S T []) {p fr : Nat} {m : Mv} {wr ex : Bool} (hp : T.get p = some (.row (mvC m) 97 wr ex)) (hfr : fr < T.next) (hfS : S.next ≤ fr) (hb : ms.length ≤ 100000) :
    ∃ T', appV T fr 97 3 24 v (.slice (some ⟨p, 0, none⟩) 1 1) = some (.slice (some ⟨fr, 0, none⟩) (ms.length + 1) (ms.length + 1), T') ∧ Ms T' (.slice (some ⟨fr, 0, none⟩) (ms.length + 1) (ms.length + 1)) (ms ++ [m]) ∧ Same S T' (ownsOf v) ∧ T'.next = T.next := by
  have hsl : SlAt T 97 v (mvsC ms) := h.stays hT (by simp)
  have hy : srcCells T 3 (.slice (some ⟨p, 0, none⟩) 1 1) = some ((mvsC [m]).length, (mvsC [m]).flatten) := by
    unfold srcCells
    simp only [hp]
    simp [mvsC, mvC]
  obtain ⟨T0, a1, a2, a3⟩ := appV_new (fr := fr) (bytes := 24) hsl (mvs_uni ms) (by omega) (by simp [mvsC]) (mvs_uni [m]) hy (by simp; omega) (by omega) (mvs_ok [m])
  simp only [mvs_len, List.length_singleton] at a1
  refine ⟨_, a1, .inr ⟨fr, false, by simp, ?_, by simp only [AS.next_put, a2]; exact hfr⟩, ?_, by simp only [AS.next_put]; exact a2⟩
  · rw [AS.get_put_self]; simp [mvsC]
  · refine ⟨by simp only [AS.next_put, a2]; exact hT.1, fun q hq hn => ?_⟩
    rw [AS.get_put_ne _ _ (by omega), a3 q hn, hT.2 q hq (by simp)]
theorem Ms.nil {S : AS} : Ms S (.slice none 0 0) [] := .inl ⟨rfl, rfl⟩
theorem Ms.stays {S S' : AS} {v : Value} {ms : List Mv} (h : Ms S v ms) {fp : List Nat} (hs : Same S S' fp) (hd : ∀ m ∈ ownsOf v, m ∉ fp) : Ms S' v ms := SlAt.stays h hs hd
end Go.Gx.A

/-
  The program's Moves.
-/
namespace Go.Gx.A
open Go.Gx Go.Proofs
set_option maxRecDepth 100000
set_option linter.all false
set_option maxHeartbeats 2000000
def movesR (old order : List Int) : List Mv := if errL [old, order] = 0 then movesO (kept old order) old order else []
theorem Moves_ok' {S : AS} {v w : Value} {old order : List Int} (h : Is S v old) (k : Is S w order) {Q : En → AS → Prop}
    (hq : ∀ S' mv, Same S S' [] → Ms S' mv (movesR old order) → Q (.ret (.tuple #[mv, .int .i64 (errL [old, order])])) S') : Call G 26 [v, w] S Q := by
  obtain ⟨a, cap, rfl⟩ := h.shape
  obtain ⟨b, cap', rfl⟩ := k.shape
  refine call_run' (G := G) rfl (ext_none (by decide)) ?_
  simp [placeIn, splice]
  have s1 : ∀ o, Same S ((S.bump 1).put S.next o) [] := fun o => by
    repeat' first | exact Same.refl _ _ | apply Same.bu | (refine Same.pn ?_ (by first | omega | (simp; omega)))
  refine lists_ok (ls_two (wr := true) (ex := true) (h.stay0 (s1 _)) (k.stay0 (s1 _)) (by simp) (by simp)) fun S1 hs1 => ?_
  have hs := (s1 _).tr0 hs1
  by_cases he : errL [old, order] = 0
  · obtain ⟨b1, b2, b3, b4⟩ := errL_nodup he
    simp [he]
    refine clone_ok (h.stay0 hs) (by omega) fun S2 ca cc hs2 hoc how => ?_
    simp
    have hs12 := hs.tr0 hs2
    refine run_loop (fun j a' S' => ∃ i wv mv, j = old.length - i ∧ i ≤ old.length ∧ Same S S' [] ∧ Has a' 101 [(0, .slice a old.length cap), (1, .slice b order.length cap'), (7, wv), (8, mv), (25, .slice a old.length cap), (26, .int .i64 old.length), (27, .int .i64 i)] ∧
      Oc S' wv (dropN old order i).1 ∧ (∀ m ∈ ownsOf wv, S.next ≤ m) ∧ Ms S' mv (dropN old order i).2 ∧ (∀ m ∈ ownsOf mv, S.next ≤ m) ∧ (∀ m ∈ ownsOf wv, m ∉ ownsOf mv)) _ ⟨0, _, .slice none 0 0, rfl, by omega, hs12, ⟨rfl, rfl, by simp⟩, hoc, fun m hm => by have := how m hm; have := hs.1; omega, Ms.nil, by simp [ownsOf], by simp [ownsOf]⟩ ?_
    rintro _ R hR _ S3 ⟨i, wv, mv, rfl, hi, hs3, hA, hw, hwo, hm, hmo, hd⟩
    obtain ⟨x, rfl⟩ := hA.lit
    obtain ⟨d1, d2, d3⟩ := dropN_mem (order := order) b3 i hi
    by_cases hlt : i < old.length
    · have hwS := wrapS (show i < 9223372036854775807 by omega)
      obtain ⟨p, o, cells, e, wr, ex, h1, h2, h3, h4, h5⟩ := (h.stay0 hs3).at hlt
      have hg : old.getD i 0 = old[i] := by rw [List.getD_eq_getElem?_getD, List.getElem?_eq_getElem hlt]; rfl
      simp [fillF, pickL, hlt, h1, h2, h5]
      refine contains_ok (k.stay0 hs3) ?_
      by_cases hc : old[i] ∈ order
      · simp [hc, hwS]
        have e1 : dropN old order (i + 1) = dropN old order i := by simp only [dropN, drop1, hg, if_pos hc]
        exact hR _ _ _ (by omega) ⟨i + 1, wv, mv, rfl, by omega, hs3, ⟨rfl, rfl, by simp⟩, by rw [e1]; exact hw, hwo, by rw [e1]; exact hm, hmo, hd⟩
      · simp [hc]
        refine index_ok hw.is ?_
        have hmem : old[i] ∈ (dropN old order i).1 := d1 i (Nat.le_refl _) hlt
        obtain ⟨q, hqe⟩ : ∃ q : Nat, ixI (dropN old order i).1 old[i] = q := ⟨_, (Int.toNat_of_nonneg (ixI_mem.2 hmem)).symm⟩
        have hql : q < (dropN old order i).1.length := by have := ixI_lt (dropN old order i).1 old[i]; omega
        have e1 : dropN old order (i + 1) = ((dropN old order i).1.eraseIdx q, (dropN old order i).2 ++ [(old[i], (q : Int), -1)]) := by
          simp only [dropN, drop1, hg, if_neg hc, hqe]; simp
        have hwq : IntKind.i64.wrap ((q : Int) + 1) = (q : Int) + 1 := wrapS (by omega)
        obtain ⟨T', f1, f2, f3, f4⟩ := hm.app1 (T := (S3.bump 2).put S3.next (.row (mvC (old[i], (q : Int), -1)) 97 true true)) (p := S3.next) (fr := S3.next + 1) (m := (old[i], (q : Int), -1)) (wr := true) (ex := true)
          (by repeat' first | exact Same.refl _ _ | apply Same.bu | (refine Same.pn ?_ (by first | omega | (simp; omega)))) (by simp) (by simp) (by omega) (by omega)
        simp only [mvC] at f1
        simp [hqe, placeIn, splice, f1, hwq]
        have hw' : Oc T' wv (dropN old order i).1 := hw.stays f3 hd
        refine delete_ok hw' hql fun S4 ea ec hs4 hoc4 how4 => ?_
        simp [hwS]
        have hwl : ∀ m ∈ ownsOf wv, m < S3.next := hw.is.cs.lt
        have hdj : ∀ m ∈ ownsOf (.slice (some ⟨S3.next + 1, 0, none⟩) ((dropN old order i).2.length + 1) ((dropN old order i).2.length + 1)), m ∉ ownsOf wv := fun m hm hn => by
          have := hwl m hn
          simp [ownsOf] at hm
          omega
        have hn3 := hs3.1
        refine hR _ _ _ (by omega) ⟨i + 1, _, _, rfl, by omega, ?_, ⟨rfl, rfl, by simp⟩, by rw [e1]; exact hoc4, fun m hm => hwo m (how4 m hm), by rw [e1]; exact f2.stays hs4 hdj, fun m hm => ?_, fun m hm hn => hdj m hn (how4 m hm)⟩
        · exact (hs3.trans f3 (fun m hm hl => by have := hmo m hm; omega)).trans hs4 (fun m hm hl => by have := hwo m hm; omega)
        · simp [ownsOf] at hm; omega
    · obtain rfl : i = old.length := by omega
      simp [fillF, pickL]
      refine kept_ok (h.stay0 hs3) (k.stay0 hs3) b4 (by omega) (by omega) fun S4 oa n hs4 hn how4 hb4 => ?_
      simp
      have hn3 := hs3.1
      have hn4 := hs4.1
      have hwl : ∀ m ∈ ownsOf wv, m < S3.next := hw.is.cs.lt
      have hml : ∀ m ∈ ownsOf mv, m < S3.next := SlAt.owns_lt hm
      refine run_loop (fun j a' S' => ∃ i wv mv, j = order.length - i ∧ i ≤ order.length ∧ Same S S' [] ∧ Has a' 101 [(1, .slice b order.length cap'), (7, wv), (8, mv), (12, .slice oa n n), (53, .slice b order.length cap'), (54, .int .i64 order.length), (55, .int .i64 i)] ∧
        Oc S' wv (placeN (kept old order) order (dropN old order old.length) i).1 ∧ (∀ m ∈ ownsOf wv, S.next ≤ m) ∧ Ms S' mv (placeN (kept old order) order (dropN old order old.length) i).2 ∧ (∀ m ∈ ownsOf mv, S.next ≤ m) ∧ (∀ m ∈ ownsOf wv, m ∉ ownsOf mv) ∧
        Is S' (.slice oa n n) (kept old order) ∧ (∀ m ∈ ownsOf (.slice oa n n), S.next ≤ m) ∧ (∀ m ∈ ownsOf (.slice oa n n), m ∉ ownsOf wv ∧ m ∉ ownsOf mv)) _ ⟨0, wv, mv, rfl, by omega, hs3.tr0 hs4, ⟨rfl, rfl, by simp⟩, hw.stay0 hs4, hwo, hm.stays hs4 (by simp), hmo, hd, how4.is, fun m hm => by have := hb4 m hm; omega, fun m hm => ⟨fun h => by have := hb4 m hm; have := hwl m h; omega, fun h => by have := hb4 m hm; have := hml m h; omega⟩⟩ ?_
      clear hw hwo hm hmo hd hA hwl hml
      rintro _ R hR _ S5 ⟨i, wv, mv, rfl, hi, hs5, hA, hw, hwo, hm, hmo, hd, hK, hKo, hKd⟩
      obtain ⟨x, rfl⟩ := hA.lit
      obtain ⟨l1, l2⟩ := placeN_len (kept := kept old order) (order := order) (s := dropN old order old.length) i
      by_cases hlt : i < order.length
      · have hwS := wrapS (show i < 9223372036854775807 by omega)
        obtain ⟨p, o, cells, e, wr, ex, h1, h2, h3, h4, h5⟩ := (k.stay0 hs5).at hlt
        have hg : order.getD i 0 = order[i] := by rw [List.getD_eq_getElem?_getD, List.getElem?_eq_getElem hlt]; rfl
        simp [fillF, pickL, hlt, h1, h2, h5]
        refine contains_ok hK ?_
        by_cases hc : order[i] ∈ kept old order
        · simp [hc, hwS]
          have e1 : placeN (kept old order) order (dropN old order old.length) (i + 1) = placeN (kept old order) order (dropN old order old.length) i := by simp only [placeN, place1, hg, if_pos hc]
          exact hR _ _ _ (by omega) ⟨i + 1, wv, mv, rfl, by omega, hs5, ⟨rfl, rfl, by simp⟩, by rw [e1]; exact hw, hwo, by rw [e1]; exact hm, hmo, hd, hK, hKo, hKd⟩
        · simp [hc]
          refine index_ok (hw.stay0 (.bu (.refl _ _))).is ?_
          generalize hW : (placeN (kept old order) order (dropN old order old.length) i) = W at *
          have hge := ixI_ge W.1 order[i]
          have hlx := ixI_lt W.1 order[i]
          have hwl : ∀ m ∈ ownsOf wv, m < S5.next := hw.is.cs.lt
          have hml : ∀ m ∈ ownsOf mv, m < S5.next := SlAt.owns_lt hm
          have hn5 := hs5.1
          have hcl := cutO_len W.1 order[i]
          have t6 : ∀ o o', Same S5 (((S5.bump 1).put S5.next o).put S5.next o') [] := fun o o' => by
            repeat' first | exact Same.refl _ _ | apply Same.bu | (refine Same.pn ?_ (by first | omega | (simp; omega)))
          by_cases hf : 0 ≤ ixI W.1 order[i]
          case' pos =>
            obtain ⟨q, hqe⟩ : ∃ q : Nat, ixI W.1 order[i] = q := ⟨_, (Int.toNat_of_nonneg hf).symm⟩
            have hwq : IntKind.i64.wrap ((q : Int) + 1) = (q : Int) + 1 := wrapS (by omega)
            have hcut : cutO W.1 order[i] = W.1.eraseIdx q := by unfold cutO; rw [if_pos hf, hqe]; rfl
            simp [placeIn, splice, rowStore, okc, hqe, hwq]
            refine delete_ok (hw.stay0 (t6 _ _)) (by omega) fun S6 ea ec hs6 hoc6 how6 => ?_
            have g6 : S6.get S5.next = some (.row [.int .i64 order[i], .int .i64 (ixI W.1 order[i]), .int .i64 0] 97 true true) := by
              rw [hs6.2 S5.next (by simp) (fun h => by have := hwl _ h; omega), hqe]
              simp
            have hn6 : S5.next + 1 ≤ S6.next := by have := hs6.1; simpa using this
            have hs56 : Same S5 S6 (ownsOf wv) := ((t6 _ _).mono (by simp)).trans hs6 (fun m h _ => h)
            rw [← hcut] at hoc6 how6 ⊢
            simp [g6]
            generalize hWV : Value.slice ea (cutO W.1 order[i]).length ec = wv6 at *
            clear hs6
          case' neg =>
            have hcut : cutO W.1 order[i] = W.1 := by unfold cutO; rw [if_neg hf]
            simp [placeIn, splice, rowStore, okc, hf]
            obtain ⟨S6, hS6⟩ : ∃ S6, S6 = (((S5.bump 1).put S5.next (AObj.row [Value.int IntKind.i64 0, Value.int IntKind.i64 0, Value.int IntKind.i64 0] 97 true true)).put S5.next (AObj.row [Value.int IntKind.i64 order[i], Value.int IntKind.i64 (ixI W.fst order[i]), Value.int IntKind.i64 0] 97 true true)) := ⟨_, rfl⟩
            have g6 : S6.get S5.next = some (.row [.int .i64 order[i], .int .i64 (ixI W.1 order[i]), .int .i64 0] 97 true true) := by
              rw [hS6]; simp
            have hn6 : S5.next + 1 ≤ S6.next := by rw [hS6]; simp
            have hs56 : Same S5 S6 (ownsOf wv) := by rw [hS6]; exact (t6 _ _).mono (by simp)
            have hoc6 : Oc S6 wv (cutO W.1 order[i]) := by rw [hcut, hS6]; exact hw.stay0 (t6 _ _)
            rw [← hS6]
            obtain ⟨wv6, hwv6⟩ : ∃ z, z = wv := ⟨_, rfl⟩
            have how6 : ∀ m ∈ ownsOf wv6, m ∈ ownsOf wv := fun m h => hwv6 ▸ h
            rw [← hwv6] at hoc6 ⊢
          all_goals
            have hS6 : Same S S6 [] := hs5.trans hs56 (fun m hm hl => by have := hwo m hm; omega)
            have hg2 := ixI_ge (cutO W.1 order[i]) (order.getD (i - 1) 0)
            have hl2 := ixI_lt (cutO W.1 order[i]) (order.getD (i - 1) 0)
            have hto := toO_ok order (cutO W.1 order[i]) i
            by_cases hj : 0 < i
            case' pos =>
              have hwm : IntKind.i64.wrap ((i : Int) - 1) = ((i - 1 : Nat) : Int) := by rw [wrap64 (by omega) (by omega)]; omega
              obtain ⟨p', o', cells', e', wr', ex', j1, j2, j3, j4, j5⟩ := (k.stay0 hS6).at (i := i - 1) (by omega)
              have hgj : order.getD (i - 1) 0 = order[i - 1] := by rw [List.getD_eq_getElem?_getD, List.getElem?_eq_getElem (by omega)]; rfl
              have htoe : toO order (cutO W.1 order[i]) i = ixI (cutO W.1 order[i]) order[i - 1] + 1 := by unfold toO; rw [if_pos hj, hgj]
              have hj' : i - 1 < order.length := by omega
              simp [hj, hwm, hj', j1, j2, j5]
              refine index_ok hoc6.is ?_
              rw [hgj] at hg2 hl2
              have hwp : IntKind.i64.wrap (ixI (cutO W.1 order[i]) order[i - 1] + 1) = ixI (cutO W.1 order[i]) order[i - 1] + 1 := wrap64 (by omega) (by omega)
              simp [g6, rowStore, okc, splice, hwp]
              rw [← htoe]
              obtain ⟨S7, hS7⟩ : ∃ S7, S7 = S6.put S5.next (AObj.row [Value.int IntKind.i64 order[i], Value.int IntKind.i64 (ixI W.fst order[i]), Value.int IntKind.i64 (toO order (cutO W.fst order[i]) i)] 97 true true) := ⟨_, rfl⟩
              have g7 : S7.get S5.next = some (.row (mvC (order[i], ixI W.1 order[i], toO order (cutO W.1 order[i]) i)) 97 true true) := by rw [hS7, AS.get_put_self]; rfl
              have hs67 : Same S6 S7 [S5.next] := by rw [hS7]; exact .po (.refl _ _) (by simp)
              have hn67 : S7.next = S6.next := by rw [hS7]; rfl
              rw [← hS7, ← hn67]
            case' neg =>
              have htoe : toO order (cutO W.1 order[i]) i = 0 := by unfold toO; rw [if_neg hj]
              obtain ⟨S7, hS7⟩ : ∃ S7, S7 = S6 := ⟨_, rfl⟩
              rw [← hS7]
              have g7 : S7.get S5.next = some (.row (mvC (order[i], ixI W.1 order[i], toO order (cutO W.1 order[i]) i)) 97 true true) := by rw [hS7, g6, htoe]; rfl
              have hs67 : Same S6 S7 [S5.next] := by rw [hS7]; exact .refl _ _
              have hn67 : S7.next = S6.next := by rw [hS7]
              have g7' : S7.get S5.next = some (.row [.int .i64 order[i], .int .i64 (ixI W.1 order[i]), .int .i64 (toO order (cutO W.1 order[i]) i)] 97 true true) := g7
              simp [hj, g7']
            all_goals
              obtain ⟨tn, htn⟩ : ∃ tn : Nat, toO order (cutO W.1 order[i]) i = tn := ⟨_, (Int.toNat_of_nonneg hto.1).symm⟩
              have hoc7 : Oc S7 wv6 (cutO W.1 order[i]) := hoc6.stays hs67 (fun m hm => by have := hwl m (how6 m hm); simp; omega)
              simp [placeIn, splice]
              rw [htn] at g7 hto ⊢
              have t8 : ∀ o, Same S7 ((S7.bump 1).put S7.next o) [] := fun o => by
                repeat' first | exact Same.refl _ _ | apply Same.bu | (refine Same.pn ?_ (by first | omega | (simp; omega)))
              have hwl7 : ∀ m ∈ ownsOf wv6, m < S7.next := hoc7.is.cs.lt
              refine insert_ok (hoc7.stay0 (t8 _)) (i := tn) (by omega) (by omega) (vb := S7.next) (x := order[i]) (exv := true) (by rw [AS.get_put_self]) (fun h => by have := hwl7 _ h; omega) fun S8 hs8 hoc8 => ?_
              have hn8 := hs8.1
              simp at hn8
              have g8 : S8.get S5.next = some (.row (mvC (order[i], ixI W.1 order[i], (tn : Int))) 97 true true) := by
                rw [hs8.2 S5.next (by simp; omega) (fun h => by have := hwl _ (how6 _ h); omega), (t8 _).2 S5.next (by omega) (by simp), g7]
              simp only [mvC] at g8
              simp [g8, placeIn, splice]
              have hs57 : Same S5 S7 (ownsOf wv) := hs56.trans hs67 (fun m hm hl => by simp at hm; omega)
              have hs58 : Same S5 S8 (ownsOf wv) := (hs57.trans (t8 _) (by simp)).trans hs8 (fun m hm _ => how6 m hm)
              have hm8 : Ms S8 mv W.2 := hm.stays hs58 (fun m hm' hw => hd m hw hm')
              obtain ⟨T', f1, f2, f3, f4⟩ := hm8.app1 (T := (S8.bump 2).put S8.next (.row (mvC (order[i], ixI W.1 order[i], (tn : Int))) 97 true true)) (p := S8.next) (fr := S8.next + 1) (m := (order[i], ixI W.1 order[i], (tn : Int))) (wr := true) (ex := true)
                (by repeat' first | exact Same.refl _ _ | apply Same.bu | (refine Same.pn ?_ (by first | omega | (simp; omega)))) (by simp) (by simp) (by omega) (by omega)
              simp only [mvC] at f1
              simp [f1, hwS]
              have e1 : placeN (kept old order) order (dropN old order old.length) (i + 1) = (ins1 (cutO W.1 order[i]) tn order[i], W.2 ++ [(order[i], ixI W.1 order[i], (tn : Int))]) := by
                simp only [placeN, place1, hg, hW, if_neg hc, htn]; simp
              have hn7 : S5.next + 1 ≤ S7.next := by omega
              have hkl : ∀ m ∈ ownsOf (Value.slice oa n n), m < S5.next := hK.cs.lt
              have hnx : ((S7.bump 1).put S7.next (AObj.row [Value.int IntKind.i64 order[i]] 3 true true)).next = S7.next + 1 := by simp
              rw [hnx] at hoc8
              generalize hwv' : Value.slice (some { block := S7.next + 1, off := 0 }) (ins1 (cutO W.1 order[i]) tn order[i]).length (ins1 (cutO W.1 order[i]) tn order[i]).length = wv' at *
              generalize hmv' : Value.slice (some { block := S8.next + 1, off := 0 }) (W.2.length + 1) (W.2.length + 1) = mv' at *
              have ow1 : ∀ m ∈ ownsOf wv', m = S7.next + 1 := fun m hm => by rw [← hwv'] at hm; simpa [ownsOf] using hm
              have ow2 : ∀ m ∈ ownsOf mv', m = S8.next + 1 := fun m hm => by rw [← hmv'] at hm; simpa [ownsOf] using hm
              have k1 : Same S5 T' (ownsOf wv ++ ownsOf mv) := (hs58.mono (fun m hm _ => by simp [hm])).trans f3 (fun m hm _ => by simp [hm])
              have k2 : Same S T' [] := hs5.trans k1 (fun m hm hl => by
                rcases List.mem_append.1 hm with h | h
                · have := hwo m h; omega
                · have := hmo m h; omega)
              have k3 : Oc T' wv' (ins1 (cutO W.1 order[i]) tn order[i]) := hoc8.stays f3 (fun m hm hn => by have := ow1 m hm; have := hml m hn; omega)
              have k4 : Is T' (Value.slice oa n n) (kept old order) := hK.stays k1 (fun m hm hn => by
                rcases List.mem_append.1 hn with h | h
                · exact (hKd m hm).1 h
                · exact (hKd m hm).2 h)
              refine hR _ _ _ (by omega) ⟨i + 1, wv', mv', rfl, by omega, k2, ⟨rfl, rfl, by simp⟩, by rw [e1]; exact k3, fun m hm => by have := ow1 m hm; omega, by rw [e1]; exact f2, fun m hm => by have := ow2 m hm; omega, fun m hm hn => by have := ow1 m hm; have := ow2 m hn; omega, k4, hKo, fun m hm => ⟨fun hn => by have := ow1 m hn; have := hkl m hm; omega, fun hn => by have := ow2 m hn; have := hkl m hm; omega⟩⟩
      · obtain rfl : i = order.length := by omega
        simp [fillF, pickL]
        have := hq S5 mv hs5 (by unfold movesR; rw [if_pos he]; exact hm)
        rw [he] at this
        exact this
  · simp [he]
    have := hq S1 (.slice none 0 0) hs (by unfold movesR; rw [if_neg he]; exact Ms.nil)
    exact this
end Go.Gx.A

/-
  The reference's Moves; AmendMoves.
-/
namespace Go.Gx.A
open Go.Gx Go.Proofs
set_option maxRecDepth 100000
set_option linter.all false
set_option maxHeartbeats 2000000
theorem app0 {T : AS} {v : Value} {l : List Int} {p fr : Nat} (h : Is T v l) (hl : l.length ≤ 100000) (hp : T.get p = some (.row [] 3 true true)) (hpn : p < T.next) (hfr : fr < T.next) :
    ∃ T' a cap, appV T fr 3 1 8 (.slice (some ⟨p, 0, none⟩) 0 0) v = some (.slice a l.length cap, T') ∧ Oc T' (.slice a l.length cap) l ∧ Same T T' [fr] ∧ T'.next = T.next ∧ ∀ m ∈ ownsOf (.slice a l.length cap), m = p ∨ m = fr := by
  have hy := h.cs.cells
  rw [ints_len] at hy
  have hsl : SlAt T 3 (.slice (some ⟨p, 0, none⟩) 0 0) (ones []) := .inr ⟨p, true, rfl, by simpa [ones] using hp, hpn⟩
  by_cases hl0 : l = []
  · subst hl0
    refine ⟨T, some ⟨p, 0, none⟩, 0, ?_, .inr ⟨p, 0, [], true, rfl, rfl, rfl, by simpa using hp, hpn, by omega⟩, .refl _ _, rfl, fun m hm => .inl (by simpa [ownsOf] using hm)⟩
    unfold appV
    rw [hy]
    simp
  · have hne : ones l ≠ [] := by
      intro e
      have := congrArg List.length e
      simp at this
      exact hl0 this
    have hnil : ∀ (q : AS) (c : List Value) (e : TypeId) (w x : Bool), True := fun _ _ _ _ _ => trivial
    have e1 : appV T fr 3 1 8 (.slice (some ⟨p, 0, none⟩) 0 0) v = some (vs fr 0 l.length l.length, T.put fr (.row (ints l) 3 true false)) := by
      unfold appV
      rw [hy]
      have : 0 < l.length := List.length_pos_iff.2 hl0
      simp only []
      rw [if_neg (by omega), if_pos ⟨by omega, by omega, by omega⟩, hp]
      simp
    refine ⟨_, some ⟨fr, 0, none⟩, l.length, e1, .inr ⟨fr, l.length, [], false, rfl, by simp, rfl, by rw [AS.get_put_self]; simp, by simpa using hfr, hl⟩, same_put _ _ _, rfl, fun m hm => .inr (by simpa [ownsOf] using hm)⟩
theorem rMoves_ok {S : AS} {v w : Value} {old order : List Int} (h : Is S v old) (k : Is S w order) {Q : En → AS → Prop}
    (hq : ∀ S' mv, Same S S' [] → Ms S' mv (movesR old order) → Q (.ret (.tuple #[mv, .int .i64 (errL [old, order])])) S') : Call G 27 [v, w] S Q := by
  obtain ⟨a, cap, rfl⟩ := h.shape
  obtain ⟨b, cap', rfl⟩ := k.shape
  refine call_run' (G := G) rfl (ext_none (by decide)) ?_
  simp
  refine rlists_ok h k ?_
  by_cases he : errL [old, order] = 0
  · obtain ⟨b1, b2, b3, b4⟩ := errL_nodup he
    simp [he]
    refine rkept_ok h k b4 (by omega) (by omega) fun S1 oa n hs1 hn how hb => ?_
    simp
    have t1 : Same S1 ((S1.bump 2).put S1.next (.row [] 3 true true)) [] := by
      repeat' first | exact Same.refl _ _ | apply Same.bu | (refine Same.pn ?_ (by first | omega | (simp; omega)))
    obtain ⟨T', ca, cc, f1, f2, f3, f4, f5⟩ := app0 (T := (S1.bump 2).put S1.next (.row [] 3 true true)) (p := S1.next) (fr := S1.next + 1) ((h.stay0 hs1).stay0 t1) (by omega) (by simp) (by simp) (by simp)
    simp [placeIn, f1]
    have hs2 : Same S1 T' [] := t1.trans f3 (fun m hm hl => by simp at hm; omega)
    have hs12 := hs1.tr0 hs2
    have hn1 := hs1.1
    have how2 := how.is.stay0 hs2
    have hkl : ∀ m ∈ ownsOf (Value.slice oa n n), m < S1.next := how.is.cs.lt
    have hcl : ∀ m ∈ ownsOf (Value.slice ca old.length cc), S.next ≤ m := fun m hm => by have := f5 m hm; omega
    refine run_loop (fun j a' S' => ∃ i wv mv, j = old.length - i ∧ i ≤ old.length ∧ Same S S' [] ∧ Has a' 113 [(0, .slice a old.length cap), (1, .slice b order.length cap'), (7, .slice oa n n), (8, wv), (9, mv), (10, .int .i64 i)] ∧
      Is S' wv (dropN old order i).1 ∧ Ms S' mv (dropN old order i).2 ∧ (∀ m ∈ ownsOf mv, S.next ≤ m) ∧ (∀ m ∈ ownsOf wv, m ∉ ownsOf mv) ∧ Is S' (.slice oa n n) (kept old order) ∧ (∀ m ∈ ownsOf (.slice oa n n), m ∉ ownsOf mv)) _ ⟨0, _, .slice none 0 0, rfl, by omega, hs12, ⟨rfl, rfl, by simp⟩, f2.is, Ms.nil, by simp [ownsOf], by simp [ownsOf], how2, by simp [ownsOf]⟩ ?_
    rintro _ R hR _ S3 ⟨i, wv, mv, rfl, hi, hs3, hA, hw, hm, hmo, hd, hK, hKd⟩
    obtain ⟨x, rfl⟩ := hA.lit
    obtain ⟨d1, d2, d3⟩ := dropN_mem (order := order) b3 i hi
    by_cases hlt : i < old.length
    · have hwS := wrapS (show i < 9223372036854775807 by omega)
      obtain ⟨p, o, cells, e, wr, ex, h1, h2, h3, h4, h5⟩ := (h.stay0 hs3).at hlt
      have hg : old.getD i 0 = old[i] := by rw [List.getD_eq_getElem?_getD, List.getElem?_eq_getElem hlt]; rfl
      simp [fillF, pickL, hlt, h1, h2, h5]
      refine has_ok (k.stay0 hs3) ?_
      by_cases hc : old[i] ∈ order
      · simp [hc, hwS]
        have e1 : dropN old order (i + 1) = dropN old order i := by simp only [dropN, drop1, hg, if_pos hc]
        exact hR _ _ _ (by omega) ⟨i + 1, wv, mv, rfl, by omega, hs3, ⟨rfl, rfl, by simp⟩, by rw [e1]; exact hw, by rw [e1]; exact hm, hmo, hd, hK, hKd⟩
      · simp [hc, h1, h2, h5]
        refine rindex_ok hw ?_
        have hmem : old[i] ∈ (dropN old order i).1 := d1 i (Nat.le_refl _) hlt
        obtain ⟨q, hqe⟩ : ∃ q : Nat, ixI (dropN old order i).1 old[i] = q := ⟨_, (Int.toNat_of_nonneg (ixI_mem.2 hmem)).symm⟩
        have hql : q < (dropN old order i).1.length := by have := ixI_lt (dropN old order i).1 old[i]; omega
        have e1 : dropN old order (i + 1) = ((dropN old order i).1.eraseIdx q, (dropN old order i).2 ++ [(old[i], (q : Int), -1)]) := by
          simp only [dropN, drop1, hg, if_neg hc, hqe]; simp
        obtain ⟨U, f1, f2, f3, f4⟩ := hm.app1 (T := (S3.bump 2).put S3.next (.row (mvC (old[i], (q : Int), -1)) 97 true true)) (p := S3.next) (fr := S3.next + 1) (m := (old[i], (q : Int), -1)) (wr := true) (ex := true)
          (by repeat' first | exact Same.refl _ _ | apply Same.bu | (refine Same.pn ?_ (by first | omega | (simp; omega)))) (by simp) (by simp) (by omega) (by omega)
        simp only [mvC] at f1
        simp [hqe, placeIn, splice, f1, h1, h2, h5]
        have hw' : Is U wv (dropN old order i).1 := hw.stays f3 hd
        refine without_ok hw' hql (by omega) fun S4 ea en hs4 hen hoc4 how4 => ?_
        simp [hwS]
        have hwl : ∀ m ∈ ownsOf wv, m < S3.next := hw.cs.lt
        have hn3 := hs3.1
        have hU : U.next = S3.next + 2 := by simpa using f4
        have k1 : Same S3 S4 (ownsOf mv) := f3.trans hs4 (by simp)
        refine hR _ _ _ (by omega) ⟨i + 1, .slice ea en en, .slice (some ⟨S3.next + 1, 0, none⟩) ((dropN old order i).2.length + 1) ((dropN old order i).2.length + 1), rfl, by omega, ?_, ⟨rfl, rfl, by simp⟩, by rw [e1]; exact hoc4.is, by rw [e1]; exact f2.stays hs4 (by simp), fun m hm => ?_, fun m hm hn => ?_, hK.stays k1 hKd, fun m hm hn => ?_⟩
        · exact hs3.trans k1 (fun m hm hl => by have := hmo m hm; omega)
        · simp [ownsOf] at hm; omega
        · have := how4 m hm; simp [ownsOf] at hn; omega
        · have := hK.cs.lt m hm; simp [ownsOf] at hn; omega
    · obtain rfl : i = old.length := by omega
      simp [fillF, pickL]
      refine run_loop (fun j a' S' => ∃ i wv mv, j = order.length - i ∧ i ≤ order.length ∧ Same S S' [] ∧ Has a' 113 [(0, .slice a old.length cap), (1, .slice b order.length cap'), (7, .slice oa n n), (8, wv), (9, mv), (13, .int .i64 i)] ∧
        Is S' wv (placeN (kept old order) order (dropN old order old.length) i).1 ∧ Ms S' mv (placeN (kept old order) order (dropN old order old.length) i).2 ∧ (∀ m ∈ ownsOf mv, S.next ≤ m) ∧ (∀ m ∈ ownsOf wv, m ∉ ownsOf mv) ∧
        Is S' (.slice oa n n) (kept old order) ∧ (∀ m ∈ ownsOf (.slice oa n n), m ∉ ownsOf mv)) _ ⟨0, wv, mv, rfl, by omega, hs3, ⟨rfl, rfl, by simp⟩, hw, hm, hmo, hd, hK, hKd⟩ ?_
      clear hw hm hmo hd hA hK hKd
      rintro _ R hR _ S5 ⟨i, wv, mv, rfl, hi, hs5, hA, hw, hm, hmo, hd, hK, hKd⟩
      obtain ⟨x, rfl⟩ := hA.lit
      obtain ⟨l1, l2⟩ := placeN_len (kept := kept old order) (order := order) (s := dropN old order old.length) i
      by_cases hlt : i < order.length
      · have hwS := wrapS (show i < 9223372036854775807 by omega)
        obtain ⟨p, o, cells, e, wr, ex, h1, h2, h3, h4, h5⟩ := (k.stay0 hs5).at hlt
        have hg : order.getD i 0 = order[i] := by rw [List.getD_eq_getElem?_getD, List.getElem?_eq_getElem hlt]; rfl
        simp [fillF, pickL, hlt, h1, h2, h5]
        refine has_ok hK ?_
        by_cases hc : order[i] ∈ kept old order
        · simp [hc, hwS]
          have e1 : placeN (kept old order) order (dropN old order old.length) (i + 1) = placeN (kept old order) order (dropN old order old.length) i := by simp only [placeN, place1, hg, if_pos hc]
          exact hR _ _ _ (by omega) ⟨i + 1, wv, mv, rfl, by omega, hs5, ⟨rfl, rfl, by simp⟩, by rw [e1]; exact hw, by rw [e1]; exact hm, hmo, hd, hK, hKd⟩
        · simp [hc, h1, h2, h5]
          refine rindex_ok hw ?_
          generalize hW : (placeN (kept old order) order (dropN old order old.length) i) = W at *
          have hge := ixI_ge W.1 order[i]
          have hlx := ixI_lt W.1 order[i]
          have hn5 := hs5.1
          have hcl := cutO_len W.1 order[i]
          simp
          refine cut_if (fun a' S' => ∃ wv6, Same S5 S' [] ∧ Has a' 113 [(0, .slice a old.length cap), (1, .slice b order.length cap'), (7, .slice oa n n), (8, wv6), (9, mv), (13, .int .i64 i), (15, .int .i64 (ixI W.1 order[i]))] ∧ Is S' wv6 (cutO W.1 order[i]) ∧ (∀ m ∈ ownsOf wv6, m ∉ ownsOf mv)) ?_ ?_
          · intro M hM
            by_cases hf : 0 ≤ ixI W.1 order[i]
            · obtain ⟨q, hqe⟩ : ∃ q : Nat, ixI W.1 order[i] = q := ⟨_, (Int.toNat_of_nonneg hf).symm⟩
              have hcut : cutO W.1 order[i] = W.1.eraseIdx q := by unfold cutO; rw [if_pos hf, hqe]; rfl
              simp [hqe]
              refine without_ok hw (by omega) (by omega) fun S6 ea en hs6 hen hoc6 how6 => ?_
              simp
              exact hM _ _ ⟨.slice ea en en, hs6, ⟨rfl, rfl, by simp [hqe]⟩, by rw [hcut]; exact hoc6.is, fun m hq hn => by have := how6 m hq; have := SlAt.owns_lt hm m hn; omega⟩
            · have hcut : cutO W.1 order[i] = W.1 := by unfold cutO; rw [if_neg hf]
              simp [hf]
              exact hM _ _ ⟨wv, .refl _ _, ⟨rfl, rfl, by simp⟩, by rw [hcut]; exact hw, hd⟩
          · rintro a6 S6 ⟨wv6, hs6, hA6, hw6, hd6⟩
            obtain ⟨y, rfl⟩ := hA6.lit
            have hS6 := hs5.tr0 hs6
            have hto := toO_ok order (cutO W.1 order[i]) i
            simp [fillF, pickL]
            refine cut_if (fun a' S' => S6 = S' ∧ Has a' 113 [(0, .slice a old.length cap), (1, .slice b order.length cap'), (7, .slice oa n n), (8, wv6), (9, mv), (13, .int .i64 i), (15, .int .i64 (ixI W.1 order[i])), (16, .int .i64 (toO order (cutO W.1 order[i]) i))]) ?_ ?_
            · intro M hM
              by_cases hj : 0 < i
              · have hwm : IntKind.i64.wrap ((i : Int) - 1) = ((i - 1 : Nat) : Int) := by rw [wrap64 (by omega) (by omega)]; omega
                obtain ⟨p', o', cells', e', wr', ex', j1, j2, j3, j4, j5⟩ := (k.stay0 hS6).at (i := i - 1) (by omega)
                have hgj : order.getD (i - 1) 0 = order[i - 1] := by rw [List.getD_eq_getElem?_getD, List.getElem?_eq_getElem (by omega)]; rfl
                have htoe : toO order (cutO W.1 order[i]) i = ixI (cutO W.1 order[i]) order[i - 1] + 1 := by unfold toO; rw [if_pos hj, hgj]
                have hj' : i - 1 < order.length := by omega
                have hg2 := ixI_ge (cutO W.1 order[i]) order[i - 1]
                have hl2 := ixI_lt (cutO W.1 order[i]) order[i - 1]
                simp [hj, hwm, hj', j1, j2, j5]
                refine rindex_ok hw6 ?_
                have hwp : IntKind.i64.wrap (1 + ixI (cutO W.1 order[i]) order[i - 1]) = toO order (cutO W.1 order[i]) i := by rw [wrap64 (by omega) (by omega), htoe]; omega
                simp [hwp]
                exact hM _ _ ⟨rfl, rfl, rfl, by simp⟩
              · have htoe : toO order (cutO W.1 order[i]) i = 0 := by unfold toO; rw [if_neg hj]
                simp [hj]
                exact hM _ _ ⟨rfl, rfl, rfl, by simp [htoe]⟩
            · rintro a7 _ ⟨rfl, hA7⟩
              obtain ⟨z, rfl⟩ := hA7.lit
              obtain ⟨tn, htn⟩ : ∃ tn : Nat, toO order (cutO W.1 order[i]) i = tn := ⟨_, (Int.toNat_of_nonneg hto.1).symm⟩
              obtain ⟨p', o', cells', e', wr', ex', j1, j2, j3, j4, j5⟩ := (k.stay0 hS6).at hlt
              have hm6 : Ms S6 mv W.2 := hm.stays hs6 (by simp)
              obtain ⟨U, f1, f2, f3, f4⟩ := hm6.app1 (T := (S6.bump 2).put S6.next (.row (mvC (order[i], ixI W.1 order[i], (tn : Int))) 97 true true)) (p := S6.next) (fr := S6.next + 1) (m := (order[i], ixI W.1 order[i], (tn : Int))) (wr := true) (ex := true)
                (by repeat' first | exact Same.refl _ _ | apply Same.bu | (refine Same.pn ?_ (by first | omega | (simp; omega)))) (by simp) (by simp) (by omega) (by omega)
              simp only [mvC] at f1
              rw [htn] at hto
              simp [fillF, pickL, hlt, j1, j2, j5, htn, placeIn, splice, f1]
              have hS6n := hs6.1
              have k1 : Same S U [] := hS6.trans f3 (fun m hm hl => by have := hmo m hm; omega)
              have hp' : p' < S.next := k.cs.lt _ j4
              have j2' : U.get p' = some (.row cells' e' wr' ex') := (f3.2 p' (by have := hS6.1; omega) (fun hm => by have := hmo p' hm; omega)).trans j2
              simp [j2', j5]
              have hU : U.next = S6.next + 2 := by simpa using f4
              refine inserted_ok (hw6.stays f3 hd6) (i := tn) (x := order[i]) (by omega) (by omega) fun S8 ea en hs8 hen hoc8 how8 => ?_
              simp [hwS]
              have e1 : placeN (kept old order) order (dropN old order old.length) (i + 1) = (ins1 (cutO W.1 order[i]) tn order[i], W.2 ++ [(order[i], ixI W.1 order[i], (tn : Int))]) := by
                simp only [placeN, place1, hg, hW, if_neg hc, htn]; simp
              have k2 : Same S5 S8 (ownsOf mv) := ((hs6.mono (by simp) : Same S5 S6 (ownsOf mv)).trans f3 (fun m hm _ => hm)).trans hs8 (by simp)
              refine hR _ _ _ (by omega) ⟨i + 1, .slice ea en en, .slice (some ⟨S6.next + 1, 0, none⟩) (W.2.length + 1) (W.2.length + 1), rfl, by omega, k1.tr0 hs8, ⟨rfl, rfl, by simp⟩, by rw [e1]; exact hoc8.is, by rw [e1]; exact f2.stays hs8 (by simp), fun m hm => ?_, fun m hm hn => ?_, hK.stays k2 hKd, fun m hm hn => ?_⟩
              · simp [ownsOf] at hm; omega
              · have := how8 m hm; simp [ownsOf] at hn; omega
              · have := hK.cs.lt m hm; simp [ownsOf] at hn; omega
      · obtain rfl : i = order.length := by omega
        simp [fillF, pickL]
        have := hq S5 mv hs5 (by unfold movesR; rw [if_pos he]; exact hm)
        rw [he] at this
        exact this
  · simp [he]
    have := hq S (.slice none 0 0) (.refl _ _) (by unfold movesR; rw [if_neg he]; exact Ms.nil)
    exact this
end Go.Gx.A

/-
  AmendMoves.
-/
namespace Go.Gx.A
open Go.Gx Go.Proofs
set_option maxRecDepth 100000
set_option linter.all false
set_option maxHeartbeats 1000000
theorem placeN_len' (old order : List Int) : (movesR old order).length ≤ old.length + order.length := by
  unfold movesR
  split
  · rename_i he
    obtain ⟨b1, b2, b3, b4⟩ := errL_nodup he
    unfold movesO
    have h1 := (placeN_len (kept := kept old order) (order := order) (s := dropN old order old.length) order.length).2
    have h2 := (dropN_mem (order := order) b3 old.length (Nat.le_refl _)).2.2
    omega
  · simp
theorem moves_walk {S : AS} {v w : Value} {old order : List Int} (h : Is S v old) (k : Is S w order) : Call G 4 [v, w] S fun e _ => e = .ret (.bool true) := by
  obtain ⟨a, cap, rfl⟩ := h.shape
  obtain ⟨b, cap', rfl⟩ := k.shape
  refine call_run' (G := G) rfl (ext_none (by decide)) ?_
  refine cut2 (fun a' S' => S' = S ∧ old.length ≤ 30 ∧ order.length ≤ 30 ∧ Has a' 41 [(0, .slice a old.length cap), (1, .slice b order.length cap')]) ?_ ?_
  · intro M hM
    have fin : ∀ a' S', Has a' 41 [(0, .slice a old.length cap), (1, .slice b order.length cap')] → old.length ≤ 30 → order.length ≤ 30 → S' = S → M a' S' := fun a' S' h1 h2 h3 h4 => hM a' S' ⟨h4, h2, h3, h1⟩
    simp
    by_cases c1 : (30 : Int) < old.length
    · simp [c1, undef]
      refine alive_ok ?_
      simp
    · simp [c1, undef]
      by_cases c2 : (30 : Int) < order.length
      · simp [c2, undef]
        refine alive_ok ?_
        simp
      · simp [c2, undef]
        exact fin _ _ ⟨rfl, rfl, by simp⟩ (by omega) (by omega) rfl
  · rintro _ S ⟨rfl, l1, l2, hA⟩
    obtain ⟨x, rfl⟩ := hA.lit
    simp [fillF, pickL]
    refine Moves_ok' h k fun S1 m1 hs1 hm1 => ?_
    simp
    refine rMoves_ok (h.stay0 hs1) (k.stay0 hs1) fun S2 m2 hs2 hm2 => ?_
    simp
    refine alive_ok ?_
    simp
    refine sameMoves_ok (hm1.stays hs2 (by simp)) hm2 (by have := placeN_len' old order; omega) ?_
    simp
end Go.Gx.A
