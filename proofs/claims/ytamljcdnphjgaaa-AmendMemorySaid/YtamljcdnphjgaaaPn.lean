/-
  Lists that are changed: Clone, Delete, Insert; the reference's ways.
-/
import Derived.Test.YtamljcdnphjgaaaPm

set_option linter.all false
set_option linter.deprecated false
set_option linter.unusedSimpArgs false
set_option linter.unusedVariables false

namespace Go.Gx.A
open Go.Gx Go.Proofs
set_option maxRecDepth 100000
set_option linter.all false
set_option maxHeartbeats 1000000
def Oc (S : AS) (v : Value) (l : List Int) : Prop := (l = [] ∧ v = .slice none 0 0) ∨
  ∃ p cap rest ex, v = .slice (some ⟨p, 0, none⟩) l.length cap ∧ l.length + rest.length = cap ∧ rest.all okc = true ∧ S.get p = some (.row (ints l ++ rest) 3 true ex) ∧ p < S.next ∧ cap ≤ 100000
theorem Oc.is {S : AS} {v : Value} {l : List Int} (h : Oc S v l) : Is S v l := by
  rcases h with ⟨rfl, rfl⟩ | ⟨p, cap, rest, ex, rfl, h1, h2, h3, h4, h5⟩
  · exact Is.nil
  · refine ⟨by omega, .inr ⟨p, 0, cap, _, 3, true, ex, rfl, by omega, h3, h4, .inr rfl, by simp, ?_⟩⟩
    rw [List.drop_zero, List.take_append_of_le_length (by simp), ← ints_len l, List.take_length]
theorem Oc.shape {S : AS} {v : Value} {l : List Int} (h : Oc S v l) : ∃ a cap, v = .slice a l.length cap := h.is.shape
theorem Oc.stays {S S' : AS} {v : Value} {l : List Int} (h : Oc S v l) {fp : List Nat} (hs : Same S S' fp) (hd : ∀ m ∈ ownsOf v, m ∉ fp) : Oc S' v l := by
  rcases h with h | ⟨p, cap, rest, ex, rfl, h1, h2, h3, h4, h5⟩
  · exact .inl h
  · exact .inr ⟨p, cap, rest, ex, rfl, h1, h2, by rw [hs.2 p h4 (hd p (by simp [ownsOf]))]; exact h3, Nat.lt_of_lt_of_le h4 hs.1, h5⟩
theorem Oc.stay0 {S S' : AS} {v : Value} {l : List Int} (h : Oc S v l) (hs : Same S S' []) : Oc S' v l := h.stays hs (by simp)
theorem Ow.oc {S : AS} {v : Value} {l : List Int} (h : Ow S v l) (hl : l.length ≤ 100000) : Oc S v l := by
  rcases h.1 with ⟨rfl, hn⟩ | ⟨p, ex, rfl, h2, h3⟩
  · have := congrArg List.length hn
    simp at this
    exact .inl ⟨this, rfl⟩
  · rw [ones_flat] at h2
    exact .inr ⟨p, l.length, [], ex, by simp, by simp, rfl, by simpa using h2, h3, hl⟩
theorem clone_ok {S : AS} {v : Value} {l : List Int} (h : Is S v l) (hl : l.length ≤ 100000) {Q : En → AS → Prop}
    (hq : ∀ S' a cap, Same S S' [] → Oc S' (.slice a l.length cap) l → (∀ m ∈ ownsOf (.slice a l.length cap), S.next ≤ m) → Q (.ret (.slice a l.length cap)) S') : Call G 73 [v] S Q := by
  have hc := h.cs.cells
  rw [ints_len] at hc
  rcases h.c with ⟨rfl, rfl | ⟨b, o, s, rfl⟩⟩ | ⟨p, o, cap, cells, e, wr, ex, rfl, h1, h2, h3, h4, h5, h6⟩
  · refine call_run' (G := G) rfl (ext_none (by decide)) ?_
    simp [isNil]
    exact hq S none 0 (.refl _ _) (.inl ⟨rfl, rfl⟩) (by simp [ownsOf])
  · refine call_run' (G := G) rfl (ext_none (by decide)) ?_
    simp [isNil, placeIn, appV, srcCells]
    refine hq _ (some ⟨S.next, 0, none⟩) 0 ?_ (.inr ⟨S.next, 0, [], true, rfl, rfl, rfl, by simp, by simp, by omega⟩) (by simp [ownsOf])
    repeat' first | exact Same.refl _ _ | apply Same.bu | (refine Same.pn ?_ (by first | omega | (simp; omega)))
  · refine call_run' (G := G) rfl (ext_none (by decide)) ?_
    have s1 : Same S ((S.bump 2).put S.next (.row [] 3 true true)) [] := by
      repeat' first | exact Same.refl _ _ | apply Same.bu | (refine Same.pn ?_ (by first | omega | (simp; omega)))
    have hy := (h.stay0 s1).cs.cells
    rw [ints_len] at hy
    have hsl : SlAt ((S.bump 2).put S.next (.row [] 3 true true)) 3 (.slice (some ⟨S.next, 0, none⟩) 0 0) (ones []) := .inr ⟨S.next, true, rfl, by simp [ones], by simp⟩
    by_cases hl0 : l = []
    · subst hl0
      have e1 : appV ((S.bump 2).put S.next (.row [] 3 true true)) (S.next + 1) 3 1 8 (.slice (some ⟨S.next, 0, none⟩) 0 0) (.slice (some ⟨p, o, none⟩) ([] : List Int).length cap) = some (.slice (some ⟨S.next, 0, none⟩) 0 0, (S.bump 2).put S.next (.row [] 3 true true)) := by
        unfold appV
        rw [hy]
        simp
      simp only [List.length_nil] at e1 ⊢
      simp [isNil, placeIn, e1]
      exact hq _ (some ⟨S.next, 0, none⟩) 0 s1 (.inr ⟨S.next, 0, [], true, rfl, rfl, rfl, by simp, by simp, by omega⟩) (by simp [ownsOf])
    · obtain ⟨T0, a1, a2, a3⟩ := appV_new (fr := S.next + 1) (bytes := 8) (ms := ones l) (y := .slice (some ⟨p, o, none⟩) l.length cap) hsl (ones_uni []) (by omega) (by
          intro e
          have := congrArg List.length e
          simp at this
          exact hl0 this) (ones_uni l) (by rw [hy, ones_len, ones_flat]) (by simp [ones]; omega) (by omega) (by rw [ones_flat]; exact ints_ok l)
      simp only [ones_len, List.length_nil, Nat.zero_add] at a1
      simp [isNil, placeIn, a1]
      refine hq _ (some ⟨S.next + 1, 0, none⟩) l.length ?_ (.inr ⟨S.next + 1, l.length, [], false, rfl, by simp, rfl, ?_, by simp [a2], hl⟩) (by simp [ownsOf])
      · refine ⟨by simp [a2], fun m hm hn => ?_⟩
        rw [AS.get_put_ne _ _ (by omega), a3 m (by simp [ownsOf]; omega)]
        exact s1.2 m hm hn
      · rw [AS.get_put_self]
        simp [ones_flat]
theorem splice_app {A B C D : List Value} (h : B.length = C.length) : splice (A ++ (B ++ D)) A.length C = A ++ (C ++ D) := by
  unfold splice
  rw [List.take_left, List.drop_append, List.drop_eq_nil_of_le (by omega)]
  have : A.length + C.length - A.length = B.length := by omega
  rw [this, List.drop_left]
  simp
theorem del_row {l : List Int} {i : Nat} (hi : i < l.length) (rest : List Value) :
    ∃ z, splice (ints l ++ rest) i (ints (l.drop (i + 1))) = ints (l.eraseIdx i) ++ (z :: rest) := by
  have h1 : l = l.take i ++ (l.drop i) := (List.take_append_drop i l).symm
  have hd : l.drop i = l[i] :: l.drop (i + 1) := List.drop_eq_getElem_cons hi
  have hl : (l.drop i).length = (l.drop (i + 1)).length + 1 := by rw [hd]; rfl
  have h2 : (l.drop i).take (l.drop (i+1)).length ++ (l.drop i).drop (l.drop (i+1)).length = l.drop i := List.take_append_drop _ _
  have h3 : ((l.drop i).drop (l.drop (i+1)).length).length = 1 := by rw [List.length_drop]; omega
  obtain ⟨z, hz⟩ := List.length_eq_one_iff.1 h3
  refine ⟨.int .i64 z, ?_⟩
  have he : ints l ++ rest = ints (l.take i) ++ (ints ((l.drop i).take (l.drop (i+1)).length) ++ (.int .i64 z :: rest)) := by
    have : l = l.take i ++ ((l.drop i).take (l.drop (i+1)).length ++ [z]) := by rw [← hz, h2, ← h1]
    conv => lhs; rw [this]
    simp [ints]
  have hl' : (ints (l.take i)).length = i := by simp; omega
  rw [he, List.eraseIdx_eq_take_drop_succ]
  have := splice_app (A := ints (l.take i)) (B := ints ((l.drop i).take (l.drop (i+1)).length)) (C := ints (l.drop (i + 1))) (D := .int .i64 z :: rest) (by simp; omega)
  rw [hl'] at this
  rw [this]
  simp [ints]
theorem del_app {T : AS} {p cap fr i : Nat} {l : List Int} {rest : List Value} {ex : Bool} (h : T.get p = some (.row (ints l ++ rest) 3 true ex)) (hi : i < l.length) (hc : l.length + rest.length = cap) (hb : l.length ≤ 100000) :
    ∃ U z, appV T fr 3 1 8 (.slice (some ⟨p, 0, none⟩) i cap) (.slice (some ⟨p, i + 1, none⟩) (l.length - (i + 1)) (cap - (i + 1))) = some (.slice (some ⟨p, 0, none⟩) (l.length - 1) cap, U) ∧
      U.get p = some (.row (ints (l.eraseIdx i) ++ (z :: rest)) 3 true ex) ∧ Same T U [p] ∧ U.next = T.next := by
  obtain ⟨z, hz⟩ := del_row hi rest
  by_cases h0 : l.length - (i + 1) = 0
  · have hd : l.drop (i + 1) = [] := List.drop_eq_nil_of_le (by omega)
    refine ⟨T, z, ?_, ?_, .refl _ _, rfl⟩
    · unfold appV srcCells
      rw [h0]
      have : i = l.length - 1 := by omega
      have h5 : l.length - 1 ≤ cap := by omega
      simp [← this, this ▸ h5]
    · rw [h, ← hz, hd]
      simp [splice, ints]
  · have hs : srcCells T 1 (.slice (some ⟨p, i + 1, none⟩) (l.length - (i + 1)) (cap - (i + 1))) = some (l.length - (i + 1), ints (l.drop (i + 1))) := by
      unfold srcCells
      simp only [Nat.mul_one, if_neg h0, h]
      rw [if_pos (by simp; omega)]
      have : (ints l ++ rest).drop (i + 1) = ints (l.drop (i + 1)) ++ rest := by
        rw [List.drop_append_of_le_length (by simp; omega)]
        simp [ints, List.map_drop]
      rw [this, List.take_append_of_le_length (by simp), List.take_of_length_le (by simp)]
    refine ⟨T.put p (.row (splice (ints l ++ rest) i (ints (l.drop (i + 1)))) 3 true ex), z, ?_, ?_, ?_, rfl⟩
    · unfold appV
      rw [hs]
      have h6 : (ints (l.drop (i + 1))).isEmpty = false := by
        cases hq : ints (l.drop (i + 1)) with
        | nil => have := congrArg List.length hq; simp at this; omega
        | cons => rfl
      have h7 : i + (l.length - (i + 1)) = l.length - 1 := by omega
      have h8 : l.length - 1 ≤ cap := by omega
      have h9 : 0 + i * 1 + (ints (l.drop (i + 1))).length ≤ (ints l ++ rest).length := by simp; omega
      have h10 := ints_ok (l.drop (i + 1))
      have h11 : rowStore (ints l ++ rest) (0 + i * 1) (ints (l.drop (i + 1))) = some (splice (ints l ++ rest) i (ints (l.drop (i + 1)))) := by
        unfold rowStore
        rw [if_pos ⟨h9, h10⟩]
        simp
      simp only [h7, h6, h, if_pos h8, h11, Option.map_some]
      rfl
    · rw [AS.get_put_self, hz]
    · exact .po (.refl _ _) (by simp)
theorem delete_ok {S : AS} {v : Value} {l : List Int} (h : Oc S v l) {i : Nat} (hi : i < l.length) {Q : En → AS → Prop}
    (hq : ∀ S' a cap, Same S S' (ownsOf v) → Oc S' (.slice a (l.eraseIdx i).length cap) (l.eraseIdx i) → (∀ m ∈ ownsOf (.slice a (l.eraseIdx i).length cap), m ∈ ownsOf v) → Q (.ret (.slice a (l.eraseIdx i).length cap)) S') : Call G 76 [v, .int .i64 i, .int .i64 ((i : Int) + 1)] S Q := by
  rcases h with ⟨rfl, _⟩ | ⟨p, cap, rest, ex, rfl, h1, h2, h3, h4, h5⟩
  · simp at hi
  refine call_run' (G := G) rfl (ext_none (by decide)) ?_
  have b1 : (i : Int) + 1 ≤ l.length := by omega
  have b2 : i + 1 ≤ l.length := by omega
  have b3 : l.length ≤ cap := by omega
  have b4 : i ≤ i + 1 := by omega
  have b5 : i ≤ cap := by omega
  have b6 : ¬ (i : Int) = (i : Int) + 1 := by omega
  have b7 : i ≤ l.length := by omega
  simp [bndsV, bndV, b1, b2, b3, b4, b5, b6, b7, h3]
  have hb1 : (S.bump 1).get p = some (.row (ints l ++ rest) 3 true ex) := h3
  obtain ⟨U, z, a1, a2, a3, a4⟩ := del_app (fr := S.next) hb1 hi h1 (by omega)
  simp [a1]
  have hE : (l.eraseIdx i).length = l.length - 1 := by rw [List.length_eraseIdx_of_lt hi]
  have c1 : l.length - 1 ≤ l.length := by omega
  have c2 : ((l.length - 1 : Nat) : Int) ≤ (l.length : Int) := by omega
  have c3 : l.length - (l.length - 1) = 1 := by omega
  have c4 : l.length - 1 + 1 ≤ cap := by omega
  have c5 : l.length ≤ 1 + (l.length - 1) := by omega
  have c6 : l.length - 1 ≤ cap := by omega
  have hsp : splice (ints (l.eraseIdx i) ++ (z :: rest)) (l.length - 1) [.int .i64 0] = ints (l.eraseIdx i) ++ (.int .i64 0 :: rest) := by
    have := splice_app (A := ints (l.eraseIdx i)) (B := [z]) (C := [.int .i64 0]) (D := rest) rfl
    have hq : (ints (l.eraseIdx i)).length = l.length - 1 := by simp [hE]
    rw [hq] at this
    simpa using this
  simp [bndsV, bndV, c1, c2, c3, c4, c5, c6, b3, a2, slcRow, I.eval, rowStore, repCells, hE]
  rw [hsp]
  have := hq (U.put p (.row (ints (l.eraseIdx i) ++ (.int .i64 0 :: rest)) 3 true ex)) (some ⟨p, 0, none⟩) cap ?_ (.inr ⟨p, cap, .int .i64 0 :: rest, ex, rfl, by simp [hE]; omega, by simp [h2, okc], by simp, ?_, h5⟩) (by simp [ownsOf])
  · simpa [hE] using this
  · refine .po ?_ (by simp [ownsOf])
    exact ⟨by rw [a4]; simp, fun m hm hn => by rw [a3.2 m (by simp; omega) (by simpa [ownsOf] using hn)]; rfl⟩
  · show p < U.next
    rw [a4]; simp; omega
def ins1 (l : List Int) (i : Nat) (x : Int) : List Int := l.take i ++ x :: l.drop i
theorem insert_ok {S : AS} {v : Value} {l : List Int} (h : Oc S v l) {i vb cy : Nat} {x : Int} {exv : Bool} (hi : i ≤ l.length) (hl : l.length ≤ 1000) (hv : S.get vb = some (.row [.int .i64 x] 3 true exv)) (hvb : vb ∉ ownsOf v) {Q : En → AS → Prop}
    (hq : ∀ S', Same S S' (ownsOf v) → Oc S' (.slice (some ⟨S.next, 0, none⟩) (ins1 l i x).length (ins1 l i x).length) (ins1 l i x) → Q (.ret (.slice (some ⟨S.next, 0, none⟩) (ins1 l i x).length (ins1 l i x).length)) S') :
    Call G 78 [v, .int .i64 i, .slice (some ⟨vb, 0, none⟩) 1 cy] S Q := by
  have hlen : (ins1 l i x).length = l.length + 1 := by simp [ins1]; omega
  have hval : ins1 l i x = l.take i ++ [x] ++ l.drop i := by
    simp [ins1]
  rw [hlen] at hq
  have hG : ∀ args, G.ext 78 args S = insV 3 args S := fun args => by
    show extOr insX (extOf [23]) 78 args S = _
    unfold extOr insX
    simp only [if_pos]
    have : extOf [23] 78 args S = none := extOf_none (.inr (by decide))
    rw [this]
    cases insV 3 args S <;> rfl
  rcases h with ⟨rfl, rfl⟩ | ⟨p, cap, rest, ex, rfl, h1, h2, h3, h4, h5⟩
  · have : i = 0 := by simpa using hi
    subst this
    refine call_ext (v := vs S.next 0 1 1) (S' := (S.bump 1).put S.next (.row [.int .i64 x] 3 true false)) ?_ ?_
    · rw [hG]
      unfold insV
      simp [hv, okc]
    · refine hq _ (.pn (.bu (.refl _ _)) (by omega)) (.inr ⟨S.next, 1, [], false, rfl, rfl, rfl, by rw [AS.get_put_self]; simp [ints, ins1], by simp, by omega⟩)
  · have hne : p ≠ vb := fun e => hvb (by simp [ownsOf, e])
    refine call_ext (v := vs S.next 0 (l.length + 1) (l.length + 1)) (S' := ((S.bump 1).put p .dead).put S.next (.row (ints (ins1 l i x)) 3 true false)) ?_ ?_
    · rw [hG]
      unfold insV
      have e1 : ((ints l ++ rest).drop 0).take l.length = ints l := by rw [List.drop_zero, List.take_append_of_le_length (by simp), List.take_of_length_le (by simp)]
      have e2 : ints (ins1 l i x) = (ints l).take i ++ [.int .i64 x] ++ (ints l).drop i := by rw [hval]; simp [ints, List.map_take, List.map_drop]
      have e3 : (ints l).all okc = true := ints_ok l
      simp only [hv, h3, e1, e2]
      rw [if_pos (by refine ⟨trivial, by omega, by simp, by omega, by omega, by omega, by omega, by omega, by simp [okc]⟩), if_pos ⟨hne, trivial, by simp; omega, e3⟩]
      simp
    · refine hq _ (.pn (.po (.bu (.refl _ _)) (by simp [ownsOf])) (by simp)) (.inr ⟨S.next, l.length + 1, [], false, by rw [hlen], by simp [hlen], rfl, by rw [AS.get_put_self]; simp, by simp, by omega⟩)
end Go.Gx.A

/-
  Lists of moves; sameMoves.
-/
namespace Go.Gx.A
open Go.Gx Go.Proofs
set_option maxRecDepth 100000
set_option linter.all false
set_option maxHeartbeats 1000000
abbrev Mv := Int × Int × Int
def mvC (m : Mv) : List Value := [.int .i64 m.1, .int .i64 m.2.1, .int .i64 m.2.2]
def mvsC (ms : List Mv) : List (List Value) := ms.map mvC
theorem mvs_uni (ms : List Mv) : Uni 3 (mvsC ms) := by
  intro l hl
  obtain ⟨m, _, rfl⟩ := List.mem_map.1 hl
  rfl
@[simp] theorem mvs_len (ms : List Mv) : (mvsC ms).length = ms.length := by simp [mvsC]
theorem mvs_ok (ms : List Mv) : (mvsC ms).flatten.all okc = true := by
  induction ms with
  | nil => rfl
  | cons m ms ih => simp [mvsC, mvC, okc] at ih ⊢
def Ms (S : AS) (v : Value) (ms : List Mv) : Prop := SlAt S 97 v (mvsC ms)
def drop1 (order : List Int) (s : List Int × List Mv) (x : Int) : List Int × List Mv :=
  if x ∈ order then s else (s.1.eraseIdx (ixI s.1 x).toNat, s.2 ++ [(x, ixI s.1 x, -1)])
def dropN (old order : List Int) : Nat → List Int × List Mv
  | 0 => (old, [])
  | i + 1 => drop1 order (dropN old order i) (old.getD i 0)
def cutO (w : List Int) (x : Int) : List Int := if 0 ≤ ixI w x then w.eraseIdx (ixI w x).toNat else w
def toO (order w : List Int) (j : Nat) : Int := if 0 < j then ixI w (order.getD (j - 1) 0) + 1 else 0
def place1 (kept order : List Int) (s : List Int × List Mv) (j : Nat) (x : Int) : List Int × List Mv :=
  if x ∈ kept then s else (ins1 (cutO s.1 x) (toO order (cutO s.1 x) j).toNat x, s.2 ++ [(x, ixI s.1 x, toO order (cutO s.1 x) j)])
def placeN (kept order : List Int) (s : List Int × List Mv) : Nat → List Int × List Mv
  | 0 => s
  | j + 1 => place1 kept order (placeN kept order s j) j (order.getD j 0)
def movesO (kept old order : List Int) : List Mv := (placeN kept order (dropN old order old.length) order.length).2
theorem ixI_lt (l : List Int) (x : Int) : ixI l x < l.length := by
  unfold ixI
  cases h : l.idxOf? x with
  | none => simp; omega
  | some i =>
    have := (List.getElem?_eq_some_iff.1 (idxOf_some h).1).1
    simp; omega
theorem ixI_erase {l : List Int} {x : Int} (h : x ∈ l) : l.eraseIdx (ixI l x).toNat = l.erase x := by
  have h2 := ixI_mem.2 h
  unfold ixI at h2 ⊢
  cases hq : l.idxOf? x with
  | none => rw [hq] at h2; simp at h2
  | some i =>
    have := List.erase_eq_eraseIdx (l := l) (a := x)
    rw [hq] at this
    simpa using this.symm
theorem dropN_mem {old order : List Int} (hn : old.Nodup) : ∀ i, i ≤ old.length → (∀ k, i ≤ k → (hk : k < old.length) → old[k] ∈ (dropN old order i).1) ∧ (dropN old order i).1.length ≤ old.length ∧ (dropN old order i).2.length ≤ i
  | 0, _ => ⟨fun k _ hk => List.getElem_mem hk, Nat.le_refl _, Nat.le_refl _⟩
  | i + 1, hi => by
    obtain ⟨h1, h2, h3⟩ := dropN_mem (order := order) hn i (by omega)
    have hg : old.getD i 0 = old[i] := by rw [List.getD_eq_getElem?_getD, List.getElem?_eq_getElem (by omega)]; rfl
    simp only [dropN, drop1, hg]
    split
    · exact ⟨fun k hk hkl => h1 k (by omega) hkl, h2, by omega⟩
    · have hm := h1 i (Nat.le_refl _) (by omega)
      rw [ixI_erase hm]
      refine ⟨fun k hk hkl => ?_, ?_, by simp; omega⟩
      · refine (List.mem_erase_of_ne fun e => ?_).2 (h1 k (by omega) hkl)
        have := (List.getElem_inj hn).1 e
        omega
      · rw [List.length_erase_of_mem hm]; omega
theorem cutO_len (w : List Int) (x : Int) : (cutO w x).length ≤ w.length := by
  unfold cutO
  split
  · exact List.length_eraseIdx_le _ _
  · exact Nat.le_refl _
theorem toO_ok (order w : List Int) (j : Nat) : 0 ≤ toO order w j ∧ toO order w j ≤ w.length := by
  unfold toO
  have h1 := ixI_lt w (order.getD (j - 1) 0)
  have h2 := ixI_ge w (order.getD (j - 1) 0)
  split <;> omega
theorem placeN_len {kept order : List Int} {s : List Int × List Mv} : ∀ j, (placeN kept order s j).1.length ≤ s.1.length + j ∧ (placeN kept order s j).2.length ≤ s.2.length + j
  | 0 => ⟨Nat.le_refl _, Nat.le_refl _⟩
  | j + 1 => by
    obtain ⟨h1, h2⟩ := placeN_len (kept := kept) (order := order) (s := s) j
    simp only [placeN, place1]
    split
    · omega
    · have := cutO_len (placeN kept order s j).1 (order.getD j 0)
      have h3 := toO_ok order (cutO (placeN kept order s j).1 (order.getD j 0)) j
      refine ⟨?_, by simp; omega⟩
      simp only [ins1, List.length_append, List.length_take, List.length_cons, List.length_drop]
      omega
theorem Ms.app1 {S T : AS} {v : Value} {ms : List Mv} (h : Ms S v ms) (hT : Same S T []) {p fr : Nat} {m : Mv} {wr ex : Bool} (hp : T.get p = some (.row (mvC m) 97 wr ex)) (hfr : fr < T.next) (hfS : S.next ≤ fr) (hb : ms.length ≤ 100000) :
    ∃ T', appV T fr 97 3 24 v (.slice (some ⟨p, 0, none⟩) 1 1) = some (.slice (some ⟨fr, 0, none⟩) (ms.length + 1) (ms.length + 1), T') ∧ Ms T' (.slice (some ⟨fr, 0, none⟩) (ms.length + 1) (ms.length + 1)) (ms ++ [m]) ∧ Same S T' (ownsOf v) ∧ T'.next = T.next := by
  have hsl : SlAt T 97 v (mvsC ms) := h.stays hT (by simp)
  have hy : srcCells T 3 (.slice (some ⟨p, 0, none⟩) 1 1) = some ((mvsC [m]).length, (mvsC [m]).flatten) := by
    unfold srcCells
    simp only [hp]
    simp [mvsC, mvC]
  obtain ⟨T0, a1, a2, a3⟩ := appV_new (fr := fr) (bytes := 24) hsl (mvs_uni ms) (by omega) (by simp [mvsC]) (mvs_uni [m]) hy (by simp; omega) (by omega) (mvs_ok [m])
  simp only [mvs_len, List.length_singleton] at a1
  refine ⟨_, a1, .inr ⟨fr, false, by simp, ?_, by simp only [AS.next_put, a2]; exact hfr⟩, ?_, by simp only [AS.next_put]; exact a2⟩
  · rw [AS.get_put_self]; simp [mvsC]
  · refine ⟨by simp only [AS.next_put, a2]; exact hT.1, fun q hq hn => ?_⟩
    rw [AS.get_put_ne _ _ (by omega), a3 q hn, hT.2 q hq (by simp)]
theorem Ms.nil {S : AS} : Ms S (.slice none 0 0) [] := .inl ⟨rfl, rfl⟩
theorem Ms.stays {S S' : AS} {v : Value} {ms : List Mv} (h : Ms S v ms) {fp : List Nat} (hs : Same S S' fp) (hd : ∀ m ∈ ownsOf v, m ∉ fp) : Ms S' v ms := SlAt.stays h hs hd
end Go.Gx.A
