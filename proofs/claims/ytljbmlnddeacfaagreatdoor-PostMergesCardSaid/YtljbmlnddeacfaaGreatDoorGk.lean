/-
  A sort of pairs by a contract of its own, as one step of the abstract machine.
-/
import Derived.Test.YtljbmlnddeacfaaGreatDoorGf
import Derived.Shelf.GgSortFunc.RowK
import Derived.Sort.Grow
import Derived.Shelf.Strings.Builder1

set_option linter.all false
set_option linter.deprecated false

namespace Go.Gx
open Go.Proofs Go.RowKit Go.Lib Go.Sort

def enc2 (p : Int × Int) : List Value := [.int .i64 p.1, .int .i64 p.2]
def flat2 (l : List (Int × Int)) : List Value := l.flatMap enc2
def unflat2 : List Value → Option (List (Int × Int))
  | [] => some []
  | .int .i64 a :: .int .i64 b :: l => (unflat2 l).map ((a, b) :: ·)
  | _ => none
theorem unflat2_flat : ∀ L : List (Int × Int), unflat2 (flat2 L) = some L
  | [] => rfl
  | p :: L => by
    show unflat2 (.int .i64 p.1 :: .int .i64 p.2 :: flat2 L) = _
    simp only [unflat2, unflat2_flat L, Option.map_some]
theorem unflat2_eq {l : List Value} {L : List (Int × Int)} (h : unflat2 l = some L) : l = flat2 L := by
  induction l using unflat2.induct generalizing L with
  | case1 => simp only [unflat2] at h; cases h; rfl
  | case2 a b l ih =>
    simp only [unflat2] at h
    cases hl : unflat2 l with
    | none => rw [hl] at h; cases h
    | some M =>
      rw [hl] at h
      simp only [Option.map_some, Option.some.injEq] at h
      subst h
      rw [ih hl]; rfl
  | case3 l h1 h2 =>
    rw [unflat2] at h
    · cases h
    · exact h1
    · exact h2
theorem flat2_len (L : List (Int × Int)) : (flat2 L).length = L.length * 2 := by
  induction L with
  | nil => rfl
  | cons p L ih => show ((enc2 p) ++ flat2 L).length = _; rw [List.length_append, ih]; simp [enc2]; omega
theorem flat2_get : ∀ (L : List (Int × Int)) (t : Nat), t < L.length * 2 → (flat2 L)[t]? = some ((enc2 (L[t / 2]!))[t % 2]!)
  | p :: L, t, h => by
    show (.int .i64 p.1 :: .int .i64 p.2 :: flat2 L : List Value)[t]? = _
    match t with
    | 0 => rfl
    | 1 => rfl
    | t + 2 =>
      have e1 : (t + 2) / 2 = t / 2 + 1 := by omega
      have e2 : (t + 2) % 2 = t % 2 := by omega
      rw [e1, e2]
      simp only [List.getElem?_cons_succ]
      rw [flat2_get L t (by simp only [List.length_cons] at h; omega)]
      simp
def le2 (x y : Int × Int) : Bool := decide (x.1 < y.1 ∨ x.1 = y.1 ∧ x.2 ≤ y.2)
/-- what is asked of the function that sorts -/
structure SortC (P : Program) (k g : Nat) : Prop where
  fn : ∃ fn, P.funcs[k]? = some fn ∧ fn.body.isSome = true ∧ (fn.name == "runtime.NumGoroutine") = false
  none : ∀ (p : Option Addr) (cap : Nat) (fv : Value) (w : World), Calls P k #[.slice p 0 cap, fv] w fun e w' => e = .returned (.tuple #[]) ∧ w' = w
  all : ∀ (blk off cap : Nat) (d : Array (Int × Int)) (cb : Array Value) (w : World), HoldsK enc2 2 w blk off d → blk < w.heap.size → d.size < 4611686018427387904 → cb = #[] →
    Calls P k #[.slice (some ⟨blk, off, Option.none⟩) d.size cap, .func (.func g) #[] cb] w fun e w' => e = .returned (.tuple #[]) ∧ ∃ n os, w' = grow (putRowK enc2 2 (Sort.ahead w n) blk off (d.toList.mergeSort le2).toArray) os

def sortV (g : Nat) (e : TypeId) (args : List Value) (S : AS) : Option (Value × AS) :=
  match args with
  | [.slice base n _, .func (.func g') a b] =>
    if g' = g ∧ a = #[] ∧ b = #[] ∧ n < 4611686018427387904 then
      match base with
      | none => if n = 0 then some (.tuple #[], S) else none
      | some ⟨bl, o, none⟩ =>
        if n = 0 then some (.tuple #[], S) else
        match S.get bl with
        | some (.row cs e' true ex) =>
          if e' = e ∧ o + n * 2 ≤ cs.length then
            match unflat2 ((cs.drop o).take (n * 2)) with
            | some L => some (.tuple #[], S.put bl (.row (splice cs o (flat2 (L.mergeSort le2))) e true ex))
            | none => none
          else none
        | _ => none
      | _ => none
    else none
  | _ => none

section
variable {P : Program} {prot : Nat → Option Obj} {w0 : World} {r : Rho} {S : AS} {w : World}

theorem mapBlock_upd {b : Nat} {c : Array Value} {e : TypeId} {fz : Nat × Nat} {f : Array Value → Array Value} (h : w.heap[b]? = some (.cells c e fz)) : mapBlock w b f = w.upd b (.cells (f c) e fz) := by
  unfold mapBlock World.upd
  congr 1
  apply Array.ext_getElem?
  intro k
  rw [Array.getElem?_modify, Array.getElem?_setIfInBounds]
  by_cases hk : b = k
  · subst hk
    have := lt_of_get h
    simp only [if_true, h, Option.map_some, onCells, this]
  · simp [hk]
theorem Rel.growW (h : Rel P prot w0 r S w) (os : Array Obj) : Rel P prot w0 r S (Go.Sort.grow w os) :=
  h.below ⟨rfl, rfl, rfl, by simp [Go.Sort.grow], fun k hk => by
    show (w.heap ++ os)[k]? = _
    rw [Array.getElem?_append_left hk]⟩
theorem Rel.aheadW (h : Rel P prot w0 r S w) (n : Nat) : Rel P prot w0 r S (Sort.ahead w n) := h.drawn _

theorem LR.ints {l l' : List Value} {L : List (Int × Int)} (h : LR P r l l') (hl : l = flat2 L) : l' = flat2 L := by
  subst hl
  apply List.ext_getElem?
  intro t
  by_cases ht : t < L.length * 2
  · have h1 := flat2_get L t ht
    obtain ⟨v', h2, h3⟩ := h.get? h1
    rw [h1, h2]
    congr 1
    rcases Nat.mod_two_eq_zero_or_one t with hm | hm
    · rw [hm] at h3 ⊢
      exact h3.int_inv
    · rw [hm] at h3 ⊢
      exact h3.int_inv
  · have e : l'.length = L.length * 2 := by rw [← h.1, flat2_len]
    rw [List.getElem?_eq_none (by omega), List.getElem?_eq_none (by rw [flat2_len]; omega)]

theorem sp_get {c vs : List Value} {o : Nat} (h : o + vs.length ≤ c.length) (k : Nat) : (splice c o vs)[k]? = if k < o then c[k]? else if k < o + vs.length then vs[k - o]? else c[k]? := by
  unfold splice
  have ht : (c.take o).length = o := by simp; omega
  split
  · rename_i h1
    rw [List.getElem?_append_left (by simp; omega), List.getElem?_append_left (by omega), List.getElem?_take_of_lt h1]
  · rename_i h1
    split
    · rename_i h2
      rw [List.getElem?_append_left (by simp; omega), List.getElem?_append_right (by omega), ht]
    · rename_i h2
      rw [List.getElem?_append_right (by simp; omega), List.getElem?_drop]
      simp only [List.length_append, ht]
      congr 1; omega
theorem upd_ahead (w : World) (n b : Nat) (o : Obj) : (Sort.ahead w n).upd b o = Sort.ahead (w.upd b o) n := rfl
theorem enc2_get (p : Int × Int) (t : Nat) (h : t < 2) : ∃ k n, (enc2 p)[t]! = .int k n := by
  match t, h with
  | 0, _ => exact ⟨_, _, rfl⟩
  | 1, _ => exact ⟨_, _, rfl⟩

theorem sortV_ok {LW : World → Prop} {k g : Nat} (e : TypeId) (hC : SortC P k g) : ExtOK P LW (fun k' args S => if k' = k then sortV g e args S else none) := by
  intro k' args S x h
  simp only at h
  split at h
  case isFalse => cases h
  rename_i hk
  subst hk
  refine ⟨hC.fn, ?_⟩
  intro prot w0 r w args' _ hR hl
  unfold sortV at h
  split at h
  case h_2 => cases h
  rename_i base n cap g' fa fb
  split at h
  case isFalse => cases h
  rename_i hcond
  obtain ⟨rfl, rfl, rfl, hsz⟩ := hcond
  obtain ⟨a', l1, rfl, ha, hl1⟩ := hl.cons_inv
  obtain ⟨b', l2, rfl, hb, hl2⟩ := hl1.cons_inv
  have := hl2.nil_inv; subst this
  obtain ⟨fa', fb', rfl, hfa, hfb⟩ := hb.func_inv
  have hfa0 : fa' = #[] := by have := hfa.1; apply Array.eq_empty_of_size_eq_zero; simpa using this.symm
  have hfb0 : fb' = #[] := by have := hfb.1; apply Array.eq_empty_of_size_eq_zero; simpa using this.symm
  subst hfa0
  subst hfb0
  have hvt : ∀ r' : Rho, VR P r' (.tuple #[]) (.tuple #[]) := fun r' => .tuple _ _ rfl fun i v v' h => by simp at h
  have hext : Ext r r S.next := ⟨fun _ _ h => h, fun m _ h => h⟩
  split at h
  · -- nil
    split at h
    case isFalse => cases h
    rename_i hn0
    cases h
    subst hn0
    obtain ⟨rfl, _, _⟩ := ha.sliceNil_inv
    refine (hC.none none 0 _ w).mono ?_
    rintro e w' ⟨rfl, rfl⟩
    exact ⟨r, _, rfl, hvt r, hext, Nat.le_refl _, hR⟩
  · rename_i bl o
    split at h
    · rename_i hn0
      cases h
      subst hn0
      obtain ⟨M, cap', x', hM, rfl, _⟩ := ha.slice_inv
      refine (hC.none (some ⟨M.b, x', none⟩) cap' _ w).mono ?_
      rintro e w' ⟨rfl, rfl⟩
      exact ⟨r, _, rfl, hvt r, hext, Nat.le_refl _, hR⟩
    rename_i hn0
    split at h
    case h_2 => cases h
    rename_i cs e' ex hgb
    split at h
    case isFalse => cases h
    rename_i hc2
    obtain ⟨rfl, hle⟩ := hc2
    split at h
    case h_2 => cases h
    rename_i L hL
    cases h
    obtain ⟨M, cap', x', hM, rfl, hcap, hncap, hx'⟩ := ha.slice_inv
    obtain ⟨cc, fz, hblk, r1, r2, r3, r4, r5, r6, hw⟩ := hR.row hgb hM
    have hxx : x' = M.base + o := by
      rcases hx' with h | h
      · exact h
      · omega
    subst hxx
    have hsl := window (o := o) (k := n * 2) hw r2 hle
    have hfl := unflat2_eq hL
    have hLn : L.length = n := by have := congrArg List.length hfl; rw [flat2_len, List.length_take, List.length_drop] at this; omega
    have hcc := hsl.ints hfl
    have hH : HoldsK enc2 2 w M.b (M.base + o) L.toArray := by
      intro j hj
      have hj' : j < L.length * 2 := by simpa using hj
      have hg := flat2_get L j hj'
      rw [← hcc, List.getElem?_take_of_lt (by omega), List.getElem?_drop] at hg
      refine ⟨?_, ?_⟩
      · rw [cell_of hblk]
        have h2 : (flatK enc2 2 L.toArray)[j]! = (enc2 (L[j / 2]!))[j % 2]! := by rw [get_flatK _ _ _ _ (by simpa using hj')]; simp
        rw [h2]
        simpa using hg
      · rw [frozen_of hblk]
        rcases (r6 rfl).ok with h | h
        · rw [h]
          by_cases h3 : fz.2 ≤ M.base + o + j
          · simp [Nat.not_lt.2 h3]
          · simp [h3]
        · have hjc : M.base + o + j < cc.size := by have := (List.getElem?_eq_some_iff.1 hg).1; simpa using this
          have : ¬ (fz.1 ≤ M.base + o + j) := by omega
          simp [this]
    have hcall := hC.all M.b (M.base + o) cap' L.toArray #[] w hH (lt_of_get hblk) (by simpa [hLn] using hsz) rfl
    simp only [List.size_toArray, hLn] at hcall
    refine hcall.mono ?_
    rintro e w' ⟨rfl, m, os, rfl⟩
    refine ⟨r, _, rfl, hvt r, hext, by simp, ?_⟩
    refine Rel.growW ?_ os
    unfold putRowK putRow
    rw [mapBlock_upd (w := Sort.ahead w m) hblk, upd_ahead]
    refine Rel.aheadW ?_ m
    refine hR.upd hgb rfl hM ?_ rfl
    simp only [ObjR]
    have hLl : (L.mergeSort le2).length = n := by rw [List.length_mergeSort]; exact hLn
    refine ⟨trivial, r1, ?_, r3, ?_, r5, fun _ => ?_, fun h1 h2 => ?_, fun i v hv => ?_⟩
    · rw [splice_len _ _ _ (by rw [flat2_len, hLl]; exact hle)]; exact r2
    · simpa [putCells] using r4
    · simpa [putCells] using r6 rfl
    · simpa [putCells] using hR.whole' hgb hM hblk h1 rfl
    · have hfl2 : (flat2 (L.mergeSort le2)).length = n * 2 := by rw [flat2_len, hLl]
      have hsp : (splice cs o (flat2 (L.mergeSort le2)))[i]? = if i < o then cs[i]? else if i < o + n * 2 then (flat2 (L.mergeSort le2))[i - o]? else cs[i]? := by
        have := sp_get (c := cs) (vs := flat2 (L.mergeSort le2)) (o := o) (by omega) i
        rw [hfl2] at this
        exact this
      rw [hsp] at hv
      have hold : ∀ u, cs[i]? = some u → ∃ v', cc[M.base + i]? = some v' ∧ VR P r u v' := fun u hu => by
        obtain ⟨v', k1, k2⟩ := hw.get? hu
        have hi : i < cs.length := (List.getElem?_eq_some_iff.1 hu).1
        rw [List.getElem?_take_of_lt (by omega), List.getElem?_drop] at k1
        exact ⟨v', by simpa using k1, k2⟩
      unfold putCells
      rw [Array.getElem?_mapIdx]
      simp only [size_flatK, List.size_toArray, hLl]
      by_cases c1 : i < o
      · rw [if_pos c1] at hv
        obtain ⟨v', k1, k2⟩ := hold v hv
        exact ⟨v', by rw [k1, Option.map_some, if_neg (by omega)], k2⟩
      · rw [if_neg c1] at hv
        by_cases c2 : i < o + n * 2
        · rw [if_pos c2, flat2_get _ _ (by omega)] at hv
          have hlt : M.base + i < cc.size := by omega
          refine ⟨v, ?_, ?_⟩
          · rw [Array.getElem?_eq_getElem hlt, Option.map_some, if_pos (by omega)]
            rw [show M.base + i - (M.base + o) = i - o from by omega, get_flatK _ _ _ _ (by simp [hLl]; omega)]
            simpa using hv
          · obtain ⟨kk, nn, hkn⟩ := enc2_get ((L.mergeSort le2)[(i - o) / 2]!) ((i - o) % 2) (by omega)
            rw [hkn] at hv
            cases hv
            exact .int _ _
        · rw [if_neg c2] at hv
          obtain ⟨v', k1, k2⟩ := hold v hv
          exact ⟨v', by rw [k1, Option.map_some, if_neg (by omega)], k2⟩
  · cases h
end
end Go.Gx

/-
  A sort of triples by their first number, and a new row by a contract of its own, as steps of the abstract machine: what they give.
-/
namespace Go.Gx
open Go.Proofs Go.RowKit Go.Lib Go.Sort

abbrev Tri := Int × Int × Int
def enc3 (p : Tri) : List Value := [.int .i64 p.1, .int .i64 p.2.1, .int .i64 p.2.2]
def flat3 (l : List Tri) : List Value := l.flatMap enc3
def unflat3 : List Value → Option (List Tri)
  | [] => some []
  | .int .i64 a :: .int .i64 b :: .int .i64 c :: l => (unflat3 l).map ((a, b, c) :: ·)
  | _ => none
theorem unflat3_flat : ∀ L : List Tri, unflat3 (flat3 L) = some L
  | [] => rfl
  | p :: L => by
    show unflat3 (.int .i64 p.1 :: .int .i64 p.2.1 :: .int .i64 p.2.2 :: flat3 L) = _
    simp only [unflat3, unflat3_flat L, Option.map_some]
theorem unflat3_eq {l : List Value} {L : List Tri} (h : unflat3 l = some L) : l = flat3 L := by
  induction l using unflat3.induct generalizing L with
  | case1 => simp only [unflat3] at h; cases h; rfl
  | case2 a b c l ih =>
    simp only [unflat3] at h
    cases hl : unflat3 l with
    | none => rw [hl] at h; cases h
    | some M =>
      rw [hl] at h
      simp only [Option.map_some, Option.some.injEq] at h
      subst h
      rw [ih hl]; rfl
  | case3 l h1 h2 =>
    rw [unflat3] at h
    · cases h
    · exact h1
    · exact h2
theorem flat3_len (L : List Tri) : (flat3 L).length = L.length * 3 := by
  induction L with
  | nil => rfl
  | cons p L ih => show ((enc3 p) ++ flat3 L).length = _; rw [List.length_append, ih]; simp [enc3]; omega
def le1 (x y : Int) : Bool := decide (x ≤ y)
def le3 (x y : Tri) : Bool := decide (x.1 ≤ y.1)
def tsortV (g : Nat) (e : TypeId) (args : List Value) (S : AS) : Option (Value × AS) :=
  match args with
  | [.slice base n _, .func (.func g') a b] =>
    if g' = g ∧ a = #[] ∧ b = #[] ∧ n < 4611686018427387904 then
      match base with
      | none => if n = 0 then some (.tuple #[], S) else none
      | some ⟨bl, o, none⟩ =>
        if n = 0 then some (.tuple #[], S) else
        match S.get bl with
        | some (.row cs e' true ex) =>
          if e' = e ∧ o + n * 3 ≤ cs.length then
            match unflat3 ((cs.drop o).take (n * 3)) with
            | some L => if (L.map (·.1)).Nodup then some (.tuple #[], S.put bl (.row (splice cs o (flat3 (L.mergeSort le3))) e true ex)) else none
            | none => none
          else none
        | _ => none
      | _ => none
    else none
  | _ => none
abbrev Qd := (Int × Int) × (Int × Int)
def enc4 (p : Qd) : List Value := [.int .i64 p.1.1, .int .i64 p.1.2, .int .i64 p.2.1, .int .i64 p.2.2]
def flat4 (l : List Qd) : List Value := l.flatMap enc4
def unflat4 : List Value → Option (List Qd)
  | [] => some []
  | .int .i64 a :: .int .i64 b :: .int .i64 c :: .int .i64 d :: l => (unflat4 l).map (((a, b), (c, d)) :: ·)
  | _ => none
theorem unflat4_flat : ∀ L : List Qd, unflat4 (flat4 L) = some L
  | [] => rfl
  | p :: L => by
    show unflat4 (.int .i64 p.1.1 :: .int .i64 p.1.2 :: .int .i64 p.2.1 :: .int .i64 p.2.2 :: flat4 L) = _
    simp only [unflat4, unflat4_flat L, Option.map_some]
theorem unflat4_eq {l : List Value} {L : List Qd} (h : unflat4 l = some L) : l = flat4 L := by
  induction l using unflat4.induct generalizing L with
  | case1 => simp only [unflat4] at h; cases h; rfl
  | case2 a b c d l ih =>
    simp only [unflat4] at h
    cases hl : unflat4 l with
    | none => rw [hl] at h; cases h
    | some M =>
      rw [hl] at h
      simp only [Option.map_some, Option.some.injEq] at h
      subst h
      rw [ih hl]; rfl
  | case3 l h1 h2 =>
    rw [unflat4] at h
    · cases h
    · exact h1
    · exact h2
theorem flat4_len (L : List Qd) : (flat4 L).length = L.length * 4 := by
  induction L with
  | nil => rfl
  | cons p L ih => show ((enc4 p) ++ flat4 L).length = _; rw [List.length_append, ih]; simp [enc4]; omega
def le4 (x y : Qd) : Bool := le2 x.1 y.1
def asortV (g : Nat) (e : TypeId) (args : List Value) (S : AS) : Option (Value × AS) :=
  match args with
  | [.slice base n _, .func (.func g') a b] =>
    if g' = g ∧ a = #[] ∧ b = #[] ∧ n < 4611686018427387904 then
      match base with
      | none => if n = 0 then some (.tuple #[], S) else none
      | some ⟨bl, o, none⟩ =>
        if n = 0 then some (.tuple #[], S) else
        match S.get bl with
        | some (.row cs e' true ex) =>
          if e' = e ∧ o + n * 4 ≤ cs.length then
            match unflat4 ((cs.drop o).take (n * 4)) with
            | some L => if (L.map (·.1)).Nodup then some (.tuple #[], S.put bl (.row (splice cs o (flat4 (L.mergeSort le4))) e true ex)) else none
            | none => none
          else none
        | _ => none
      | _ => none
    else none
  | _ => none
/-- a new row of zeros, with room -/
def growV (e : TypeId) (args : List Value) (S : AS) : Option (Value × AS) :=
  match args with
  | [.slice none 0 0, .int .i64 n] =>
    if n = 0 then some (.slice none 0 0, S)
    else if 0 < n ∧ n ≤ 100000 then some (.slice (some ⟨S.next, 0, none⟩) 0 n.toNat, (S.bump 1).put S.next (.row (List.replicate n.toNat (.int .i64 0)) e true false))
    else none
  | _ => none
end Go.Gx

/-
  The sort of fours by their first two numbers, by a contract of its own.
-/
namespace Go.Gx
open Go.Proofs Go.RowKit Go.Lib Go.Sort

def encQ (f h : Int × Int → Int) (x : Int × Int) : List Value := enc4 (x, f x, h x)
/-- what is asked of the function that sorts -/
structure ASortC (P : Program) (k g : Nat) : Prop where
  fn : ∃ fn, P.funcs[k]? = some fn ∧ fn.body.isSome = true ∧ (fn.name == "runtime.NumGoroutine") = false
  none : ∀ (p : Option Addr) (cap : Nat) (fv : Value) (w : World), Calls P k #[.slice p 0 cap, fv] w fun e w' => e = .returned (.tuple #[]) ∧ w' = w
  all : ∀ (f h : Int × Int → Int) (blk off cap : Nat) (d : Array (Int × Int)) (w : World), HoldsK (encQ f h) 4 w blk off d → blk < w.heap.size → d.size < 4611686018427387904 →
    Calls P k #[.slice (some ⟨blk, off, Option.none⟩) d.size cap, .func (.func g) #[] #[]] w fun e w' => e = .returned (.tuple #[]) ∧ ∃ n os, w' = grow (putRowK (encQ f h) 4 (Sort.ahead w n) blk off (d.toList.mergeSort le2).toArray) os

theorem flat4_get : ∀ (L : List Qd) (t : Nat), t < L.length * 4 → (flat4 L)[t]? = some ((enc4 (L[t / 4]!))[t % 4]!)
  | p :: L, t, h => by
    show (.int .i64 p.1.1 :: .int .i64 p.1.2 :: .int .i64 p.2.1 :: .int .i64 p.2.2 :: flat4 L : List Value)[t]? = _
    match t with
    | 0 => rfl
    | 1 => rfl
    | 2 => rfl
    | 3 => rfl
    | t + 4 =>
      have e1 : (t + 4) / 4 = t / 4 + 1 := by omega
      have e2 : (t + 4) % 4 = t % 4 := by omega
      rw [e1, e2]
      simp only [List.getElem?_cons_succ]
      rw [flat4_get L t (by simp only [List.length_cons] at h; omega)]
      simp
theorem enc4_get (p : Qd) (t : Nat) (h : t < 4) : ∃ k n, (enc4 p)[t]! = .int k n := by
  match t, h with
  | 0, _ => exact ⟨_, _, rfl⟩
  | 1, _ => exact ⟨_, _, rfl⟩
  | 2, _ => exact ⟨_, _, rfl⟩
  | 3, _ => exact ⟨_, _, rfl⟩
def qdF (f h : Int × Int → Int) (x : Int × Int) : Qd := (x, f x, h x)
theorem qd_find : ∀ {L : List Qd}, (L.map (·.1)).Nodup → ∀ e ∈ L, L.find? (fun e' => decide (e'.1 = e.1)) = some e
  | [], _, e, he => by simp at he
  | a :: L, hn, e, he => by
    rw [List.map_cons, List.nodup_cons] at hn
    rw [List.find?_cons]
    rcases List.mem_cons.1 he with rfl | h
    · simp
    · have : ¬ a.1 = e.1 := fun q => hn.1 (q ▸ List.mem_map.2 ⟨e, h, rfl⟩)
      simp only [this, decide_false]
      exact qd_find hn.2 e h
theorem qd_fun {L : List Qd} (hn : (L.map (·.1)).Nodup) : ∃ f h : Int × Int → Int, (L.map (·.1)).map (qdF f h) = L := by
  refine ⟨fun x => ((L.find? fun e => decide (e.1 = x)).map (·.2.1)).getD 0, fun x => ((L.find? fun e => decide (e.1 = x)).map (·.2.2)).getD 0, ?_⟩
  rw [List.map_map]
  conv => rhs; rw [← List.map_id L]
  refine List.map_congr_left fun e he => ?_
  simp only [Function.comp, qdF, qd_find hn e he, Option.map_some, Option.getD_some, id]
theorem qd_get {f h : Int × Int → Int} {L : List Qd} (hF : (L.map (·.1)).map (qdF f h) = L) {j : Nat} (hj : j / 4 < L.length) : (encQ f h ((L.map (·.1)).toArray[j / 4]!))[j % 4]! = (enc4 (L[j / 4]!))[j % 4]! := by
  have h1 : L[j / 4]! = qdF f h ((L.map (·.1)).toArray[j / 4]!) := by
    conv => lhs; rw [← hF]
    simp [hj]
  rw [h1]; rfl
theorem qd_sorted {f h : Int × Int → Int} {L : List Qd} (hF : (L.map (·.1)).map (qdF f h) = L) {j : Nat} (hj : j / 4 < L.length) : (encQ f h (((L.map (·.1)).mergeSort le2).toArray[j / 4]!))[j % 4]! = (enc4 ((L.mergeSort le4)[j / 4]!))[j % 4]! := by
  have hm : ((L.map (·.1)).mergeSort le2).map (qdF f h) = L.mergeSort le4 := by
    exact (List.map_mergeSort (r := le2) (s := le4) (fun a _ b _ => rfl)).trans (by rw [hF])
  have h1 : (L.mergeSort le4)[j / 4]! = qdF f h (((L.map (·.1)).mergeSort le2).toArray[j / 4]!) := by
    rw [← hm]
    have h2 : j / 4 < ((L.map (·.1)).mergeSort le2).length := by simpa using hj
    simp [h2, hj]
  rw [h1]; rfl
section
variable {P : Program} {prot : Nat → Option Obj} {w0 : World} {r : Rho} {S : AS} {w : World}
theorem LR.ints4 {l l' : List Value} {L : List Qd} (h : LR P r l l') (hl : l = flat4 L) : l' = flat4 L := by
  subst hl
  apply List.ext_getElem?
  intro t
  by_cases ht : t < L.length * 4
  · have h1 := flat4_get L t ht
    obtain ⟨v', h2, h3⟩ := h.get? h1
    rw [h1, h2]
    congr 1
    have h4 : t % 4 = 0 ∨ t % 4 = 1 ∨ t % 4 = 2 ∨ t % 4 = 3 := by omega
    rcases h4 with hm | hm | hm | hm
    · rw [hm] at h3 ⊢
      exact h3.int_inv
    · rw [hm] at h3 ⊢
      exact h3.int_inv
    · rw [hm] at h3 ⊢
      exact h3.int_inv
    · rw [hm] at h3 ⊢
      exact h3.int_inv
  · have e : l'.length = L.length * 4 := by rw [← h.1, flat4_len]
    rw [List.getElem?_eq_none (by omega), List.getElem?_eq_none (by rw [flat4_len]; omega)]
theorem asortV_ok {LW : World → Prop} {k g : Nat} (e : TypeId) (hC : ASortC P k g) : ExtOK P LW (fun k' args S => if k' = k then asortV g e args S else none) := by
  intro k' args S x h
  simp only at h
  split at h
  case isFalse => cases h
  rename_i hk
  subst hk
  refine ⟨hC.fn, ?_⟩
  intro prot w0 r w args' _ hR hl
  unfold asortV at h
  split at h
  case h_2 => cases h
  rename_i base n cap g' fa fb
  split at h
  case isFalse => cases h
  rename_i hcond
  obtain ⟨rfl, rfl, rfl, hsz⟩ := hcond
  obtain ⟨a', l1, rfl, ha, hl1⟩ := hl.cons_inv
  obtain ⟨b', l2, rfl, hb, hl2⟩ := hl1.cons_inv
  have := hl2.nil_inv; subst this
  obtain ⟨fa', fb', rfl, hfa, hfb⟩ := hb.func_inv
  have hfa0 : fa' = #[] := by have := hfa.1; apply Array.eq_empty_of_size_eq_zero; simpa using this.symm
  have hfb0 : fb' = #[] := by have := hfb.1; apply Array.eq_empty_of_size_eq_zero; simpa using this.symm
  subst hfa0
  subst hfb0
  have hvt : ∀ r' : Rho, VR P r' (.tuple #[]) (.tuple #[]) := fun r' => .tuple _ _ rfl fun i v v' h => by simp at h
  have hext : Ext r r S.next := ⟨fun _ _ h => h, fun m _ h => h⟩
  split at h
  · -- nil
    split at h
    case isFalse => cases h
    rename_i hn0
    cases h
    subst hn0
    obtain ⟨rfl, _, _⟩ := ha.sliceNil_inv
    refine (hC.none none 0 _ w).mono ?_
    rintro e w' ⟨rfl, rfl⟩
    exact ⟨r, _, rfl, hvt r, hext, Nat.le_refl _, hR⟩
  · rename_i bl o
    split at h
    · rename_i hn0
      cases h
      subst hn0
      obtain ⟨M, cap', x', hM, rfl, _⟩ := ha.slice_inv
      refine (hC.none (some ⟨M.b, x', none⟩) cap' _ w).mono ?_
      rintro e w' ⟨rfl, rfl⟩
      exact ⟨r, _, rfl, hvt r, hext, Nat.le_refl _, hR⟩
    rename_i hn0
    split at h
    case h_2 => cases h
    rename_i cs e' ex hgb
    split at h
    case isFalse => cases h
    rename_i hc2
    obtain ⟨rfl, hle⟩ := hc2
    split at h
    case h_2 => cases h
    rename_i L hL
    split at h
    case isFalse => cases h
    rename_i hnd
    cases h
    obtain ⟨f1, f2, hF⟩ := qd_fun hnd
    obtain ⟨M, cap', x', hM, rfl, hcap, hncap, hx'⟩ := ha.slice_inv
    obtain ⟨cc, fz, hblk, r1, r2, r3, r4, r5, r6, hw⟩ := hR.row hgb hM
    have hxx : x' = M.base + o := by
      rcases hx' with h | h
      · exact h
      · omega
    subst hxx
    have hsl := window (o := o) (k := n * 4) hw r2 hle
    have hfl := unflat4_eq hL
    have hLn : L.length = n := by have := congrArg List.length hfl; rw [flat4_len, List.length_take, List.length_drop] at this; omega
    have hcc := hsl.ints4 hfl
    have hH : HoldsK (encQ f1 f2) 4 w M.b (M.base + o) (L.map (·.1)).toArray := by
      intro j hj
      have hj' : j < L.length * 4 := by simpa using hj
      have hg := flat4_get L j hj'
      rw [← hcc, List.getElem?_take_of_lt (by omega), List.getElem?_drop] at hg
      refine ⟨?_, ?_⟩
      · rw [cell_of hblk]
        have h2 : (flatK (encQ f1 f2) 4 (L.map (·.1)).toArray)[j]! = (enc4 (L[j / 4]!))[j % 4]! := by rw [get_flatK _ _ _ _ (by simpa using hj'), qd_get hF (by omega)]
        rw [h2]
        simpa using hg
      · rw [frozen_of hblk]
        rcases (r6 rfl).ok with h | h
        · rw [h]
          by_cases h3 : fz.2 ≤ M.base + o + j
          · simp [Nat.not_lt.2 h3]
          · simp [h3]
        · have hjc : M.base + o + j < cc.size := by have := (List.getElem?_eq_some_iff.1 hg).1; simpa using this
          have : ¬ (fz.1 ≤ M.base + o + j) := by omega
          simp [this]
    have hcall := hC.all f1 f2 M.b (M.base + o) cap' (L.map (·.1)).toArray w hH (lt_of_get hblk) (by simpa [hLn] using hsz)
    simp only [List.size_toArray, List.length_map, hLn] at hcall
    refine hcall.mono ?_
    rintro e w' ⟨rfl, m, os, rfl⟩
    refine ⟨r, _, rfl, hvt r, hext, by simp, ?_⟩
    refine Rel.growW ?_ os
    unfold putRowK putRow
    rw [mapBlock_upd (w := Sort.ahead w m) hblk, upd_ahead]
    refine Rel.aheadW ?_ m
    refine hR.upd hgb rfl hM ?_ rfl
    simp only [ObjR]
    have hLl : (L.mergeSort le4).length = n := by rw [List.length_mergeSort]; exact hLn
    refine ⟨trivial, r1, ?_, r3, ?_, r5, fun _ => ?_, fun h1 h2 => ?_, fun i v hv => ?_⟩
    · rw [splice_len _ _ _ (by rw [flat4_len, hLl]; exact hle)]; exact r2
    · simpa [putCells] using r4
    · simpa [putCells] using r6 rfl
    · simpa [putCells] using hR.whole' hgb hM hblk h1 rfl
    · have hfl2 : (flat4 (L.mergeSort le4)).length = n * 4 := by rw [flat4_len, hLl]
      have hsp : (splice cs o (flat4 (L.mergeSort le4)))[i]? = if i < o then cs[i]? else if i < o + n * 4 then (flat4 (L.mergeSort le4))[i - o]? else cs[i]? := by
        have := sp_get (c := cs) (vs := flat4 (L.mergeSort le4)) (o := o) (by omega) i
        rw [hfl2] at this
        exact this
      rw [hsp] at hv
      have hold : ∀ u, cs[i]? = some u → ∃ v', cc[M.base + i]? = some v' ∧ VR P r u v' := fun u hu => by
        obtain ⟨v', k1, k2⟩ := hw.get? hu
        have hi : i < cs.length := (List.getElem?_eq_some_iff.1 hu).1
        rw [List.getElem?_take_of_lt (by omega), List.getElem?_drop] at k1
        exact ⟨v', by simpa using k1, k2⟩
      unfold putCells
      rw [Array.getElem?_mapIdx]
      simp only [size_flatK, List.size_toArray, List.length_mergeSort, List.length_map, hLn]
      by_cases c1 : i < o
      · rw [if_pos c1] at hv
        obtain ⟨v', k1, k2⟩ := hold v hv
        exact ⟨v', by rw [k1, Option.map_some, if_neg (by omega)], k2⟩
      · rw [if_neg c1] at hv
        by_cases c2 : i < o + n * 4
        · rw [if_pos c2, flat4_get _ _ (by omega)] at hv
          have hlt : M.base + i < cc.size := by omega
          refine ⟨v, ?_, ?_⟩
          · rw [Array.getElem?_eq_getElem hlt, Option.map_some, if_pos (by omega)]
            rw [show M.base + i - (M.base + o) = i - o from by omega, get_flatK _ _ _ _ (by simp [hLn]; omega), qd_sorted hF (by omega)]
            simpa using hv
          · obtain ⟨kk, nn, hkn⟩ := enc4_get ((L.mergeSort le4)[(i - o) / 4]!) ((i - o) % 4) (by omega)
            rw [hkn] at hv
            cases hv
            exact .int _ _
        · rw [if_neg c2] at hv
          obtain ⟨v', k1, k2⟩ := hold v hv
          exact ⟨v', by rw [k1, Option.map_some, if_neg (by omega)], k2⟩
  · cases h
end
end Go.Gx

/-
  Calls whose contracts the kit has, as one step of the abstract machine: of scalars; with an error that is new.
-/
namespace Go.Gx

def scal : Value → Bool
  | .int _ _ | .bool _ | .string _ => true
  | _ => false
section
variable {P : Program} {prot : Nat → Option Obj} {w0 : World} {r : Rho} {S : AS} {w : World}

theorem VR.scal_inv {v v' : Value} (h : VR P r v v') (hs : scal v = true) : v' = v := by
  cases v with
  | int k n => exact h.int_inv
  | bool b => exact h.bool_inv
  | string s => exact h.str_inv
  | _ => cases hs
theorem LR.scal_inv : ∀ {l l' : List Value}, LR P r l l' → l.all scal = true → l' = l
  | [], l', h, _ => h.nil_inv
  | v :: l, l', h, hs => by
    obtain ⟨v', m, rfl, h1, h2⟩ := h.cons_inv
    simp only [List.all_cons, Bool.and_eq_true] at hs
    rw [h1.scal_inv hs.1, h2.scal_inv hs.2]
/-- a call of scalars that gives what a function of Lean gives -/
def pureX (k : Nat) (f : List Value → Option Value) : Nat → List Value → AS → Option (Value × AS) := fun k' args S => if k' = k ∧ args.all scal = true then (f args).map fun v => (v, S) else none
theorem pureX_ok {LW : World → Prop} (hSt : Stab LW) {k : Nat} {f : List Value → Option Value} (hfn : ∃ fn, P.funcs[k]? = some fn ∧ fn.body.isSome = true ∧ (fn.name == "runtime.NumGoroutine") = false)
    (h : ∀ args v, args.all scal = true → f args = some v → closed v = true ∧ ∀ w, LW w → Calls P k args.toArray w fun e w' => e = .returned v ∧ RowKit.Below w.heap.size w w') : ExtOK P LW (pureX k f) := by
  intro k' args S x hx
  unfold pureX at hx
  split at hx
  case isFalse => cases hx
  rename_i hk
  obtain ⟨rfl, hs⟩ := hk
  rw [Option.map_eq_some_iff] at hx
  obtain ⟨v, hv, rfl⟩ := hx
  refine ⟨hfn, fun prot w0 r w args' hL0 hR hl => ?_⟩
  obtain ⟨hc, hcall⟩ := h args v hs hv
  rw [hl.scal_inv hs]
  refine (hcall w (hSt w0 w hL0 hR.size hR.low)).mono ?_
  rintro e w' ⟨rfl, hb⟩
  exact ⟨r, v, rfl, VR.closed hc, Ext.refl _ _, Nat.le_refl _, hR.below hb⟩
/-- a call of a string that gives a number, or a number and a new error -/
def numX (k : Nat) (te : TypeId) (g : ByteArray → Option (Int × Bool)) : Nat → List Value → AS → Option (Value × AS) := fun k' args S => if k' = k then
    match args with
    | [.string s] => match g s with
      | some (v, true) => some (.tuple #[.int .i64 v, .nilIface], S)
      | some (v, false) => some (.tuple #[.int .i64 v, .iface te (.pointer (some ⟨S.next, 0, none⟩))], S.bump 1)
      | none => none
    | _ => none
  else none
theorem numX_ok {LW : World → Prop} (hSt : Stab LW) {k : Nat} {te : TypeId} {g : ByteArray → Option (Int × Bool)} (hfn : ∃ fn, P.funcs[k]? = some fn ∧ fn.body.isSome = true ∧ (fn.name == "runtime.NumGoroutine") = false)
    (hok : ∀ s v, g s = some (v, true) → ∀ w, LW w → Calls P k #[.string s] w fun e w' => e = .returned (.tuple #[.int .i64 v, .nilIface]) ∧ RowKit.Below w.heap.size w w')
    (her : ∀ s v, g s = some (v, false) → ∀ w, LW w → Calls P k #[.string s] w fun e w' => ∃ N, e = .returned (.tuple #[.int .i64 v, .iface te (.pointer (some ⟨N, 0, none⟩))]) ∧ RowKit.Below w.heap.size w w') : ExtOK P LW (numX k te g) := by
  intro k' args S x hx
  unfold numX at hx
  split at hx
  case isFalse => cases hx
  rename_i hk
  subst hk
  split at hx
  case h_2 => cases hx
  rename_i s
  refine ⟨hfn, fun prot w0 r w args' hL0 hR hl => ?_⟩
  have hargs : args' = [.string s] := hl.scal_inv rfl
  subst hargs
  have hL := hSt w0 w hL0 hR.size hR.low
  split at hx
  · rename_i v hg
    cases hx
    refine (hok s v hg w hL).mono ?_
    rintro e w' ⟨rfl, hb⟩
    exact ⟨r, _, rfl, VR.tuple_of (.cons (.int _ _) (.cons .nilIface .nil)), Ext.refl _ _, Nat.le_refl _, hR.below hb⟩
  · rename_i v hg
    cases hx
    refine (her s v hg w hL).mono ?_
    rintro e w' ⟨N, rfl, hb⟩
    have hn : r S.next = none := hR.fresh _ (Nat.le_refl _)
    have hle := Rho.le_add (r := r) (n := S.next) ⟨N, 0, 0, 0, te⟩ hn
    refine ⟨r.add S.next ⟨N, 0, 0, 0, te⟩, _, rfl, VR.tuple_of (.cons (.int _ _) (.cons (.iface te _ _ (.ptr _ _ ⟨N, 0, 0, 0, te⟩ (Rho.add_self _ _ _))) .nil)), ⟨hle, fun m hm h => by rw [Rho.add_ne _ _ (by omega)]; exact h⟩, by simp, ?_⟩
    refine ((hR.below hb).bump 1).grow hle (fun n o hn' hd => ?_) (fun n hn' => ?_)
    · by_cases e : n = S.next
      · subst e
        rcases hR.live _ o hn' with h1 | ⟨L, _, h1, _⟩
        · exact absurd h1 hd
        · rw [hn] at h1; cases h1
      · exact Rho.add_ne _ _ e
    · simp at hn'
      rw [Rho.add_ne _ _ (by omega)]
      exact hR.fresh n (by omega)
  · cases hx
end
end Go.Gx

/-
  strings.Builder: copyCheck and String as steps of the abstract machine.
-/
namespace Go.Gx
open Go.Shelf Go.Proofs Go.RowKit Go.Lib

section
variable {P : Program} (w : World)
theorem liesAt_bytes' {e : TypeId} (hc : P.cellsOf e = 1) (count o n : Nat) (hn : o + n ≤ count) : liesAt P P.depth e count o e n = true := by
  have hd : P.depth = (2 * (P.types.size + Made.depth) + 1) + 1 := rfl
  rw [hd]
  simp only [liesAt, Bool.or_eq_true]
  left
  rw [hd]
  simp [rowAt, hc, hn, sameLayout]
  exact .inl (Nat.mod_one o)
theorem run_unsafeString_at (pt it ty e : TypeId) (hp : P.underlying pt = some (.pointer e)) (hc : P.cellsOf e = 1) (g o cells : Nat) (hsh : w.shape? g = some (e, cells)) (l : List UInt8) (h0 : l ≠ []) (hn : o + l.length ≤ cells) (h63 : l.length ≤ 9223372036854775807)
    (hcell : ∀ j x, l[j]? = some x → w.cell? ((⟨g, o, none⟩ : Addr).add j) = some (.int .u8 x.toNat)) :
    (Builtin.unsafeString_ #[pt, it] ty #[.pointer (some ⟨g, o, none⟩), .int .i64 l.length]).run P w = .ok (.string ⟨l.toArray⟩) (w.freeze ⟨g, o, none⟩ l.length) := by
  have hl : l.length ≠ 0 := by simpa using h0
  have hlb := run_loadBytes (P := P) w l ⟨g, o, none⟩ .empty hcell
  have hlies := liesAt_bytes' (P := P) hc (cells / P.cellsOf e) o l.length (by rw [hc]; simpa using hn)
  have h63' : ¬ (9223372036854775807 : Int) < (l.length : Int) := by omega
  have hdef : Builtin.unsafeString_ #[pt, it] ty #[.pointer (some ⟨g, o, none⟩), .int .i64 l.length] =
      (do
        let n ← asInt (.int .i64 l.length)
        if n < 0 then runtimePanic (.error "unsafe.String: len out of range")
        if n > IntKind.i64.max then unsupported (.unsafePointer "String: a length above the largest int")
        if n = 0 then pure (.string .empty)
        else if ← variablesAt ⟨g, o, none⟩ (← elemOf pt) n.toNat then do
          let s ← loadBytes ⟨g, o, none⟩ .empty n.toNat
          freeze ⟨g, o, none⟩ n.toNat
          pure (.string s)
        else unsupported (.unsafePointer "String: not so many bytes at ptr")) := rfl
  rw [hdef]
  have hmax : IntKind.i64.max = 9223372036854775807 := rfl
  have hneg : ¬ (l.length : Int) < 0 := by omega
  simp [asInt, asIntOf, hmax, h63', hneg, hl, variablesAt, hsh, elemOf, run_underlying hp, hlies, hlb]
end
section
variable {P : Program} {ρ : Ren}
set_option maxHeartbeats 1000000 in
set_option maxRecDepth 100000 in
/-- the string of a builder that holds bytes: the bytes freeze -/
theorem builder_string (L : Lays.n169 P ρ) (X : Builder.Extra P ρ) (b g o cap cells : Nat) (p : Value) (l : List UInt8) (w : World) {fz : Nat × Nat} (hbk : w.heap[b]? = some (.cells #[p, .slice (some ⟨g, o, none⟩) l.length cap] (ρ.t 72) fz))
    (hsh : w.shape? g = some (ρ.t 5, cells)) (h0 : l ≠ []) (hcap : cap ≠ 0) (hn : o + l.length ≤ cells) (h63 : l.length ≤ 9223372036854775807)
    (hcell : ∀ j x, l[j]? = some x → w.cell? ((⟨g, o, none⟩ : Addr).add j) = some (.int .u8 x.toNat)) :
    Calls P (ρ.f 169) #[.pointer (some ⟨b, 0, none⟩)] w fun e w' => e = .returned (.string ⟨l.toArray⟩) ∧ w' = w.drew.freeze ⟨g, o, none⟩ l.length := by
  have c1 : w.drew.cell? ⟨b, 1, none⟩ = some (.slice (some ⟨g, o, none⟩) l.length cap) := by
    have : w.drew.heap[b]? = some (.cells #[p, .slice (some ⟨g, o, none⟩) l.length cap] (ρ.t 72) fz) := hbk
    rw [cell_of this]; rfl
  have hSD : (Builtin.unsafeSliceData_ #[(ρ.t 37)] (ρ.t 127) #[.slice (some ⟨g, o, none⟩) l.length cap]).run P w.drew = .ok (.pointer (some ⟨g, o, none⟩)) w.drew :=
    Lib.run_unsafeSliceData_row _ _ _ _ _ _ hcap
  have hUS : (Builtin.unsafeString_ #[(ρ.t 127), (ρ.t 3)] (ρ.t 9) #[.pointer (some ⟨g, o, none⟩), .int .i64 l.length]).run P w.drew = .ok (.string ⟨l.toArray⟩) (w.drew.freeze ⟨g, o, none⟩ l.length) :=
    run_unsafeString_at w.drew (ρ.t 127) (ρ.t 3) (ρ.t 9) (ρ.t 5) L.t127 X.cellsByte g o cells hsh l h0 hn h63 hcell
  have mixed := L.mixed
  have t72 := L.t72; have a72 := L.a72; have z72 := L.z72; have v72 := L.v72; have u72 := run_underlying L.t72
  have t70 := L.t70; have a70 := L.a70; have z70 := L.z70; have v70 := L.v70; have u70 := run_underlying L.t70
  have t37 := L.t37; have a37 := L.a37; have z37 := L.z37; have v37 := L.v37; have u37 := run_underlying L.t37
  have t127 := L.t127; have a127 := L.a127; have z127 := L.z127; have v127 := L.v127; have u127 := run_underlying L.t127
  have t3 := L.t3; have a3 := L.a3; have z3 := L.z3; have v3 := L.v3; have u3 := run_underlying L.t3
  have t9 := L.t9; have a9 := L.a9; have z9 := L.z9; have v9 := L.v9; have u9 := run_underlying L.t9
  have t5 := X.t5; have a5 := X.a5; have z5 := X.z5; have v5 := X.v5; have u5 := run_underlying X.t5
  go_enter L.f169, Body.n169_ntmps ρ
  go_wp2
  go_region_o
  all_goals (go_wp2; go_ret; exact ⟨rfl, rfl⟩)
end
section
variable {P : Program} {prot : Nat → Option Obj} {w0 : World} {r : Rho} {S : AS} {w : World}
/-- an object is forgotten, its block changes -/
theorem Rel.forget (h : Rel P prot w0 r S w) {n : Nat} {o : AObj} {obj' : Obj} {L : Loc} (hg : S.get n = some o) (hown : o.own = true) (hL : r n = some L) : Rel P prot w0 r (S.put n .dead) (w.upd L.b obj') := by
  have hd : o ≠ .dead := by rintro rfl; cases hown
  have k := h.kill n
  refine ⟨k.os, k.tape, k.output, by simpa [World.upd] using k.size, fun b hb' => (upd_ne (by have := (h.ro n o L hg hd hL).1 hown; omega)).trans (h.low b hb'), ?_, k.uniq, k.fresh, k.ro, ?_⟩
  · intro m p hm
    rw [AS.get_put] at hm
    split at hm
    · cases hm; exact .inl rfl
    · rename_i e
      rcases h.live m p hm with e' | ⟨M, q, hM, hq, hpq⟩
      · exact .inl e'
      · by_cases hp : p = .dead
        · exact .inl hp
        · refine .inr ⟨M, q, hM, ?_, hpq⟩
          rw [upd_ne (Ne.symm (h.uniq n m o p L M hg hm hown hp (Ne.symm e) hL hM))]
          exact hq
  · intro b obj hp
    obtain ⟨h1, h2⟩ := k.prot b obj hp
    have hne : L.b ≠ b := (h.prot b obj hp).2 n o L hg hown hL
    exact ⟨by rw [upd_ne (Ne.symm hne)]; exact h1, h2⟩
theorem freeze_upd {w : World} {b o n : Nat} {c : Array Value} {e : TypeId} {fz : Nat × Nat} (h : w.heap[b]? = some (.cells c e fz)) (hn : n ≠ 0) :
    ∃ obj', w.freeze ⟨b, o, none⟩ n = w.upd b obj' := by
  obtain ⟨lo, hi⟩ := fz
  refine ⟨.cells c e (if lo == hi then (o, o + n) else (min lo o, max hi (o + n))), ?_⟩
  unfold World.freeze World.upd
  rw [if_neg hn]
  congr 1
  apply Array.ext_getElem?
  intro i
  rw [Array.getElem?_modify, Array.getElem?_setIfInBounds]
  split
  · rename_i e1; subst e1
    rw [h, if_pos (lt_of_get h)]
    simp
  · rfl
def copyX (k : Nat) (T : TypeId) : Nat → List Value → AS → Option (Value × AS) := fun k' args S => if k' = k then
    match args with
    | [.pointer (some ⟨n, 0, none⟩)] => match S.get n with
      | some (.row [p, sl] T' true true) => if T' = T then
          if p = .pointer none then some (.tuple #[], S.put n (.row [.pointer (some ⟨n, 0, none⟩), sl] T true true))
          else if p = .pointer (some ⟨n, 0, none⟩) then some (.tuple #[], S) else none
        else none
      | _ => none
    | _ => none
  else none
theorem copyX_ok {LW : World → Prop} {k : Nat} {T : TypeId} (hfn : ∃ fn, P.funcs[k]? = some fn ∧ fn.body.isSome = true ∧ (fn.name == "runtime.NumGoroutine") = false)
    (hu : ∀ (b : Nat) (w : World), w.cell? ⟨b, 0, none⟩ = some (.pointer (some ⟨b, 0, none⟩)) → Calls P k #[.pointer (some ⟨b, 0, none⟩)] w fun e w' => e = .returned (.tuple #[]) ∧ w' = w)
    (hf : ∀ (b : Nat) (w : World), w.cell? ⟨b, 0, none⟩ = some (.pointer none) → w.shape? b = some (T, 2) → w.frozen? ⟨b, 0, none⟩ = false →
      Calls P k #[.pointer (some ⟨b, 0, none⟩)] w fun e w' => e = .returned (.tuple #[]) ∧ w' = w.setCell ⟨b, 0, none⟩ (.pointer (some ⟨b, 0, none⟩))) : ExtOK P LW (copyX k T) := by
  intro k' args S x hx
  unfold copyX at hx
  split at hx
  case isFalse => cases hx
  rename_i hk
  subst hk
  refine ⟨hfn, ?_⟩
  intro prot w0 r w args' _ hR hl
  split at hx
  case h_2 => cases hx
  rename_i n
  split at hx
  case h_2 => cases hx
  rename_i p sl T' hg
  split at hx
  case isFalse => cases hx
  rename_i hT
  subst hT
  obtain ⟨a', l1, rfl, ha, hl1⟩ := hl.cons_inv
  have := hl1.nil_inv; subst this
  obtain ⟨L, hL, rfl⟩ := ha.ptr_inv
  obtain ⟨c, fz, hb, r1, r2, r3, r4, r5, r6, hw⟩ := hR.row hg hL
  obtain ⟨hbase, hcsz⟩ := hR.whole' hg hL hb rfl rfl
  have hsz : c.size = 2 := by
    have := r5 rfl
    simp at r2
    omega
  rw [hbase, Nat.add_zero]
  obtain ⟨⟨c0⟩, hc0⟩ : ∃ c0, c0 = c := ⟨c, rfl⟩
  rw [← hc0] at hb hw hsz hcsz r6 r4
  match c0, hsz with
  | [p', sl'], _ =>
  rw [hbase] at hw
  simp only [List.drop_zero] at hw
  have hasz : L.asz = 2 := by simpa using r2.symm
  rw [hasz] at hw
  simp only [List.take_succ_cons, List.take_zero] at hw
  obtain ⟨_, _, e1, hp, hw2⟩ := hw.cons_inv
  cases e1
  obtain ⟨_, _, e2, hsl, hw3⟩ := hw2.cons_inv
  cases e2
  have c1 : w.cell? ⟨L.b, 0, none⟩ = some p' := by rw [cell_of hb]; rfl
  have hfr : w.frozen? ⟨L.b, 0, none⟩ = false := by
    rw [frozen_of hb]
    rcases (r6 rfl).ok with h | h
    · simp; omega
    · simp at h; simp; omega
  split at hx
  · rename_i hpn
    subst hpn
    cases hx
    have := hp.ptrNil_inv
    subst this
    refine (hf L.b w c1 (by rw [shape_of hb]; rfl) hfr).mono ?_
    rintro e w' ⟨rfl, rfl⟩
    refine ⟨r, _, rfl, VR.tuple_of .nil, Ext.refl _ _, Nat.le_refl _, ?_⟩
    rw [setCell_upd hb]
    refine hR.upd hg rfl hL ?_ rfl
    simp only [ObjR]
    refine ⟨trivial, r1, r2, r3, by simpa using r4, fun _ => r5 rfl, fun _ => by simpa using r6 rfl, fun _ _ => ⟨hbase, by simpa using hcsz⟩, fun i v hi => ?_⟩
    rw [hbase]
    match i, hi with
    | 0, hi =>
      simp at hi
      subst hi
      refine ⟨.pointer (some ⟨L.b, 0, none⟩), by simp, ?_⟩
      have := VR.ptr (P := P) (r := r) n 0 L hL
      rw [hbase] at this
      exact this
    | 1, hi =>
      simp at hi
      subst hi
      exact ⟨sl', by simp, hsl⟩
    | i + 2, hi => simp at hi
  · split at hx
    · rename_i hpn
      subst hpn
      cases hx
      obtain ⟨M, hM, rfl⟩ := hp.ptr_inv
      rw [hL] at hM
      cases hM
      rw [hbase] at c1
      refine (hu L.b w c1).mono ?_
      rintro e w' ⟨rfl, rfl⟩
      exact ⟨r, _, rfl, VR.tuple_of .nil, Ext.refl _ _, Nat.le_refl _, hR⟩
    · cases hx
def strX (k : Nat) (T e : TypeId) : Nat → List Value → AS → Option (Value × AS) := fun k' args S => if k' = k then
    match args with
    | [.pointer (some ⟨n, 0, none⟩)] => match S.get n with
      | some (.row [_, .slice (some ⟨g, o, none⟩) m cap] T' true true) => match S.get g with
        | some (.row cells e' true _) => if T' = T ∧ e' = e ∧ m ≠ 0 ∧ m ≤ cap ∧ m ≤ 9223372036854775807 ∧ o + m ≤ cells.length ∧ n ≠ g then
            match bytesOfV ((cells.drop o).take m) with
            | some l => if (cells.drop o).take m = l.map (fun b => .int .u8 b.toNat) then some (.string ⟨l.toArray⟩, S.put g .dead) else none
            | none => none
          else none
        | _ => none
      | _ => none
    | _ => none
  else none
theorem strX_ok {LW : World → Prop} {k : Nat} {T e : TypeId} (hfn : ∃ fn, P.funcs[k]? = some fn ∧ fn.body.isSome = true ∧ (fn.name == "runtime.NumGoroutine") = false)
    (hc : ∀ (b g o cap cells : Nat) (p : Value) (l : List UInt8) (fz : Nat × Nat) (w : World), w.heap[b]? = some (.cells #[p, .slice (some ⟨g, o, none⟩) l.length cap] T fz) → w.shape? g = some (e, cells) → l ≠ [] → cap ≠ 0 → o + l.length ≤ cells → l.length ≤ 9223372036854775807 →
      (∀ j x, l[j]? = some x → w.cell? ((⟨g, o, none⟩ : Addr).add j) = some (.int .u8 x.toNat)) →
      Calls P k #[.pointer (some ⟨b, 0, none⟩)] w fun e w' => e = .returned (.string ⟨l.toArray⟩) ∧ w' = w.drew.freeze ⟨g, o, none⟩ l.length) : ExtOK P LW (strX k T e) := by
  intro k' args S x hx
  unfold strX at hx
  split at hx
  case isFalse => cases hx
  rename_i hk
  subst hk
  refine ⟨hfn, ?_⟩
  intro prot w0 r w args' _ hR hl
  split at hx
  case h_2 => cases hx
  rename_i n
  split at hx
  case h_2 => cases hx
  rename_i p g o m cap T' hg
  split at hx
  case h_2 => cases hx
  rename_i cells e' ex hg2
  split at hx
  case isFalse => cases hx
  rename_i hcond
  obtain ⟨rfl, rfl, hm0, hmc, hm63, hol, hng⟩ := hcond
  split at hx
  case h_2 => cases hx
  rename_i l hbs
  split at hx
  case isFalse => cases hx
  rename_i hle
  cases hx
  obtain ⟨a', l1, rfl, ha, hl1⟩ := hl.cons_inv
  have := hl1.nil_inv; subst this
  obtain ⟨L, hL, rfl⟩ := ha.ptr_inv
  obtain ⟨c, fz, hb, r1, r2, r3, r4, r5, r6, hw⟩ := hR.row hg hL
  obtain ⟨hbase, hcsz⟩ := hR.whole' hg hL hb rfl rfl
  have hsz : c.size = 2 := by
    have := r5 rfl
    simp at r2
    omega
  rw [hbase, Nat.add_zero]
  obtain ⟨⟨c0⟩, hc0⟩ : ∃ c0, c0 = c := ⟨c, rfl⟩
  rw [← hc0] at hb hw hsz
  match c0, hsz with
  | [p', sl'], _ =>
  rw [hbase] at hw
  simp only [List.drop_zero] at hw
  have hasz : L.asz = 2 := by simpa using r2.symm
  rw [hasz] at hw
  simp only [List.take_succ_cons, List.take_zero] at hw
  obtain ⟨_, _, e1, hp, hw2⟩ := hw.cons_inv
  cases e1
  obtain ⟨_, _, e2, hsl, hw3⟩ := hw2.cons_inv
  cases e2
  obtain ⟨M, cap', x', hM, rfl, hcap, hlec, hx'⟩ := hsl.slice_inv
  obtain ⟨cc, fz2, hblk, s1, s2, s3, s4, s5, s6, hw4⟩ := hR.row hg2 hM
  have hxo : x' = M.base + o := by
    rcases hx' with h | h
    · exact h
    · omega
  subst hxo
  have hwin := window (o := o) (k := m) hw4 s2 hol
  have heq := bytesOf_LR hbs hwin
  have hlm : l.length = m := by
    have := congrArg List.length hle
    simp at this
    omega
  subst hlm
  have hcapc := hcap.le
  have hcall := hc L.b M.b (M.base + o) cap' cc.size p' l fz w hb (by rw [shape_of hblk]) (by intro e; subst e; simp at hm0) (by omega) (by omega) hm63 (fun j x hj => by
    have hjl := (List.getElem?_eq_some_iff.1 hj).1
    have e : (⟨M.b, M.base + o, none⟩ : Addr).add j = ⟨M.b, M.base + o + j, none⟩ := by
      unfold Addr.add
      by_cases hj0 : j = 0
      · subst hj0; simp
      · simp [hj0]
    rw [e, cell_of hblk]
    have h1 : ((cc.toList.drop (M.base + o)).take l.length)[j]? = some (.int .u8 x.toNat) := by
      rw [heq, hle, List.getElem?_map, hj]; rfl
    rw [List.getElem?_take_of_lt hjl, List.getElem?_drop] at h1
    simpa using h1)
  refine hcall.mono ?_
  rintro e w' ⟨rfl, rfl⟩
  obtain ⟨obj', hfz⟩ := freeze_upd (w := w.drew) (b := M.b) (o := M.base + o) (n := l.length) hblk hm0
  rw [hfz]
  exact ⟨r, _, rfl, .str _, Ext.refl _ _, Nat.le_refl _, hR.drew.forget hg2 rfl hM⟩
end
end Go.Gx

/-
  The sort of notes: fours by their first two numbers, of which the last is a string.
-/
namespace Go.Gx
open Go.Proofs Go.RowKit Go.Lib Go.Sort
abbrev Nd := (Int × Int) × (Int × ByteArray)
def encN (p : Nd) : List Value := [.int .i64 p.1.1, .int .i64 p.1.2, .int .i64 p.2.1, .string p.2.2]
def flatN (l : List Nd) : List Value := l.flatMap encN
def unflatN : List Value → Option (List Nd)
  | [] => some []
  | .int .i64 a :: .int .i64 b :: .int .i64 c :: .string d :: l => (unflatN l).map (((a, b), (c, d)) :: ·)
  | _ => none
theorem unflatN_flat : ∀ L : List Nd, unflatN (flatN L) = some L
  | [] => rfl
  | p :: L => by
    show unflatN (.int .i64 p.1.1 :: .int .i64 p.1.2 :: .int .i64 p.2.1 :: .string p.2.2 :: flatN L) = _
    simp only [unflatN, unflatN_flat L, Option.map_some]
theorem unflatN_eq {l : List Value} {L : List Nd} (h : unflatN l = some L) : l = flatN L := by
  induction l using unflatN.induct generalizing L with
  | case1 => simp only [unflatN] at h; cases h; rfl
  | case2 a b c d l ih =>
    simp only [unflatN] at h
    cases hl : unflatN l with
    | none => rw [hl] at h; cases h
    | some M =>
      rw [hl] at h
      simp only [Option.map_some, Option.some.injEq] at h
      subst h
      rw [ih hl]; rfl
  | case3 l h1 h2 =>
    rw [unflatN] at h
    · cases h
    · exact h1
    · exact h2
theorem flatN_len (L : List Nd) : (flatN L).length = L.length * 4 := by
  induction L with
  | nil => rfl
  | cons p L ih => show ((encN p) ++ flatN L).length = _; rw [List.length_append, ih]; simp [encN]; omega
def leN (x y : Nd) : Bool := le2 x.1 y.1
def nsortV (g : Nat) (e : TypeId) (args : List Value) (S : AS) : Option (Value × AS) :=
  match args with
  | [.slice base n _, .func (.func g') a b] =>
    if g' = g ∧ a = #[] ∧ b = #[] ∧ n < 4611686018427387904 then
      match base with
      | none => if n = 0 then some (.tuple #[], S) else none
      | some ⟨bl, o, none⟩ =>
        if n = 0 then some (.tuple #[], S) else
        match S.get bl with
        | some (.row cs e' true ex) =>
          if e' = e ∧ o + n * 4 ≤ cs.length then
            match unflatN ((cs.drop o).take (n * 4)) with
            | some L => if (L.map (·.1)).Nodup then some (.tuple #[], S.put bl (.row (splice cs o (flatN (L.mergeSort leN))) e true ex)) else none
            | none => none
          else none
        | _ => none
      | _ => none
    else none
  | _ => none
theorem VR.scal_self {P : Program} {r : Rho} {v : Value} (h : scal v = true) : VR P r v v := by
  cases v with
  | int k n => exact .int _ _
  | bool b => exact .bool _
  | string s => exact .str _
  | _ => cases h

def encNQ (f : Int × Int → Int) (h : Int × Int → ByteArray) (x : Int × Int) : List Value := encN (x, f x, h x)
/-- what is asked of the function that sorts -/
structure NSortC (P : Program) (k g : Nat) : Prop where
  fn : ∃ fn, P.funcs[k]? = some fn ∧ fn.body.isSome = true ∧ (fn.name == "runtime.NumGoroutine") = false
  none : ∀ (p : Option Addr) (cap : Nat) (fv : Value) (w : World), Calls P k #[.slice p 0 cap, fv] w fun e w' => e = .returned (.tuple #[]) ∧ w' = w
  all : ∀ (f : Int × Int → Int) (h : Int × Int → ByteArray) (blk off cap : Nat) (d : Array (Int × Int)) (w : World), HoldsK (encNQ f h) 4 w blk off d → blk < w.heap.size → d.size < 4611686018427387904 →
    Calls P k #[.slice (some ⟨blk, off, Option.none⟩) d.size cap, .func (.func g) #[] #[]] w fun e w' => e = .returned (.tuple #[]) ∧ ∃ n os, w' = grow (putRowK (encNQ f h) 4 (Sort.ahead w n) blk off (d.toList.mergeSort le2).toArray) os

theorem flatN_get : ∀ (L : List Nd) (t : Nat), t < L.length * 4 → (flatN L)[t]? = some ((encN (L[t / 4]!))[t % 4]!)
  | p :: L, t, h => by
    show (.int .i64 p.1.1 :: .int .i64 p.1.2 :: .int .i64 p.2.1 :: .string p.2.2 :: flatN L : List Value)[t]? = _
    match t with
    | 0 => rfl
    | 1 => rfl
    | 2 => rfl
    | 3 => rfl
    | t + 4 =>
      have e1 : (t + 4) / 4 = t / 4 + 1 := by omega
      have e2 : (t + 4) % 4 = t % 4 := by omega
      rw [e1, e2]
      simp only [List.getElem?_cons_succ]
      rw [flatN_get L t (by simp only [List.length_cons] at h; omega)]
      simp
theorem encN_get (p : Nd) (t : Nat) (h : t < 4) : scal ((encN p)[t]!) = true := by
  match t, h with
  | 0, _ => rfl
  | 1, _ => rfl
  | 2, _ => rfl
  | 3, _ => rfl
def ndF (f : Int × Int → Int) (h : Int × Int → ByteArray) (x : Int × Int) : Nd := (x, f x, h x)
theorem nd_find : ∀ {L : List Nd}, (L.map (·.1)).Nodup → ∀ e ∈ L, L.find? (fun e' => decide (e'.1 = e.1)) = some e
  | [], _, e, he => by simp at he
  | a :: L, hn, e, he => by
    rw [List.map_cons, List.nodup_cons] at hn
    rw [List.find?_cons]
    rcases List.mem_cons.1 he with rfl | h
    · simp
    · have : ¬ a.1 = e.1 := fun q => hn.1 (q ▸ List.mem_map.2 ⟨e, h, rfl⟩)
      simp only [this, decide_false]
      exact nd_find hn.2 e h
theorem nd_fun {L : List Nd} (hn : (L.map (·.1)).Nodup) : ∃ (f : Int × Int → Int) (h : Int × Int → ByteArray), (L.map (·.1)).map (ndF f h) = L := by
  refine ⟨fun x => ((L.find? fun e => decide (e.1 = x)).map (·.2.1)).getD 0, fun x => ((L.find? fun e => decide (e.1 = x)).map (·.2.2)).getD ⟨#[]⟩, ?_⟩
  rw [List.map_map]
  conv => rhs; rw [← List.map_id L]
  refine List.map_congr_left fun e he => ?_
  simp only [Function.comp, ndF, nd_find hn e he, Option.map_some, Option.getD_some, id]
theorem nd_get {f : Int × Int → Int} {h : Int × Int → ByteArray} {L : List Nd} (hF : (L.map (·.1)).map (ndF f h) = L) {j : Nat} (hj : j / 4 < L.length) : (encNQ f h ((L.map (·.1)).toArray[j / 4]!))[j % 4]! = (encN (L[j / 4]!))[j % 4]! := by
  have h1 : L[j / 4]! = ndF f h ((L.map (·.1)).toArray[j / 4]!) := by
    conv => lhs; rw [← hF]
    simp [hj]
  rw [h1]; rfl
theorem nd_sorted {f : Int × Int → Int} {h : Int × Int → ByteArray} {L : List Nd} (hF : (L.map (·.1)).map (ndF f h) = L) {j : Nat} (hj : j / 4 < L.length) : (encNQ f h (((L.map (·.1)).mergeSort le2).toArray[j / 4]!))[j % 4]! = (encN ((L.mergeSort leN)[j / 4]!))[j % 4]! := by
  have hm : ((L.map (·.1)).mergeSort le2).map (ndF f h) = L.mergeSort leN := by
    exact (List.map_mergeSort (r := le2) (s := leN) (fun a _ b _ => rfl)).trans (by rw [hF])
  have h1 : (L.mergeSort leN)[j / 4]! = ndF f h (((L.map (·.1)).mergeSort le2).toArray[j / 4]!) := by
    rw [← hm]
    have h2 : j / 4 < ((L.map (·.1)).mergeSort le2).length := by simpa using hj
    simp [h2, hj]
  rw [h1]; rfl
section
variable {P : Program} {prot : Nat → Option Obj} {w0 : World} {r : Rho} {S : AS} {w : World}
theorem LR.cellsN {l l' : List Value} {L : List Nd} (h : LR P r l l') (hl : l = flatN L) : l' = flatN L := by
  subst hl
  apply List.ext_getElem?
  intro t
  by_cases ht : t < L.length * 4
  · have h1 := flatN_get L t ht
    obtain ⟨v', h2, h3⟩ := h.get? h1
    rw [h1, h2]
    congr 1
    have h4 : t % 4 = 0 ∨ t % 4 = 1 ∨ t % 4 = 2 ∨ t % 4 = 3 := by omega
    rcases h4 with hm | hm | hm | hm
    · rw [hm] at h3 ⊢
      exact h3.int_inv
    · rw [hm] at h3 ⊢
      exact h3.int_inv
    · rw [hm] at h3 ⊢
      exact h3.int_inv
    · rw [hm] at h3 ⊢
      exact h3.str_inv
  · have e : l'.length = L.length * 4 := by rw [← h.1, flatN_len]
    rw [List.getElem?_eq_none (by omega), List.getElem?_eq_none (by rw [flatN_len]; omega)]
theorem nsortV_ok {LW : World → Prop} {k g : Nat} (e : TypeId) (hC : NSortC P k g) : ExtOK P LW (fun k' args S => if k' = k then nsortV g e args S else none) := by
  intro k' args S x h
  simp only at h
  split at h
  case isFalse => cases h
  rename_i hk
  subst hk
  refine ⟨hC.fn, ?_⟩
  intro prot w0 r w args' _ hR hl
  unfold nsortV at h
  split at h
  case h_2 => cases h
  rename_i base n cap g' fa fb
  split at h
  case isFalse => cases h
  rename_i hcond
  obtain ⟨rfl, rfl, rfl, hsz⟩ := hcond
  obtain ⟨a', l1, rfl, ha, hl1⟩ := hl.cons_inv
  obtain ⟨b', l2, rfl, hb, hl2⟩ := hl1.cons_inv
  have := hl2.nil_inv; subst this
  obtain ⟨fa', fb', rfl, hfa, hfb⟩ := hb.func_inv
  have hfa0 : fa' = #[] := by have := hfa.1; apply Array.eq_empty_of_size_eq_zero; simpa using this.symm
  have hfb0 : fb' = #[] := by have := hfb.1; apply Array.eq_empty_of_size_eq_zero; simpa using this.symm
  subst hfa0
  subst hfb0
  have hvt : ∀ r' : Rho, VR P r' (.tuple #[]) (.tuple #[]) := fun r' => .tuple _ _ rfl fun i v v' h => by simp at h
  have hext : Ext r r S.next := ⟨fun _ _ h => h, fun m _ h => h⟩
  split at h
  · -- nil
    split at h
    case isFalse => cases h
    rename_i hn0
    cases h
    subst hn0
    obtain ⟨rfl, _, _⟩ := ha.sliceNil_inv
    refine (hC.none none 0 _ w).mono ?_
    rintro e w' ⟨rfl, rfl⟩
    exact ⟨r, _, rfl, hvt r, hext, Nat.le_refl _, hR⟩
  · rename_i bl o
    split at h
    · rename_i hn0
      cases h
      subst hn0
      obtain ⟨M, cap', x', hM, rfl, _⟩ := ha.slice_inv
      refine (hC.none (some ⟨M.b, x', none⟩) cap' _ w).mono ?_
      rintro e w' ⟨rfl, rfl⟩
      exact ⟨r, _, rfl, hvt r, hext, Nat.le_refl _, hR⟩
    rename_i hn0
    split at h
    case h_2 => cases h
    rename_i cs e' ex hgb
    split at h
    case isFalse => cases h
    rename_i hc2
    obtain ⟨rfl, hle⟩ := hc2
    split at h
    case h_2 => cases h
    rename_i L hL
    split at h
    case isFalse => cases h
    rename_i hnd
    cases h
    obtain ⟨f1, f2, hF⟩ := nd_fun hnd
    obtain ⟨M, cap', x', hM, rfl, hcap, hncap, hx'⟩ := ha.slice_inv
    obtain ⟨cc, fz, hblk, r1, r2, r3, r4, r5, r6, hw⟩ := hR.row hgb hM
    have hxx : x' = M.base + o := by
      rcases hx' with h | h
      · exact h
      · omega
    subst hxx
    have hsl := window (o := o) (k := n * 4) hw r2 hle
    have hfl := unflatN_eq hL
    have hLn : L.length = n := by have := congrArg List.length hfl; rw [flatN_len, List.length_take, List.length_drop] at this; omega
    have hcc := hsl.cellsN hfl
    have hH : HoldsK (encNQ f1 f2) 4 w M.b (M.base + o) (L.map (·.1)).toArray := by
      intro j hj
      have hj' : j < L.length * 4 := by simpa using hj
      have hg := flatN_get L j hj'
      rw [← hcc, List.getElem?_take_of_lt (by omega), List.getElem?_drop] at hg
      refine ⟨?_, ?_⟩
      · rw [cell_of hblk]
        have h2 : (flatK (encNQ f1 f2) 4 (L.map (·.1)).toArray)[j]! = (encN (L[j / 4]!))[j % 4]! := by rw [get_flatK _ _ _ _ (by simpa using hj'), nd_get hF (by omega)]
        rw [h2]
        simpa using hg
      · rw [frozen_of hblk]
        rcases (r6 rfl).ok with h | h
        · rw [h]
          by_cases h3 : fz.2 ≤ M.base + o + j
          · simp [Nat.not_lt.2 h3]
          · simp [h3]
        · have hjc : M.base + o + j < cc.size := by have := (List.getElem?_eq_some_iff.1 hg).1; simpa using this
          have : ¬ (fz.1 ≤ M.base + o + j) := by omega
          simp [this]
    have hcall := hC.all f1 f2 M.b (M.base + o) cap' (L.map (·.1)).toArray w hH (lt_of_get hblk) (by simpa [hLn] using hsz)
    simp only [List.size_toArray, List.length_map, hLn] at hcall
    refine hcall.mono ?_
    rintro e w' ⟨rfl, m, os, rfl⟩
    refine ⟨r, _, rfl, hvt r, hext, by simp, ?_⟩
    refine Rel.growW ?_ os
    unfold putRowK putRow
    rw [mapBlock_upd (w := Sort.ahead w m) hblk, upd_ahead]
    refine Rel.aheadW ?_ m
    refine hR.upd hgb rfl hM ?_ rfl
    simp only [ObjR]
    have hLl : (L.mergeSort leN).length = n := by rw [List.length_mergeSort]; exact hLn
    refine ⟨trivial, r1, ?_, r3, ?_, r5, fun _ => ?_, fun h1 h2 => ?_, fun i v hv => ?_⟩
    · rw [splice_len _ _ _ (by rw [flatN_len, hLl]; exact hle)]; exact r2
    · simpa [putCells] using r4
    · simpa [putCells] using r6 rfl
    · simpa [putCells] using hR.whole' hgb hM hblk h1 rfl
    · have hfl2 : (flatN (L.mergeSort leN)).length = n * 4 := by rw [flatN_len, hLl]
      have hsp : (splice cs o (flatN (L.mergeSort leN)))[i]? = if i < o then cs[i]? else if i < o + n * 4 then (flatN (L.mergeSort leN))[i - o]? else cs[i]? := by
        have := sp_get (c := cs) (vs := flatN (L.mergeSort leN)) (o := o) (by omega) i
        rw [hfl2] at this
        exact this
      rw [hsp] at hv
      have hold : ∀ u, cs[i]? = some u → ∃ v', cc[M.base + i]? = some v' ∧ VR P r u v' := fun u hu => by
        obtain ⟨v', k1, k2⟩ := hw.get? hu
        have hi : i < cs.length := (List.getElem?_eq_some_iff.1 hu).1
        rw [List.getElem?_take_of_lt (by omega), List.getElem?_drop] at k1
        exact ⟨v', by simpa using k1, k2⟩
      unfold putCells
      rw [Array.getElem?_mapIdx]
      simp only [size_flatK, List.size_toArray, List.length_mergeSort, List.length_map, hLn]
      by_cases c1 : i < o
      · rw [if_pos c1] at hv
        obtain ⟨v', k1, k2⟩ := hold v hv
        exact ⟨v', by rw [k1, Option.map_some, if_neg (by omega)], k2⟩
      · rw [if_neg c1] at hv
        by_cases c2 : i < o + n * 4
        · rw [if_pos c2, flatN_get _ _ (by omega)] at hv
          have hlt : M.base + i < cc.size := by omega
          refine ⟨v, ?_, ?_⟩
          · rw [Array.getElem?_eq_getElem hlt, Option.map_some, if_pos (by omega)]
            rw [show M.base + i - (M.base + o) = i - o from by omega, get_flatK _ _ _ _ (by simp [hLn]; omega), nd_sorted hF (by omega)]
            simpa using hv
          · have hkn := encN_get ((L.mergeSort leN)[(i - o) / 4]!) ((i - o) % 4) (by omega)
            cases hv
            exact VR.scal_self hkn
        · rw [if_neg c2] at hv
          obtain ⟨v', k1, k2⟩ := hold v hv
          exact ⟨v', by rw [k1, Option.map_some, if_neg (by omega)], k2⟩
  · cases h
end
end Go.Gx
