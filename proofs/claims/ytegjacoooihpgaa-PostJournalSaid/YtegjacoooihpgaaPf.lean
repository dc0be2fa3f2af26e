/-
  The journal: its state, and what a crash leaves (no program in sight).
-/
import Derived.Test.YtegjacoooihpgaaPe
import Derived.Test.YtegjacoooihpgaaGg

set_option linter.all false
set_option linter.deprecated false
set_option linter.unusedSimpArgs false
set_option linter.unusedVariables false

namespace Go.Gx.Y
open Go.Gx
set_option linter.all false

def zeros (n : Nat) : List Sec := List.replicate n zero64
/-- writes one behind the other -/
def idx (at_ : Nat) : List Sec → List (Nat × Sec)
  | [] => []
  | s :: W => (at_, s) :: idx (at_ + 1) W
theorem idx_len : ∀ (at_ : Nat) (W : List Sec), (idx at_ W).length = W.length
  | _, [] => rfl
  | at_, s :: W => by simp [idx, idx_len (at_ + 1) W]
theorem idx_get : ∀ (at_ : Nat) (W : List Sec) (i : Nat), (idx at_ W)[i]? = (W[i]?).map fun s => (at_ + i, s)
  | _, [], i => by simp [idx]
  | at_, s :: W, 0 => by simp [idx]
  | at_, s :: W, i + 1 => by
    simp only [idx, List.getElem?_cons_succ]
    rw [idx_get (at_ + 1) W i]
    congr 1
    funext x
    simp; omega
theorem idx_app : ∀ (at_ : Nat) (V W : List Sec), idx at_ (V ++ W) = idx at_ V ++ idx (at_ + V.length) W
  | at_, [], W => by simp [idx]
  | at_, s :: V, W => by
    simp only [List.cons_append, idx, List.length_cons]
    rw [idx_app (at_ + 1) V W]
    congr 3
    omega

/-- the state of a journal's disk: so many records, of which the first are durable; perhaps a part of one more -/
structure Live (D : Dk) (Rs : List (List UInt8)) (safe : Nat) (P : List Sec) : Prop where
  le : safe ≤ Rs.length
  last : D.last = encAll (Rs.take safe) ++ zeros (D.last.length - (encAll (Rs.take safe)).length)
  fits : (encAll Rs).length + P.length ≤ D.last.length
  pend : D.pend = idx (encAll (Rs.take safe)).length (encAll (Rs.drop safe) ++ P)
  now : D.now = encAll Rs ++ P ++ zeros (D.last.length - ((encAll Rs).length + P.length))
  small : ∀ r ∈ Rs, r.length ≤ 20000
  part : P = [] ∨ ∃ r : List UInt8, r.length ≤ 20000 ∧ P.length < (enc r).length ∧ (∀ j, j < P.length → P[j]? = (enc r)[j]?) ∧ (encAll Rs).length + P.length < D.last.length
  whole : D.down = false → P = []
  inv : D.now = D.flushed D.pend.length
  same : D.now.length = D.last.length

/-- the disk after a crash: what can be read, and nothing behind it -/
structure Crashed (D : Dk) (R : List (List UInt8)) : Prop where
  now : ∃ Y, D.now = encAll R ++ Y ∧ Dead Y
  last : D.last = D.now
  pend : D.pend = []
  up : D.down = false
  small : ∀ r ∈ R, r.length ≤ 20000
  u : ∀ x ∈ D.now, x.length = 64

theorem tear_full {s : Sec} (h : s.length = 64) : tear zero64 s 64 = s := by
  unfold tear
  rw [List.take_of_length_le (by omega), List.drop_eq_nil_of_le (by simp [zero64])]
  simp
theorem tear_bad {a s : Sec} {k : Nat} (ha : a.length = 64) (hs : s.length = 64) (hk : k < 64) (h63 : byteAt a 63 = 0) : byteAt (tear a s k) 63 = 0 := by
  unfold tear
  have hl : (s.take k).length = k := by simp [hs]; omega
  rw [byteAt_lt (by simp [hl, ha]; omega), List.getElem_append_right (by omega)]
  rw [byteAt_lt (by omega)] at h63
  rw [List.getElem_drop]
  rw [← h63]
  congr 1
  omega

/-- one sector changes, between known ones -/
theorem set_mid {A B : List Sec} {x y : Sec} : (A ++ x :: B).set A.length y = A ++ y :: B := by
  rw [List.set_append_right _ _ (Nat.le_refl _)]
  simp
theorem getD_mid {A B : List Sec} {x : Sec} : (A ++ x :: B).getD A.length [] = x := by
  rw [List.getD_eq_getElem?_getD, List.getElem?_append_right (Nat.le_refl _)]
  simp

/-- what is left of writes to zero sectors -/
def tornW (keep : List Int) (W : List Sec) : Nat → List Sec
  | 0 => []
  | i + 1 => tornW keep W i ++ [tear zero64 (W.getD i []) (keepOf keep i)]
theorem tornW_len (keep : List Int) (W : List Sec) : ∀ i, (tornW keep W i).length = i
  | 0 => rfl
  | i + 1 => by simp [tornW, tornW_len keep W i]
theorem tornW_get {keep : List Int} {W : List Sec} : ∀ (i j : Nat), j < i → (tornW keep W i)[j]? = some (tear zero64 (W.getD j []) (keepOf keep j))
  | i + 1, j, h => by
    unfold tornW
    by_cases hj : j < i
    · rw [List.getElem?_append_left (by rw [tornW_len]; exact hj)]
      exact tornW_get i j hj
    · obtain rfl : j = i := by omega
      rw [List.getElem?_append_right (by rw [tornW_len]; exact Nat.le_refl _), tornW_len]
      simp

theorem torn_live {D : Dk} {base W : List Sec} (keep : List Int) (hl : D.last = base ++ zeros (D.last.length - base.length)) (hp : D.pend = idx base.length W) (hf : base.length + W.length ≤ D.last.length) :
    ∀ i, i ≤ W.length → D.torn keep i = base ++ tornW keep W i ++ zeros (D.last.length - (base.length + i))
  | 0, _ => by
    show D.last = _
    simp only [tornW, List.append_nil, Nat.add_zero]
    exact hl
  | i + 1, h => by
    have ih := torn_live keep hl hp hf i (by omega)
    have hc : D.pend[i]? = some (base.length + i, W.getD i []) := by
      rw [hp, idx_get, List.getD_eq_getElem?_getD, List.getElem?_eq_getElem (by omega)]
      rfl
    rw [torn_succ hc, ih]
    have hz : zeros (D.last.length - (base.length + i)) = zero64 :: zeros (D.last.length - (base.length + (i + 1))) := by
      unfold zeros
      rw [← List.replicate_succ]
      congr 1
      omega
    have hA : (base ++ tornW keep W i).length = base.length + i := by rw [List.length_append, tornW_len]
    simp only []
    rw [hz, ← hA, getD_mid, set_mid]
    simp [tornW]

/-- sectors of records, some of which are gone: what is read is the first records -/
theorem crash_shape : ∀ (Rs : List (List UInt8)) (P W' Z : List Sec), W'.length = (encAll Rs ++ P).length → (∀ (j : Nat) (s : Sec), W'[j]? = some s → bad s ∨ (encAll Rs ++ P)[j]? = some s) → (∀ r ∈ Rs, r.length < 16777216) →
    (P = [] ∧ (∃ n, Z = zeros n) ∨ ∃ r : List UInt8, r.length < 16777216 ∧ P.length < (enc r).length ∧ (∀ j : Nat, j < P.length → P[j]? = (enc r)[j]?) ∧ ∃ n, Z = zero64 :: zeros n) → ∃ k Y, k ≤ Rs.length ∧ W' ++ Z = encAll (Rs.take k) ++ Y ∧ Dead Y
  | [], P, W', Z, hl, hw, _, hP => by
    refine ⟨0, W' ++ Z, Nat.le_refl _, by simp [encAll], ?_⟩
    simp only [encAll, List.map_nil, List.flatten_nil, List.nil_append] at hl hw
    rcases hP with ⟨rfl, n, rfl⟩ | ⟨r, hr, hlt, hpe, n, rfl⟩
    · have : W' = [] := List.length_eq_zero_iff.1 hl
      subst this
      exact dead_zeros n
    · refine .inr ⟨r, P.length, hr, by simp [hl], hlt, fun s hs => ?_, fun j hj s hs => ?_⟩
      · rw [List.getElem?_append_right (by omega), hl, Nat.sub_self] at hs
        simp at hs
        rw [← hs]; exact bad_zero
      · rw [List.getElem?_append_left (by omega)] at hs
        rcases hw j s hs with h | h
        · exact .inl h
        · rw [hpe j hj] at h; exact .inr h
  | r :: Rs, P, W', Z, hl, hw, hr, hP => by
    rw [encAll_cons, List.append_assoc] at hl hw
    have hl' := hl
    rw [List.length_append] at hl'
    by_cases hall : ∀ j : Nat, j < (enc r).length → ∀ s : Sec, W'[j]? = some s → (enc r)[j]? = some s
    · have h1 : W'.take (enc r).length = enc r := by
        refine List.ext_getElem? fun j => ?_
        rw [List.getElem?_take]
        split
        · rename_i hj
          have hjl : j < W'.length := by omega
          have := hall j hj _ (List.getElem?_eq_getElem hjl)
          rw [this, List.getElem?_eq_getElem hjl]
        · rename_i hj
          rw [List.getElem?_eq_none (by omega)]
      obtain ⟨k, Y, hk, he, hd⟩ := crash_shape Rs P (W'.drop (enc r).length) Z (by rw [List.length_drop]; omega) (fun j s hs => by
        rw [List.getElem?_drop] at hs
        rcases hw _ s hs with h | h
        · exact .inl h
        · rw [List.getElem?_append_right (by omega)] at h
          exact .inr (by rw [← h]; congr 1; omega)) (fun x hx => hr x (by simp [hx])) hP
      refine ⟨k + 1, Y, by simpa using hk, ?_, hd⟩
      rw [List.take_succ_cons, encAll_cons, List.append_assoc, ← he, ← List.append_assoc]
      congr 1
      conv => lhs; rw [← List.take_append_drop (enc r).length W']
      rw [h1]
    · refine ⟨0, W' ++ Z, Nat.zero_le _, by simp [encAll], .inr ?_⟩
      have hne : ∃ b : Nat, b < (enc r).length ∧ ∃ s : Sec, W'[b]? = some s ∧ ¬ (enc r)[b]? = some s := by
        refine Classical.byContradiction fun hn => hall fun j hj s hs => Classical.byContradiction fun hh => hn ⟨j, hj, s, hs, hh⟩
      obtain ⟨b, hb, s, hs, hns⟩ := hne
      have hbs : bad s := by
        rcases hw b s hs with h | h
        · exact h
        · rw [List.getElem?_append_left hb] at h; exact absurd h hns
      have hbl := (List.getElem?_eq_some_iff.1 hs).1
      refine ⟨r, b, hr r (by simp), by simp; omega, hb, fun t ht => ?_, fun j hj t ht => ?_⟩
      · rw [List.getElem?_append_left hbl, hs] at ht
        cases ht; exact hbs
      · rw [List.getElem?_append_left (by omega)] at ht
        rcases hw j t ht with h | h
        · exact .inl h
        · rw [List.getElem?_append_left (by omega)] at h; exact .inr h
end Go.Gx.Y

/-
  The journal: what its operations do to its state (no program in sight).
-/
namespace Go.Gx.Y
open Go.Gx
set_option linter.all false

theorem power_up {D : Dk} (h : D.down = false) : (D.power.1 = true ∧ D.power.2.down = false ∧ (D.fuse < 0 → D.power.2.fuse = D.fuse)) ∨ (D.power.1 = false ∧ D.power.2.down = true ∧ D.fuse = 0) := by
  unfold Dk.power
  by_cases h0 : D.fuse = 0
  · rw [if_pos h0]; exact .inr ⟨rfl, rfl, h0⟩
  · rw [if_neg h0]
    by_cases h1 : 0 < D.fuse
    · rw [if_pos h1]; exact .inl ⟨rfl, h, fun h2 => by omega⟩
    · rw [if_neg h1]; exact .inl ⟨rfl, h, fun _ => rfl⟩

theorem pad_self {s : List UInt8} (h : s.length = 64) : pad s = s := by unfold pad; rw [h]; simp

/-- one write -/
theorem write_cases {D : Dk} {at_ : Nat} {s : List UInt8} (hd : D.down = false) (ha : at_ < D.now.length) (hs : s.length ≤ 64) :
    (∃ D', D.write at_ s = (0, D') ∧ D'.down = false ∧ D'.last = D.last ∧ D'.pend = D.pend ++ [(at_, pad s)] ∧ D'.now = D.now.set at_ (pad s) ∧ (D.fuse < 0 → D'.fuse = D.fuse)) ∨
    (∃ D', D.write at_ s = (80, D') ∧ D'.down = true ∧ D'.last = D.last ∧ D'.pend = D.pend ∧ D'.now = D.now ∧ D.fuse = 0) := by
  unfold Dk.write
  rw [if_neg (by simp [hd]), if_neg (by omega), if_neg (by omega)]
  rcases power_up hd with ⟨h1, h2, h3⟩ | ⟨h1, h2, h3⟩
  · rw [if_pos h1]
    exact .inl ⟨_, rfl, h2, by simp, by simp, by simp, h3⟩
  · rw [if_neg (by simp [h1])]
    exact .inr ⟨_, rfl, h2, by simp, by simp, by simp, h3⟩

theorem writes_cases : ∀ (W : List Sec) (at_ : Nat) (D : Dk), D.down = false → (∀ s ∈ W, s.length = 64) → at_ + W.length ≤ D.now.length → D.now = D.flushed D.pend.length →
    ∃ i e D', D.writes W at_ = (e, D') ∧ i ≤ W.length ∧ D'.last = D.last ∧ D'.pend = D.pend ++ idx at_ (W.take i) ∧ D'.now = D.now.take at_ ++ W.take i ++ D.now.drop (at_ + i) ∧ D'.now = D'.flushed D'.pend.length ∧
      ((e = 0 ∧ i = W.length ∧ D'.down = false) ∨ (e = 80 ∧ i < W.length ∧ D'.down = true)) ∧ (D.fuse < 0 → e = 0 ∧ D'.fuse = D.fuse)
  | [], at_, D, hd, _, hl, hi => ⟨0, 0, D, rfl, Nat.le_refl _, rfl, by simp [idx], by simp, hi, .inl ⟨rfl, rfl, hd⟩, fun _ => ⟨rfl, rfl⟩⟩
  | s :: W, at_, D, hd, hs, hl, hi => by
    simp only [List.length_cons] at hl
    have hs1 := hs s (by simp)
    have hinv := Dk.write_inv hi at_ s
    rcases write_cases (s := s) hd (show at_ < D.now.length by omega) (by omega) with ⟨D1, e1, g1, g2, g3, g4, g5⟩ | ⟨D1, e1, g1, g2, g3, g4, g5⟩
    · rw [e1] at hinv
      obtain ⟨i, e, D', k1, k2, k3, k4, k5, k6, k7, k8⟩ := writes_cases W (at_ + 1) D1 g1 (fun x hx => hs x (by simp [hx])) (by rw [g4, List.length_set]; omega) hinv
      refine ⟨i + 1, e, D', ?_, by simp; omega, k3.trans g2, ?_, ?_, k6, ?_, fun hf => ?_⟩
      · simp only [Dk.writes, e1]
        rw [if_pos trivial]
        exact k1
      · rw [k4, g3, pad_self hs1]
        simp [idx]
      · rw [k5, g4, pad_self hs1]
        have hA : (D.now.take at_).length = at_ := by simp; omega
        have e2 : (D.now.set at_ s).take (at_ + 1) = D.now.take at_ ++ [s] := by
          rw [List.set_eq_take_append_cons_drop, if_pos (by omega), List.take_append_of_le_length_or' hA]
        have e3 : (D.now.set at_ s).drop (at_ + 1 + i) = D.now.drop (at_ + (i + 1)) := by
          rw [List.drop_set_of_lt (by omega)]
          congr 1
          omega
        rw [e2, e3]
        simp
      · rcases k7 with ⟨h1, h2, h3⟩ | ⟨h1, h2, h3⟩
        · exact .inl ⟨h1, by simp [h2], h3⟩
        · exact .inr ⟨h1, by simp; omega, h3⟩
      · have := g5 hf
        obtain ⟨h1, h2⟩ := k8 (by omega)
        exact ⟨h1, h2.trans this⟩
    · rw [e1] at hinv
      refine ⟨0, 80, D1, ?_, Nat.zero_le _, g2, by rw [g3]; simp [idx], by rw [g4]; simp, hinv, .inr ⟨rfl, by simp, g1⟩, fun hf => by omega⟩
      simp only [Dk.writes, e1]
      rfl
where
  List.take_append_of_le_length_or' {a : List Sec} {s : Sec} {b : List Sec} {n : Nat} (h : a.length = n) : (a ++ s :: b).take (n + 1) = a ++ [s] := by
    subst h
    rw [List.take_append, List.take_of_length_le (by omega)]
    simp

theorem encT_64 : ∀ (n : Nat) (r : List UInt8), ∀ s ∈ encT n r, s.length = 64
  | n + 1, r, s, hs => by
    simp only [encT, List.mem_cons] at hs
    rcases hs with rfl | hs
    · exact partOf_len _ _
    · exact encT_64 n _ s hs
theorem enc_64 (r : List UInt8) : ∀ s ∈ enc r, s.length = 64 := fun s hs => by
  simp only [enc, List.mem_cons] at hs
  rcases hs with rfl | hs
  · exact partOf_len _ _
  · exact encT_64 _ _ s hs
theorem encAll_64 (R : List (List UInt8)) : ∀ s ∈ encAll R, s.length = 64 := fun s hs => by
  unfold encAll at hs
  obtain ⟨l, hl, hs⟩ := List.mem_flatten.1 hs
  obtain ⟨r, _, rfl⟩ := List.mem_map.1 hl
  exact enc_64 r s hs
theorem encAll_split (Rs : List (List UInt8)) (k : Nat) : encAll Rs = encAll (Rs.take k) ++ encAll (Rs.drop k) := by
  rw [← encAll_app, List.take_append_drop]

/-- a record more -/
theorem live_append {D : Dk} {Rs : List (List UInt8)} {safe : Nat} {s : List UInt8} (h : Live D Rs safe []) (hd : D.down = false) (hs : s.length ≤ 20000) :
    ∃ e D', D.append (encAll Rs).length s = (e, D') ∧ D'.last.length = D.last.length ∧ (D.fuse < 0 → e ≠ 80 ∧ D'.fuse = D.fuse) ∧
      ((e = 0 ∧ Live D' (Rs ++ [s]) safe [] ∧ D'.down = false) ∨ (e = 80 ∧ (∃ P, Live D' Rs safe P) ∧ D'.down = true) ∨ (e = 82 ∧ D' = D ∧ D.last.length < (encAll Rs).length + manyOf s.length)) := by
  have hfits := h.fits
  simp only [List.length_nil, Nat.add_zero] at hfits
  unfold Dk.append
  rw [if_neg (by omega)]
  unfold Dk.put
  rw [if_neg (by simp [hd]), h.same]
  by_cases hfull : D.last.length - (encAll Rs).length < manyOf s.length
  · rw [if_pos hfull]
    exact ⟨82, D, rfl, rfl, fun _ => ⟨by simp, rfl⟩, .inr (.inr ⟨rfl, rfl, by omega⟩)⟩
  · rw [if_neg hfull]
    have hel := enc_len s
    obtain ⟨i, e, D', k1, k2, k3, k4, k5, k6, k7, k8⟩ := writes_cases (enc s) (encAll Rs).length D hd (enc_64 s) (by rw [h.same]; omega) h.inv
    have hnow := h.now
    simp only [List.append_nil, List.length_nil, Nat.add_zero] at hnow
    have hA : D.now.take (encAll Rs).length = encAll Rs := by rw [hnow, List.take_left' rfl]
    have hB : D.now.drop ((encAll Rs).length + i) = zeros (D.last.length - ((encAll Rs).length + i)) := by
      rw [← List.drop_drop, hnow, List.drop_left' rfl]
      unfold zeros
      rw [List.drop_replicate]
      congr 1
      omega
    rw [hA, hB] at k5
    have hpend := h.pend
    simp only [List.append_nil] at hpend
    have hbl : (encAll (Rs.take safe)).length + (encAll (Rs.drop safe)).length = (encAll Rs).length := by
      rw [encAll_split Rs safe, List.length_append]
    have hnl : D'.now.length = D.last.length := by
      have : D'.now.length = D.now.length := by
        rw [k5]
        simp [zeros]
        rw [h.same]
        omega
      rw [this, h.same]
    refine ⟨e, D', k1, by rw [k3], fun hf => ⟨by rw [(k8 hf).1]; simp, (k8 hf).2⟩, ?_⟩
    rcases k7 with ⟨rfl, rfl, h3⟩ | ⟨rfl, h2, h3⟩
    · left
      rw [List.take_length] at k4 k5
      have hts : (Rs ++ [s]).take safe = Rs.take safe := List.take_append_of_le_length h.le
      have hds : (Rs ++ [s]).drop safe = Rs.drop safe ++ [s] := List.drop_append_of_le_length h.le
      have he1 : encAll [s] = enc s := by simp [encAll]
      have hall : encAll (Rs ++ [s]) = encAll Rs ++ enc s := by rw [encAll_app, he1]
      refine ⟨rfl, ⟨by simp; have := h.le; omega, by rw [k3, hts]; exact h.last, by rw [hall, k3]; simp; omega, ?_, ?_, ?_, .inl rfl, fun _ => rfl, k6, by rw [hnl, k3]⟩, h3⟩
      · rw [k4, hpend, hts, hds, encAll_app, he1, List.append_nil, idx_app, hbl]
      · rw [k5, hall, k3]
        simp
      · intro r hr
        rcases List.mem_append.1 hr with hr | hr
        · exact h.small r hr
        · simp at hr; rw [hr]; exact hs
    · right; left
      have htl : ((enc s).take i).length = i := by simp; omega
      refine ⟨rfl, ⟨(enc s).take i, h.le, by rw [k3]; exact h.last, by rw [k3, htl]; omega, ?_, ?_, h.small, .inr ⟨s, hs, by rw [htl]; exact h2, fun j hj => ?_, by rw [k3, htl]; omega⟩, fun hh => absurd (h3.symm.trans hh) (by simp), k6, by rw [hnl, k3]⟩, h3⟩
      · rw [k4, hpend, idx_app, hbl]
      · rw [k5, k3, htl]
      · rw [htl] at hj
        rw [List.getElem?_take, if_pos hj]
end Go.Gx.Y

/-
  The journal: flushing, crashing, opening (no program in sight).
-/
namespace Go.Gx.Y
open Go.Gx
set_option linter.all false

theorem flush_cases {D : Dk} (hd : D.down = false) (hi : D.now = D.flushed D.pend.length) :
    (∃ D', D.flush = (0, D') ∧ D'.down = false ∧ D'.last = D.now ∧ D'.pend = [] ∧ D'.now = D.now ∧ (D.fuse < 0 → D'.fuse = D.fuse)) ∨
    (∃ D', D.flush = (80, D') ∧ D'.down = true ∧ D'.last = D.last ∧ D'.pend = D.pend ∧ D'.now = D.now ∧ D.fuse = 0) := by
  unfold Dk.flush
  rw [if_neg (by simp [hd])]
  rcases power_up hd with ⟨h1, h2, h3⟩ | ⟨h1, h2, h3⟩
  · rw [if_pos h1]
    exact .inl ⟨_, rfl, h2, hi.symm, rfl, by simp, h3⟩
  · rw [if_neg (by simp [h1])]
    exact .inr ⟨_, rfl, h2, by simp, by simp, by simp, h3⟩

theorem flushed_pend {D D' : Dk} (h1 : D'.last = D.last) (h2 : D'.pend = D.pend) (i : Nat) : D'.flushed i = D.flushed i := by
  unfold Dk.flushed
  rw [h1, h2]

/-- the same disk, as far as its sectors go -/
theorem Live.alike {D D' : Dk} {Rs : List (List UInt8)} {safe : Nat} {P : List Sec} (h : Live D Rs safe P) (h1 : D'.last = D.last) (h2 : D'.pend = D.pend) (h3 : D'.now = D.now) (h4 : D'.down = false → P = []) : Live D' Rs safe P :=
  ⟨h.le, by rw [h1]; exact h.last, by rw [h1]; exact h.fits, by rw [h2]; exact h.pend, by rw [h3, h1]; exact h.now, h.small, by rw [h1]; exact h.part, h4, by rw [h3, h2, flushed_pend h1 h2]; exact h.inv, by rw [h3, h1]; exact h.same⟩

theorem live_synced {D D' : Dk} {Rs : List (List UInt8)} {safe : Nat} (h : Live D Rs safe []) (h1 : D'.last = D.now) (h2 : D'.pend = []) (h3 : D'.now = D.now) : Live D' Rs Rs.length [] := by
  have hn := h.now
  simp only [List.append_nil, List.length_nil, Nat.add_zero] at hn
  have hf := h.fits
  simp only [List.length_nil, Nat.add_zero] at hf
  refine ⟨Nat.le_refl _, ?_, ?_, ?_, ?_, h.small, .inl rfl, fun _ => rfl, ?_, by rw [h3, h1]⟩
  · rw [h1, List.take_length, h.same]; exact hn
  · rw [h1, h.same]; simpa using hf
  · rw [h2, List.drop_length]; simp [encAll, idx]
  · rw [h3, h1, h.same]; simpa using hn
  · rw [h3, h2]; simp [Dk.flushed, h1]

theorem live_flush {D : Dk} {Rs : List (List UInt8)} {safe : Nat} {P : List Sec} (h : Live D Rs safe P) :
    ∃ e D', D.flush = (e, D') ∧ D'.last.length = D.last.length ∧ (D.down = false → D.fuse < 0 → e = 0 ∧ D'.fuse = D.fuse) ∧
      ((e = 0 ∧ D.down = false ∧ Live D' Rs Rs.length [] ∧ D'.down = false) ∨ (e = 80 ∧ Live D' Rs safe P ∧ D'.down = true)) := by
  cases hd : D.down with
  | true =>
    have e : D.flush = (80, D) := by unfold Dk.flush; rw [if_pos hd]
    exact ⟨80, D, e, rfl, (by simp), .inr ⟨rfl, h, hd⟩⟩
  | false =>
    rcases flush_cases hd h.inv with ⟨D', e, g1, g2, g3, g4, g5⟩ | ⟨D', e, g1, g2, g3, g4, g5⟩
    · have hP := h.whole hd
      subst hP
      exact ⟨0, D', e, by rw [g2, h.same], fun _ hf => ⟨rfl, g5 hf⟩, .inl ⟨rfl, rfl, live_synced h g2 g3 g4, g1⟩⟩
    · exact ⟨80, D', e, by rw [g2], fun _ hf => by omega, .inr ⟨rfl, h.alike g2 g3 g4 fun hh => absurd (g1.symm.trans hh) (by simp), g1⟩⟩

theorem live_stop {D : Dk} {Rs : List (List UInt8)} {safe : Nat} {P : List Sec} (h : Live D Rs safe P) (n : Int) : Live (D.stop n).2 Rs safe P ∧ (D.stop n).2.down = D.down ∧ (D.stop n).2.last.length = D.last.length := by
  unfold Dk.stop
  by_cases hd : D.down = true
  · rw [if_pos hd]; exact ⟨h, rfl, rfl⟩
  · rw [if_neg hd]
    by_cases hn : n < 0
    · rw [if_pos hn]; exact ⟨h, rfl, rfl⟩
    · rw [if_neg hn]; exact ⟨h.alike rfl rfl rfl h.whole, rfl, rfl⟩

theorem keepOf_cases {s : Sec} (hs : s.length = 64) (keep : List Int) (i : Nat) : tear zero64 s (keepOf keep i) = s ∨ bad (tear zero64 s (keepOf keep i)) := by
  have := keepOf_le keep i
  by_cases h : keepOf keep i = 64
  · rw [h]; exact .inl (tear_full hs)
  · exact .inr (.inr (tear_bad rfl hs (by omega) rfl))

/-- after a crash: the first records, all durable ones among them -/
theorem crash_live {D : Dk} {Rs : List (List UInt8)} {safe : Nat} {P : List Sec} (h : Live D Rs safe P) (hu : ∀ x ∈ D.pend, x.2.length = 64) (keep : List Int) :
    ∃ k, safe ≤ k ∧ k ≤ Rs.length ∧ Crashed (D.crash keep) (Rs.take k) ∧ (D.crash keep).last.length = D.last.length := by
  have hbl : (encAll (Rs.take safe)).length + (encAll (Rs.drop safe)).length = (encAll Rs).length := by
    rw [encAll_split Rs safe, List.length_append]
  have hW : ((encAll (Rs.drop safe)) ++ P).length = (encAll (Rs.drop safe)).length + P.length := List.length_append
  have hfits := h.fits
  have hpl : D.pend.length = ((encAll (Rs.drop safe)) ++ P).length := by rw [h.pend, idx_len]
  have ht := torn_live keep h.last h.pend (by omega) _ (Nat.le_refl _)
  have hWu : ∀ s ∈ encAll (Rs.drop safe) ++ P, s.length = 64 := fun s hs => by
    obtain ⟨i, hi⟩ := List.getElem?_of_mem hs
    have : D.pend[i]? = some ((encAll (Rs.take safe)).length + i, s) := by rw [h.pend, idx_get, hi]; rfl
    exact hu _ (List.mem_of_getElem? this)
  have htw : ∀ (j : Nat) (s : Sec), (tornW keep (encAll (Rs.drop safe) ++ P) ((encAll (Rs.drop safe)) ++ P).length)[j]? = some s → ∃ t, (encAll (Rs.drop safe) ++ P)[j]? = some t ∧ s = tear zero64 t (keepOf keep j) := fun j s hs => by
    have hj := (List.getElem?_eq_some_iff.1 hs).1
    rw [tornW_len] at hj
    rw [tornW_get _ _ hj] at hs
    refine ⟨_, List.getElem?_eq_getElem hj, ?_⟩
    have e : (encAll (Rs.drop safe) ++ P).getD j [] = (encAll (Rs.drop safe) ++ P)[j] := by
      rw [List.getD_eq_getElem?_getD, List.getElem?_eq_getElem hj]; rfl
    rw [e] at hs
    exact (Option.some.inj hs).symm
  have hP : P = [] ∧ (∃ n, zeros (D.last.length - ((encAll (Rs.take safe)).length + ((encAll (Rs.drop safe)) ++ P).length)) = zeros n) ∨ ∃ r : List UInt8, r.length < 16777216 ∧ P.length < (enc r).length ∧ (∀ j : Nat, j < P.length → P[j]? = (enc r)[j]?) ∧ ∃ n, zeros (D.last.length - ((encAll (Rs.take safe)).length + ((encAll (Rs.drop safe)) ++ P).length)) = zero64 :: zeros n := by
    rcases h.part with h1 | ⟨r, h1, h2, h3, h4⟩
    · exact .inl ⟨h1, _, rfl⟩
    · refine .inr ⟨r, by omega, h2, h3, D.last.length - ((encAll (Rs.take safe)).length + ((encAll (Rs.drop safe)) ++ P).length) - 1, ?_⟩
      unfold zeros
      rw [← List.replicate_succ]
      congr 1
      omega
  obtain ⟨k, Y, hk, he, hY⟩ := crash_shape (Rs.drop safe) P (tornW keep (encAll (Rs.drop safe) ++ P) ((encAll (Rs.drop safe)) ++ P).length) _ (tornW_len _ _ _) (fun j s hs => by
    obtain ⟨t, h1, h2⟩ := htw j s hs
    rcases keepOf_cases (hWu t (List.mem_of_getElem? h1)) keep j with h3 | h3
    · right; rw [h2, h3]; exact h1
    · left; rw [h2]; exact h3) (fun r hr => by have := h.small r (List.mem_of_mem_drop hr); omega) hP
  rw [List.append_assoc, he, ← hpl] at ht
  simp only [List.length_drop] at hk
  have hle := h.le
  have htk : Rs.take (safe + k) = Rs.take safe ++ (Rs.drop safe).take k := List.take_add
  have hnow : (D.crash keep).now = encAll (Rs.take (safe + k)) ++ Y := by
    show D.torn keep D.pend.length = _
    rw [ht, htk, encAll_app, List.append_assoc]
  refine ⟨safe + k, by omega, by omega, ⟨⟨Y, hnow, hY⟩, rfl, rfl, rfl, fun r hr => h.small r (List.mem_of_mem_take hr), fun x hx => ?_⟩, torn_len _ _ _⟩
  rw [hnow, htk, encAll_app, List.append_assoc, ← he] at hx
  rcases List.mem_append.1 hx with hx | hx
  · exact encAll_64 _ x hx
  · rcases List.mem_append.1 hx with hx | hx
    · obtain ⟨j, hj⟩ := List.getElem?_of_mem hx
      obtain ⟨t, h1, rfl⟩ := htw j x hj
      exact tear_len rfl (hWu t (List.mem_of_getElem? h1)) (keepOf_le _ _)
    · rw [(List.mem_replicate.1 hx).2]; rfl

/-! ## opening -/
theorem wipe_zero {D : Dk} : ∀ (k at_ : Nat), (∀ i, at_ ≤ i → i < at_ + k → D.now[i]? = some zero64) → D.wipe k at_ = D.flush
  | 0, at_, _ => rfl
  | k + 1, at_, h => by
    unfold Dk.wipe
    rw [if_pos (h at_ (Nat.le_refl _) (by omega))]
    exact wipe_zero k (at_ + 1) fun i h1 h2 => h i (by omega) (by omega)

theorem live_reads {D : Dk} {Rs : List (List UInt8)} {safe : Nat} (h : Live D Rs safe []) : Reads D.now Rs (encAll Rs).length ∧ D.wipe (D.now.length - (encAll Rs).length) (encAll Rs).length = D.flush := by
  have hn := h.now
  have hf := h.fits
  simp only [List.append_nil, List.length_nil, Nat.add_zero] at hn hf
  constructor
  · have := reads_enc (R := Rs) (Y := zeros (D.last.length - (encAll Rs).length)) (fun r hr => by have := h.small r hr; omega) (dead_zeros _)
    rw [← hn] at this
    exact this
  · refine wipe_zero _ _ fun i h1 h2 => ?_
    rw [hn, List.getElem?_append_right h1]
    unfold zeros
    rw [List.getElem?_replicate, if_pos (by rw [h.same] at h2; omega)]

theorem crashed_reads {D : Dk} {R : List (List UInt8)} (h : Crashed D R) : Reads D.now R (encAll R).length ∧ (encAll R).length ≤ D.now.length := by
  obtain ⟨Y, h1, h2⟩ := h.now
  rw [h1]
  exact ⟨reads_enc (fun r hr => by have := h.small r hr; omega) h2, by simp⟩

/-- a disk that went down while it was wiped -/
structure Half (D : Dk) (R : List (List UInt8)) : Prop where
  last : ∃ Y, D.last = encAll R ++ Y ∧ Dead Y
  pend : ∀ c ∈ D.pend, c.2 = zero64 ∧ (encAll R).length ≤ c.1
  down : D.down = true
  small : ∀ r ∈ R, r.length ≤ 20000
  u : ∀ x ∈ D.last, x.length = 64
  few : D.pend.length ≤ D.last.length

theorem wipe_cases : ∀ (k at_ : Nat) (D : Dk), D.down = false → at_ + k = D.now.length → D.now = D.flushed D.pend.length →
    ∃ e D', D.wipe k at_ = (e, D') ∧ (D.fuse < 0 → e = 0 ∧ D'.fuse = D.fuse) ∧
      ((e = 0 ∧ D'.down = false ∧ D'.pend = [] ∧ D'.last = D'.now ∧ D'.now = D.now.take at_ ++ zeros k) ∨
       (e = 80 ∧ D'.down = true ∧ D'.last = D.last ∧ ∃ zs, D'.pend = D.pend ++ zs ∧ zs.length ≤ k ∧ ∀ c ∈ zs, c.2 = zero64 ∧ at_ ≤ c.1))
  | 0, at_, D, hd, hl, hi => by
    unfold Dk.wipe
    rcases flush_cases hd hi with ⟨D', e, g1, g2, g3, g4, g5⟩ | ⟨D', e, g1, g2, g3, g4, g5⟩
    · refine ⟨0, D', e, fun hf => ⟨rfl, g5 hf⟩, .inl ⟨rfl, g1, g3, by rw [g2, g4], ?_⟩⟩
      rw [g4, List.take_of_length_le (by omega)]
      simp [zeros]
    · exact ⟨80, D', e, fun hf => by omega, .inr ⟨rfl, g1, g2, [], by rw [g3]; simp, by simp, by simp⟩⟩
  | k + 1, at_, D, hd, hl, hi => by
    have hlt : at_ < D.now.length := by omega
    have hz : zeros (k + 1) = zero64 :: zeros k := rfl
    have htk : ∀ (L : List Sec), L.take at_ = D.now.take at_ → L[at_]? = some zero64 → L.take (at_ + 1) ++ zeros k = D.now.take at_ ++ zeros (k + 1) := fun L h1 h2 => by
      rw [List.take_add_one, h1, h2, hz]
      simp
    unfold Dk.wipe
    by_cases hx : D.now[at_]? = some zero64
    · rw [if_pos hx]
      obtain ⟨e, D', k1, k2, k3⟩ := wipe_cases k (at_ + 1) D hd (by omega) hi
      refine ⟨e, D', k1, k2, ?_⟩
      rcases k3 with ⟨h1, h2, h3, h4, h5⟩ | ⟨h1, h2, h3, zs, h4, hz4, h5⟩
      · exact .inl ⟨h1, h2, h3, h4, h5.trans (htk _ rfl hx)⟩
      · exact .inr ⟨h1, h2, h3, zs, h4, by omega, fun c hc => ⟨(h5 c hc).1, by have := (h5 c hc).2; omega⟩⟩
    · rw [if_neg hx]
      have hinv := Dk.write_inv hi at_ []
      have hp0 : pad [] = zero64 := rfl
      rcases write_cases (s := []) hd hlt (by simp) with ⟨D1, e1, g1, g2, g3, g4, g5⟩ | ⟨D1, e1, g1, g2, g3, g4, g5⟩
      · rw [e1] at hinv
        simp only [e1]
        rw [if_pos trivial]
        obtain ⟨e, D', k1, k2, k3⟩ := wipe_cases k (at_ + 1) D1 g1 (by rw [g4, List.length_set]; omega) hinv
        refine ⟨e, D', k1, fun hf => by have := g5 hf; obtain ⟨h1, h2⟩ := k2 (by omega); exact ⟨h1, h2.trans this⟩, ?_⟩
        rcases k3 with ⟨h1, h2, h3, h4, h5⟩ | ⟨h1, h2, h3, zs, h4, hz4, h5⟩
        · refine .inl ⟨h1, h2, h3, h4, h5.trans (htk _ ?_ ?_)⟩
          · rw [g4, List.take_set_of_le (Nat.le_refl _)]
          · rw [g4, hp0, List.getElem?_set_self hlt]
        · refine .inr ⟨h1, h2, h3.trans g2, (at_, zero64) :: zs, by rw [h4, g3, hp0]; simp, by simp; omega, fun c hc => ?_⟩
          rcases List.mem_cons.1 hc with rfl | hc
          · exact ⟨rfl, Nat.le_refl _⟩
          · exact ⟨(h5 c hc).1, by have := (h5 c hc).2; omega⟩
      · simp only [e1]
        exact ⟨80, D1, rfl, fun hf => by omega, .inr ⟨rfl, g1, g2, [], by rw [g3]; simp, by simp, by simp⟩⟩

theorem crashed_open {D : Dk} {R : List (List UInt8)} (h : Crashed D R) :
    ∃ e D', D.wipe (D.now.length - (encAll R).length) (encAll R).length = (e, D') ∧ D'.last.length = D.last.length ∧ (D.fuse < 0 → e = 0 ∧ D'.fuse = D.fuse) ∧
      ((e = 0 ∧ Live D' R R.length [] ∧ D'.down = false) ∨ (e = 80 ∧ Half D' R)) := by
  obtain ⟨Y, h1, h2⟩ := h.now
  have hle := (crashed_reads h).2
  have hinv : D.now = D.flushed D.pend.length := by rw [h.pend]; simp [Dk.flushed, h.last]
  obtain ⟨e, D', k1, k2, k3⟩ := wipe_cases (D.now.length - (encAll R).length) (encAll R).length D h.up (by omega) hinv
  have htk : D.now.take (encAll R).length = encAll R := by rw [h1, List.take_left' rfl]
  rcases k3 with ⟨rfl, g1, g2, g3, g4⟩ | ⟨rfl, g1, g2, zs, g3, hz, g4⟩
  · rw [htk] at g4
    have hl : D'.last.length = D.last.length := by
      rw [g3, g4, h.last]; simp [zeros]; omega
    refine ⟨0, D', k1, hl, k2, .inl ⟨rfl, ⟨Nat.le_refl _, ?_, ?_, ?_, ?_, h.small, .inl rfl, fun _ => rfl, ?_, by rw [g3]⟩, g1⟩⟩
    · rw [List.take_length, hl, h.last, g3]; exact g4
    · rw [hl, h.last]; simpa using hle
    · rw [g2, List.drop_length]; simp [encAll, idx]
    · rw [hl, h.last]; simpa using g4
    · rw [g2]; simp [Dk.flushed, g3]
  · refine ⟨80, D', k1, by rw [g2], k2, .inr ⟨rfl, ⟨Y, by rw [g2, h.last, h1], h2⟩, fun c hc => ?_, g1, h.small, fun x hx => h.u x (by rw [g2, h.last] at hx; exact hx), by rw [g3, h.pend, g2, h.last]; simp; omega⟩⟩
    rw [g3, h.pend] at hc
    exact g4 c (by simpa using hc)
end Go.Gx.Y

/-
  The journal: a crash while it is wiped (no program in sight).
-/
namespace Go.Gx.Y
open Go.Gx
set_option linter.all false

theorem tear_zero {t : Sec} (ht : t.length = 64) {k : Nat} (hk : k ≤ 64) : (tear t zero64 k = t ∨ bad (tear t zero64 k)) ∧ (bad t → bad (tear t zero64 k)) := by
  by_cases h0 : k = 0
  · subst h0
    have e : tear t zero64 0 = t := by simp [tear]
    rw [e]
    exact ⟨.inl rfl, id⟩
  · have hb : byteAt (tear t zero64 k) 0 = 0 := by
      unfold tear
      have hl : (zero64.take k).length = k := by simp [zero64]; omega
      rw [byteAt_app (by omega), byteAt_lt (by omega)]
      simp [zero64]
    exact ⟨.inr (.inl hb), fun _ => .inl hb⟩

theorem dead_set {Y : List Sec} (h : Dead Y) (hu : ∀ x ∈ Y, x.length = 64) {q k : Nat} (hk : k ≤ 64) : Dead (Y.set q (tear (Y.getD q []) zero64 k)) := by
  by_cases hq : q < Y.length
  · rcases h with rfl | ⟨r, b, hr, hbY, hbe, hb, hj⟩
    · simp at hq
    · have hg : Y[q]? = some (Y.getD q []) := by rw [List.getD_eq_getElem?_getD, List.getElem?_eq_getElem hq]; rfl
      have ht := hu _ (List.mem_of_getElem? hg)
      generalize Y.getD q [] = t at hg ht
      obtain ⟨h1, h2⟩ := tear_zero ht hk
      refine .inr ⟨r, b, hr, by simpa using hbY, hbe, fun s hs => ?_, fun j hjb s hs => ?_⟩
      · rw [List.getElem?_set] at hs
        split at hs
        · rename_i e; subst e
          cases hs
          exact h2 (hb t hg)
        · exact hb s hs
      · rw [List.getElem?_set] at hs
        split at hs
        · rename_i e; subst e
          cases hs
          rcases hj q hjb t hg with h3 | h3
          · exact .inl (h2 h3)
          · rcases h1 with h1 | h1
            · rw [h1]; exact .inr h3
            · exact .inl h1
        · exact hj j hjb s hs
  · rw [List.set_eq_of_length_le (by omega)]
    exact h

theorem half_torn {D : Dk} {R : List (List UInt8)} (h : Half D R) (hr : ∀ c ∈ D.pend, c.1 < D.last.length) (keep : List Int) : ∀ i, ∃ Y, D.torn keep i = encAll R ++ Y ∧ Dead Y ∧ ∀ x ∈ D.torn keep i, x.length = 64
  | 0 => by
    obtain ⟨Y, h1, h2⟩ := h.last
    exact ⟨Y, h1, h2, h.u⟩
  | i + 1 => by
    obtain ⟨Y, h1, h2, h3⟩ := half_torn h hr keep i
    cases hc : D.pend[i]? with
    | none =>
      refine ⟨Y, ?_, h2, ?_⟩
      · simp only [Dk.torn, hc]; exact h1
      · simp only [Dk.torn, hc]; exact h3
    | some c =>
      have hcm := List.mem_of_getElem? hc
      obtain ⟨hc2, hc1⟩ := h.pend c hcm
      have hcr := hr c hcm
      have hl : (D.torn keep i).length = D.last.length := torn_len _ _ _
      rw [torn_succ hc, hc2]
      have hYu : ∀ x ∈ Y, x.length = 64 := fun x hx => h3 x (by rw [h1]; exact List.mem_append_right _ hx)
      have e1 : (D.torn keep i).getD c.1 [] = Y.getD (c.1 - (encAll R).length) [] := by
        rw [h1, List.getD_eq_getElem?_getD, List.getElem?_append_right hc1, List.getD_eq_getElem?_getD]
      have e2 : (D.torn keep i).set c.1 (tear ((D.torn keep i).getD c.1 []) zero64 (keepOf keep i)) = encAll R ++ Y.set (c.1 - (encAll R).length) (tear (Y.getD (c.1 - (encAll R).length) []) zero64 (keepOf keep i)) := by
        rw [e1, h1, List.set_append_right _ _ hc1]
      refine ⟨_, e2, dead_set h2 hYu (keepOf_le _ _), fun x hx => ?_⟩
      rcases List.mem_or_eq_of_mem_set hx with h5 | h5
      · exact h3 x h5
      · rw [h5]
        have : (D.torn keep i)[c.1]? = some ((D.torn keep i).getD c.1 []) := by
          rw [List.getD_eq_getElem?_getD, List.getElem?_eq_getElem (by omega)]; rfl
        exact tear_len (h3 _ (List.mem_of_getElem? this)) rfl (keepOf_le _ _)

theorem half_crash {D : Dk} {R : List (List UInt8)} (h : Half D R) (hr : ∀ c ∈ D.pend, c.1 < D.last.length) (keep : List Int) : Crashed (D.crash keep) R ∧ (D.crash keep).last.length = D.last.length := by
  obtain ⟨Y, h1, h2, h3⟩ := half_torn h hr keep D.pend.length
  exact ⟨⟨⟨Y, h1, h2⟩, rfl, rfl, rfl, h.small, h3⟩, torn_len _ _ _⟩

theorem new_crashed (k : Nat) : Crashed ⟨List.replicate k zero64, List.replicate k zero64, [], false, -1⟩ [] :=
  ⟨⟨List.replicate k zero64, by simp [encAll], dead_zeros k⟩, rfl, rfl, rfl, by simp, fun x hx => by rw [(List.mem_replicate.1 hx).2]; rfl⟩

/-- the first records are what is durable, and the rest: stopping and failing change nothing of it -/
theorem crashed_stop {D : Dk} {R : List (List UInt8)} (h : Crashed D R) (n : Int) : Crashed (D.stop n).2 R ∧ (D.stop n).2.last.length = D.last.length := by
  unfold Dk.stop
  rw [if_neg (by simp [h.up])]
  by_cases hn : n < 0
  · rw [if_pos hn]; exact ⟨h, rfl⟩
  · rw [if_neg hn]; exact ⟨⟨h.now, h.last, h.pend, h.up, h.small, h.u⟩, rfl⟩
end Go.Gx.Y

/-
  The journal in memory.
-/
namespace Go.Gx.Y
open Go.Gx
set_option linter.all false

theorem slAt_cs {S : AS} {e : TypeId} {v : Value} {cs : List Value} (h : SlAt S e v (sing cs)) : Cs S v cs := by
  have hs := h.src (sing_uni _) (by omega)
  rw [sing_len, sing_flat] at hs
  refine ⟨?_, hs, h.owns_lt⟩
  rcases h with ⟨rfl, h2⟩ | ⟨p, ex, rfl, _, _⟩
  · have : cs = [] := by
      have := congrArg List.length h2
      rw [sing_len] at this
      exact List.length_eq_zero_iff.1 this
    subst this
    exact ⟨_, _, rfl⟩
  · exact ⟨_, _, by rw [sing_len]⟩

theorem same_ok {S : AS} {v1 v2 : Value} {R1 R2 : List (List UInt8)} (h1 : Cs S v1 (R1.map str)) (h2 : Cs S v2 (R2.map str)) (hl : R1.length ≤ 1000000000) {Q : En → AS → Prop} (hq : Q (.ret (.bool (decide (R1 = R2)))) S) : Call G 22 [v1, v2] S Q := by
  refine call_run' (G := G) rfl (ext_none (by decide)) ?_
  obtain ⟨a1, c1, rfl⟩ := h1.shape
  obtain ⟨a2, c2, rfl⟩ := h2.shape
  by_cases hlen : R1.length = R2.length
  · simp [hlen]
    refine run_loop (fun k a S' => ∃ i, R2.length - i = k ∧ i ≤ R2.length ∧ S' = S ∧ R1.take i = R2.take i ∧ Has a 26 [(0, .slice a1 R2.length c1), (1, .slice a2 R2.length c2), (5, .int .i64 i)]) _ ⟨0, rfl, by omega, rfl, by simp, ⟨rfl, rfl, by simp⟩⟩ ?_
    rintro _ R hR _ S' ⟨i, rfl, hi, rfl, htk, ha⟩
    obtain ⟨z, rfl⟩ := ha.lit
    by_cases hlt : i < R2.length
    · have hw : IntKind.i64.wrap ((i : Int) + 1) = ((i + 1 : Nat) : Int) := by rw [wrap64 (by omega) (by omega)]; rfl
      obtain ⟨p, o, cells, e, wr, ex, e1, e2, e3, e4, e5⟩ := h1.idx (i := i) (j := .i64) (S' := S') (by simp; omega)
      obtain ⟨p2, o2, cells2, f, wr2, ex2, f1, f2, f3, f4, f5⟩ := h2.idx (i := i) (j := .i64) (S' := S') (by simp; omega)
      simp only [List.length_map, hlen, List.getElem_map] at e1 e5 f1 f5
      have hi1 : i < R1.length := by omega
      by_cases hx : R1[i] = R2[i]
      · rw [← hx] at f5
        simp [fillF, pickL, hlt, e1, e2, e5, f1, f2, f5, hw]
        refine hR _ _ _ (by omega) ⟨i + 1, rfl, by omega, rfl, ?_, ⟨rfl, rfl, by simp⟩⟩
        rw [List.take_add_one, List.take_add_one, htk, List.getElem?_eq_getElem hi1, List.getElem?_eq_getElem hlt, hx]
      · simp [fillF, pickL, hlt, e1, e2, e5, f1, f2, f5, hw, hx]
        have : decide (R1 = R2) = false := by
          simp
          intro hh
          subst hh
          exact hx rfl
        rw [this] at hq
        exact hq
    · obtain rfl : i = R2.length := by omega
      rw [← hlen, List.take_length, hlen, List.take_length] at htk
      rw [decide_eq_true htk] at hq
      simp [fillF, pickL]
      exact hq
  · have hne : ¬ (R1.length : Int) = (R2.length : Int) := by omega
    have : decide (R1 = R2) = false := by
      simp
      intro hh
      subst hh
      exact hlen rfl
    rw [this] at hq
    simp [hlen, hne]
    exact hq

/-- a journal and its disk, behind all that was there -/
structure Jn (S0 S : AS) (d l n : Nat) (pv : Value) (j : Nat) (D : Dk) (Rs : List (List UInt8)) : Prop where
  dk : Dsk S0 S d l n pv D
  jr : JAt S j d (encAll Rs).length Rs.length
  new : S0.next ≤ j
  lt : j < S.next
  apart : j ∉ fpOf d l n pv

theorem live_pend {S : AS} {d l n : Nat} {pv : Value} {D : Dk} {Rs : List (List UInt8)} {safe : Nat} {P : List Sec} (hd : DiskAt S d l n pv D) (h : Live D Rs safe P) : D.pend.length ≤ 65536 ∧ Rs.length ≤ 65536 ∧ (encAll Rs).length ≤ D.now.length := by
  have h1 := hd.big
  have h2 := h.fits
  have h3 : (encAll (Rs.take safe)).length + (encAll (Rs.drop safe)).length = (encAll Rs).length := by
    rw [encAll_split Rs safe, List.length_append]
  have h4 : D.pend.length = (encAll (Rs.drop safe)).length + P.length := by rw [h.pend, idx_len, List.length_append]
  have h5 := encAll_ge Rs
  have h6 := h.same
  omega

theorem append_jn {S0 S : AS} {d l n j : Nat} {pv : Value} {D : Dk} {Rs : List (List UInt8)} {safe : Nat} {s : List UInt8} (h : Jn S0 S d l n pv j D Rs) (hv : Live D Rs safe []) (hd : D.down = false) (hs : s.length ≤ 20000) {Q : En → AS → Prop}
    (hok : ∀ S' pv' D', Jn S0 S' d l n pv' j D' (Rs ++ [s]) → Live D' (Rs ++ [s]) safe [] → D'.down = false → D'.last.length = D.last.length → (D.fuse < 0 → D'.fuse = D.fuse) → Same S S' (j :: fpOf d l n pv) → (∀ m ∈ fpOf d l n pv', m ∈ fpOf d l n pv ∨ S.next ≤ m) → Q (.ret (.int .i64 0)) S')
    (hdn : ¬ D.fuse < 0 → ∀ S' pv' D' P, Jn S0 S' d l n pv' j D' Rs → Live D' Rs safe P → D'.down = true → D'.last.length = D.last.length → Same S S' (j :: fpOf d l n pv) → (∀ m ∈ fpOf d l n pv', m ∈ fpOf d l n pv ∨ S.next ≤ m) → Q (.ret (.int .i64 80)) S')
    (hfull : D.last.length < (encAll Rs).length + manyOf s.length → ∀ S' pv', Jn S0 S' d l n pv' j D Rs → Same S S' (j :: fpOf d l n pv) → (∀ m ∈ fpOf d l n pv', m ∈ fpOf d l n pv ∨ S.next ≤ m) → Q (.ret (.int .i64 82)) S') : Call G 19 [ptr j, str s] S Q := by
  obtain ⟨b1, b2, b3⟩ := live_pend h.dk.at_ hv
  obtain ⟨e, D', k1, k2, k3, k4⟩ := live_append hv hd hs
  have hall : encAll (Rs ++ [s]) = encAll Rs ++ enc s := by rw [encAll_app]; simp [encAll]
  have next : ∀ {S' : AS} {pv' : Value} {D' : Dk}, DiskAt S' d l n pv' D' → Same S S' (j :: fpOf d l n pv) → (∀ m ∈ fpOf d l n pv', m ∈ fpOf d l n pv ∨ S.next ≤ m) → Dsk S0 S' d l n pv' D' ∧ j < S'.next ∧ j ∉ fpOf d l n pv' := fun {S' pv' D'} h3 h4 h5 => by
    refine ⟨⟨h3, h.dk.same.trans h4 fun m hm hl => ?_, fun m hm => ?_⟩, Nat.lt_of_lt_of_le h.lt h4.1, fun hh => ?_⟩
    · rcases List.mem_cons.1 hm with rfl | hm
      · have := h.new; omega
      · have := h.dk.new m hm; omega
    · rcases h5 m hm with h6 | h6
      · exact h.dk.new m h6
      · exact Nat.le_trans h.dk.same.1 h6
    · rcases h5 j hh with h6 | h6
      · exact h.apart h6
      · have := h.lt; omega
  refine append_ok h.jr h.dk.at_ h.apart h.lt b3 (by omega) (by omega) (fun S' pv' h1 h2 h3 h4 h5 => ?_) (fun S' pv' h1 h2 h3 h4 h5 => ?_)
  · rw [k1] at h1 h3 ⊢
    obtain ⟨n1, n2, n3⟩ := next h3 h4 h5
    rcases k4 with ⟨rfl, _, _⟩ | ⟨rfl, ⟨P, hP⟩, hdd⟩ | ⟨rfl, rfl, hf⟩
    · exact absurd rfl h1
    · exact hdn (fun hf => absurd rfl (k3 hf).1) S' pv' D' P ⟨n1, h2, h.new, n2, n3⟩ hP hdd k2 h4 h5
    · exact hfull hf S' pv' ⟨n1, h2, h.new, n2, n3⟩ h4 h5
  · rw [k1] at h1 h3
    obtain ⟨n1, n2, n3⟩ := next h3 h4 h5
    simp only [] at h1
    subst h1
    rcases k4 with ⟨_, hl, hdd⟩ | ⟨h6, _⟩ | ⟨h6, _⟩
    · refine hok S' pv' D' ⟨n1, ?_, h.new, n2, n3⟩ hl hdd k2 (fun hf => (k3 hf).2) h4 h5
      rw [hall, List.length_append, enc_len, List.length_append]
      exact h2
    · cases h6
    · cases h6

theorem sync_jn {S0 S : AS} {d l n j : Nat} {pv : Value} {D : Dk} {Rs : List (List UInt8)} {safe : Nat} {P : List Sec} (h : Jn S0 S d l n pv j D Rs) (hv : Live D Rs safe P) {Q : En → AS → Prop}
    (hok : D.down = false → ∀ S' pv' D', Jn S0 S' d l n pv' j D' Rs → Live D' Rs Rs.length [] → D'.down = false → D'.last.length = D.last.length → (D.fuse < 0 → D'.fuse = D.fuse) → Same S S' (fpOf d l n pv) → (∀ m ∈ fpOf d l n pv', m ∈ fpOf d l n pv) → Q (.ret (.int .i64 0)) S')
    (hdn : ¬ (D.down = false ∧ D.fuse < 0) → ∀ S' pv' D', Jn S0 S' d l n pv' j D' Rs → Live D' Rs safe P → D'.down = true → D'.last.length = D.last.length → Same S S' (fpOf d l n pv) → (∀ m ∈ fpOf d l n pv', m ∈ fpOf d l n pv) → Q (.ret (.int .i64 80)) S') : Call G 20 [ptr j] S Q := by
  obtain ⟨b1, b2, b3⟩ := live_pend h.dk.at_ hv
  obtain ⟨e, D', k1, k2, k3, k4⟩ := live_flush hv
  refine sync_ok h.jr h.dk.at_ h.apart h.lt (by omega) fun S' pv' h1 h2 h3 h4 => ?_
  rw [k1] at h2 ⊢
  have hn : Jn S0 S' d l n pv' j D' Rs := ⟨h.dk.next h2 h3 fun x hx => .inl (h4 x hx), h1, h.new, Nat.lt_of_lt_of_le h.lt h3.1, fun hh => h.apart (h4 j hh)⟩
  rcases k4 with ⟨rfl, hd, hl, hdd⟩ | ⟨rfl, hl, hdd⟩
  · exact hok hd S' pv' D' hn hl hdd k2 (fun hf => (k3 hd hf).2) h3 h4
  · exact hdn (fun hh => by have := (k3 hh.1 hh.2).1; simp at this) S' pv' D' hn hl hdd k2 h3 h4

/-- opening a disk of which this can be read -/
theorem open_dsk {S0 S : AS} {d l n : Nat} {pv : Value} {D : Dk} {R : List (List UInt8)} (h : Dsk S0 S d l n pv D) (hr : Reads D.now R (encAll R).length) (hm : (encAll R).length ≤ D.now.length) (hpl : D.pend.length ≤ 65536) (hd : D.down = false) {Q : En → AS → Prop}
    (hbad : ∀ S' pv', (D.wipe (D.now.length - (encAll R).length) (encAll R).length).1 ≠ 0 → Dsk S0 S' d l n pv' (D.wipe (D.now.length - (encAll R).length) (encAll R).length).2 → Same S S' (fpOf d l n pv) → (∀ x ∈ fpOf d l n pv', x ∈ fpOf d l n pv ∨ S.next ≤ x) → Q (.ret (.tuple #[.pointer none, .slice none 0 0, .int .i64 (D.wipe (D.now.length - (encAll R).length) (encAll R).length).1])) S')
    (hok : ∀ S' pv' lv j, (D.wipe (D.now.length - (encAll R).length) (encAll R).length).1 = 0 → Jn S0 S' d l n pv' j (D.wipe (D.now.length - (encAll R).length) (encAll R).length).2 R → S.next ≤ j → SlAt S' 9 lv (sing (R.map str)) → (∀ x ∈ ownsOf lv, S.next ≤ x ∧ x ∉ fpOf d l n pv' ∧ x ≠ j) → Same S S' (fpOf d l n pv) → (∀ x ∈ fpOf d l n pv', x ∈ fpOf d l n pv ∨ S.next ≤ x) → Q (.ret (.tuple #[ptr j, lv, .int .i64 0])) S') : Call G 18 [ptr d] S Q := by
  have hbig := h.at_.big
  have hsame := h.at_.same
  have hge := encAll_ge R
  refine open_ok h.at_ hr hm (by omega) (by omega) (fun hh => absurd (hd.symm.trans hh) (by simp)) (fun S' pv' _ h1 h2 h3 h4 => ?_) (fun S' pv' lv _ h1 h2 h3 h4 h5 h6 h7 h8 h9 h10 => ?_)
  · exact hbad S' pv' h1 (h.next h2 h3 h4) h3 h4
  · exact hok S' pv' lv S.next h1 ⟨h.next h6 h7 h8, h2, h.same.1, h10, h3⟩ (Nat.le_refl _) h5 (fun x hx => ⟨(h9 x hx).1, (h9 x hx).2, fun hh => h4 (by rw [← hh]; exact hx)⟩) h7 h8

theorem crash_dsk2 {S0 S : AS} {d l n : Nat} {pv kv : Value} {D : Dk} {keep : List Int} (h : Dsk S0 S d l n pv D) (hk : Cs S kv (keep.map (.int .i64 ·))) (hsep : ∀ b ∈ ownsOf kv, b ∉ fpOf d l n pv) (hpl : D.pend.length ≤ 1000000000) {Q : En → AS → Prop}
    (hq : ∀ S' pv' v, Dsk S0 S' d l n pv' (D.crash keep) → Same S S' (fpOf d l n pv) → (∀ m ∈ fpOf d l n pv', m ∈ fpOf d l n pv) → Q (.ret v) S') : Call G 12 [ptr d, kv] S Q :=
  crash_ok h.at_ hk hsep hpl fun S' pv' v h1 h2 h3 => hq S' pv' v (h.next h1 h2 fun x hx => .inl (h3 x hx)) h2 h3
end Go.Gx.Y
