/-
  The journal: sectors of a record.
-/
import Derived.Test.YtegjacoooihpgaaPc
import Derived.Test.YtegjacoooihpgaaGg
import Derived.Test.YtegjacoooihpgaaPd

set_option linter.all false
set_option linter.deprecated false
set_option linter.unusedSimpArgs false
set_option linter.unusedVariables false

namespace Go.Gx.Y
open Go.Gx
set_option linter.all false

def pad59 (l : List UInt8) : List UInt8 := l ++ List.replicate (59 - l.length) 0
/-- a sector of a record -/
def partOf (mark : UInt8) (rest : List UInt8) : List UInt8 := [mark, UInt8.ofNat rest.length, UInt8.ofNat (rest.length / 256), UInt8.ofNat (rest.length / 65536)] ++ pad59 (rest.take 59) ++ [1]
theorem partOf_len (mark : UInt8) (rest : List UInt8) : (partOf mark rest).length = 64 := by simp [partOf, pad59]; omega

theorem wrap_u8 (n : Nat) : IntKind.u8.wrap (n : Int) = ((UInt8.ofNat n).toNat : Int) := by
  simp only [IntKind.wrap, IntKind.bits, IntKind.signed, UInt8.toNat_ofNat']
  simp

theorem spl_part0 {hd rest : List UInt8} (h4 : hd.length = 4) : spl (spl (hd ++ List.replicate 60 0) 4 (rest.take 59)) 63 [1] = hd ++ pad59 (rest.take 59) ++ [1] := by
  have hl : (rest.take 59).length ≤ 59 := by simp; omega
  have h1 : spl (hd ++ List.replicate 60 0) 4 (rest.take 59) = (hd ++ pad59 (rest.take 59)) ++ [0] := by
    unfold spl pad59
    rw [List.take_left' h4, ← List.drop_drop, List.drop_left' h4, List.drop_replicate, List.append_assoc, List.append_assoc, List.append_assoc]
    congr 2
    have : 60 - (rest.take 59).length = (59 - (rest.take 59).length) + 1 := by omega
    rw [this, List.replicate_succ']
  have h3 : (hd ++ pad59 (rest.take 59)).length = 63 := by simp [pad59, h4]; omega
  rw [h1]
  unfold spl
  rw [List.take_left' h3, List.drop_eq_nil_of_le (by simp [h3]; simp at h3; omega)]
  simp
theorem spl_part (mark : UInt8) (rest : List UInt8) : spl (spl ([mark, UInt8.ofNat rest.length, UInt8.ofNat (rest.length / 256), UInt8.ofNat (rest.length / 65536)] ++ List.replicate 60 0) 4 (rest.take 59)) 63 [1] = partOf mark rest := spl_part0 rfl

theorem part_ok {S : AS} {mark : UInt8} {rest : List UInt8} (hr : rest.length ≤ 1000000000) {Q : En → AS → Prop} (hq : ∀ S', Same S S' [] → S'.next = S.next + 2 → Q (.ret (.agg (bv (partOf mark rest)).toArray)) S') : Call G 50 [.int .u8 mark.toNat, str rest] S Q := by
  refine call_run' (G := G) rfl (ext_none (by decide)) ?_
  have w1 := wrap_u8 rest.length
  have w2 : IntKind.u8.wrap ((rest.length : Int) / 256) = ((UInt8.ofNat (rest.length / 256)).toNat : Int) := by rw [← wrap_u8]; rfl
  have w3 : IntKind.u8.wrap ((rest.length : Int) / 65536) = ((UInt8.ofNat (rest.length / 65536)).toNat : Int) := by rw [← wrap_u8]; rfl
  have hpl : placeIn (reps 64 (Value.int .u8 0)) [(0, [.int .u8 mark.toNat]), (1, [.int .u8 (IntKind.u8.wrap rest.length)]), (2, [.int .u8 (IntKind.u8.wrap ((rest.length : Int) / 256))]), (3, [.int .u8 (IntKind.u8.wrap ((rest.length : Int) / 65536))])] =
      some (bv ([mark, UInt8.ofNat rest.length, UInt8.ofNat (rest.length / 256), UInt8.ofNat (rest.length / 65536)] ++ List.replicate 60 0)) := by
    rw [w1, w2, w3]
    have e : reps 64 (Value.int .u8 0) = .int .u8 0 :: .int .u8 0 :: .int .u8 0 :: .int .u8 0 :: reps 60 (.int .u8 0) := rfl
    rw [e]
    simp [placeIn, splice, bv, reps]
  have hb : (bv ([mark, UInt8.ofNat rest.length, UInt8.ofNat (rest.length / 256), UInt8.ofNat (rest.length / 65536)] ++ List.replicate 60 0)).length = 64 := by rw [bv_len]; simp
  have hst : rowStore (reps 64 (Value.int .u8 0)) 0 (bv ([mark, UInt8.ofNat rest.length, UInt8.ofNat (rest.length / 256), UInt8.ofNat (rest.length / 65536)] ++ List.replicate 60 0)) = some (bv ([mark, UInt8.ofNat rest.length, UInt8.ofNat (rest.length / 256), UInt8.ofNat (rest.length / 65536)] ++ List.replicate 60 0)) := rowStore_all (by rw [hb]; rfl) (bv_ok _)
  have hsp := spl_part mark rest
  generalize [mark, UInt8.ofNat rest.length, UInt8.ofNat (rest.length / 256), UInt8.ofNat (rest.length / 65536)] ++ List.replicate 60 0 = base at hpl hb hst hsp
  rw [bv_len] at hb
  simp [hpl, hb, hst, bv_len, bndsV, bndV]
  refine runT_st (cpyV_into (cells := base) (e := 75) (ex := true) (by simp) srcCells_s (by omega)) fun S2 ⟨k2, k3, k4⟩ => ?_
  have hl1 : (spl base 4 (rest.take 59)).length = 64 := by simp [spl, hb]; omega
  have hst2 : rowStore (bv (spl base 4 (rest.take 59))) 63 [.int .u8 1] = some (bv (partOf mark rest)) := by
    have := splice_bv (spl base 4 (rest.take 59)) [1] 63
    rw [hsp] at this
    unfold rowStore
    rw [if_pos ⟨by rw [bv_len, hl1]; simp, rfl⟩]
    exact congrArg some this
  have hlo := rowLoad_all (cells := bv (partOf mark rest)) (k := 64) (by rw [bv_len, partOf_len])
  have hf4 : S2.get S.next = some (AObj.row (reps 64 (Value.int .u8 0)) 75 true true) := by
    rw [k3.2 S.next (by simp; omega) (by simp)]
    simp
  have hst3 : rowStore (reps 64 (Value.int .u8 0)) 0 (bv (partOf mark rest)) = some (bv (partOf mark rest)) := rowStore_all (by rw [bv_len, partOf_len]; rfl) (bv_ok _)
  simp [k2, hst2, hlo, hf4, bv_len, partOf_len, hst3]
  simp at k4
  refine hq _ ⟨by simp only [AS.next_put]; omega, fun m hm _ => ?_⟩ (by simp only [AS.next_put]; omega)
  rw [AS.get_put_ne _ _ (by omega), AS.get_put_ne _ _ (by omega), k3.2 m (by simp; omega) (by simp; omega)]
  have h1 : m ≠ S.next := by omega
  have h2 : m ≠ S.next + 1 := by omega
  simp [h1, h2]

/-- what a sector says is left -/
def szOf (s : List UInt8) : Nat := (byteAt s 1).toNat + (byteAt s 2).toNat * 256 + (byteAt s 3).toNat * 65536
def okMark (s : List UInt8) (mark : UInt8) : Bool := byteAt s 0 == mark && byteAt s 63 == 1

theorem size_ok {S : AS} {s : List UInt8} (hl : s.length = 64) {Q : En → AS → Prop} (hq : ∀ S', Same S S' [] → S'.next = S.next + 1 → Q (.ret (.int .i64 (szOf s))) S') : Call G 49 [.agg (bv s).toArray] S Q := by
  refine call_run' (G := G) rfl (ext_none (by decide)) ?_
  have g1 := bv_byte (l := s) (i := 1) (by omega)
  have g2 := bv_byte (l := s) (i := 2) (by omega)
  have g3 := bv_byte (l := s) (i := 3) (by omega)
  have b1 := (byteAt s 1).toNat_lt
  have b2 := (byteAt s 2).toNat_lt
  have b3 := (byteAt s 3).toNat_lt
  have e1 : IntKind.i64.wrap ((byteAt s 1).toNat : Int) = ((byteAt s 1).toNat : Int) := wrap64 (by omega) (by omega)
  have e2 : IntKind.i64.wrap ((byteAt s 2).toNat : Int) = ((byteAt s 2).toNat : Int) := wrap64 (by omega) (by omega)
  have e3 : IntKind.i64.wrap ((byteAt s 3).toNat : Int) = ((byteAt s 3).toNat : Int) := wrap64 (by omega) (by omega)
  unfold szOf at hq
  generalize byteAt s 1 = x1 at *
  generalize byteAt s 2 = x2 at *
  generalize byteAt s 3 = x3 at *
  have e4 : IntKind.i64.wrap ((x2.toNat : Int) * 256) = (x2.toNat : Int) * 256 := wrap64 (by omega) (by omega)
  have e5 : IntKind.i64.wrap ((x3.toNat : Int) * 65536) = (x3.toNat : Int) * 65536 := wrap64 (by omega) (by omega)
  have e6 : IntKind.i64.wrap ((x1.toNat : Int) + (x2.toNat : Int) * 256) = (x1.toNat : Int) + (x2.toNat : Int) * 256 := wrap64 (by omega) (by omega)
  have e7 : IntKind.i64.wrap ((x1.toNat : Int) + (x2.toNat : Int) * 256 + (x3.toNat : Int) * 65536) = (x1.toNat : Int) + (x2.toNat : Int) * 256 + (x3.toNat : Int) * 65536 := wrap64 (by omega) (by omega)
  simp [g1, g2, g3, e1, e2, e3, e4, e5, e6, e7]
  have := hq ((S.bump 1).put S.next (AObj.row (bv s) 75 true true)) ⟨by simp, fun m hm _ => by
    have : m ≠ S.next := by omega
    simp [this]⟩ (by simp)
  simpa using this

/-- a journal at its name -/
def JAt (S : AS) (j d : Nat) (next many : Int) : Prop := S.get j = some (.row [ptr d, .int .i64 next, .int .i64 many] 85 true true)

/-- the sector at a place, and whether it is a whole one with this mark -/
def wholeAt (now : List (List UInt8)) (at_ : Nat) (mark : UInt8) : List UInt8 × Bool :=
  match now[at_]? with
  | none => (zero64, false)
  | some s => (s, okMark s mark)

theorem u8_eq (a b : UInt8) : ((a.toNat : Int) = (b.toNat : Int)) = (a = b) := by
  apply propext
  constructor
  · intro h
    exact UInt8.toNat_inj.1 (by omega)
  · rintro rfl; rfl

theorem whole_ok {S : AS} {j d l n : Nat} {pv : Value} {D : Dk} {next many : Int} (hj : JAt S j d next many) (h : DiskAt S d l n pv D) (hjl : j < S.next) {at_ : Nat} {mark : UInt8} {Q : En → AS → Prop}
    (hq : ∀ S', Same S S' [] → S'.next ≤ S.next + 2 → Q (.ret (.tuple #[.agg (bv (wholeAt D.now at_ mark).1).toArray, .bool (wholeAt D.now at_ mark).2])) S') : Call G 48 [ptr j, .int .i64 at_, .int .u8 mark.toNat] S Q := by
  refine call_run' (G := G) rfl (ext_none (by decide)) ?_
  unfold JAt at hj
  have hlt := h.lt
  have hjn : j ≠ S.next := by omega
  have hdn : d ≠ S.next := by omega
  have hnn : n ≠ S.next := by omega
  have hn1 : n ≠ S.next + 1 := by omega
  have hz : (bv zero64).length = 64 := rfl
  have hst : ∀ x : List UInt8, x.length = 64 → rowStore (reps 64 (Value.int .u8 0)) 0 (bv x) = some (bv x) := fun x hx => rowStore_all (by rw [bv_len, hx]; rfl) (bv_ok _)
  have hst0 := hst zero64 rfl
  rw [← reps_zero] at hst0
  have hl0 := rowLoad_all (cells := reps 64 (Value.int .u8 0)) (k := 64) rfl
  by_cases hat : D.now.length ≤ at_
  · have e : wholeAt D.now at_ mark = (zero64, false) := by unfold wholeAt; rw [List.getElem?_eq_none hat]
    rw [e] at hq
    have hrl : (reps 64 (Value.int .u8 0)).length = 64 := rfl
    simp [hj, hjn, h.obj, hdn, hat, placeIn, hst0, hrl, hl0]
    rw [reps_zero]
    refine hq _ ⟨by simp, fun m hm _ => ?_⟩ (by simp)
    have : m ≠ S.next := by omega
    simp [this]
  · have hx : D.now[at_]? = some D.now[at_] := List.getElem?_eq_getElem (by omega)
    generalize D.now[at_] = x at hx
    have hxl := h.u2 x (List.mem_of_getElem? hx)
    have e : wholeAt D.now at_ mark = (x, okMark x mark) := by unfold wholeAt; rw [hx]
    rw [e] at hq
    have hu := uniBv h.u2
    have e5 := hu.load (i := at_) (l := bv x) (by rw [List.getElem?_map, hx]; rfl)
    have hat2 : at_ < D.now.length := by omega
    have hxs := hst x hxl
    have hbl : (bv x).length = 64 := by rw [bv_len, hxl]
    have hxa := rowLoad_all hbl
    have g0 := bv_byte (l := x) (i := 0) (by omega)
    have g63 := bv_byte (l := x) (i := 63) (by omega)
    have h1u : (1 : Int) = ((1 : UInt8).toNat : Int) := rfl
    have hn2 : S.next + 1 ≠ S.next := by omega
    by_cases hm : byteAt x 0 = mark
    · have hu1 : ((byteAt x 63).toNat : Int) = 1 ↔ byteAt x 63 = 1 := by rw [h1u, u8_eq]
      simp [hj, hjn, h.obj, hdn, hat, hat2, h.now, hnn, e5, hbl, hxs, g0, g63, hm, hxa, hn2, hn2.symm, hu1]
      have e9 : okMark x mark = decide (byteAt x 63 = 1) := by unfold okMark; rw [hm]; simp; rfl
      rw [e9] at hq
      refine hq _ ⟨by simp; omega, fun m hm _ => ?_⟩ (by simp)
      have h1 : m ≠ S.next := by omega
      have h2 : m ≠ S.next + 1 := by omega
      simp [h1, h2]
    · have hm' : ¬ (((byteAt x 0).toNat : Int) = (mark.toNat : Int)) := by rw [u8_eq]; exact hm
      simp [hj, hjn, h.obj, hdn, hat, hat2, h.now, hnn, e5, hbl, hxs, g0, g63, hm', hxa, hn2, hn2.symm]
      have e9 : okMark x mark = false := by unfold okMark; simp [hm]
      rw [e9] at hq
      refine hq _ ⟨by simp; omega, fun m hm _ => ?_⟩ (by simp)
      have h1 : m ≠ S.next := by omega
      have h2 : m ≠ S.next + 1 := by omega
      simp [h1, h2]
end Go.Gx.Y

/-
  The journal: what is read from sectors (no program in sight).
-/
namespace Go.Gx.Y
open Go.Gx
set_option linter.all false

abbrev Sec := List UInt8

/-- the bytes of a sector that belong to its record -/
def dataOf (s : Sec) (left : Nat) : List UInt8 := (s.drop 4).take (min left 59)

/-- the rest of a record, from a sector with the right mark on -/
def parseTail : Nat → List Sec → Option (List UInt8 × Nat)
  | _, [] => none
  | left, s :: rest =>
    if szOf s ≠ left then none else
    if left - min left 59 = 0 then some (dataOf s left, 1) else
    match rest with
    | [] => none
    | t :: _ => if okMark t 2 then (parseTail (left - min left 59) rest).map fun x => (dataOf s left ++ x.1, x.2 + 1) else none

/-- a record -/
def parse : List Sec → Option (List UInt8 × Nat)
  | [] => none
  | s :: rest => if okMark s 1 then parseTail (szOf s) (s :: rest) else none

theorem parse_cons (s : Sec) (rest : List Sec) : parse (s :: rest) = if okMark s 1 then parseTail (szOf s) (s :: rest) else none := rfl

/-- the sectors behind the first of a record -/
def encT : Nat → List UInt8 → List Sec
  | 0, _ => []
  | n + 1, r => partOf 2 r :: encT n (r.drop 59)
def manyOf (n : Nat) : Nat := max 1 ((n + 58) / 59)
/-- the sectors of a record -/
def enc (r : List UInt8) : List Sec := partOf 1 r :: encT (manyOf r.length - 1) (r.drop 59)
theorem encT_len : ∀ (n : Nat) (r : List UInt8), (encT n r).length = n
  | 0, _ => rfl
  | n + 1, r => by simp [encT, encT_len n]
theorem enc_len (r : List UInt8) : (enc r).length = manyOf r.length := by
  have : 1 ≤ manyOf r.length := by unfold manyOf; omega
  simp [enc, encT_len]; omega
theorem many_pos (n : Nat) : 1 ≤ manyOf n := by unfold manyOf; omega
def encAll (R : List (List UInt8)) : List Sec := (R.map enc).flatten

theorem byteAt_app {a b : List UInt8} {i : Nat} (h : i < a.length) : byteAt (a ++ b) i = byteAt a i := by
  rw [byteAt_lt (by simp; omega), byteAt_lt h, List.getElem_append_left h]
theorem part_0 (m : UInt8) (r : List UInt8) : byteAt (partOf m r) 0 = m := rfl
theorem part_63 (m : UInt8) (r : List UInt8) : byteAt (partOf m r) 63 = 1 := by
  have h3 : ([m, UInt8.ofNat r.length, UInt8.ofNat (r.length / 256), UInt8.ofNat (r.length / 65536)] ++ pad59 (r.take 59)).length = 63 := by simp [pad59]; omega
  unfold partOf
  rw [byteAt_lt (by simp only [List.length_append, h3]; simp), List.getElem_append_right (by omega)]
  simp [pad59]
theorem okMark_part (m k : UInt8) (r : List UInt8) : okMark (partOf m r) k = decide (m = k) := by
  unfold okMark
  rw [part_0, part_63]
  by_cases h : m = k <;> simp [h]
theorem sz_part {m : UInt8} {r : List UInt8} (h : r.length < 16777216) : szOf (partOf m r) = r.length := by
  have e1 : byteAt (partOf m r) 1 = UInt8.ofNat r.length := rfl
  have e2 : byteAt (partOf m r) 2 = UInt8.ofNat (r.length / 256) := rfl
  have e3 : byteAt (partOf m r) 3 = UInt8.ofNat (r.length / 65536) := rfl
  unfold szOf
  rw [e1, e2, e3]
  simp only [UInt8.toNat_ofNat']
  omega
theorem data_part (m : UInt8) (r : List UInt8) : dataOf (partOf m r) r.length = r.take 59 := by
  unfold dataOf partOf
  have h4 : ([m, UInt8.ofNat r.length, UInt8.ofNat (r.length / 256), UInt8.ofNat (r.length / 65536)] : List UInt8).length = 4 := rfl
  rw [List.append_assoc, List.drop_left' h4]
  unfold pad59
  rw [List.append_assoc, List.take_append_of_le_length (by simp; omega), List.take_take]
  by_cases h : r.length ≤ 59
  · rw [List.take_of_length_le (by omega), List.take_of_length_le h]
  · rw [Nat.min_eq_right (by omega)]

theorem many_step {n : Nat} (h : 59 < n) : manyOf n = manyOf (n - 59) + 1 := by unfold manyOf; omega
theorem many_one {n : Nat} (h : n ≤ 59) : manyOf n = 1 := by unfold manyOf; omega

theorem parseTail_part : ∀ (k : Nat) (m : UInt8) (r : List UInt8) (Y : List Sec), manyOf r.length = k + 1 → r.length < 16777216 → parseTail r.length (partOf m r :: (encT k (r.drop 59) ++ Y)) = some (r, k + 1)
  | 0, m, r, Y, hk, hr => by
    have h59 : r.length ≤ 59 := by unfold manyOf at hk; omega
    unfold parseTail
    rw [if_neg (by rw [sz_part hr]; simp), if_pos (by omega), data_part, List.take_of_length_le h59]
  | k + 1, m, r, Y, hk, hr => by
    have h59 : 59 < r.length := by
      rcases Nat.lt_or_ge 59 r.length with h | h
      · exact h
      · rw [many_one h] at hk; omega
    have hk2 := many_step h59
    have hd : (r.drop 59).length = r.length - 59 := by simp
    have ih := parseTail_part k 2 (r.drop 59) Y (by rw [hd]; omega) (by rw [hd]; omega)
    unfold parseTail
    rw [if_neg (by rw [sz_part hr]; simp), if_neg (by omega)]
    simp only [encT, List.cons_append]
    rw [okMark_part, if_pos (by simp), Nat.min_eq_right (by omega), ← hd, ih, data_part]
    simp

theorem parse_enc {r : List UInt8} (Y : List Sec) (hr : r.length < 16777216) : parse (enc r ++ Y) = some (r, (enc r).length) := by
  have h1 := many_pos r.length
  rw [enc_len]
  unfold enc
  rw [List.cons_append, parse_cons, okMark_part, if_pos (by simp), sz_part hr, parseTail_part (manyOf r.length - 1) 1 r Y (by omega) hr]
  congr 2
  omega

/-- nothing is read from such a sector -/
def bad (s : Sec) : Prop := byteAt s 0 = 0 ∨ byteAt s 63 = 0
theorem bad_mark {s : Sec} (h : bad s) {m : UInt8} (hm : m ≠ 0) : okMark s m = false := by
  unfold okMark
  rcases h with h | h
  · rw [h]; simp; intro h2; exact absurd h2.symm hm
  · rw [h]; simp
theorem bad_zero : bad zero64 := .inl rfl

/-- nothing is read from here -/
def Dead (Y : List Sec) : Prop := Y = [] ∨ ∃ (r : List UInt8) (b : Nat), r.length < 16777216 ∧ b < Y.length ∧ b < (enc r).length ∧ (∀ s, Y[b]? = some s → bad s) ∧ ∀ j, j < b → (∀ s, Y[j]? = some s → bad s ∨ (enc r)[j]? = some s)

theorem dead_zeros (n : Nat) : Dead (List.replicate n zero64) := by
  cases n with
  | zero => exact .inl rfl
  | succ n => exact .inr ⟨[], 0, by simp, by simp, by rw [enc_len]; exact many_pos _, fun s hs => by simp at hs; rw [← hs]; exact bad_zero, fun j hj => by omega⟩

theorem parseTail_dead : ∀ (b k : Nat) (m : UInt8) (r : List UInt8) (Y : List Sec), manyOf r.length = k + 1 → r.length < 16777216 → b < k → b < Y.length → (∀ s, Y[b]? = some s → bad s) → (∀ j, j < b → ∀ s, Y[j]? = some s → bad s ∨ (encT k (r.drop 59))[j]? = some s) →
    parseTail r.length (partOf m r :: Y) = none
  | b, 0, m, r, Y, hk, hr, hbk, _, _, _ => by omega
  | b, k + 1, m, r, Y, hk, hr, hbk, hbY, hb, hj => by
    have h59 : 59 < r.length := by
      rcases Nat.lt_or_ge 59 r.length with h | h
      · exact h
      · rw [many_one h] at hk; omega
    have hk2 := many_step h59
    have hd : (r.drop 59).length = r.length - 59 := by simp
    match Y, hbY with
    | t :: Y', hbY =>
      unfold parseTail
      rw [if_neg (by rw [sz_part hr]; simp), if_neg (by omega)]
      simp only []
      by_cases htb : bad t
      · rw [bad_mark htb (by decide)]
        rfl
      · cases b with
        | zero => exact absurd (hb t rfl) htb
        | succ b =>
          have ht : t = partOf 2 (r.drop 59) := by
            rcases hj 0 (by omega) t rfl with h | h
            · exact absurd h htb
            · simp [encT] at h; exact h.symm
          have ih := parseTail_dead b k 2 (r.drop 59) Y' (by rw [hd]; omega) (by rw [hd]; omega) (by omega) (by simpa using hbY) (fun s hs => hb s (by simpa using hs)) (fun j hjb s hs => by
            have := hj (j + 1) (by omega) s (by simpa using hs)
            simpa [encT] using this)
          rw [Nat.min_eq_right (by omega), ← hd, ht, ih]
          split <;> rfl

theorem parse_dead {Y : List Sec} (h : Dead Y) : parse Y = none := by
  rcases h with rfl | ⟨r, b, hr, hbY, hbe, hb, hj⟩
  · rfl
  · match Y, hbY with
    | s :: Y', hbY =>
      rw [parse_cons]
      by_cases hs : bad s
      · rw [bad_mark hs (by decide)]; rfl
      · cases b with
        | zero => exact absurd (hb s rfl) hs
        | succ b =>
          have hs2 : s = partOf 1 r := by
            rcases hj 0 (by omega) s rfl with h | h
            · exact absurd h hs
            · simp [enc] at h; exact h.symm
          have h1 := many_pos r.length
          rw [enc_len] at hbe
          rw [hs2, sz_part hr, parseTail_dead b (manyOf r.length - 1) 1 r Y' (by omega) hr (by omega) (by simpa using hbY) (fun s hs => hb s (by simpa using hs)) (fun j hjb s hs => by
            have := hj (j + 1) (by omega) s (by simpa using hs)
            simpa [enc] using this)]
          split <;> rfl
end Go.Gx.Y

/-
  The journal: reading a record.
-/
namespace Go.Gx.Y
open Go.Gx
set_option linter.all false

theorem dataOf_bv (s : Sec) (left : Nat) : ((bv s).drop 4).take (min left 59) = bv (dataOf s left) := by
  unfold dataOf; rw [bv_drop, bv_take]
theorem dataOf_len {s : Sec} (hs : s.length = 64) (left : Nat) : (dataOf s left).length = min left 59 := by simp [dataOf, hs]

theorem sz_lt (s : Sec) : szOf s < 16777216 := by
  have b1 := (byteAt s 1).toNat_lt
  have b2 := (byteAt s 2).toNat_lt
  have b3 := (byteAt s 3).toNat_lt
  unfold szOf
  omega

theorem whole_cells {D : Dk} (h : ∀ x ∈ D.now, x.length = 64) (at_ : Nat) (m : UInt8) : (bv (wholeAt D.now at_ m).1).length = 64 := by
  rw [bv_len]
  unfold wholeAt
  cases hx : D.now[at_]? with
  | none => rfl
  | some x => exact h x (List.mem_of_getElem? hx)

set_option maxHeartbeats 1000000 in
theorem jread_ok {S : AS} {j d l n : Nat} {pv : Value} {D : Dk} {next many : Int} (hj : JAt S j d next many) (h : DiskAt S d l n pv D) (hjl : j < S.next) {at_ : Nat} (hat : at_ ≤ 100000) {Q : En → AS → Prop}
    (hs : ∀ S' r k, parse (D.now.drop at_) = some (r, k) → Same S S' [] → Q (.ret (.tuple #[str r, .int .i64 (at_ + k : Nat), .bool true])) S')
    (hn : ∀ S' a, parse (D.now.drop at_) = none → Same S S' [] → Q (.ret (.tuple #[str [], .int .i64 a, .bool false])) S') : Call G 39 [ptr j, .int .i64 at_] S Q := by
  refine call_run' (G := G) rfl (ext_none (by decide)) ?_
  simp
  refine whole_ok (S := S.bump 1) (mark := 1) (by unfold JAt at hj ⊢; simpa using hj) (h.stays (same_bump _ _ []) (by simp)) (by simp; omega) fun S1 hs1 hn1 => ?_
  have hcl := whole_cells h.u2 at_ 1
  have hst := fun (x : Sec) (hx : (bv x).length = 64) => rowStore_all (cells := reps 64 (Value.int .u8 0)) (vs := bv x) (by rw [hx]; rfl) (bv_ok _)
  have hst1 := hst _ hcl
  have hSs : Same S S1 [] := (same_bump S 1 []).trans hs1 (by simp)
  have hc1 : S.next < S1.next := by have := hs1.1; simp at this; omega
  simp [hcl, hst1]
  cases hx : D.now[at_]? with
  | none =>
    have e : wholeAt D.now at_ 1 = (zero64, false) := by unfold wholeAt; rw [hx]
    simp [e]
    refine hn _ _ ?_ ⟨by simp; omega, fun m hm _ => ?_⟩
    · rw [List.drop_eq_nil_of_le (List.getElem?_eq_none_iff.1 hx)]; rfl
    · have h1 : m ≠ S.next := by omega
      simp [h1]
      exact hSs.2 m hm (by simp)
  | some s =>
    have hsl := h.u2 s (List.mem_of_getElem? hx)
    have hlt := (List.getElem?_eq_some_iff.1 hx).1
    have hdrop : D.now.drop at_ = s :: D.now.drop (at_ + 1) := by
      rw [List.drop_eq_getElem_cons hlt]
      congr 1
      exact (List.getElem?_eq_some_iff.1 hx).2
    have e : wholeAt D.now at_ 1 = (s, okMark s 1) := by unfold wholeAt; rw [hx]
    simp [e]
    cases hok : okMark s 1 with
    | false =>
      simp
      refine hn _ _ ?_ ⟨by simp; omega, fun m hm _ => ?_⟩
      · rw [hdrop, parse_cons, hok]; rfl
      · have h1 : m ≠ S.next := by omega
        simp [h1]
        exact hSs.2 m hm (by simp)
    | true =>
      have hlo := rowLoad_all (cells := bv s) (k := 64) (by rw [bv_len, hsl])
      simp [hlo]
      have hT : Same S ((S1.put S.next (AObj.row (reps 64 (Value.int .u8 0)) 75 true true)).put S.next (AObj.row (bv s) 75 true true)) [] := ⟨by simp; omega, fun m hm _ => by
        have h1 : m ≠ S.next := by omega
        simp [h1]
        exact hSs.2 m hm (by simp)⟩
      have hTc : ((S1.put S.next (AObj.row (reps 64 (Value.int .u8 0)) 75 true true)).put S.next (AObj.row (bv s) 75 true true)).get S.next = some (AObj.row (bv s) 75 true true) := by simp
      have hTn : S.next < ((S1.put S.next (AObj.row (reps 64 (Value.int .u8 0)) 75 true true)).put S.next (AObj.row (bv s) 75 true true)).next := by simp; omega
      generalize ((S1.put S.next (AObj.row (reps 64 (Value.int .u8 0)) 75 true true)).put S.next (AObj.row (bv s) 75 true true)) = U at hT hTc hTn ⊢
      refine size_ok hsl fun S2 hs2 hn2 => ?_
      simp
      refine run_loop (fun k a S' => ∃ at' left acc s' bw, left = k ∧ D.now[at']? = some s' ∧ Same S S' [] ∧ S'.get S.next = some (.row (bv s') 75 true true) ∧ SlAt S' 5 bw (sing (bv acc)) ∧ (∀ x ∈ ownsOf bw, S.next < x) ∧ S.next < S'.next ∧ acc.length + left < 16777216 ∧ at_ ≤ at' ∧
        parse (D.now.drop at_) = (parseTail left (D.now.drop at')).map (fun x => (acc ++ x.1, (at' - at_) + x.2)) ∧ Has a 54 [(0, ptr j), (1, .int .i64 at'), (7, ptr S.next), (9, .int .i64 left), (10, bw)]) _
        ⟨at_, szOf s, [], s, .slice none 0 0, rfl, hx, hT.trans hs2 (by simp), (hs2.2 _ hTn (by simp)).trans hTc, .inl ⟨rfl, rfl⟩, by simp [ownsOf], by omega, by have := sz_lt s; simpa using this, Nat.le_refl _, by
          rw [hdrop, parse_cons, hok]
          simp, ⟨rfl, rfl, by simp⟩⟩ ?_
      rintro _ R hR _ S3 ⟨at', left, acc, s', bw, rfl, hx', hS3, hc3, hbw, hbo, hn3, hsum, hle, hpe, ha⟩
      obtain ⟨z, rfl⟩ := ha.lit
      have hsl' := h.u2 s' (List.mem_of_getElem? hx')
      have hlt' := (List.getElem?_eq_some_iff.1 hx').1
      have hbig := h.big
      have hsame := h.same
      have hlo' := rowLoad_all (cells := bv s') (k := 64) (by rw [bv_len, hsl'])
      have hdrop' : D.now.drop at' = s' :: D.now.drop (at' + 1) := by
        rw [List.drop_eq_getElem_cons hlt']
        congr 1
        exact (List.getElem?_eq_some_iff.1 hx').2
      simp [fillF, pickL, hc3, hlo']
      refine size_ok hsl' fun S4 hs4 hn4 => ?_
      have hS4 := hS3.trans hs4 (by simp)
      by_cases hsz : szOf s' = left
      · have hw1 : IntKind.i64.wrap ((at' : Int) + 1) = ((at' + 1 : Nat) : Int) := by rw [wrap64 (by omega) (by omega)]; rfl
        obtain ⟨w, hw, hw59, hwl⟩ : ∃ w : Nat, w = min left 59 ∧ w ≤ 59 ∧ w ≤ left := ⟨_, rfl, by omega, by omega⟩
        have hmn : min (left : Int) 59 = (w : Int) := by omega
        have hw2 : IntKind.i64.wrap (4 + (w : Int)) = 4 + (w : Int) := wrap64 (by omega) (by omega)
        have hw3 : IntKind.i64.wrap ((left : Int) - (w : Int)) = ((left - w : Nat) : Int) := by rw [wrap64 (by omega) (by omega)]; omega
        have hbd : bndsV 64 64 (some (.int .i64 4)) (some (.int .i64 (4 + (w : Int)))) none = some (4, 4 + w, 64) := by
          exact bnds_mid (a := 4) (b := 4 + w) (by omega) (by omega)
        have hdl : (dataOf s' left).length = w := by rw [dataOf_len hsl', hw]
        have hc4 : S4.get S.next = some (.row (bv s') 75 true true) := (hs4.2 _ hn3 (by simp)).trans hc3
        have hcb : (S4.bump 1).get S.next = some (.row (bv s') 75 true true) := by simpa using hc4
        have hsrc : srcCells (S4.bump 1) 1 (.slice (some ⟨S.next, 4, none⟩) w 60) = some ((bv (dataOf s' left)).length, bv (dataOf s' left)) := by
          rw [bv_len, hdl]
          simp only [srcCells, Nat.mul_one, hcb]
          split
          · rename_i h0
            have : dataOf s' left = [] := List.length_eq_zero_iff.1 (by omega)
            rw [this, h0]; rfl
          · rw [if_pos (by rw [bv_len, hsl']; omega)]
            rw [hw, dataOf_bv]
        have hbw4 := hbw.stays ((hs4.trans (same_bump S4 1 []) (by simp)) : Same S3 (S4.bump 1) []) (by simp)
        have hown := hbw.owns_lt
        simp [hsz, foldV, hmn, hw1, hw2, hw3, hbd]
        have hn34 := hs4.1
        refine runT_ex (appV_cells hbw4 hsrc (bv_ok _) (by rw [bv_len, bv_len, hdl]; omega) (by omega) (by simp) (fun hh => by have := hown _ hh; omega)) fun bw' S5 ⟨g1, g2, g3, g4⟩ => ?_
        rw [← bv_append] at g1
        have hgo : ∀ x ∈ ownsOf bw', S.next < x := fun x hx => by
          rcases g4 x hx with h1 | h1
          · exact hbo x h1
          · omega
        have g3' : S5.next = S4.next + 1 := by rw [g3]; simp
        have hS5 : Same S S5 [] := by
          have h1 : Same S (S4.bump 1) [] := hS4.trans (same_bump S4 1 []) (by simp)
          refine h1.trans g2 fun x hx hl => ?_
          rcases List.mem_cons.1 hx with rfl | hx
          · omega
          · have := hbo x hx; omega
        have hc5 : S5.get S.next = some (.row (bv s') 75 true true) := by
          rw [g2.2 S.next (by simp; omega) (by simp; exact ⟨by omega, fun hh => by have := hbo _ hh; omega⟩)]
          exact hcb
        have hal : (acc ++ dataOf s' left).length = acc.length + w := by rw [List.length_append, hdl]
        by_cases hz : left - w = 0
        · have hsrc5 := g1.src (sing_uni _) (by omega)
          rw [sing_len, sing_flat, bv_len] at hsrc5
          obtain ⟨ba, bl, bc, rfl⟩ : ∃ ba bl bc, bw' = .slice ba bl bc := by
            rcases g1 with ⟨h, _⟩ | ⟨p, ex, h, _⟩ <;> exact ⟨_, _, _, h⟩
          have hz' : ((left - w : Nat) : Int) = 0 := by omega
          simp [hw3, hz, hsrc5, hz']
          have hp : parse (D.now.drop at_) = some (acc ++ dataOf s' left, at' + 1 - at_) := by
            rw [hpe, hdrop']
            unfold parseTail
            rw [if_neg (by simp [hsz]), if_pos (by omega)]
            simp
            omega
          have := hs S5 _ _ hp hS5
          have e : at_ + (at' + 1 - at_) = at' + 1 := by omega
          rw [e] at this
          simpa using this
        · have hz' : ¬ ((left - w : Nat) : Int) = 0 := by omega
          simp [hw3, hz, hz']
          have hj5 : JAt S5 j d next many := (hS5.2 j hjl (by simp)).trans hj
          have hcl6 := whole_cells h.u2 (at' + 1) 2
          have hst6 := hst _ hcl6
          refine whole_ok (S := S5) (at_ := at' + 1) (mark := 2) hj5 (h.stays hS5 (by simp)) (by have := hS5.1; omega) fun S6 hs6 hn6 => ?_
          have hS6 := hS5.trans hs6 (by simp)
          have hn56 := hs6.1
          have hc6 : S6.get S.next = some (.row (bv s') 75 true true) := (hs6.2 _ (by omega) (by simp)).trans hc5
          have hst7 : rowStore (bv s') 0 (bv (wholeAt D.now (at' + 1) 2).1) = some (bv (wholeAt D.now (at' + 1) 2).1) := rowStore_all (by rw [hcl6, bv_len, hsl']) (bv_ok _)
          simp [hc6, hcl6, hst7]
          have hS7 : Same S (S6.put S.next (AObj.row (bv (wholeAt D.now (at' + 1) 2).1) 75 true true)) [] := hS6.trans (same_put _ _ _) (by simp)
          have hp1 : parse (D.now.drop at_) = (match D.now.drop (at' + 1) with | [] => none | t :: _ => if okMark t 2 then (parseTail (left - w) (D.now.drop (at' + 1))).map (fun x => ((acc ++ dataOf s' left) ++ x.1, (at' + 1 - at_) + x.2)) else none) := by
            rw [hpe, hdrop']
            unfold parseTail
            rw [if_neg (by simp [hsz]), if_neg (by omega), ← hw]
            cases D.now.drop (at' + 1) with
            | nil => rfl
            | cons t T =>
              simp only []
              cases okMark t 2
              · rfl
              · simp only [if_true, Option.map_map]
                congr 1
                funext x
                simp only [Function.comp, List.append_assoc, Prod.mk.injEq, true_and]
                omega
          cases hx6 : D.now[at' + 1]? with
          | none =>
            have e6 : wholeAt D.now (at' + 1) 2 = (zero64, false) := by unfold wholeAt; rw [hx6]
            rw [e6] at hS7 ⊢
            simp
            refine hn _ _ ?_ hS7
            rw [hp1, List.drop_eq_nil_of_le (List.getElem?_eq_none_iff.1 hx6)]
          | some t =>
            have hlt6 := (List.getElem?_eq_some_iff.1 hx6).1
            have hdrop6 : D.now.drop (at' + 1) = t :: D.now.drop (at' + 1 + 1) := by
              rw [List.drop_eq_getElem_cons hlt6]
              congr 1
              exact (List.getElem?_eq_some_iff.1 hx6).2
            have e6 : wholeAt D.now (at' + 1) 2 = (t, okMark t 2) := by unfold wholeAt; rw [hx6]
            rw [e6] at hS7 ⊢
            cases hok6 : okMark t 2 with
            | false =>
              simp
              refine hn _ _ ?_ hS7
              rw [hp1, hdrop6]
              simp only [hok6]
              rfl
            | true =>
              simp
              refine hR _ _ _ ?_ ⟨at' + 1, left - w, acc ++ dataOf s' left, t, bw', rfl, hx6, hS7, by simp, ?_, hgo, by simp only [AS.next_put]; omega, by omega, by omega, ?_, ⟨rfl, rfl, by simp⟩⟩
              · omega
              · exact (g1.stays hs6 (by simp)).stays (same_put _ _ _) fun x hx hh => by
                  have := hgo x hx
                  simp at hh; omega
              · rw [hp1, hdrop6]
                simp only [hok6, if_true]
      · have hsz' : ¬ ((szOf s' : Int) = (left : Int)) := by omega
        simp [hsz, hsz']
        refine hn _ _ ?_ hS4
        rw [hpe, hdrop']
        unfold parseTail
        rw [if_pos hsz]
        rfl
end Go.Gx.Y

/-
  The journal: wiping.
-/
namespace Go.Gx.Y
open Go.Gx
set_option linter.all false

theorem cseq_bytes : ∀ (n : Nat) (a b : List UInt8), a.length = n → b.length = n → cseq (List.replicate n (.int .u8)) (bv a) (bv b) = some (decide (a = b))
  | 0, [], [], _, _ => by simp [bv, cseq]
  | n + 1, x :: a, y :: b, ha, hb => by
    have ih := cseq_bytes n a b (by simpa using ha) (by simpa using hb)
    have e : ceq (.int .u8) (.int .u8 x.toNat) (.int .u8 y.toNat) = some (decide (x = y)) := by
      simp only [ceq]
      rw [if_pos ⟨trivial, trivial⟩]
      congr 1
      by_cases h : x = y
      · subst h; simp
      · have : ¬ ((x.toNat : Int) = (y.toNat : Int)) := by rw [u8_eq]; exact h
        simp [h, this]
    rw [List.replicate_succ]
    show (match ceq _ _ _, cseq _ (bv a) (bv b) with | some a, some b => some (a && b) | _, _ => none) = _
    rw [e, ih]
    simp only [Option.some.injEq]
    by_cases h : x = y <;> simp [h]

/-- what wipe does -/
def Dk.wipe : Nat → Nat → Dk → Int × Dk
  | 0, _, D => D.flush
  | k + 1, at_, D => if D.now[at_]? = some zero64 then Dk.wipe k (at_ + 1) D else if (D.write at_ []).1 = 0 then Dk.wipe k (at_ + 1) (D.write at_ []).2 else D.write at_ []

theorem Dk.write_len (D : Dk) (at_ : Int) (data : List UInt8) : (D.write at_ data).2.now.length = D.now.length := by
  unfold Dk.write
  split
  · rfl
  · split
    · rfl
    · split
      · rfl
      · split <;> simp

theorem wipe_ok {S : AS} {j d l n : Nat} {pv : Value} {D : Dk} {next : Nat} {many : Int} (hj : JAt S j d next many) (h : DiskAt S d l n pv D) (hjf : j ∉ fpOf d l n pv) (hjl : j < S.next) (hnl : next ≤ D.now.length) (hpl : D.pend.length ≤ 100000000) {Q : En → AS → Prop}
    (hq : ∀ S' pv', DiskAt S' d l n pv' (D.wipe (D.now.length - next) next).2 → Same S S' (fpOf d l n pv) → (∀ m ∈ fpOf d l n pv', m ∈ fpOf d l n pv ∨ S.next ≤ m) → Q (.ret (.int .i64 (D.wipe (D.now.length - next) next).1)) S') : Call G 40 [ptr j] S Q := by
  refine call_run' (G := G) rfl (ext_none (by decide)) ?_
  have hj' := hj
  unfold JAt at hj
  simp [hj]
  refine run_loop (fun k a S2 => ∃ at' D2 pv2, D2.now.length - at' = k ∧ D2.now.length = D.now.length ∧ at' ≤ D.now.length ∧ next ≤ at' ∧ Has a 47 [(0, ptr j), (3, .int .i64 at')] ∧ DiskAt S2 d l n pv2 D2 ∧ Same S S2 (fpOf d l n pv) ∧ (∀ m ∈ fpOf d l n pv2, m ∈ fpOf d l n pv ∨ S.next ≤ m) ∧ D2.pend.length ≤ D.pend.length + (at' - next) ∧
    D.wipe (D.now.length - next) next = D2.wipe (D2.now.length - at') at') _ ⟨next, D, pv, rfl, rfl, hnl, Nat.le_refl _, ⟨rfl, rfl, by simp⟩, h, .refl _ _, fun m hm => .inl hm, by omega, rfl⟩ ?_
  rintro _ R hR _ S2 ⟨at', D2, pv2, rfl, hl2, hle, hnx, ha, h2, hs2, hf2, hp2, hw⟩
  obtain ⟨z, rfl⟩ := ha.lit
  have hbig := h.big
  have hsame := h.same
  have hj2 : S2.get j = some (.row [ptr d, .int .i64 next, .int .i64 many] 85 true true) := (hs2.2 j hjl hjf).trans hj
  have hjf2 : j ∉ fpOf d l n pv2 := fun hh => by
    rcases hf2 j hh with h1 | h1
    · exact hjf h1
    · omega
  by_cases hlt : at' < D2.now.length
  · have hw1 : IntKind.i64.wrap ((at' : Int) + 1) = ((at' + 1 : Nat) : Int) := by rw [wrap64 (by omega) (by omega)]; rfl
    have hx : D2.now[at']? = some D2.now[at'] := List.getElem?_eq_getElem hlt
    generalize D2.now[at'] = x at hx
    have hxl := h2.u2 x (List.mem_of_getElem? hx)
    have hu := uniBv h2.u2
    have e5 := hu.load (i := at') (l := bv x) (by rw [List.getElem?_map, hx]; rfl)
    have hstep : D2.wipe (D2.now.length - at') at' = if x = zero64 then D2.wipe (D2.now.length - (at' + 1)) (at' + 1) else if (D2.write at' []).1 = 0 then (D2.write at' []).2.wipe (D2.now.length - (at' + 1)) (at' + 1) else D2.write at' [] := by
      have e : D2.now.length - at' = (D2.now.length - (at' + 1)) + 1 := by omega
      rw [e]
      simp only [Dk.wipe, hx, Option.some.injEq]
    have hcs : cseq (reps 64 (K.int .u8)) (bv x) (reps 64 (Value.int .u8 0)) = some (decide (x = zero64)) := by
      rw [reps_zero]; exact cseq_bytes 64 x zero64 hxl rfl
    by_cases hz : x = zero64
    · rw [if_pos hz] at hstep
      have hd : decide (x = zero64) = true := by simp [hz]
      rw [hd] at hcs
      simp [fillF, pickL, hj2, h2.obj, hlt, h2.now, e5, placeIn, veq, hcs, hw1]
      exact hR _ _ _ (by omega) ⟨at' + 1, D2, pv2, rfl, hl2, by omega, by omega, ⟨rfl, rfl, by simp⟩, h2, hs2, hf2, by omega, hw.trans hstep⟩
    · rw [if_neg hz] at hstep
      simp [fillF, pickL, hj2, h2.obj, hlt, h2.now, e5, placeIn, veq, hcs, hz, hw1]
      refine write_ok (data := []) h2 ⟨⟨none, 0, rfl⟩, rfl, by simp [blockOf]⟩ (by simp [blockOf]) (by omega) fun S3 pv3 h3 hs3 hf3 => ?_
      have hj3 : S3.get j = some (.row [ptr d, .int .i64 next, .int .i64 many] 85 true true) := (hs3.2 j (Nat.lt_of_lt_of_le hjl hs2.1) hjf2).trans hj2
      have hsS3 : Same S S3 (fpOf d l n pv) := hs2.trans hs3 fun m hm hl => by
        rcases hf2 m hm with h1 | h1
        · exact h1
        · omega
      have hfS3 : ∀ m ∈ fpOf d l n pv3, m ∈ fpOf d l n pv ∨ S.next ≤ m := fun m hm => by
        rcases hf3 m hm with h1 | h1
        · exact hf2 m h1
        · exact .inr (Nat.le_trans hs2.1 h1)
      by_cases he : (D2.write at' []).1 = 0
      · rw [if_pos he] at hstep
        have hwl := Dk.write_len D2 at' []
        have hws := (Dk.write_sizes D2 at' []).1
        simp [he, hw1]
        refine hR _ _ _ (by omega) ⟨at' + 1, (D2.write at' []).2, pv3, rfl, by omega, by omega, by omega, ⟨rfl, rfl, by simp⟩, h3, hsS3, hfS3, by omega, ?_⟩
        rw [hw, hstep, hwl]
      · rw [if_neg he] at hstep
        simp [he]
        rw [hw, hstep] at hq
        exact hq S3 pv3 h3 hsS3 hfS3
  · have e : D2.now.length - at' = 0 := by omega
    rw [e] at hw
    have hge : D2.now.length ≤ at' := by omega
    simp [fillF, pickL, hj2, h2.obj, hlt]
    refine flush_ok h2 (by omega) fun S3 pv3 h3 hs3 hf3 => ?_
    simp
    rw [hw] at hq
    exact hq S3 pv3 h3 (hs2.trans hs3 fun m hm hl => by
      rcases hf2 m hm with h1 | h1
      · exact h1
      · omega) fun m hm => hf2 m (hf3 m hm)
end Go.Gx.Y

/-
  The journal: Append, Sync, Len.
-/
namespace Go.Gx.Y
open Go.Gx
set_option linter.all false

/-- sectors written one behind the other -/
def Dk.writes : List Sec → Nat → Dk → Int × Dk
  | [], _, D => (0, D)
  | s :: W, at_, D => if (D.write at_ s).1 = 0 then Dk.writes W (at_ + 1) (D.write at_ s).2 else D.write at_ s

/-- what put does -/
def Dk.put (D : Dk) (next : Nat) (s : List UInt8) : Int × Dk :=
  if D.down then (80, D) else if D.now.length - next < manyOf s.length then (82, D) else D.writes (enc s) next

theorem encT_get : ∀ (n : Nat) (r : List UInt8) (i : Nat), i < n → (encT n r)[i]? = some (partOf 2 (r.drop (59 * i)))
  | n + 1, r, 0, _ => by simp [encT]
  | n + 1, r, i + 1, h => by
    simp only [encT, List.getElem?_cons_succ]
    rw [encT_get n (r.drop 59) i (by omega), List.drop_drop]
    congr 3
    omega
theorem enc_get (r : List UInt8) (i : Nat) (h : i < manyOf r.length) : (enc r)[i]? = some (partOf (if i = 0 then 1 else 2) (r.drop (59 * i))) := by
  cases i with
  | zero => simp [enc]
  | succ i =>
    unfold enc
    rw [List.getElem?_cons_succ, encT_get _ _ _ (by omega), List.drop_drop, show 59 + 59 * i = 59 * (i + 1) by omega]
    simp

theorem pad_part (m : UInt8) (r : List UInt8) : pad (partOf m r) = partOf m r := by
  unfold pad
  rw [partOf_len]
  simp

theorem many_val (n : Nat) (h : n ≤ 1000000) : max 1 (IntKind.i64.wrap ((IntKind.i64.wrap (IntKind.i64.wrap ((n : Int) + 59) - 1)).tdiv 59)) = (manyOf n : Int) := by
  rw [wrap64 (x := (n : Int) + 59) (by omega) (by omega), wrap64 (x := (n : Int) + 59 - 1) (by omega) (by omega), Int.tdiv_eq_ediv_of_nonneg (by omega), wrap64 (by omega) (by omega)]
  unfold manyOf
  omega

set_option maxHeartbeats 1000000 in
theorem put_ok {S : AS} {j d l n : Nat} {pv : Value} {D : Dk} {next many : Nat} {s : List UInt8} (hj : JAt S j d next many) (h : DiskAt S d l n pv D) (hjf : j ∉ fpOf d l n pv) (hjl : j < S.next) (hnl : next ≤ D.now.length) (hsl : s.length ≤ 20000) (hml : many ≤ 1000000) (hpl : D.pend.length ≤ 100000000) {Q : En → AS → Prop}
    (hbad : ∀ S' pv', (D.put next s).1 ≠ 0 → JAt S' j d next many → DiskAt S' d l n pv' (D.put next s).2 → Same S S' (j :: fpOf d l n pv) → (∀ m ∈ fpOf d l n pv', m ∈ fpOf d l n pv ∨ S.next ≤ m) → Q (.ret (.int .i64 (D.put next s).1)) S')
    (hok : ∀ S' pv', (D.put next s).1 = 0 → JAt S' j d (next + manyOf s.length : Nat) (many + 1 : Nat) → DiskAt S' d l n pv' (D.put next s).2 → Same S S' (j :: fpOf d l n pv) → (∀ m ∈ fpOf d l n pv', m ∈ fpOf d l n pv ∨ S.next ≤ m) → Q (.ret (.int .i64 0)) S') : Call G 41 [ptr j, str s] S Q := by
  refine call_run' (G := G) rfl (ext_none (by decide)) ?_
  have hj' := hj
  unfold JAt at hj
  have hbig := h.big
  have hsame := h.same
  have hmv := many_val s.length (by omega)
  have hm1 := many_pos s.length
  have hmb : manyOf s.length ≤ 1000 := by unfold manyOf; omega
  by_cases hdn : D.down = true
  · have e : D.put next s = (80, D) := by unfold Dk.put; rw [if_pos hdn]
    rw [e] at hbad
    simp [hj, h.obj, hdn]
    exact hbad S pv (by simp) hj' h (.refl _ _) fun m hm => .inl hm
  · rw [Bool.not_eq_true] at hdn
    have hw0 : IntKind.i64.wrap ((D.now.length : Int) - (next : Int)) = ((D.now.length - next : Nat) : Int) := by rw [wrap64 (by omega) (by omega)]; omega
    simp [hj, h.obj, hdn, foldV, hmv, hw0]
    by_cases hfull : D.now.length - next < manyOf s.length
    · have e : D.put next s = (82, D) := by unfold Dk.put; rw [if_neg (by simp [hdn]), if_pos hfull]
      rw [e] at hbad
      simp [hfull]
      exact hbad S pv (by simp) hj' h (.refl _ _) fun m hm => .inl hm
    · have e : D.put next s = D.writes (enc s) next := by unfold Dk.put; rw [if_neg (by simp [hdn]), if_neg hfull]
      rw [e] at hbad hok
      simp [hfull]
      refine run_loop (fun k a S2 => ∃ i D2 pv2, manyOf s.length - i = k ∧ i ≤ manyOf s.length ∧ Has a 79 [(0, ptr j), (1, str s), (5, .int .i64 (manyOf s.length)), (6, .int .u8 (if i = 0 then (1 : UInt8) else 2).toNat), (38, .int .i64 (manyOf s.length)), (39, .int .i64 i)] ∧ DiskAt S2 d l n pv2 D2 ∧ Same S S2 (fpOf d l n pv) ∧ (∀ m ∈ fpOf d l n pv2, m ∈ fpOf d l n pv ∨ S.next ≤ m) ∧ D2.pend.length ≤ D.pend.length + i ∧
        D.writes (enc s) next = D2.writes ((enc s).drop i) (next + i)) _ ⟨0, D, pv, rfl, by omega, ⟨rfl, rfl, by simp⟩, h, .refl _ _, fun m hm => .inl hm, by omega, rfl⟩ ?_
      rintro _ R hR _ S2 ⟨i, D2, pv2, rfl, hi, ha, h2, hs2, hf2, hp2, hw⟩
      obtain ⟨z, rfl⟩ := ha.lit
      have hj2 : S2.get j = some (.row [ptr d, .int .i64 next, .int .i64 many] 85 true true) := (hs2.2 j hjl hjf).trans hj
      have hjf2 : j ∉ fpOf d l n pv2 := fun hh => by
        rcases hf2 j hh with h1 | h1
        · exact hjf h1
        · omega
      by_cases hlt : i < manyOf s.length
      · have hi59 : i * 59 ≤ s.length := by unfold manyOf at hlt; omega
        have hw1 : IntKind.i64.wrap ((i : Int) + 1) = ((i + 1 : Nat) : Int) := by rw [wrap64 (by omega) (by omega)]; rfl
        have hw2 : IntKind.i64.wrap ((i : Int) * 59) = ((i * 59 : Nat) : Int) := by rw [wrap64 (by omega) (by omega)]; rfl
        have hw3 : IntKind.i64.wrap ((next : Int) + (i : Int)) = ((next + i : Nat) : Int) := by rw [wrap64 (by omega) (by omega)]; rfl
        have hbd : bndsV s.length s.length (some (.int .i64 ((i : Int) * 59))) none none = some (i * 59, s.length, s.length) := bnds_lo (a := i * 59) hi59
        have hge := enc_get s i hlt
        rw [Nat.mul_comm] at hge
        simp [fillF, pickL, hlt, hw2, hbd]
        refine part_ok (mark := if i = 0 then 1 else 2) (by simp; omega) fun S3 hs3 hn3 => ?_
        have hS3 : Same S2 S3 [] := (same_bump S2 1 []).trans hs3 (by simp)
        have hn3' : S3.next = S2.next + 3 := by rw [hn3]; simp
        generalize hPP : partOf (if i = 0 then 1 else 2) (List.drop (i * 59) s) = P at hge
        have hPl : P.length = 64 := by rw [← hPP]; exact partOf_len _ _
        have hPp : pad P = P := by rw [← hPP]; exact pad_part _ _
        have hst := rowStore_all (cells := reps 64 (Value.int .u8 0)) (vs := bv P) (by rw [bv_len, hPl]; rfl) (bv_ok _)
        have hlt2 := h2.fp_lt
        have hjS2 : j < S2.next := Nat.lt_of_lt_of_le hjl hs2.1
        have hj3 : S3.get j = some (.row [ptr d, .int .i64 next, .int .i64 many] 85 true true) := (hS3.2 j hjS2 (by simp)).trans hj2
        have hjn : j ≠ S2.next := by omega
        simp [bv_len, hPl, hst, hj3, hjn, hw3, bnds_all]
        have hS4 : Same S2 ((S3.put S2.next (AObj.row (reps 64 (Value.int .u8 0)) 75 true true)).put S2.next (AObj.row (bv P) 75 true true)) [] := ⟨by simp; omega, fun m hm _ => by
          have : m ≠ S2.next := by omega
          simp [this]
          exact hS3.2 m hm (by simp)⟩
        have hc4 : ((S3.put S2.next (AObj.row (reps 64 (Value.int .u8 0)) 75 true true)).put S2.next (AObj.row (bv P) 75 true true)).get S2.next = some (AObj.row (bv P) 75 true true) := by simp
        have hj4 := (hS4.2 j hjS2 (by simp)).trans hj2
        have hn4 : S2.next < ((S3.put S2.next (AObj.row (reps 64 (Value.int .u8 0)) 75 true true)).put S2.next (AObj.row (bv P) 75 true true)).next := by simp; omega
        generalize ((S3.put S2.next (AObj.row (reps 64 (Value.int .u8 0)) 75 true true)).put S2.next (AObj.row (bv P) 75 true true)) = U at hS4 hc4 hj4 hn4 ⊢
        have hcs : Cs U (.slice (some ⟨S2.next, 0, none⟩) (bv P).length 64) (bv P) := ⟨⟨_, _, rfl⟩, by
          simp [srcCells, bv_len, hPl, hc4, List.take_of_length_le], fun b hb => by simp [ownsOf] at hb; omega⟩
        have hBs := Cs.bs hcs
        rw [bv_len, hPl] at hBs
        refine write_ok (h2.stays hS4 (by simp)) hBs (fun b hb hh => by
          simp [blockOf] at hb
          have := hlt2 b hh
          omega) (by omega) fun S5 pv5 h5 hs5 hf5 => ?_
        have hj5 : S5.get j = some (.row [ptr d, .int .i64 next, .int .i64 many] 85 true true) := (hs5.2 j (Nat.lt_of_lt_of_le hjS2 hS4.1) hjf2).trans hj4
        have hsS5 : Same S S5 (fpOf d l n pv) := (hs2.trans hS4 (by simp)).trans hs5 fun m hm hl => by
          rcases hf2 m hm with h1 | h1
          · exact h1
          · omega
        have hn2 := hs2.1
        have hfS5 : ∀ m ∈ fpOf d l n pv5, m ∈ fpOf d l n pv ∨ S.next ≤ m := fun m hm => by
          rcases hf5 m hm with h1 | h1
          · exact hf2 m h1
          · have := hS4.1; exact .inr (by omega)
        have hdr : (enc s).drop i = P :: (enc s).drop (i + 1) := by
          have hil : i < (enc s).length := by rw [enc_len]; exact hlt
          rw [List.drop_eq_getElem_cons hil]
          rw [List.getElem?_eq_getElem hil] at hge
          rw [Option.some.inj hge]
        have hcast : ((next : Int) + (i : Int)) = ((next + i : Nat) : Int) := by omega
        have hstep : D2.writes ((enc s).drop i) (next + i) = if (D2.write ((next + i : Nat) : Int) P).1 = 0 then (D2.write ((next + i : Nat) : Int) P).2.writes ((enc s).drop (i + 1)) (next + i + 1) else D2.write ((next + i : Nat) : Int) P := by
          rw [hdr]; rfl
        simp only [hcast] at h5 ⊢
        have hws := (Dk.write_sizes D2 ((next + i : Nat) : Int) P).1
        generalize D2.write ((next + i : Nat) : Int) P = X at h5 hstep hws ⊢
        by_cases he : X.1 = 0
        · rw [if_pos he] at hstep
          rw [he]
          simp [hj5, hw1]
          refine hR _ _ _ (by omega) ⟨i + 1, _, pv5, rfl, by omega, ⟨rfl, rfl, by simp⟩, h5, hsS5, hfS5, by omega, ?_⟩
          rw [hw, hstep, Nat.add_assoc]
        · rw [if_neg he] at hstep
          simp [hj5, he]
          rw [hw, hstep] at hbad
          exact hbad S5 pv5 he hj5 h5 (hsS5.mono fun m hm _ => by simp [hm]) hfS5
      · obtain rfl : i = manyOf s.length := by omega
        have hfin : D.writes (enc s) next = (0, D2) := by
          rw [hw, List.drop_eq_nil_of_le (by rw [enc_len]; omega)]; rfl
        have hw1 : IntKind.i64.wrap ((next : Int) + (manyOf s.length : Int)) = ((next + manyOf s.length : Nat) : Int) := by rw [wrap64 (by omega) (by omega)]; rfl
        have hw2 : IntKind.i64.wrap ((many : Int) + 1) = ((many + 1 : Nat) : Int) := by rw [wrap64 (by omega) (by omega)]; rfl
        rw [hfin] at hok
        simp [fillF, pickL, hj2, rowStore, splice, hw1, hw2]
        have hsf : ∀ o1 o2 : AObj, Same S2 ((S2.put j o1).put j o2) [j] := fun o1 o2 => ⟨Nat.le_refl _, fun m _ hm => by
          have hm' : m ≠ j := by simpa using hm
          rw [AS.get_put_ne _ _ hm', AS.get_put_ne _ _ hm']⟩
        refine hok _ pv2 rfl ?_ (h2.stays (hsf _ _) fun m hm hh => hjf2 (by simp at hh; subst hh; exact hm)) ((hs2.mono (gp := j :: fpOf d l n pv) (fun m hm _ => by simp [hm])).trans (hsf _ _) (by simp)) hf2
        unfold JAt
        simp

/-- what Append does -/
def Dk.append (D : Dk) (next : Nat) (s : List UInt8) : Int × Dk := if 20000 < s.length then (2, D) else D.put next s

theorem append_ok {S : AS} {j d l n : Nat} {pv : Value} {D : Dk} {next many : Nat} {s : List UInt8} (hj : JAt S j d next many) (h : DiskAt S d l n pv D) (hjf : j ∉ fpOf d l n pv) (hjl : j < S.next) (hnl : next ≤ D.now.length) (hml : many ≤ 1000000) (hpl : D.pend.length ≤ 100000000) {Q : En → AS → Prop}
    (hbad : ∀ S' pv', (D.append next s).1 ≠ 0 → JAt S' j d next many → DiskAt S' d l n pv' (D.append next s).2 → Same S S' (j :: fpOf d l n pv) → (∀ m ∈ fpOf d l n pv', m ∈ fpOf d l n pv ∨ S.next ≤ m) → Q (.ret (.int .i64 (D.append next s).1)) S')
    (hok : ∀ S' pv', (D.append next s).1 = 0 → JAt S' j d (next + manyOf s.length : Nat) (many + 1 : Nat) → DiskAt S' d l n pv' (D.append next s).2 → Same S S' (j :: fpOf d l n pv) → (∀ m ∈ fpOf d l n pv', m ∈ fpOf d l n pv ∨ S.next ≤ m) → Q (.ret (.int .i64 0)) S') : Call G 19 [ptr j, str s] S Q := by
  refine call_run' (G := G) rfl (ext_none (by decide)) ?_
  by_cases hs : 20000 < s.length
  · have hs' : (20000 : Int) < s.length := by omega
    have e : D.append next s = (2, D) := by unfold Dk.append; rw [if_pos hs]
    rw [e] at hbad
    simp [hs']
    exact hbad S pv (by simp) hj h (.refl _ _) fun m hm => .inl hm
  · have hs' : ¬ (20000 : Int) < s.length := by omega
    have e : D.append next s = D.put next s := by unfold Dk.append; rw [if_neg hs]
    rw [e] at hbad hok
    simp [hs']
    refine put_ok hj h hjf hjl hnl (by omega) hml hpl (fun S' pv' h1 h2 h3 h4 h5 => ?_) (fun S' pv' h1 h2 h3 h4 h5 => ?_)
    · simp; exact hbad S' pv' h1 h2 h3 h4 h5
    · simp; exact hok S' pv' h1 h2 h3 h4 h5

theorem sync_ok {S : AS} {j d l n : Nat} {pv : Value} {D : Dk} {next many : Nat} (hj : JAt S j d next many) (h : DiskAt S d l n pv D) (hjf : j ∉ fpOf d l n pv) (hjl : j < S.next) (hpl : D.pend.length ≤ 100000000) {Q : En → AS → Prop}
    (hq : ∀ S' pv', JAt S' j d next many → DiskAt S' d l n pv' D.flush.2 → Same S S' (fpOf d l n pv) → (∀ m ∈ fpOf d l n pv', m ∈ fpOf d l n pv) → Q (.ret (.int .i64 D.flush.1)) S') : Call G 20 [ptr j] S Q := by
  refine call_run' (G := G) rfl (ext_none (by decide)) ?_
  have hj' := hj
  unfold JAt at hj
  simp [hj]
  refine flush_ok h (by omega) fun S' pv' h1 h2 h3 => ?_
  simp
  exact hq S' pv' ((h2.2 j hjl hjf).trans hj') h1 h2 h3

theorem len_ok {S : AS} {j d : Nat} {next many : Int} (hj : JAt S j d next many) {Q : En → AS → Prop} (hq : Q (.ret (.int .i64 many)) S) : Call G 28 [ptr j] S Q := by
  refine call_run' (G := G) rfl (ext_none (by decide)) ?_
  unfold JAt at hj
  simp [hj]
  exact hq

/-- what is read from a disk -/
inductive Reads : List Sec → List (List UInt8) → Nat → Prop
  | nil {Y : List Sec} : parse Y = none → Reads Y [] 0
  | cons {Y : List Sec} {r : List UInt8} {R : List (List UInt8)} {k m : Nat} : parse Y = some (r, k) → Reads (Y.drop k) R m → Reads Y (r :: R) (k + m)

theorem reads_enc : ∀ {R : List (List UInt8)} {Y : List Sec}, (∀ r ∈ R, r.length < 16777216) → Dead Y → Reads (encAll R ++ Y) R (encAll R).length
  | [], Y, _, hY => .nil (by simpa [encAll] using parse_dead hY)
  | r :: R, Y, hR, hY => by
    have e : encAll (r :: R) ++ Y = enc r ++ (encAll R ++ Y) := by simp [encAll]
    have e2 : (encAll (r :: R)).length = (enc r).length + (encAll R).length := by simp [encAll]
    rw [e, e2]
    refine .cons (parse_enc _ (hR r (by simp))) ?_
    rw [List.drop_left' rfl]
    exact reads_enc (fun x hx => hR x (by simp [hx])) hY

theorem encAll_cons (r : List UInt8) (R : List (List UInt8)) : encAll (r :: R) = enc r ++ encAll R := by simp [encAll]
theorem encAll_app (R R' : List (List UInt8)) : encAll (R ++ R') = encAll R ++ encAll R' := by simp [encAll]
theorem encAll_ge : ∀ (R : List (List UInt8)), R.length ≤ (encAll R).length
  | [] => by simp
  | r :: R => by
    have := encAll_ge R
    have := many_pos r.length
    rw [encAll_cons, List.length_append, enc_len, List.length_cons]
    omega

set_option maxHeartbeats 1000000 in
theorem open_ok {S : AS} {d l n : Nat} {pv : Value} {D : Dk} {R : List (List UInt8)} {m : Nat} (h : DiskAt S d l n pv D) (hr : Reads D.now R m) (hm : m ≤ D.now.length) (hR : R.length ≤ 100000) (hpl : D.pend.length ≤ 100000000) {Q : En → AS → Prop}
    (hdown : D.down = true → Q (.ret (.tuple #[.pointer none, .slice none 0 0, .int .i64 80])) S)
    (hbad : ∀ S' pv', D.down = false → (D.wipe (D.now.length - m) m).1 ≠ 0 → DiskAt S' d l n pv' (D.wipe (D.now.length - m) m).2 → Same S S' (fpOf d l n pv) → (∀ x ∈ fpOf d l n pv', x ∈ fpOf d l n pv ∨ S.next ≤ x) → Q (.ret (.tuple #[.pointer none, .slice none 0 0, .int .i64 (D.wipe (D.now.length - m) m).1])) S')
    (hok : ∀ S' pv' lv, D.down = false → (D.wipe (D.now.length - m) m).1 = 0 → JAt S' S.next d m R.length → S.next ∉ fpOf d l n pv' → S.next ∉ ownsOf lv → SlAt S' 9 lv (sing (R.map str)) → DiskAt S' d l n pv' (D.wipe (D.now.length - m) m).2 → Same S S' (fpOf d l n pv) → (∀ x ∈ fpOf d l n pv', x ∈ fpOf d l n pv ∨ S.next ≤ x) → (∀ x ∈ ownsOf lv, S.next ≤ x ∧ x ∉ fpOf d l n pv') → S.next < S'.next → Q (.ret (.tuple #[ptr S.next, lv, .int .i64 0])) S') : Call G 18 [ptr d] S Q := by
  refine call_run' (G := G) rfl (ext_none (by decide)) ?_
  simp
  refine state_ok h.obj ?_
  by_cases hdn : D.down = true
  · simp [hdn]
    exact hdown hdn
  · rw [Bool.not_eq_true] at hdn
    simp [hdn, placeIn, splice]
    have hJ0 : JAt ((S.bump 1).put S.next (AObj.row [ptr d, .int .i64 0, .int .i64 0] 85 true true)) S.next d ((0 : Nat) : Int) ((0 : Nat) : Int) := by unfold JAt; simp
    have hS0 : Same S ((S.bump 1).put S.next (AObj.row [ptr d, .int .i64 0, .int .i64 0] 85 true true)) [] := ⟨by simp, fun x hx _ => by
      have : x ≠ S.next := by omega
      simp [this]⟩
    have hn0 : S.next < ((S.bump 1).put S.next (AObj.row [ptr d, .int .i64 0, .int .i64 0] 85 true true)).next := by simp
    generalize ((S.bump 1).put S.next (AObj.row [ptr d, .int .i64 0, .int .i64 0] 85 true true)) = U at hJ0 hS0 hn0 ⊢
    have hlt := h.fp_lt
    have hbig := h.big
    have hsame := h.same
    refine run_loop (fun k a S2 => ∃ at' R1 R2 m2 lv, R2.length = k ∧ R = R1 ++ R2 ∧ Reads (D.now.drop at') R2 m2 ∧ at' + m2 = m ∧ JAt S2 S.next d at' (0 : Nat) ∧ SlAt S2 9 lv (sing (R1.map str)) ∧ (∀ x ∈ ownsOf lv, S.next < x) ∧ Same S S2 [] ∧ S.next < S2.next ∧ Has a 52 [(6, ptr S.next), (7, lv)]) _
      ⟨0, [], R, m, .slice none 0 0, rfl, rfl, by simpa using hr, by omega, hJ0, .inl ⟨rfl, rfl⟩, by simp [ownsOf], hS0, hn0, ⟨rfl, rfl, by simp⟩⟩ ?_
    rintro _ W hW _ S2 ⟨at', R1, R2, m2, lv, rfl, hR12, hr2, hm2, hj2, hlv, hlo, hs2, hn2, ha⟩
    obtain ⟨z, rfl⟩ := ha.lit
    have hj2' := hj2
    unfold JAt at hj2
    simp [fillF, pickL, hj2]
    refine jread_ok hj2' (h.stays hs2 (by simp)) hn2 (at_ := at') (by omega) (fun S3 r k hp hs3 => ?_) (fun S3 a' hp hs3 => ?_)
    · cases hr2 with
      | nil hn => rw [hn] at hp; cases hp
      | @cons _ r' R2 k' m2 hp' hr3 =>
        rw [hp'] at hp
        obtain ⟨rfl, rfl⟩ : r' = r ∧ k' = k := by simpa using hp
        have hk3 := hs3.1
        have hlo3 := hlv.owns_lt
        have hlen : R1.length ≤ R.length := by rw [hR12]; simp
        have hj3 : S3.get S.next = some (.row [ptr d, .int .i64 at', .int .i64 (0 : Nat)] 85 true true) := (hs3.2 _ hn2 (by simp)).trans hj2
        simp [placeIn, splice]
        have hS4 : Same S3 ((S3.bump 2).put S3.next (AObj.row [str r'] 9 true true)) [] := ⟨by simp, fun x hx _ => by
          have : x ≠ S3.next := by omega
          simp [this]⟩
        have hc4 : ((S3.bump 2).put S3.next (AObj.row [str r'] 9 true true)).get S3.next = some (AObj.row [str r'] 9 true true) := by simp
        have hn4 : ((S3.bump 2).put S3.next (AObj.row [str r'] 9 true true)).next = S3.next + 2 := by simp
        generalize ((S3.bump 2).put S3.next (AObj.row [str r'] 9 true true)) = U4 at hS4 hc4 hn4 ⊢
        refine runT_ex (appV_cells (ds := [str r']) (cs := R1.map str) ((hlv.stays hs3 (by simp)).stays hS4 (by simp)) (by simp [srcCells, hc4]) (by simp) (by simp; omega) (by omega) (by omega) (fun hh => by have := hlo3 _ hh; omega)) fun lv' S5 ⟨g1, g2, g3, g4⟩ => ?_
        have hj5 : S5.get S.next = some (.row [ptr d, .int .i64 at', .int .i64 (0 : Nat)] 85 true true) := by
          rw [g2.2 S.next (by omega) (by simp; exact ⟨by omega, fun hh => by have := hlo _ hh; omega⟩), hS4.2 S.next (by omega) (by simp)]
          exact hj3
        simp at hj5
        simp [hj5, rowStore, splice]
        have hs5 : Same S S5 [] := by
          have h1 : Same S U4 [] := (hs2.trans hs3 (by simp)).trans hS4 (by simp)
          refine h1.trans g2 fun x hx hl => ?_
          rcases List.mem_cons.1 hx with rfl | hx
          · omega
          · have := hlo x hx; omega
        have hlo5 : ∀ x ∈ ownsOf lv', S.next < x := fun x hx => by
          rcases g4 x hx with h1 | h1
          · exact hlo x h1
          · omega
        refine hW _ _ _ ?_ ⟨at' + k', R1 ++ [r'], R2, m2, lv', rfl, by rw [hR12]; simp, by rw [← List.drop_drop]; exact hr3, by omega, by unfold JAt; simp, ?_, hlo5, hs5.trans (same_put _ _ _) (by simp), by simp only [AS.next_put]; omega, ⟨rfl, rfl, by simp⟩⟩
        · simp
        · have := g1.stays (same_put S5 S.next (AObj.row [ptr d, .int .i64 (at' + k' : Nat), .int .i64 (0 : Nat)] 85 true true)) fun x hx hh => by
            have := hlo5 x hx
            simp at hh; omega
          simpa using this
    · cases hr2 with
      | cons hp' _ => rw [hp'] at hp; cases hp
      | nil hn =>
        obtain rfl : at' = m := by omega
        rw [List.append_nil] at hR12
        subst hR12
        have hk3 := hs3.1
        have hj3 : S3.get S.next = some (.row [ptr d, .int .i64 at', .int .i64 (0 : Nat)] 85 true true) := (hs3.2 _ hn2 (by simp)).trans hj2
        have hlv3 := hlv.stays hs3 (by simp)
        have hll := hlv3.ln (S' := S3)
        rw [sing_len, List.length_map] at hll
        simp at hj3
        simp [hll, hj3, rowStore, splice]
        have hS4 : Same S3 (S3.put S.next (AObj.row [ptr d, .int .i64 at', .int .i64 R.length] 85 true true)) [S.next] := same_put _ _ _
        have hJ4 : JAt (S3.put S.next (AObj.row [ptr d, .int .i64 at', .int .i64 R.length] 85 true true)) S.next d at' R.length := by unfold JAt; simp
        have hn4 : (S3.put S.next (AObj.row [ptr d, .int .i64 at', .int .i64 R.length] 85 true true)).next = S3.next := rfl
        generalize (S3.put S.next (AObj.row [ptr d, .int .i64 at', .int .i64 R.length] 85 true true)) = U4 at hS4 hJ4 hn4 ⊢
        have hs4 : Same S U4 [] := (hs2.trans hs3 (by simp)).trans hS4 fun x hx hl => by simp at hx; omega
        have hjf : S.next ∉ fpOf d l n pv := fun hh => by have := hlt _ hh; omega
        have hlv4 := hlv3.stays hS4 fun x hx hh => by
          have := hlo x hx
          simp at hh; omega
        refine wipe_ok hJ4 (h.stays hs4 (by simp)) hjf (by omega) hm hpl fun S5 pv5 h5 hs5 hf5 => ?_
        have hJ5 : JAt S5 S.next d at' R.length := (hs5.2 _ (by omega) hjf).trans hJ4
        have hfr : ∀ x ∈ fpOf d l n pv5, x ∈ fpOf d l n pv ∨ U4.next ≤ x := hf5
        have hf5' : ∀ x ∈ fpOf d l n pv5, x ∈ fpOf d l n pv ∨ S.next ≤ x := fun x hx => by
          rcases hf5 x hx with h1 | h1
          · exact .inl h1
          · exact .inr (by omega)
        have hsS5 : Same S S5 (fpOf d l n pv) := (hs4.mono (by simp)).trans hs5 fun x hx _ => hx
        have hlo4 := hlv4.owns_lt
        have hlvf : ∀ x ∈ ownsOf lv, x ∉ fpOf d l n pv := fun x hx hh => by
          have h1 := hlo x hx
          have h2 := hlt x hh
          omega
        by_cases he : (D.wipe (D.now.length - at') at').1 = 0
        · rw [he]
          simp
          refine hok S5 pv5 lv hdn he hJ5 (fun hh => ?_) (fun hh => by have := hlo _ hh; omega) (hlv4.stays hs5 hlvf) h5 hsS5 hf5' (fun x hx => ⟨Nat.le_of_lt (hlo x hx), fun hh => ?_⟩) (by have := hs5.1; omega)
          · rcases hf5 _ hh with h1 | h1
            · exact hjf h1
            · omega
          · rcases hf5 _ hh with h1 | h1
            · exact hlvf x hx h1
            · have := hlo4 x hx; omega
        · simp [he]
          exact hbad S5 pv5 hdn he h5 hsS5 hf5'
end Go.Gx.Y
