/-
  The disk in memory.
-/
import Derived.Test.YtegjacoooihpgaaPb
import Derived.Test.YtegjacoooihpgaaGg

set_option linter.all false
set_option linter.deprecated false
set_option linter.unusedSimpArgs false
set_option linter.unusedVariables false

namespace Go.Gx.Y
open Go.Gx

/-- what a disk has -/
structure Dk where
  last : List (List UInt8)
  now : List (List UInt8)
  pend : List (Nat × List UInt8)
  down : Bool
  fuse : Int

def pcell (x : Nat × List UInt8) : List Value := .int .i64 x.1 :: bv x.2

/-- a disk at its names -/
structure DiskAt (S : AS) (d l n : Nat) (pv : Value) (D : Dk) : Prop where
  obj : S.get d = some (.row [.slice (some ⟨l, 0, none⟩) D.last.length D.last.length, .slice (some ⟨n, 0, none⟩) D.now.length D.now.length, pv, .bool D.down, .int .i64 D.fuse] 73 true true)
  last : S.get l = some (.row (D.last.map bv).flatten 75 true true)
  now : S.get n = some (.row (D.now.map bv).flatten 75 true true)
  pend : SlAt S 77 pv (D.pend.map pcell)
  apart : ∀ p ∈ ownsOf pv, p ≠ d ∧ p ≠ l ∧ p ≠ n
  dl : d ≠ l
  dn : d ≠ n
  ln : l ≠ n
  lt : d < S.next ∧ l < S.next ∧ n < S.next
  u1 : ∀ x ∈ D.last, x.length = 64
  u2 : ∀ x ∈ D.now, x.length = 64
  u3 : ∀ x ∈ D.pend, x.2.length = 64 ∧ x.1 < D.last.length
  same : D.now.length = D.last.length
  big : D.last.length ≤ 65536
  fz : -9223372036854775808 ≤ D.fuse ∧ D.fuse ≤ 9223372036854775807

theorem uniBv {ls : List (List UInt8)} (h : ∀ x ∈ ls, x.length = 64) : Uni 64 (ls.map bv) := fun l hl => by
  obtain ⟨x, hx, rfl⟩ := List.mem_map.1 hl
  rw [bv_len, h x hx]
theorem uniPc {ls : List (Nat × List UInt8)} (h : ∀ x ∈ ls, x.2.length = 64) : Uni 65 (ls.map pcell) := fun l hl => by
  obtain ⟨x, hx, rfl⟩ := List.mem_map.1 hl
  simp [pcell, bv_len, h x hx]

def zero64 : List UInt8 := List.replicate 64 0
theorem reps_zero : reps 64 (Value.int .u8 0) = bv zero64 := by simp [reps, bv, zero64]

/-- a new disk -/
theorem newDisk_ok {S : AS} {k : Nat} (h16 : 16 ≤ k) (hk : k ≤ 65536) {Q : En → AS → Prop}
    (hq : ∀ S', DiskAt S' (S.next + 2) S.next (S.next + 1) (.slice none 0 0) ⟨List.replicate k zero64, List.replicate k zero64, [], false, -1⟩ → S'.next = S.next + 3 → (∀ m, m < S.next → S'.get m = S.get m) →
      Q (.ret (.tuple #[ptr (S.next + 2), .int .i64 0])) S') : Call G 9 [.int .i64 k] S Q := by
  refine call_run' (G := G) rfl (ext_none (by decide)) ?_
  have h1 : ¬ ((k : Int) < 16) := by omega
  have h2 : ¬ ((65536 : Int) < k) := by omega
  have h3 : (0 : Int) ≤ k ∧ (k : Int) ≤ k ∧ (64 : Int) * k ≤ 281474976710656 ∧ (k : Int) ≤ 9223372036854775807 := by omega
  simp [h1, h2, h3, placeIn, splice]
  have hrow : repCells (reps 64 (Value.int .u8 0)) k = ((List.replicate k zero64).map bv).flatten := by
    rw [rep_flat, reps_zero, List.map_replicate]
  rw [hrow]
  refine hq _ ⟨?_, ?_, ?_, .inl ⟨rfl, rfl⟩, by simp [ownsOf], by omega, by omega, by omega, ?_, ?_, ?_, by simp, by simp, by simpa using hk, by simp⟩ rfl ?_
  · simp
  · rw [AS.get_put_ne _ _ (by omega), AS.get_put_ne _ _ (by omega), AS.get_put_self]
  · rw [AS.get_put_ne _ _ (by omega), AS.get_put_self]
  · simp only [AS.next_put, AS.next_bump]; omega
  · intro x hx; rw [(List.mem_replicate.1 hx).2]; rfl
  · intro x hx; rw [(List.mem_replicate.1 hx).2]; rfl
  · intro m hm
    rw [AS.get_put_ne _ _ (by omega), AS.get_put_ne _ _ (by omega), AS.get_put_ne _ _ (by omega), AS.get_bump]

/-- the names that a disk has -/
def fpOf (d l n : Nat) (pv : Value) : List Nat := d :: l :: n :: ownsOf pv

/-- what else lies in memory does not matter -/
theorem DiskAt.stays {S S' : AS} {d l n : Nat} {pv : Value} {D : Dk} (h : DiskAt S d l n pv D) {fp : List Nat} (hs : Same S S' fp) (hd : ∀ m ∈ fpOf d l n pv, m ∉ fp) : DiskAt S' d l n pv D := by
  have h0 : d ∉ fp ∧ l ∉ fp ∧ n ∉ fp := ⟨hd d (by simp [fpOf]), hd l (by simp [fpOf]), hd n (by simp [fpOf])⟩
  refine ⟨by rw [hs.2 d h.lt.1 h0.1]; exact h.obj, by rw [hs.2 l h.lt.2.1 h0.2.1]; exact h.last, by rw [hs.2 n h.lt.2.2 h0.2.2]; exact h.now, h.pend.stays hs fun m hm => hd m (by simp [fpOf, hm]), h.apart, h.dl, h.dn, h.ln, ?_, h.u1, h.u2, h.u3, h.same, h.big, h.fz⟩
  have := h.lt
  have := hs.1
  omega

/-- the disk's own row changes: its switch, its fuse -/
theorem DiskAt.own {S : AS} {d l n : Nat} {pv : Value} {D : Dk} (h : DiskAt S d l n pv D) (down : Bool) (fuse : Int) (hf : -9223372036854775808 ≤ fuse ∧ fuse ≤ 9223372036854775807) :
    DiskAt (S.put d (.row [.slice (some ⟨l, 0, none⟩) D.last.length D.last.length, .slice (some ⟨n, 0, none⟩) D.now.length D.now.length, pv, .bool down, .int .i64 fuse] 73 true true)) d l n pv { D with down := down, fuse := fuse } := by
  exact ⟨by simp, by rw [AS.get_put_ne _ _ (Ne.symm h.dl)]; exact h.last, by rw [AS.get_put_ne _ _ (Ne.symm h.dn)]; exact h.now, h.pend.stays (same_put _ _ _) fun m hm => by simpa using (h.apart m hm).1, h.apart, h.dl, h.dn, h.ln, h.lt, h.u1, h.u2, h.u3, h.same, h.big, hf⟩

/-- one more call -/
def Dk.power (D : Dk) : Bool × Dk := if D.fuse = 0 then (false, { D with down := true }) else if 0 < D.fuse then (true, { D with fuse := D.fuse - 1 }) else (true, D)

@[simp] theorem Dk.power_now (D : Dk) : D.power.2.now = D.now := by unfold Dk.power; split <;> (try split) <;> rfl
@[simp] theorem Dk.power_last (D : Dk) : D.power.2.last = D.last := by unfold Dk.power; split <;> (try split) <;> rfl
@[simp] theorem Dk.power_pend (D : Dk) : D.power.2.pend = D.pend := by unfold Dk.power; split <;> (try split) <;> rfl

theorem wrap64 {x : Int} (h1 : -9223372036854775808 ≤ x) (h2 : x ≤ 9223372036854775807) : IntKind.i64.wrap x = x := by
  simp only [IntKind.wrap, IntKind.bits, IntKind.signed]
  simp
  omega

theorem power_at {S : AS} {d l n : Nat} {pv : Value} {D : Dk} (h : DiskAt S d l n pv D) (hdn : D.down = false) {Q : En → AS → Prop}
    (hq : ∀ S', DiskAt S' d l n pv D.power.2 → Same S S' [d] → S'.next = S.next → Q (.ret (.bool D.power.1)) S') : Call G 30 [ptr d] S Q := by
  have ho := h.obj
  rw [hdn] at ho
  refine power_ok ho (fun hx => ?_) (fun hx => ?_) (fun hx => ?_)
  · have e : D.power = (false, { D with down := true }) := by unfold Dk.power; rw [if_pos hx]
    rw [e] at hq
    have := h.own true 0 (by omega)
    exact hq _ (by rw [hx]; exact this) (same_put _ _ _) rfl
  · have e : D.power = (true, { D with fuse := D.fuse - 1 }) := by unfold Dk.power; rw [if_neg (by omega), if_pos hx]
    rw [e] at hq
    have hz := h.fz
    rw [wrap64 (by omega) (by omega)]
    have := h.own false (D.fuse - 1) (by omega)
    exact hq _ (by rw [← hdn] at this ⊢; exact this) (same_put _ _ _) rfl
  · have e : D.power = (true, D) := by unfold Dk.power; rw [if_neg (by omega), if_neg (by omega)]
    rw [e] at hq
    exact hq _ h (.refl _ _) rfl
end Go.Gx.Y

/-
  The disk: writing.
-/
namespace Go.Gx.Y
open Go.Gx

def blockOf : Value → Option Nat
  | .slice (some ⟨b, _, none⟩) _ _ => some b
  | _ => none

theorem srcCells_congr {S S' : AS} {k : Nat} {v : Value} (h : ∀ b, blockOf v = some b → S'.get b = S.get b) : srcCells S' k v = srcCells S k v := by
  unfold srcCells
  split
  · rfl
  · rename_i b o n c
    rw [h b rfl]
  · rfl
  · rfl
  · rfl

/-- a slice of bytes -/
structure Bs (S : AS) (v : Value) (data : List UInt8) : Prop where
  shape : ∃ a cap, v = .slice a data.length cap
  cells : srcCells S 1 v = some (data.length, bv data)
  lt : ∀ b, blockOf v = some b → b < S.next

theorem Bs.stays {S S' : AS} {v : Value} {data : List UInt8} (h : Bs S v data) {fp : List Nat} (hs : Same S S' fp) (hb : ∀ b, blockOf v = some b → b ∉ fp) : Bs S' v data :=
  ⟨h.shape, by rw [srcCells_congr (S := S) fun b hbb => hs.2 b (h.lt b hbb) (hb b hbb)]; exact h.cells, fun b hbb => Nat.lt_of_lt_of_le (h.lt b hbb) hs.1⟩

def pad (l : List UInt8) : List UInt8 := l ++ List.replicate (64 - l.length) 0
theorem pad_len {l : List UInt8} (h : l.length ≤ 64) : (pad l).length = 64 := by simp [pad]; omega

theorem cpy_pad {S : AS} {s : Nat} {v : Value} {data : List UInt8} {e : TypeId} (hs : S.get s = some (.row (bv zero64) e true true)) (hv : Bs S v data) (hl : data.length ≤ 64) :
    ∃ S', cpyV S 1 (.slice (some ⟨s, 0, none⟩) 64 64) v = some (.int .i64 data.length, S') ∧ S'.get s = some (.row (bv (pad data)) e true true) ∧ Same S S' [s] ∧ S'.next = S.next := by
  have hm : min data.length 64 = data.length := by omega
  have ht : (bv data).take (data.length * 1) = bv data := by rw [Nat.mul_one, List.take_of_length_le (by rw [bv_len]; exact Nat.le_refl _)]
  unfold cpyV
  rw [hv.cells]
  simp only [hm, ht]
  by_cases h0 : data = []
  · subst h0
    exact ⟨S, by simp [bv], by rw [hs]; rfl, .refl _ _, rfl⟩
  · have hne : (bv data).isEmpty = false := by
      cases data with
      | nil => exact absurd rfl h0
      | cons b l => rfl
    rw [hne]
    simp only [hs]
    have hst : rowStore (bv zero64) 0 (bv data) = some (bv (pad data)) := by
      unfold rowStore
      rw [if_pos]
      · unfold splice
        simp only [List.take_zero, List.nil_append, Nat.zero_add, bv_len]
        rw [bv_drop, ← bv_append]
        congr 2
        unfold pad zero64
        rw [List.drop_replicate]
      · refine ⟨?_, bv_ok _⟩
        rw [bv_len, bv_len]; simp [zero64]; exact hl
    refine ⟨S.put s (.row (bv (pad data)) e true true), by rw [hst]; simp, by simp, same_put _ _ _, rfl⟩

/-- what Write does -/
def Dk.write (D : Dk) (at_ : Int) (data : List UInt8) : Int × Dk :=
  if D.down then (80, D) else
  if at_ < 0 ∨ (D.now.length : Int) ≤ at_ then (1, D) else
  if 64 < data.length then (2, D) else
  if D.power.1 then (0, { D.power.2 with now := D.now.set at_.toNat (pad data), pend := D.pend ++ [(at_.toNat, pad data)] }) else (80, D.power.2)
end Go.Gx.Y

/-
  The disk: what Write gives.
-/
namespace Go.Gx.Y
open Go.Gx
set_option linter.all false
theorem write_ok {S : AS} {d l n : Nat} {pv v : Value} {D : Dk} {data : List UInt8} (h : DiskAt S d l n pv D) (hv : Bs S v data) (hsep : ∀ b, blockOf v = some b → b ∉ fpOf d l n pv) {at_ : Int} (hpl : D.pend.length ≤ 1000000000) {Q : En → AS → Prop}
    (hq : ∀ S' pv', DiskAt S' d l n pv' (D.write at_ data).2 → Same S S' (fpOf d l n pv) → (∀ m ∈ fpOf d l n pv', m ∈ fpOf d l n pv ∨ S.next ≤ m) → Q (.ret (.int .i64 (D.write at_ data).1)) S') : Call G 10 [ptr d, .int .i64 at_, v] S Q := by
  obtain ⟨⟨a, cap, rfl⟩, hcells, hlt⟩ := id hv
  refine call_run' (G := G) rfl (ext_none (by decide)) ?_
  simp
  refine place_ok h.obj ?_
  by_cases hdn : D.down = true
  · simp [hdn]
    have e : D.write at_ data = (80, D) := by unfold Dk.write; rw [if_pos hdn]
    rw [e] at hq
    exact hq S pv h (.refl _ _) (fun m hm => .inl hm)
  · rw [Bool.not_eq_true] at hdn
    by_cases hat : at_ < 0 ∨ (D.now.length : Int) ≤ at_
    · simp [hdn, hat]
      have e : D.write at_ data = (1, D) := by unfold Dk.write; rw [if_neg (by simp [hdn]), if_pos hat]
      rw [e] at hq
      exact hq S pv h (.refl _ _) (fun m hm => .inl hm)
    · by_cases h64 : 64 < data.length
      · have h64' : (64 : Int) < data.length := by omega
        simp [hdn, hat, h64']
        have e : D.write at_ data = (2, D) := by unfold Dk.write; rw [if_neg (by simp [hdn]), if_neg hat, if_pos h64]
        rw [e] at hq
        exact hq S pv h (.refl _ _) (fun m hm => .inl hm)
      · have h64' : ¬ (64 : Int) < data.length := by omega
        simp [hdn, hat, h64']
        obtain ⟨k, rfl⟩ : ∃ k : Nat, at_ = k := ⟨at_.toNat, by omega⟩
        refine power_at h hdn fun S1 h1 hs1 hn1 => ?_
        cases hp : D.power.1
        · have e : D.write (k : Int) data = (80, D.power.2) := by unfold Dk.write; rw [if_neg (by simp [hdn]), if_neg hat, if_neg h64, if_neg (by simp [hp])]
          rw [e] at hq
          simp
          exact hq S1 pv h1 (hs1.mono (by simp [fpOf])) (fun m hm => .inl hm)
        · have e : D.write (k : Int) data = (0, { D.power.2 with now := D.now.set k (pad data), pend := D.pend ++ [(k, pad data)] }) := by unfold Dk.write; rw [if_neg (by simp [hdn]), if_neg hat, if_neg h64, if_pos hp, Int.toNat_natCast]
          rw [e] at hq
          simp [bndsV, bndV]
          have hd0 : d ∈ fpOf d l n pv := by simp [fpOf]
          have hv1 : Bs S1 (.slice a data.length cap) data := hv.stays hs1 (fun b hb hh => hsep b hb (by simp at hh; subst hh; exact hd0))
          have hv2 : Bs ((S1.bump 1).put S1.next (AObj.row (reps 64 (Value.int .u8 0)) 75 true true)) (.slice a data.length cap) data :=
            hv1.stays (fp := [S1.next]) ⟨by simp, fun m hm hn => by rw [AS.get_put_ne _ _ (by simpa using hn), AS.get_bump]⟩ (fun b hb hh => by
              have := hv1.lt b hb
              simp at hh; omega)
          obtain ⟨S2, k1, k2, k3, k4⟩ := cpy_pad (e := 75) (s := S1.next) (by rw [AS.get_put_self, reps_zero]) hv2 (by omega)
          rw [k1]
          have g : ∀ m, m < S1.next → S2.get m = S1.get m := fun m hm => by
            rw [k3.2 m (by simp; omega) (by simp; omega), AS.get_put_ne _ _ (by omega), AS.get_bump]
          have ho2 := (g d h1.lt.1).trans h1.obj
          have hw2 := (g n h1.lt.2.2).trans h1.now
          simp only [Dk.power_now, Dk.power_last, Dk.power_pend] at ho2 hw2
          have hpd : (pad data).length = 64 := pad_len (by omega)
          have hld : rowLoad (bv (pad data)) 0 (some 64) = some (.agg (bv (pad data)).toArray) := by
            exact rowLoad_all (by rw [bv_len, hpd])
          have hat1 : k < D.now.length := by omega
          have hu := uniBv h.u2
          have hst : rowStore (List.map bv D.now).flatten (k * 64) (bv (pad data)) = some ((D.now.set k (pad data)).map bv).flatten := by
            rw [hu.store (by rw [List.length_map]; omega) (by rw [bv_len, hpd]) (bv_ok _), ← List.map_set]
          have hnd := h.dn
          have hdS : d ≠ S1.next := by have := h1.lt.1; omega
          have hnS : n ≠ S1.next := by have := h1.lt.2.2; omega
          have hnS' := Ne.symm hnS
          have hpl2 : placeIn (Value.int .i64 0 :: reps 64 (.int .u8 0)) [(0, [.int .i64 k]), (1, bv (pad data))] = some (pcell (k, pad data)) := by
            have := placeIn_two (a := [Value.int .i64 0]) (b := reps 64 (.int .u8 0)) (c := [.int .i64 k]) (d := bv (pad data)) rfl (by rw [bv_len, hpd]; rfl)
            exact this
          have hpc : (pcell (k, pad data)).length = 65 := by simp [pcell, bv_len, hpd]
          have hpl3 : placeIn (Value.int .i64 0 :: reps 64 (.int .u8 0)) [(0, pcell (k, pad data))] = some (pcell (k, pad data)) := placeIn_all (by rw [hpc]; rfl)
          simp [hnS', hpl2, hpc, hpl3, ho2, k2, hld, hw2, hat1, hst, bv_len, hpd, hnd, hdS, hnS]
          generalize hT : ((S2.put n (AObj.row ((List.map bv D.now).set k (bv (pad data))).flatten 75 true true)).bump 2).put S2.next (AObj.row (pcell (k, pad data)) 77 true true) = T
          have hT1 : T.next = S1.next + 3 := by rw [← hT]; simp [k4]
          have hT2 : T.get S2.next = some (AObj.row (pcell (k, pad data)) 77 true true) := by rw [← hT]; simp
          have hT3 : T.get n = some (AObj.row ((List.map bv D.now).set k (bv (pad data))).flatten 75 true true) := by
            rw [← hT, AS.get_put_ne _ _ (by have := h1.lt.2.2; simp [k4]; omega)]; simp
          have hT4 : ∀ m, m < S1.next → m ≠ n → T.get m = S1.get m := fun m hm hn => by
            rw [← hT, AS.get_put_ne _ _ (by simp [k4]; omega), AS.get_bump, AS.get_put_ne _ _ hn, g m hm]
          have hsT : Same S1 T [n] := ⟨by omega, fun m hm hn => hT4 m hm (by simpa using hn)⟩
          have hTd : T.get d = S2.get d := by rw [hT4 d h1.lt.1 h1.dn, g d h1.lt.1]
          have hpT : SlAt T 77 pv (D.pend.map pcell) := by
            have := h1.pend.stays hsT (fun m hm => by simpa using (h1.apart m hm).2.2)
            simpa using this
          have hsrc : srcCells T 65 (Value.slice (some ⟨S2.next, 0, none⟩) 1 1) = some ([pcell (k, pad data)].length, [pcell (k, pad data)].flatten) := by
            simp [srcCells, hT2, hpc, List.take_of_length_le]
          have hup : Uni 65 (D.pend.map pcell) := uniPc fun x hx => (h.u3 x hx).1
          obtain ⟨S3, a1, a2, a3⟩ := appV_new (fr := S2.next + 1) (bytes := 72) hpT hup (by omega) (List.cons_ne_nil _ _) (fun x hx => by simp at hx; rw [hx]; exact hpc) hsrc (by simp; omega) (by omega) (by simp [pcell, bv_ok, okc])
          rw [a1]
          have hS3d : S3.get d = S2.get d := by rw [a3 d (fun hm => (h1.apart d hm).1 rfl), hTd]
          have hd3 : d ≠ S2.next + 1 := by have := h1.lt.1; simp [k4]; omega
          simp [hS3d, ho2, hd3, hd3.symm, rowStore, splice]
          have hlt1 := h1.lt
          have hnx : S2.next = S1.next + 1 := by simp [k4]
          have hk4 : ∀ m, m < S1.next → m ≠ n → m ≠ d → m ∉ ownsOf pv → ((S3.put (S2.next + 1) (AObj.row ((List.map pcell D.pend).flatten ++ pcell (k, pad data)) 77 true false)).put d (AObj.row [Value.slice (some { block := l, off := 0 }) D.last.length D.last.length, Value.slice (some { block := n, off := 0 }) D.now.length D.now.length, Value.slice (some { block := S2.next + 1, off := 0 }) (D.pend.length + 1) (D.pend.length + 1), Value.bool D.power.snd.down, Value.int IntKind.i64 D.power.snd.fuse] 73 true true)).get m = S1.get m := fun m h1 h2 h3 h4 => by
            rw [AS.get_put_ne _ _ h3, AS.get_put_ne _ _ (by omega), a3 m h4, hT4 m h1 h2]
          refine hq _ (.slice (some ⟨S2.next + 1, 0, none⟩) (D.pend.length + 1) (D.pend.length + 1)) ⟨by simp, ?_, ?_, .inr ⟨S2.next + 1, false, ?_, ?_, ?_⟩, ?_, h1.dl, h1.dn, h1.ln, ?_, h1.u1, ?_, ?_, ?_, h1.big, h1.fz⟩ ⟨?_, ?_⟩ ?_
          · rw [hk4 l hlt1.2.1 h1.ln h1.dl.symm fun hm => (h1.apart l hm).2.1 rfl]; exact h1.last
          · rw [AS.get_put_ne _ _ h1.dn.symm, AS.get_put_ne _ _ (by omega), a3 n fun hm => (h1.apart n hm).2.2 rfl, hT3, ← List.map_set]
          · simp
          · rw [AS.get_put_ne _ _ (by omega), AS.get_put_self]; simp
          · simp only [AS.next_put]; omega
          · intro p hpp; simp [ownsOf] at hpp; omega
          · simp only [AS.next_put]; omega
          · intro x hx
            rcases List.mem_or_eq_of_mem_set hx with h5 | h5
            · exact h.u2 x h5
            · rw [h5]; exact hpd
          · intro x hx
            rcases List.mem_append.1 hx with h5 | h5
            · exact h1.u3 x (by rw [Dk.power_pend]; exact h5)
            · simp at h5; subst h5
              refine ⟨hpd, ?_⟩
              have := h.same
              simp; omega
          · have := h.same; simp [this]
          · simp only [AS.next_put]; omega
          · intro m hm hn
            simp only [fpOf, List.mem_cons, not_or] at hn
            rw [hk4 m (by omega) hn.2.2.1 hn.1 hn.2.2.2]
            exact hs1.2 m hm (by simpa using hn.1)
          · intro m hm
            simp [fpOf, ownsOf] at hm ⊢
            omega
end Go.Gx.Y

/-
  The disk: what Flush gives.
-/
namespace Go.Gx.Y
open Go.Gx
set_option linter.all false
def Dk.flushed (D : Dk) (i : Nat) : List (List UInt8) := (D.pend.take i).foldl (fun L c => L.set c.1 c.2) D.last
def Dk.flush (D : Dk) : Int × Dk :=
  if D.down then (80, D) else if D.power.1 then (0, { D.power.2 with last := D.flushed D.pend.length, pend := [] }) else (80, D.power.2)

theorem flushed_len (D : Dk) (i : Nat) : (D.flushed i).length = D.last.length := by
  unfold Dk.flushed
  generalize D.pend.take i = L
  generalize D.last = M
  induction L generalizing M with
  | nil => rfl
  | cons c L ih => rw [List.foldl_cons, ih, List.length_set]
theorem flushed_succ (D : Dk) {i : Nat} {c : Nat × List UInt8} (h : D.pend[i]? = some c) : D.flushed (i + 1) = (D.flushed i).set c.1 c.2 := by
  unfold Dk.flushed
  rw [List.take_add_one, h]
  simp

/-- one lasting sector changes -/
theorem DiskAt.setLast {S : AS} {d l n : Nat} {pv : Value} {D : Dk} (h : DiskAt S d l n pv D) (i : Nat) {x : List UInt8} (hx : x.length = 64) :
    DiskAt (S.put l (.row ((D.last.set i x).map bv).flatten 75 true true)) d l n pv { D with last := D.last.set i x } := by
  refine ⟨by rw [AS.get_put_ne _ _ h.dl, List.length_set]; exact h.obj, by simp, by rw [AS.get_put_ne _ _ h.ln.symm]; exact h.now, h.pend.stays (same_put _ _ _) fun m hm => by simpa using (h.apart m hm).2.1, h.apart, h.dl, h.dn, h.ln, h.lt, ?_, h.u2, ?_, ?_, ?_, h.fz⟩
  · intro y hy
    rcases List.mem_or_eq_of_mem_set hy with h5 | h5
    · exact h.u1 y h5
    · rw [h5]; exact hx
  · simpa using h.u3
  · simpa using h.same
  · simpa using h.big
theorem pcell_len {c : Nat × List UInt8} (h : c.2.length = 64) : (pcell c).length = 65 := by simp [pcell, bv_len, h]
theorem pcell_ok (c : Nat × List UInt8) : (pcell c).all okc = true := by simp [pcell, bv_ok, okc]
theorem pcell_at (c : Nat × List UInt8) : (pcell c)[0]? = some (.int .i64 c.1) := rfl
theorem pcell_at' (c : Nat × List UInt8) (h : 0 < (pcell c).length) : (pcell c)[0] = .int .i64 c.1 := rfl
theorem pcell_data {c : Nat × List UInt8} (h : c.2.length = 64) : rowLoad (pcell c) 1 (some 64) = some (.agg (bv c.2).toArray) := by
  simp [rowLoad, pcell, bv_len, h, List.take_of_length_le]

theorem flush_ok {S : AS} {d l n : Nat} {pv : Value} {D : Dk} (h : DiskAt S d l n pv D) (hpl : D.pend.length ≤ 1000000000) {Q : En → AS → Prop}
    (hq : ∀ S' pv', DiskAt S' d l n pv' D.flush.2 → Same S S' (fpOf d l n pv) → (∀ m ∈ fpOf d l n pv', m ∈ fpOf d l n pv) → Q (.ret (.int .i64 D.flush.1)) S') : Call G 11 [ptr d] S Q := by
  refine call_run' (G := G) rfl (ext_none (by decide)) ?_
  simp
  refine state_ok h.obj ?_
  by_cases hdn : D.down = true
  · have e : D.flush = (80, D) := by unfold Dk.flush; rw [if_pos hdn]
    rw [e] at hq
    simp [hdn]
    exact hq S pv h (.refl _ _) (fun m hm => hm)
  · rw [Bool.not_eq_true] at hdn
    simp [hdn]
    refine power_at h hdn fun S1 h1 hs1 hn1 => ?_
    cases hp : D.power.1
    · have e : D.flush = (80, D.power.2) := by unfold Dk.flush; rw [if_neg (by simp [hdn]), if_neg (by simp [hp])]
      rw [e] at hq
      simp
      exact hq S1 pv h1 (hs1.mono (by simp [fpOf])) (fun m hm => hm)
    · have e : D.flush = (0, { D.power.2 with last := D.flushed D.pend.length, pend := [] }) := by unfold Dk.flush; rw [if_neg (by simp [hdn]), if_pos hp]
      rw [e] at hq
      have hln := h1.pend.ln (S' := S1)
      simp only [Dk.power_pend, List.length_map] at hln
      have h1' : DiskAt S1 d l n pv { D.power.2 with last := D.flushed 0 } := by
        have : { D.power.2 with last := D.flushed 0 } = D.power.2 := by
          show { D.power.2 with last := D.last } = D.power.2
          rw [← D.power_last]
        rw [this]; exact h1
      simp [h1.obj, hln]
      refine run_loop (fun k a S2 => ∃ i, k = D.pend.length - i ∧ i ≤ D.pend.length ∧ Has a 36 [(0, ptr d), (17, pv), (18, .int .i64 D.pend.length), (19, .int .i64 i)] ∧ DiskAt S2 d l n pv { D.power.2 with last := D.flushed i } ∧ Same S1 S2 [l]) _ ⟨0, rfl, by omega, ⟨rfl, rfl, by simp⟩, h1', .refl _ _⟩ ?_
      rintro _ R hR _ S2 ⟨i, rfl, hi, ha, h2, hs2⟩
      obtain ⟨x, rfl⟩ := ha.lit
      simp [fillF, pickL]
      by_cases hlt : i < D.pend.length
      · obtain ⟨p, ex, e1, e2, e3, e4⟩ := h2.pend.idx (k := 65) (i := i) (j := .i64) (S' := S2.bump 1) (by simpa using hlt)
        have hc : D.pend[i]? = some D.pend[i] := by simp [hlt]
        have hcu := h.u3 D.pend[i] (by simp)
        generalize hcc : D.pend[i] = c at hc hcu
        simp only [Dk.power_pend] at e2
        have hup : Uni 65 (D.pend.map pcell) := uniPc fun x hx => (h.u3 x hx).1
        have e5 := hup.load (i := i) (l := pcell c) (by rw [List.getElem?_map, hc]; rfl)
        have hp2 : p ≠ S2.next := by omega
        have e6 : rowStore (Value.int IntKind.i64 0 :: reps 64 (.int .u8 0)) 0 (pcell c) = some (pcell c) := rowStore_all (by rw [pcell_len hcu.1]; rfl) (pcell_ok c)
        have e7 := pcell_at c
        have e8 := pcell_data hcu.1
        have ho2 := h2.obj
        have hl2 := h2.last
        have hlt2 := h2.lt
        have hdl := h2.dl
        have hd3 : d ≠ S2.next := by omega
        have hl3 : l ≠ S2.next := by omega
        have hu := uniBv h2.u1
        have hcl : c.1 < (D.flushed i).length := by rw [flushed_len]; exact hcu.2
        have e9 : rowStore (List.map bv (D.flushed i)).flatten (c.1 * 64) (bv c.2) = some (((D.flushed i).set c.1 c.2).map bv).flatten := by
          rw [hu.store (by rw [List.length_map]; exact hcl) (by rw [bv_len, hcu.1]) (bv_ok _), ← List.map_set]
        have hw : IntKind.i64.wrap ((i : Int) + 1) = ((i + 1 : Nat) : Int) := by rw [wrap64 (by omega) (by omega)]; rfl
        simp [hlt, e1, e2, e5, e6, pcell_at', e8, hp2, pcell_len hcu.1, ho2, hd3, hd3.symm, hl3, hl3.symm, hcl, hl2, e9, bv_len, hcu.1, hdl, hdl.symm, hw]
        have hT : Same S2 (((S2.bump 1).put S2.next (AObj.row (Value.int IntKind.i64 0 :: reps 64 (Value.int IntKind.u8 0)) 77 true true)).put S2.next (AObj.row (pcell c) 77 true true)) [] := ⟨by simp, fun m hm _ => by
          have : m ≠ S2.next := by omega
          simp [this]⟩
        refine hR _ _ _ (by omega) ⟨i + 1, rfl, by omega, ⟨rfl, rfl, by simp⟩, ?_, (hs2.trans hT (by simp)).trans (same_put _ _ _) (by simp)⟩
        · have := (h2.stays hT (by simp)).setLast c.1 hcu.1
          rw [flushed_succ D hc]
          simpa using this
      · have : i = D.pend.length := by omega
        subst this
        simp [h2.obj, rowStore, splice]
        have hlt2 := h2.lt
        have hs3 : Same S (S2.put d (AObj.row [Value.slice (some ⟨l, 0, none⟩) (D.flushed D.pend.length).length (D.flushed D.pend.length).length, Value.slice (some ⟨n, 0, none⟩) D.now.length D.now.length, Value.slice none 0 0, Value.bool D.power.snd.down, Value.int IntKind.i64 D.power.snd.fuse] 73 true true)) (fpOf d l n pv) := by
          refine ((hs1.mono (gp := fpOf d l n pv) (by simp [fpOf])).trans hs2 (by simp [fpOf])).trans (same_put _ _ _) (by simp [fpOf])
        refine hq _ (.slice none 0 0) ⟨by simp, ?_, ?_, .inl ⟨rfl, rfl⟩, by simp [ownsOf], h2.dl, h2.dn, h2.ln, h2.lt, h2.u1, h2.u2, by simp, h2.same, h2.big, h2.fz⟩ hs3 ?_
        · rw [AS.get_put_ne _ _ h2.dl.symm]; exact h2.last
        · rw [AS.get_put_ne _ _ h2.dn.symm]; exact h2.now
        · intro m hm; simp [fpOf, ownsOf] at hm ⊢; omega
end Go.Gx.Y

/-
  The disk: what Crash gives.
-/
namespace Go.Gx.Y
open Go.Gx
set_option linter.all false

def tear (old new : List UInt8) (n : Nat) : List UInt8 := new.take n ++ old.drop n
theorem tear_len {old new : List UInt8} {n : Nat} (h : old.length = 64) (g : new.length = 64) (hn : n ≤ 64) : (tear old new n).length = 64 := by simp [tear, h, g]; omega
/-- how much of the write is kept -/
def keepOf (keep : List Int) (i : Nat) : Nat := match keep[i]? with | some n => (max 0 (min n 64)).toNat | none => 0
theorem keepOf_le (keep : List Int) (i : Nat) : keepOf keep i ≤ 64 := by unfold keepOf; split <;> omega
def Dk.torn (D : Dk) (keep : List Int) : Nat → List (List UInt8)
  | 0 => D.last
  | i + 1 => match D.pend[i]? with
    | none => D.torn keep i
    | some c => (D.torn keep i).set c.1 (tear ((D.torn keep i).getD c.1 []) c.2 (keepOf keep i))
def Dk.crash (D : Dk) (keep : List Int) : Dk := ⟨D.torn keep D.pend.length, D.torn keep D.pend.length, [], false, -1⟩

theorem torn_len (D : Dk) (keep : List Int) : ∀ i, (D.torn keep i).length = D.last.length
  | 0 => rfl
  | i + 1 => by
    unfold Dk.torn
    split
    · exact torn_len D keep i
    · rw [List.length_set]; exact torn_len D keep i
theorem torn_succ {D : Dk} {keep : List Int} {i : Nat} {c : Nat × List UInt8} (h : D.pend[i]? = some c) : D.torn keep (i + 1) = (D.torn keep i).set c.1 (tear ((D.torn keep i).getD c.1 []) c.2 (keepOf keep i)) := by
  simp only [Dk.torn, h]

theorem DiskAt.newLast {S S' : AS} {d l n : Nat} {pv : Value} {D : Dk} (h : DiskAt S d l n pv D) {L : List (List UInt8)} (hs : Same S S' [l]) (hg : S'.get l = some (.row (L.map bv).flatten 75 true true)) (hL : L.length = D.last.length) (hu : ∀ x ∈ L, x.length = 64) :
    DiskAt S' d l n pv { D with last := L } := by
  have hlt := h.lt
  refine ⟨by rw [hs.2 d hlt.1 (by simpa using h.dl)]; simp only [hL]; exact h.obj, hg, by rw [hs.2 n hlt.2.2 (by simpa using h.ln.symm)]; exact h.now, h.pend.stays hs fun m hm => by simpa using (h.apart m hm).2.1, h.apart, h.dl, h.dn, h.ln, ?_, hu, h.u2, ?_, ?_, ?_, h.fz⟩
  · have := hs.1; omega
  · simpa [hL] using h.u3
  · simpa [hL] using h.same
  · simpa [hL] using h.big

theorem pcell_get0 (c : Nat × List UInt8) : (pcell c)[0]? = some (.int .i64 c.1) := rfl
theorem crash_ok {S : AS} {d l n : Nat} {pv kv : Value} {D : Dk} {keep : List Int} (h : DiskAt S d l n pv D) (hk : Cs S kv (keep.map (.int .i64 ·))) (hsep : ∀ b ∈ ownsOf kv, b ∉ fpOf d l n pv) (hpl : D.pend.length ≤ 1000000000) {Q : En → AS → Prop}
    (hq : ∀ S' pv' v, DiskAt S' d l n pv' (D.crash keep) → Same S S' (fpOf d l n pv) → (∀ m ∈ fpOf d l n pv', m ∈ fpOf d l n pv) → Q (.ret v) S') : Call G 12 [ptr d, kv] S Q := by
  refine call_run' (G := G) rfl (ext_none (by decide)) ?_
  have hln := h.pend.ln (S' := S)
  simp only [List.length_map] at hln
  simp [h.obj, hln]
  refine run_loop (fun k a S2 => ∃ i, k = D.pend.length - i ∧ i ≤ D.pend.length ∧ Has a 61 [(0, ptr d), (1, kv), (12, pv), (13, .int .i64 D.pend.length), (14, .int .i64 i)] ∧ DiskAt S2 d l n pv { D with last := D.torn keep i } ∧ Same S S2 [l]) _ ⟨0, rfl, by omega, ⟨rfl, rfl, by simp⟩, h, .refl _ _⟩ ?_
  rintro _ R hR _ S2 ⟨i, rfl, hi, ha, h2, hs2⟩
  obtain ⟨x, rfl⟩ := ha.lit
  have hk2 := hk.stays hs2 (fun m hm => by
    have := hsep m hm
    simp [fpOf] at this ⊢
    exact this.2.1)
  obtain ⟨ka, kcap, rfl⟩ := hk.shape
  simp [fillF, pickL]
  by_cases hlt : i < D.pend.length
  · obtain ⟨p, ex, e1, e2, e3, e4⟩ := h2.pend.idx (k := 65) (i := i) (j := .i64) (S' := S2.bump 1) (by simpa using hlt)
    have hc : D.pend[i]? = some D.pend[i] := by simp [hlt]
    have hcu := h.u3 D.pend[i] (by simp)
    generalize hcc : D.pend[i] = c at hc hcu
    have hup : Uni 65 (D.pend.map pcell) := uniPc fun x hx => (h.u3 x hx).1
    have e5 := hup.load (i := i) (l := pcell c) (by rw [List.getElem?_map, hc]; rfl)
    have hp2 : p ≠ S2.next := by omega
    have e6 : rowStore (Value.int IntKind.i64 0 :: reps 64 (.int .u8 0)) 0 (pcell c) = some (pcell c) := rowStore_all (by rw [pcell_len hcu.1]; rfl) (pcell_ok c)
    have e8 := pcell_data hcu.1
    have ho2 := h2.obj
    have hl2 := h2.last
    have hlt2 := h2.lt
    have hdl := h2.dl
    have hd3 : d ≠ S2.next := by omega
    have hl3 : l ≠ S2.next := by omega
    have hu := uniBv h2.u1
    have hcl : c.1 < (D.torn keep i).length := by rw [torn_len]; exact hcu.2
    have hw : IntKind.i64.wrap ((i : Int) + 1) = ((i + 1 : Nat) : Int) := by rw [wrap64 (by omega) (by omega)]; rfl
    have hK := keepOf_le keep i
    generalize hT : ((S2.bump 1).put S2.next (AObj.row (Value.int IntKind.i64 0 :: reps 64 (Value.int IntKind.u8 0)) 77 true true)).put S2.next (AObj.row (pcell c) 77 true true) = T
    have hTf : T.get S2.next = some (AObj.row (pcell c) 77 true true) := by rw [← hT]; simp
    have hTs : Same S2 T [] := ⟨by rw [← hT]; simp, fun m hm _ => by
      have : m ≠ S2.next := by omega
      rw [← hT]; simp [this]⟩
    have hTd : T.get d = S2.get d := hTs.2 d hlt2.1 (by simp)
    have hTl : T.get l = S2.get l := hTs.2 l hlt2.2.1 (by simp)
    have hTn : T.next = S2.next + 1 := by rw [← hT]; simp
    have h3 := h2.stays hTs (by simp)
    have hol : (D.torn keep i)[c.1]? = some ((D.torn keep i).getD c.1 []) := by simp [hcl]
    have hold := h2.u1 _ (List.mem_of_getElem? hol)
    generalize hog : (D.torn keep i).getD c.1 [] = old at hol hold
    have key : ∀ K, K = keepOf keep i → ∃ S', cpyV T 1 (.slice (some ⟨l, c.1 * 64, none⟩) K 64) (.slice (some ⟨S2.next, 1, none⟩) K 64) = some (.int .i64 K, S') ∧ S'.get l = some (.row ((D.torn keep (i + 1)).map bv).flatten 75 true true) ∧ Same T S' [l] ∧ S'.next = T.next := by
      rintro K rfl
      have hnew : D.torn keep (i + 1) = (D.torn keep i).set c.1 (tear old c.2 (keepOf keep i)) := by rw [torn_succ hc, hog]
      refine cpyV_row (hTl.trans hl2) hTf (by rw [pcell_len hcu.1]; omega) (fun _ => ?_) (fun h0 => ?_)
      · have e : ((pcell c).drop 1).take (keepOf keep i) = bv (c.2.take (keepOf keep i)) := by rw [← bv_take]; rfl
        rw [e, hu.storePart (old := bv old) (by rw [List.getElem?_map, hol]; rfl) (by rw [bv_len, List.length_take]; omega) (bv_ok _), hnew, List.map_set]
        congr 4
        unfold tear
        rw [bv_append, ← bv_drop, bv_len, List.length_take, hcu.1, Nat.min_eq_left hK]
      · rw [hnew, h0]
        have : tear old c.2 0 = old := by simp [tear]
        rw [this]
        congr 2
        refine List.ext_getElem? fun j => ?_
        rw [List.getElem?_set]
        split
        · rename_i hj; subst hj; exact hol.symm
        · rfl
    simp [hlt, e1, e2, e5, e6, hp2, pcell_len hcu.1, hT]
    have hu4 : ∀ x ∈ D.torn keep (i + 1), x.length = 64 := by
      rw [torn_succ hc, hog]
      intro y hy
      rcases List.mem_or_eq_of_mem_set hy with h5 | h5
      · exact h2.u1 y h5
      · rw [h5]; exact tear_len hold hcu.1 hK
    by_cases hki : i < keep.length
    · obtain ⟨q, o, cells, e, wr, ex2, f1, f2, f3, f4, f5⟩ := hk2.idx (i := i) (j := .i64) (S' := T) (by simpa using hki)
      simp only [List.length_map, List.getElem_map] at f1 f5
      have hTq : T.get q = S2.get q := hTs.2 q f3 (by simp)
      obtain ⟨S3, k1, k2, k3, k4⟩ := key _ rfl
      have hkk : max 0 (min keep[i] 64) = (keepOf keep i : Int) := by
        unfold keepOf
        rw [List.getElem?_eq_getElem hki]
        simp only []
        omega
      have hS3d : S3.get d = S2.get d := (k3.2 d (by omega) (by simpa using hdl)).trans hTd
      have hS3f : S3.get S2.next = some (AObj.row (pcell c) 77 true true) := (k3.2 _ (by omega) (by simpa using hl3.symm)).trans hTf
      simp [hki, hTq, f1, f2, f5, foldV, hkk, hTd, hTf, hTl, ho2, hcl, hl2, pcell_at', pcell_get0, bndsV, bndV, hK, k1, hS3d, hS3f, hw]
      refine hR _ _ _ (by omega) ⟨i + 1, rfl, by omega, ⟨rfl, rfl, by simp⟩, h3.newLast k3 k2 ?_ hu4, (hs2.trans hTs (by simp)).trans k3 (by simp)⟩
      simp only [torn_len]
    · have hkk : keepOf keep i = 0 := by unfold keepOf; rw [List.getElem?_eq_none (by omega)]
      obtain ⟨S3, k1, k2, k3, k4⟩ := key _ hkk.symm
      have hS3d : S3.get d = S2.get d := (k3.2 d (by omega) (by simpa using hdl)).trans hTd
      have hS3f : S3.get S2.next = some (AObj.row (pcell c) 77 true true) := (k3.2 _ (by omega) (by simpa using hl3.symm)).trans hTf
      simp at k1
      simp [hki, hTd, hTf, hTl, ho2, hcl, hl2, pcell_at', pcell_get0, bndsV, bndV, hK, k1, hS3d, hS3f, hw]
      refine hR _ _ _ (by omega) ⟨i + 1, rfl, by omega, ⟨rfl, rfl, by simp⟩, h3.newLast k3 k2 ?_ hu4, (hs2.trans hTs (by simp)).trans k3 (by simp)⟩
      simp only [torn_len]
  · have : i = D.pend.length := by omega
    subst this
    have hlt2 := h2.lt
    have hsm := h2.same
    obtain ⟨S3, k1, k2, k3, k4⟩ := cpyV_all (k := 64) h2.now h2.last (n := (D.torn keep D.pend.length).length) (by simpa using hsm) (by simp) (uniBv h2.u2) (uniBv h2.u1) (by omega) (by
      rw [List.all_eq_true]
      intro y hy
      obtain ⟨z, hz, hy2⟩ := List.mem_flatten.1 hy
      obtain ⟨w, _, rfl⟩ := List.mem_map.1 hz
      exact List.all_eq_true.1 (bv_ok w) y hy2)
    have hS3d : S3.get d = S2.get d := k3.2 d hlt2.1 (by simpa using h2.dn)
    simp only [] at hsm
    simp [h2.obj, hsm, k1, hS3d, rowStore, splice]
    have hld := h2.dl.symm
    have hnd := h2.dn.symm
    refine hq _ (.slice none 0 0) _ ⟨by simp [Dk.crash], ?_, ?_, .inl ⟨rfl, rfl⟩, by simp [ownsOf], h2.dl, h2.dn, h2.ln, ?_, h2.u1, h2.u1, by simp [Dk.crash], rfl, h2.big, by simp [Dk.crash]⟩ ⟨?_, ?_⟩ ?_
    · rw [AS.get_put_ne _ _ hld, AS.get_put_ne _ _ hld, AS.get_put_ne _ _ hld, k3.2 l hlt2.2.1 (by simpa using h2.ln)]
      exact h2.last
    · rw [AS.get_put_ne _ _ hnd, AS.get_put_ne _ _ hnd, AS.get_put_ne _ _ hnd]
      exact k2
    · simp only [AS.next_put]; omega
    · have := hs2.1
      simp only [AS.next_put]; omega
    · intro m hm hn
      simp only [fpOf, List.mem_cons, not_or] at hn
      rw [AS.get_put_ne _ _ hn.1, AS.get_put_ne _ _ hn.1, AS.get_put_ne _ _ hn.1, k3.2 m (Nat.lt_of_lt_of_le hm hs2.1) (by simpa using hn.2.2.1), hs2.2 m hm (by simpa using hn.2.1)]
    · intro m hm; simp [fpOf, ownsOf] at hm ⊢; omega
end Go.Gx.Y

/-
  The disk: what Read and Down give.
-/
namespace Go.Gx.Y
open Go.Gx
set_option linter.all false

theorem Cs.bs {S : AS} {v : Value} {data : List UInt8} (h : Cs S v (bv data)) : Bs S v data := by
  obtain ⟨a, cap, rfl⟩ := h.shape
  refine ⟨⟨a, cap, by rw [bv_len]⟩, by have := h.cells; rw [bv_len] at this; rw [bv_len]; exact this, fun b hb => h.lt b ?_⟩
  unfold blockOf at hb
  split at hb
  · rename_i q o n c heq
    simp at heq hb
    obtain ⟨rfl, _⟩ := heq
    subst hb
    simp [ownsOf]
  · simp at hb

theorem down_ok {S : AS} {d l n : Nat} {pv : Value} {D : Dk} (h : DiskAt S d l n pv D) {Q : En → AS → Prop} (hq : Q (.ret (.bool D.down)) S) : Call G 14 [ptr d] S Q := by
  refine call_run' (G := G) rfl (ext_none (by decide)) ?_
  simp [h.obj]
  exact hq

/-- a copy of bytes -/
theorem clone_ok {S : AS} {b o len cap : Nat} {cs : List Value} (hlen : cs.length = len) (hc : srcCells S 1 (.slice (some ⟨b, o, none⟩) len cap) = some (len, cs)) (hb : b < S.next) (h0 : 0 < len) (hl : len ≤ 1000000000) (hok : cs.all okc = true) {Q : En → AS → Prop}
    (hq : ∀ S', S'.get (S.next + 1) = some (.row cs 5 true false) → Same S S' [] → S'.next = S.next + 2 → Q (.ret (.slice (some ⟨S.next + 1, 0, none⟩) len len)) S') : Call G 32 [.slice (some ⟨b, o, none⟩) len cap] S Q := by
  subst hlen
  refine call_run' (G := G) rfl (ext_none (by decide)) ?_
  simp [placeIn]
  have hb2 : b ≠ S.next := by omega
  have hc2 : srcCells ((S.bump 2).put S.next (.row [] 5 true true)) 1 (.slice (some ⟨b, o, none⟩) cs.length cap) = some (cs.length, cs) := by
    rw [← hc]
    simp only [srcCells]
    simp [hb2]
  have happ : appV ((S.bump 2).put S.next (.row [] 5 true true)) (S.next + 1) 5 1 1 (.slice (some ⟨S.next, 0, none⟩) 0 0) (.slice (some ⟨b, o, none⟩) cs.length cap) = some (.slice (some ⟨S.next + 1, 0, none⟩) cs.length cs.length, ((S.bump 2).put S.next (.row [] 5 true true)).put (S.next + 1) (.row cs 5 true false)) := by
    unfold appV
    rw [hc2]
    simp only []
    rw [if_neg (by omega), if_pos ⟨by omega, by omega, by omega⟩]
    simp [vs]
  rw [happ]
  simp
  refine hq _ (by simp) ⟨by simp, fun m hm _ => ?_⟩ (by simp)
  have h1 : m ≠ S.next + 1 := by omega
  have h2 : m ≠ S.next := by omega
  simp [h1, h2]

/-- what Read does -/
def Dk.read (D : Dk) (at_ : Int) : Int := if D.down then 80 else if at_ < 0 ∨ (D.now.length : Int) ≤ at_ then 1 else 0

theorem read_ok {S : AS} {d l n : Nat} {pv : Value} {D : Dk} (h : DiskAt S d l n pv D) {at_ : Int} {Q : En → AS → Prop}
    (h0 : D.read at_ ≠ 0 → Q (.ret (.tuple #[.slice none 0 0, .int .i64 (D.read at_)])) S)
    (hq : ∀ k : Nat, ∀ x S', at_ = k → D.read at_ = 0 → D.now[k]? = some x → S'.get (S.next + 1) = some (.row (bv x) 5 true false) → Same S S' [] → S'.next = S.next + 2 → Q (.ret (.tuple #[.slice (some ⟨S.next + 1, 0, none⟩) 64 64, .int .i64 0])) S') : Call G 13 [ptr d, .int .i64 at_] S Q := by
  refine call_run' (G := G) rfl (ext_none (by decide)) ?_
  simp
  refine place_ok h.obj ?_
  by_cases hdn : D.down = true
  · have e : D.read at_ = 80 := by unfold Dk.read; rw [if_pos hdn]
    rw [e] at h0
    simp [hdn]
    exact h0 (by omega)
  · rw [Bool.not_eq_true] at hdn
    by_cases hat : at_ < 0 ∨ (D.now.length : Int) ≤ at_
    · have e : D.read at_ = 1 := by unfold Dk.read; rw [if_neg (by simp [hdn]), if_pos hat]
      rw [e] at h0
      simp [hdn, hat]
      exact h0 (by omega)
    · have e : D.read at_ = 0 := by unfold Dk.read; rw [if_neg (by simp [hdn]), if_neg hat]
      obtain ⟨k, rfl⟩ : ∃ k : Nat, at_ = k := ⟨at_.toNat, by omega⟩
      have hk : k < D.now.length := by omega
      have hx : D.now[k]? = some D.now[k] := List.getElem?_eq_getElem hk
      generalize D.now[k] = x at hx
      have hxl := h.u2 x (List.mem_of_getElem? hx)
      have hu := uniBv h.u2
      simp [hdn, hk, h.obj, bndsV]
      have hg := hu.get (i := k) (l := bv x) (by rw [List.getElem?_map, hx]; rfl)
      have hlen := hu.len
      rw [List.length_map] at hlen
      have hbl : (bv x).length = 64 := by rw [bv_len, hxl]
      have hle : k * 64 + 64 ≤ D.now.length * 64 := by omega
      refine clone_ok hbl (by simp only [srcCells]; simp [h.now, hlen, hle, hg]) h.lt.2.2 (by omega) (by omega) (bv_ok _) fun S' g1 g2 g3 => ?_
      simp
      exact hq k x S' rfl e hx g1 g2 g3
end Go.Gx.Y

/-
  A disk that lies behind all that was there.
-/
namespace Go.Gx.Y
open Go.Gx
set_option linter.all false

theorem DiskAt.fp_lt {S : AS} {d l n : Nat} {pv : Value} {D : Dk} (h : DiskAt S d l n pv D) : ∀ m ∈ fpOf d l n pv, m < S.next := by
  intro m hm
  have := h.lt
  simp only [fpOf, List.mem_cons] at hm
  rcases hm with rfl | rfl | rfl | hm
  · omega
  · omega
  · omega
  · rcases h.pend with ⟨rfl, _⟩ | ⟨p, ex, rfl, _, hp⟩
    · simp [ownsOf] at hm
    · simp [ownsOf] at hm; subst hm; exact hp

/-- a disk whose names were given out after S0 -/
structure Dsk (S0 S : AS) (d l n : Nat) (pv : Value) (D : Dk) : Prop where
  at_ : DiskAt S d l n pv D
  same : Same S0 S []
  new : ∀ m ∈ fpOf d l n pv, S0.next ≤ m

theorem Dsk.stays {S0 S S' : AS} {d l n : Nat} {pv : Value} {D : Dk} (h : Dsk S0 S d l n pv D) (hs : Same S S' []) : Dsk S0 S' d l n pv D :=
  ⟨h.at_.stays hs (by simp), h.same.trans hs (by simp), h.new⟩

theorem Dsk.old {S0 S : AS} {d l n : Nat} {pv v : Value} {D : Dk} {cs : List Value} (h : Dsk S0 S d l n pv D) (hv : Cs S0 v cs) : Cs S v cs := hv.stays h.same (by simp)

theorem Dsk.sep {S0 S : AS} {d l n : Nat} {pv v : Value} {D : Dk} {cs : List Value} (h : Dsk S0 S d l n pv D) (hv : Cs S0 v cs) : ∀ b ∈ ownsOf v, b ∉ fpOf d l n pv := fun b hb hm => by
  have h1 := hv.lt b hb
  have h2 := h.new b hm
  omega

theorem blockOf_owns {v : Value} {b : Nat} (hb : blockOf v = some b) : b ∈ ownsOf v := by
  unfold blockOf at hb
  split at hb
  · simp at hb; simp [ownsOf, hb]
  · simp at hb

theorem write_dsk {S0 S : AS} {d l n : Nat} {pv v : Value} {D : Dk} {data : List UInt8} (h : Dsk S0 S d l n pv D) (hv : Cs S v (bv data)) (hsep : ∀ b ∈ ownsOf v, b ∉ fpOf d l n pv) {at_ : Int} (hpl : D.pend.length ≤ 1000000000) {Q : En → AS → Prop}
    (hq : ∀ S' pv', Dsk S0 S' d l n pv' (D.write at_ data).2 → Same S S' (fpOf d l n pv) → Q (.ret (.int .i64 (D.write at_ data).1)) S') : Call G 10 [ptr d, .int .i64 at_, v] S Q :=
  write_ok h.at_ (Cs.bs hv) (fun b hb => hsep b (blockOf_owns hb)) hpl fun S' pv' h1 h2 h3 => hq S' pv' ⟨h1, h.same.trans h2 fun m hm hl => absurd (h.new m hm) (by omega), fun m hm => by
    rcases h3 m hm with h4 | h4
    · exact h.new m h4
    · exact Nat.le_trans h.same.1 h4⟩ h2

theorem flush_dsk {S0 S : AS} {d l n : Nat} {pv : Value} {D : Dk} (h : Dsk S0 S d l n pv D) (hpl : D.pend.length ≤ 1000000000) {Q : En → AS → Prop}
    (hq : ∀ S' pv', Dsk S0 S' d l n pv' D.flush.2 → Same S S' (fpOf d l n pv) → Q (.ret (.int .i64 D.flush.1)) S') : Call G 11 [ptr d] S Q :=
  flush_ok h.at_ hpl fun S' pv' h1 h2 h3 => hq S' pv' ⟨h1, h.same.trans h2 fun m hm hl => absurd (h.new m hm) (by omega), fun m hm => h.new m (h3 m hm)⟩ h2

theorem crash_dsk {S0 S : AS} {d l n : Nat} {pv kv : Value} {D : Dk} {keep : List Int} (h : Dsk S0 S d l n pv D) (hk : Cs S kv (keep.map (.int .i64 ·))) (hsep : ∀ b ∈ ownsOf kv, b ∉ fpOf d l n pv) (hpl : D.pend.length ≤ 1000000000) {Q : En → AS → Prop}
    (hq : ∀ S' pv' v, Dsk S0 S' d l n pv' (D.crash keep) → Same S S' (fpOf d l n pv) → Q (.ret v) S') : Call G 12 [ptr d, kv] S Q :=
  crash_ok h.at_ hk hsep hpl fun S' pv' v h1 h2 h3 => hq S' pv' v ⟨h1, h.same.trans h2 fun m hm hl => absurd (h.new m hm) (by omega), fun m hm => h.new m (h3 m hm)⟩ h2

theorem read_dsk {S0 S : AS} {d l n : Nat} {pv : Value} {D : Dk} (h : Dsk S0 S d l n pv D) {at_ : Int} {Q : En → AS → Prop}
    (h0 : D.read at_ ≠ 0 → Q (.ret (.tuple #[.slice none 0 0, .int .i64 (D.read at_)])) S)
    (hq : ∀ k : Nat, ∀ x S', at_ = k → D.read at_ = 0 → D.now[k]? = some x → x.length = 64 → S'.get (S.next + 1) = some (.row (bv x) 5 true false) → Same S S' [] → S'.next = S.next + 2 → Dsk S0 S' d l n pv D → Q (.ret (.tuple #[.slice (some ⟨S.next + 1, 0, none⟩) 64 64, .int .i64 0])) S') : Call G 13 [ptr d, .int .i64 at_] S Q :=
  read_ok h.at_ h0 fun k x S' g1 g2 g3 g4 g5 g6 => hq k x S' g1 g2 g3 (h.at_.u2 x (List.mem_of_getElem? g3)) g4 g5 g6 (h.stays g5)

theorem newDisk_dsk {S0 S : AS} (h0 : Same S0 S []) {k : Nat} (h16 : 16 ≤ k) (hk : k ≤ 65536) {Q : En → AS → Prop}
    (hq : ∀ S' d l n, Dsk S0 S' d l n (.slice none 0 0) ⟨List.replicate k zero64, List.replicate k zero64, [], false, -1⟩ → Same S S' [] → Q (.ret (.tuple #[ptr d, .int .i64 0])) S') : Call G 9 [.int .i64 k] S Q :=
  newDisk_ok h16 hk fun S' h1 h2 h3 => by
    have hs : Same S S' [] := ⟨by omega, fun m hm _ => h3 m hm⟩
    refine hq S' _ _ _ ⟨h1, h0.trans hs (by simp), fun m hm => ?_⟩ hs
    have := h0.1
    simp [fpOf, ownsOf] at hm
    omega
end Go.Gx.Y

/-
  PostTorn: the walk.
-/
namespace Go.Gx.Y
open Go.Gx
set_option linter.all false

theorem u64mod (n : Int) : ∃ k : Nat, k < 16 ∧ IntKind.i64.wrap ((IntKind.u64.wrap n).tmod 16) = (k : Int) := by
  have h : 0 ≤ IntKind.u64.wrap n := by
    simp only [IntKind.wrap, IntKind.bits, IntKind.signed]
    simp
    omega
  refine ⟨((IntKind.u64.wrap n).tmod 16).toNat, ?_, ?_⟩
  · rw [Int.tmod_eq_emod_of_nonneg h]; omega
  · rw [Int.tmod_eq_emod_of_nonneg h, wrap64 (by omega) (by omega)]; omega

theorem disks_true {S : AS} {Q : En → AS → Prop} (hq : Q (.ret (.bool true)) S) : Call G 8 [] S Q := call_ext (show G.ext 8 [] = some (.bool true) from extOf_some (k := 8) (ks := [8, 21]) (by decide)) hq

theorem pad_get {l : List UInt8} {i : Nat} (h : l.length ≤ 64) (hi : i < 64) : (pad l)[i]? = some (byteAt l i) := by
  unfold pad byteAt
  rw [List.getD_eq_getElem?_getD]
  by_cases hl : i < l.length
  · rw [List.getElem?_append_left hl]; simp [hl]
  · rw [List.getElem?_append_right (by omega), List.getElem?_replicate, if_pos (by omega), List.getElem?_eq_none (by omega)]
    rfl
theorem tear_get {a b : List UInt8} {keep : Int} {i : Nat} (ha : a.length ≤ 64) (hb : b.length ≤ 64) (hi : i < 64) : (tear (pad a) (pad b) (max 0 (min keep 64)).toNat)[i]? = some (if (i : Int) < keep then byteAt b i else byteAt a i) := by
  unfold tear
  have hpb := pad_len hb
  by_cases hk : (i : Int) < keep
  · rw [if_pos hk, List.getElem?_append_left (by rw [List.length_take, hpb]; omega), List.getElem?_take, if_pos (by omega), pad_get hb hi]
  · rw [if_neg hk, List.getElem?_append_right (by rw [List.length_take, hpb]; omega), List.length_take, hpb, List.getElem?_drop]
    rw [show (max 0 (min keep 64)).toNat + (i - min (max 0 (min keep 64)).toNat 64) = i by omega, pad_get ha hi]

set_option maxHeartbeats 2000000 in
set_option maxRecDepth 8000 in
theorem torn_walk {S : AS} {sector keep : Int} {v1 v2 : Value} {a b : List UInt8} (h1 : Cs S v1 (bv a)) (h2 : Cs S v2 (bv b)) :
    Call G 3 [.int .i64 sector, v1, v2, .int .i64 keep] S fun e _ => e = .ret (.bool true) := by
  refine call_run' (G := G) rfl (ext_none (by decide)) ?_
  obtain ⟨a1, c1, e1⟩ := h1.shape
  obtain ⟨a2, c2, e2⟩ := h2.shape
  rw [bv_len] at e1 e2
  subst e1 e2
  simp [bv_len]
  by_cases hla : 64 < a.length
  · have : (64 : Int) < a.length := by omega
    simp [hla, this]
    refine disks_true ?_
    simp
  by_cases hlb : 64 < b.length
  · have : (64 : Int) < b.length := by omega
    have : ¬ (64 : Int) < a.length := by omega
    simp [hla, hlb, *]
    refine disks_true ?_
    simp
  have i1 : ¬ (64 : Int) < a.length := by omega
  have i2 : ¬ (64 : Int) < b.length := by omega
  obtain ⟨k, hk, hkk⟩ := u64mod sector
  simp [hla, hlb, i1, i2, hkk]
  refine newDisk_dsk (S0 := S) (k := 16) (.refl _ _) (by omega) (by omega) fun S1 d l n D1 _ => ?_
  simp
  have hk16 : ¬ ((k : Int) < 0 ∨ ((List.replicate 16 zero64).length : Int) ≤ k) := by simp; omega
  have w1 : (Dk.mk (List.replicate 16 zero64) (List.replicate 16 zero64) [] false (-1)).write k a = (0, ⟨List.replicate 16 zero64, (List.replicate 16 zero64).set k (pad a), [(k, pad a)], false, -1⟩) := by
    unfold Dk.write
    rw [if_neg (by simp), if_neg hk16, if_neg hla, if_pos (by simp [Dk.power])]
    simp [Dk.power]
  refine write_dsk D1 (D1.old h1) (fun b hb => D1.sep h1 b hb) (by simp) fun S2 pv2 D2 _ => ?_
  rw [w1] at D2 ⊢
  simp
  have w2 : (Dk.mk (List.replicate 16 zero64) ((List.replicate 16 zero64).set k (pad a)) [(k, pad a)] false (-1)).flush = (0, ⟨(List.replicate 16 zero64).set k (pad a), (List.replicate 16 zero64).set k (pad a), [], false, -1⟩) := by
    unfold Dk.flush
    rw [if_neg (by simp), if_pos (by simp [Dk.power])]
    simp [Dk.power, Dk.flushed]
  refine flush_dsk D2 (by simp) fun S3 pv3 D3 _ => ?_
  rw [w2] at D3 ⊢
  simp
  have hk16' : ¬ ((k : Int) < 0 ∨ (((List.replicate 16 zero64).set k (pad a)).length : Int) ≤ k) := by simp; omega
  have w3 : (Dk.mk ((List.replicate 16 zero64).set k (pad a)) ((List.replicate 16 zero64).set k (pad a)) [] false (-1)).write k b = (0, ⟨(List.replicate 16 zero64).set k (pad a), ((List.replicate 16 zero64).set k (pad a)).set k (pad b), [(k, pad b)], false, -1⟩) := by
    unfold Dk.write
    rw [if_neg (by simp), if_neg hk16', if_neg hlb, if_pos (by simp [Dk.power])]
    simp [Dk.power]
  refine write_dsk D3 (D3.old h2) (fun b hb => D3.sep h2 b hb) (by simp) fun S4 pv4 D4 _ => ?_
  rw [w3] at D4 ⊢
  simp [placeIn_all]
  have hS5 : Same S4 ((S4.bump 1).put S4.next (AObj.row [Value.int IntKind.i64 keep] 3 true true)) [] := ⟨by simp, fun m hm _ => by
    have : m ≠ S4.next := by omega
    simp [this]⟩
  have D5 := D4.stays hS5
  refine crash_dsk (keep := [keep]) D5 ⟨⟨_, 1, rfl⟩, by simp [srcCells], by simp [ownsOf]⟩ (fun b hb hm => by
    simp [ownsOf] at hb
    have := D4.at_.fp_lt b hm
    omega) (by simp) fun S6 pv6 cv D6 _ => ?_
  have w6 : (Dk.mk ((List.replicate 16 zero64).set k (pad a)) (((List.replicate 16 zero64).set k (pad a)).set k (pad b)) [(k, pad b)] false (-1)).crash [keep] = ⟨(List.replicate 16 zero64).set k (tear (pad a) (pad b) (max 0 (min keep 64)).toNat), (List.replicate 16 zero64).set k (tear (pad a) (pad b) (max 0 (min keep 64)).toNat), [], false, -1⟩ := by
    have : (Dk.mk ((List.replicate 16 zero64).set k (pad a)) (((List.replicate 16 zero64).set k (pad a)).set k (pad b)) [(k, pad b)] false (-1)).torn [keep] 1 = (List.replicate 16 zero64).set k (tear (pad a) (pad b) (max 0 (min keep 64)).toNat) := by
      simp [Dk.torn, keepOf, hk]
    unfold Dk.crash
    rw [show [(k, pad b)].length = 1 from rfl, this]
  rw [w6] at D6
  simp
  have hrd : (Dk.mk ((List.replicate 16 zero64).set k (tear (pad a) (pad b) (max 0 (min keep 64)).toNat)) ((List.replicate 16 zero64).set k (tear (pad a) (pad b) (max 0 (min keep 64)).toNat)) [] false (-1)).read k = 0 := by
    unfold Dk.read
    rw [if_neg (by simp), if_neg (by simp; omega)]
  refine read_dsk D6 (fun h => absurd hrd h) fun k' x S7 hkk' _ hx hxl g1 g2 g3 D7 => ?_
  obtain rfl : k = k' := by omega
  have hxx : x = tear (pad a) (pad b) (max 0 (min keep 64)).toNat := by
    simp [hk] at hx
    exact hx.symm
  simp
  refine down_ok D7.at_ ?_
  simp
  have hc1 := D7.old h1
  have hc2 := D7.old h2
  refine run_loop (fun j a' S' => ∃ i, j = 64 - i ∧ i ≤ 64 ∧ S' = S7 ∧ Has a' 122 [(1, .slice a1 a.length c1), (2, .slice a2 b.length c2), (3, .int .i64 keep), (15, .slice (some ⟨S6.next + 1, 0, none⟩) 64 64), (17, .int .i64 i)]) _ ⟨0, rfl, by omega, rfl, ⟨rfl, rfl, by simp⟩⟩ ?_
  rintro _ R hR _ S8 ⟨i, rfl, hi, rfl, ha⟩
  obtain ⟨y, rfl⟩ := ha.lit
  by_cases hlt : i < 64
  · have hi64 : (i : Int) < 64 := by omega
    have hw : IntKind.i64.wrap ((i : Int) + 1) = ((i + 1 : Nat) : Int) := by rw [wrap64 (by omega) (by omega)]; rfl
    have hxi : (bv x)[i]? = some (.int .u8 ((if (i : Int) < keep then byteAt b i else byteAt a i).toNat)) := by
      rw [bv_get, hxx, tear_get (by omega) (by omega) hlt]; rfl
    have hbx : i < (bv x).length := by rw [bv_len, hxl]; exact hlt
    by_cases hkp : (i : Int) < keep
    · have hkp2 : ¬ keep ≤ (i : Int) := by omega
      rw [if_pos hkp] at hxi
      by_cases hb : i < b.length
      · have hb' : byteAt b i = b[i] := by unfold byteAt; rw [List.getD_eq_getElem?_getD]; simp [hb]
        obtain ⟨q, o, cells, e, wr, ex, f1, f2, f3, f4, f5⟩ := hc2.idx (i := i) (j := .i64) (S' := S8) (by rw [bv_len]; exact hb)
        have f6 : (bv b)[i]'(by rw [bv_len]; exact hb) = .int .u8 (byteAt b i).toNat := by simp [bv, hb']
        rw [f6] at f5
        simp [fillF, pickL, hlt, hi64, hkp, hkp2, hb, f1, f2, f5, g1, hxi, hw]
        exact hR _ _ _ (by omega) ⟨i + 1, rfl, by omega, rfl, ⟨rfl, rfl, by simp⟩⟩
      · have hb' : byteAt b i = 0 := by unfold byteAt; rw [List.getD_eq_getElem?_getD]; simp [hb]
        rw [hb'] at hxi
        simp [fillF, pickL, hlt, hi64, hkp, hkp2, hb, g1, hxi, hw]
        exact hR _ _ _ (by omega) ⟨i + 1, rfl, by omega, rfl, ⟨rfl, rfl, by simp⟩⟩
    · have hkp2 : keep ≤ (i : Int) := by omega
      rw [if_neg hkp] at hxi
      by_cases hb : i < a.length
      · have hb' : byteAt a i = a[i] := by unfold byteAt; rw [List.getD_eq_getElem?_getD]; simp [hb]
        obtain ⟨q, o, cells, e, wr, ex, f1, f2, f3, f4, f5⟩ := hc1.idx (i := i) (j := .i64) (S' := S8) (by rw [bv_len]; exact hb)
        have f6 : (bv a)[i]'(by rw [bv_len]; exact hb) = .int .u8 (byteAt a i).toNat := by simp [bv, hb']
        rw [f6] at f5
        simp [fillF, pickL, hlt, hi64, hkp, hkp2, hb, f1, f2, f5, g1, hxi, hw]
        exact hR _ _ _ (by omega) ⟨i + 1, rfl, by omega, rfl, ⟨rfl, rfl, by simp⟩⟩
      · have hb' : byteAt a i = 0 := by unfold byteAt; rw [List.getD_eq_getElem?_getD]; simp [hb]
        rw [hb'] at hxi
        simp [fillF, pickL, hlt, hi64, hkp, hkp2, hb, g1, hxi, hw]
        exact hR _ _ _ (by omega) ⟨i + 1, rfl, by omega, rfl, ⟨rfl, rfl, by simp⟩⟩
  · have : ¬ (i : Int) < 64 := by omega
    simp [fillF, pickL, hlt, this]
    refine disks_true ?_
    simp
end Go.Gx.Y
