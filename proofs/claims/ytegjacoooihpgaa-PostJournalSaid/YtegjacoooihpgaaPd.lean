/-
  The reference's disk.
-/
import Derived.Test.YtegjacoooihpgaaPc
import Derived.Test.YtegjacoooihpgaaGg

set_option linter.all false
set_option linter.deprecated false
set_option linter.unusedSimpArgs false
set_option linter.unusedVariables false

namespace Go.Gx.Y
open Go.Gx
set_option linter.all false

theorem rep_snoc (l : List UInt8) (j : Nat) : l ++ List.replicate j 0 ++ [0] = l ++ List.replicate (j + 1) 0 := by
  rw [List.append_assoc]
  congr 1
  exact (List.replicate_succ' ..).symm

theorem padded_ok {S : AS} {l : List UInt8} (h : l.length ≤ 64) {Q : En → AS → Prop} (hq : Q (.ret (str (pad l))) S) : Call G 46 [str l] S Q := by
  refine call_run' (G := G) rfl (ext_none (by decide)) ?_
  simp
  refine run_loop (fun k a S' => ∃ j, k = 64 - l.length - j ∧ j ≤ 64 - l.length ∧ S' = S ∧ Has a 9 [(0, str (l ++ List.replicate j 0))]) _ ⟨0, rfl, by omega, rfl, ⟨rfl, rfl, by simp⟩⟩ ?_
  rintro _ R hR _ S' ⟨j, rfl, hj, rfl, ha⟩
  obtain ⟨x, rfl⟩ := ha.lit
  by_cases hlt : l.length + j < 64
  · have h1 : (l.length : Int) + j < 64 := by omega
    have h2 : l.length + j + 1 ≤ 9223372036854775807 := by omega
    simp [fillF, pickL, hlt, h1, h2]
    refine hR _ _ _ (by omega) ⟨j + 1, rfl, by omega, rfl, ⟨rfl, rfl, ?_⟩⟩
    · simp [← rep_snoc]
  · have h1 : ¬ (l.length : Int) + j < 64 := by omega
    obtain rfl : j = 64 - l.length := by omega
    simp [fillF, pickL, hlt, h1]
    exact hq

def rcell (c : Nat × List UInt8) : List Value := [.int .i64 c.1, str c.2]
theorem uniR (ls : List (Nat × List UInt8)) : Uni 2 (ls.map rcell) := fun l hl => by
  obtain ⟨x, _, rfl⟩ := List.mem_map.1 hl
  rfl
def scell (x : List UInt8) : List Value := [str x]
theorem uniS (ls : List (List UInt8)) : Uni 1 (ls.map scell) := fun l hl => by
  obtain ⟨x, _, rfl⟩ := List.mem_map.1 hl
  rfl

/-- the reference's disk at its names -/
structure RefAt (S : AS) (m : Nat) (sv pv : Value) (D : Dk) : Prop where
  obj : S.get m = some (.row [sv, pv, .int .i64 D.fuse, .bool D.down] 47 true true)
  last : SlAt S 9 sv (D.last.map scell)
  pend : SlAt S 94 pv (D.pend.map rcell)
  ms : m ∉ ownsOf sv
  mp : m ∉ ownsOf pv
  sp : ∀ x ∈ ownsOf sv, x ∉ ownsOf pv
  lt : m < S.next
  u1 : ∀ x ∈ D.last, x.length = 64
  u3 : ∀ x ∈ D.pend, x.2.length = 64 ∧ x.1 < D.last.length
  same : D.now.length = D.last.length
  big : D.last.length ≤ 65536
  fz : -9223372036854775808 ≤ D.fuse ∧ D.fuse ≤ 9223372036854775807

def rfp (m : Nat) (sv pv : Value) : List Nat := m :: (ownsOf sv ++ ownsOf pv)

theorem RefAt.stays {S S' : AS} {m : Nat} {sv pv : Value} {D : Dk} (h : RefAt S m sv pv D) {fp : List Nat} (hs : Same S S' fp) (hd : ∀ x ∈ rfp m sv pv, x ∉ fp) : RefAt S' m sv pv D := by
  refine ⟨by rw [hs.2 m h.lt (hd m (by simp [rfp]))]; exact h.obj, h.last.stays hs fun x hx => hd x (by simp [rfp, hx]), h.pend.stays hs fun x hx => hd x (by simp [rfp, hx]), h.ms, h.mp, h.sp, Nat.lt_of_lt_of_le h.lt hs.1, h.u1, h.u3, h.same, h.big, h.fz⟩

theorem RefAt.fp_lt {S : AS} {m : Nat} {sv pv : Value} {D : Dk} (h : RefAt S m sv pv D) : ∀ x ∈ rfp m sv pv, x < S.next := by
  intro x hx
  simp only [rfp, List.mem_cons, List.mem_append] at hx
  rcases hx with rfl | hx | hx
  · exact h.lt
  · exact h.last.owns_lt x hx
  · exact h.pend.owns_lt x hx

/-- its own row changes -/
theorem RefAt.own {S : AS} {m : Nat} {sv pv : Value} {D : Dk} (h : RefAt S m sv pv D) (down : Bool) (fuse : Int) (hf : -9223372036854775808 ≤ fuse ∧ fuse ≤ 9223372036854775807) :
    RefAt (S.put m (.row [sv, pv, .int .i64 fuse, .bool down] 47 true true)) m sv pv { D with down := down, fuse := fuse } :=
  ⟨by simp, h.last.stays (same_put _ _ _) fun x hx hh => h.ms (by simp at hh; subst hh; exact hx), h.pend.stays (same_put _ _ _) fun x hx hh => h.mp (by simp at hh; subst hh; exact hx), h.ms, h.mp, h.sp, h.lt, h.u1, h.u3, h.same, h.big, hf⟩

/-- the durable contents change -/
theorem RefAt.setAt {S : AS} {m : Nat} {sv pv : Value} {D : Dk} (h : RefAt S m sv pv D) {p : Nat} {ex : Bool} {cells : List Value} (hp : p ∈ ownsOf sv) (hg : S.get p = some (.row cells 9 true ex)) {L : List (List UInt8)} (hL : L.length = D.last.length) (hu : ∀ x ∈ L, x.length = 64) :
    RefAt (S.put p (.row (L.map scell).flatten 9 true ex)) m sv pv { D with last := L } := by
  have hpl := h.last.owns_lt p hp
  refine ⟨by rw [AS.get_put_ne _ _ (fun hh => h.ms (by rw [hh]; exact hp))]; exact h.obj, ?_, h.pend.stays (same_put _ _ _) fun x hx hh => ?_, h.ms, h.mp, h.sp, h.lt, hu, by simpa [hL] using h.u3, by simpa [hL] using h.same, by simpa [hL] using h.big, h.fz⟩
  · rcases h.last with ⟨rfl, _⟩ | ⟨q, ex', rfl, _, _⟩
    · simp [ownsOf] at hp
    · simp [ownsOf] at hp
      subst hp
      exact .inr ⟨p, ex, by simp [hL], by simp, hpl⟩
  · simp at hh; subst hh
    exact h.sp x hp hx

theorem rcall_ok {S : AS} {m : Nat} {sv pv : Value} {D : Dk} (h : RefAt S m sv pv D) (hdn : D.down = false) {Q : En → AS → Prop}
    (hq : ∀ S', RefAt S' m sv pv D.power.2 → Same S S' [m] → S'.next = S.next → Q (.ret (.bool D.power.1)) S') : Call G 47 [ptr m] S Q := by
  refine call_run' (G := G) rfl (ext_none (by decide)) ?_
  have ho := h.obj
  have hz := h.fz
  by_cases h0 : D.fuse = 0
  · have e : D.power = (false, { D with down := true }) := by unfold Dk.power; rw [if_pos h0]
    rw [e] at hq
    simp [ho, h0, rowStore, splice]
    have := h.own true 0 (by omega)
    exact hq _ (by rw [h0]; exact this) (same_put _ _ _) rfl
  · by_cases h1 : 0 < D.fuse
    · have e : D.power = (true, { D with fuse := D.fuse - 1 }) := by unfold Dk.power; rw [if_neg h0, if_pos h1]
      rw [e] at hq
      have hw := wrap64 (x := D.fuse - 1) (by omega) (by omega)
      simp [ho, h0, h1, rowStore, splice, hw]
      have := h.own D.down (D.fuse - 1) (by omega)
      exact hq _ this (same_put _ _ _) rfl
    · have e : D.power = (true, D) := by unfold Dk.power; rw [if_neg h0, if_neg h1]
      rw [e] at hq
      simp [ho, h0, h1]
      exact hq _ h (.refl _ _) rfl

/-- what Stop does -/
def Dk.stop (D : Dk) (n : Int) : Int × Dk := if D.down then (80, D) else if n < 0 then (1, D) else (0, { D with fuse := n })

theorem rstop_ok {S : AS} {m : Nat} {sv pv : Value} {D : Dk} (h : RefAt S m sv pv D) {n : Int} (hn : -9223372036854775808 ≤ n ∧ n ≤ 9223372036854775807) {Q : En → AS → Prop}
    (hq : ∀ S', RefAt S' m sv pv (D.stop n).2 → Same S S' [m] → Q (.ret (.int .i64 (D.stop n).1)) S') : Call G 37 [ptr m, .int .i64 n] S Q := by
  refine call_run' (G := G) rfl (ext_none (by decide)) ?_
  have ho := h.obj
  by_cases hdn : D.down = true
  · have e : D.stop n = (80, D) := by unfold Dk.stop; rw [if_pos hdn]
    rw [e] at hq
    simp [ho, hdn]
    exact hq _ h (.refl _ _)
  · rw [Bool.not_eq_true] at hdn
    by_cases h0 : n < 0
    · have e : D.stop n = (1, D) := by unfold Dk.stop; rw [if_neg (by simp [hdn]), if_pos h0]
      rw [e] at hq
      simp [ho, hdn, h0]
      exact hq _ h (.refl _ _)
    · have e : D.stop n = (0, { D with fuse := n }) := by unfold Dk.stop; rw [if_neg (by simp [hdn]), if_neg h0]
      rw [e] at hq
      simp [ho, hdn, h0, rowStore, splice]
      have := h.own D.down n hn
      rw [hdn] at this
      refine hq _ ?_ (same_put _ _ _)
      rw [← hdn] at this ⊢
      exact this

theorem stop_ok {S : AS} {d l n : Nat} {pv : Value} {D : Dk} (h : DiskAt S d l n pv D) {k : Int} (hk : -9223372036854775808 ≤ k ∧ k ≤ 9223372036854775807) {Q : En → AS → Prop}
    (hq : ∀ S', DiskAt S' d l n pv (D.stop k).2 → Same S S' [d] → Q (.ret (.int .i64 (D.stop k).1)) S') : Call G 23 [ptr d, .int .i64 k] S Q := by
  refine call_run' (G := G) rfl (ext_none (by decide)) ?_
  have ho := h.obj
  simp
  refine state_ok ho ?_
  by_cases hdn : D.down = true
  · have e : D.stop k = (80, D) := by unfold Dk.stop; rw [if_pos hdn]
    rw [e] at hq
    simp [hdn]
    exact hq _ h (.refl _ _)
  · rw [Bool.not_eq_true] at hdn
    by_cases h0 : k < 0
    · have e : D.stop k = (1, D) := by unfold Dk.stop; rw [if_neg (by simp [hdn]), if_pos h0]
      rw [e] at hq
      simp [ho, hdn, h0]
      exact hq _ h (.refl _ _)
    · have e : D.stop k = (0, { D with fuse := k }) := by unfold Dk.stop; rw [if_neg (by simp [hdn]), if_neg h0]
      rw [e] at hq
      simp [ho, hdn, h0, rowStore, splice]
      have := h.own D.down k hk
      rw [hdn] at this
      refine hq _ ?_ (same_put _ _ _)
      rw [← hdn] at this ⊢
      exact this
end Go.Gx.Y

/-
  The reference's disk: NewDisk, Write.
-/
namespace Go.Gx.Y
open Go.Gx
set_option linter.all false

theorem zero_pad : pad [] = zero64 := rfl

theorem rnew_ok {S : AS} {k : Nat} (h16 : 16 ≤ k) (hk : k ≤ 65536) {Q : En → AS → Prop}
    (hq : ∀ S' sv, RefAt S' S.next sv (.slice none 0 0) ⟨List.replicate k zero64, List.replicate k zero64, [], false, -1⟩ → Same S S' [] → (∀ x ∈ rfp S.next sv (.slice none 0 0), S.next ≤ x) → Q (.ret (.tuple #[ptr S.next, .int .i64 0])) S') : Call G 33 [.int .i64 k] S Q := by
  refine call_run' (G := G) rfl (ext_none (by decide)) ?_
  have h1 : ¬ ((k : Int) < 16) := by omega
  have h2 : ¬ ((65536 : Int) < k) := by omega
  simp [h1, h2, placeIn, splice]
  refine run_loop (fun j a S' => ∃ i sv, j = k - i ∧ i ≤ k ∧ Has a 30 [(0, .int .i64 k), (4, ptr S.next), (5, .int .i64 i)] ∧ S'.get S.next = some (.row [sv, .slice none 0 0, .int .i64 (-1), .bool false] 47 true true) ∧ SlAt S' 9 sv ((List.replicate i zero64).map scell) ∧ (∀ x ∈ ownsOf sv, S.next < x) ∧ Same S S' [] ∧ S.next < S'.next) _ ⟨0, .slice none 0 0, rfl, by omega, ⟨rfl, rfl, by simp⟩, by simp, .inl ⟨rfl, rfl⟩, by simp [ownsOf], ⟨by simp, fun m hm _ => by
    have : m ≠ S.next := by omega
    simp [this]⟩, by simp⟩ ?_
  rintro _ R hR _ S1 ⟨i, sv, rfl, hi, ha, hm, hsv, how, hsm, hnx⟩
  obtain ⟨x, rfl⟩ := ha.lit
  by_cases hlt : i < k
  · have hlt' : (i : Int) < k := by omega
    have hw : IntKind.i64.wrap ((i : Int) + 1) = ((i + 1 : Nat) : Int) := by rw [wrap64 (by omega) (by omega)]; rfl
    simp [fillF, pickL, hlt, hlt', hm]
    refine padded_ok (l := []) (by simp) ?_
    have hne : S1.next ≠ S.next := by omega
    have hT : ∀ T, T = (S1.bump 2).put S1.next (AObj.row [str zero64] 9 true true) → ∃ S3 : AS, appV T (S1.next + 1) 9 1 16 sv (.slice (some ⟨S1.next, 0, none⟩) 1 1) = some (.slice (some ⟨S1.next + 1, 0, none⟩) (i + 1) (i + 1), S3.put (S1.next + 1) (.row ((List.replicate (i + 1) zero64).map scell).flatten 9 true false)) ∧ S3.next = S1.next + 2 ∧ (∀ m, m < S1.next → m ∉ ownsOf sv → S3.get m = S1.get m) := by
      rintro T rfl
      have hsT : Same S1 ((S1.bump 2).put S1.next (AObj.row [str zero64] 9 true true)) [] := ⟨by simp, fun m hm _ => by
        have : m ≠ S1.next := by omega
        simp [this]⟩
      obtain ⟨S3, a1, a2, a3⟩ := appV_new (fr := S1.next + 1) (e := 9) (k := 1) (bytes := 16) (ms := [scell zero64]) (y := .slice (some ⟨S1.next, 0, none⟩) 1 1) (hsv.stays hsT (by simp)) (uniS _) (by omega) (List.cons_ne_nil _ _) (fun x hx => by simp at hx; rw [hx]; rfl) (by simp [srcCells, scell]) (by simp; omega) (by omega) (by simp [scell])
      refine ⟨S3, ?_, by rw [a2]; simp, fun m h1 h2 => by rw [a3 m h2]; exact hsT.2 m h1 (by simp)⟩
      rw [a1, List.replicate_succ', List.map_append]
      simp
    obtain ⟨S3, a1, a2, a3⟩ := hT _ rfl
    have hms : S.next ∉ ownsOf sv := fun hh => by have := how _ hh; omega
    have hS3m : S3.get S.next = some (.row [sv, .slice none 0 0, .int .i64 (-1), .bool false] 47 true true) := (a3 _ hnx hms).trans hm
    have hne2 : S.next ≠ S1.next + 1 := by omega
    simp [hm, zero_pad, placeIn, splice, hne.symm, hne, a1, hS3m, hne2, hne2.symm, rowStore, hw]
    refine hR _ _ _ (by omega) ⟨i + 1, .slice (some ⟨S1.next + 1, 0, none⟩) (i + 1) (i + 1), rfl, by omega, ⟨rfl, rfl, by simp⟩, by simp, .inr ⟨S1.next + 1, false, by simp, ?_, ?_⟩, ?_, ?_, ?_⟩
    · rw [AS.get_put_ne _ _ hne2.symm, AS.get_put_self]; simp
    · simp only [AS.next_put]; omega
    · intro x hx; simp [ownsOf] at hx; omega
    · have := hsm.1
      refine ⟨by simp only [AS.next_put]; omega, fun m hm _ => ?_⟩
      rw [AS.get_put_ne _ _ (by omega), AS.get_put_ne _ _ (by omega), a3 m (by omega) (fun hh => by have := how _ hh; omega), hsm.2 m hm (by simp)]
    · simp only [AS.next_put]; omega
  · have hlt' : ¬ (i : Int) < k := by omega
    obtain rfl : i = k := by omega
    simp [fillF, pickL]
    refine hq S1 sv ⟨hm, hsv, .inl ⟨rfl, rfl⟩, fun hh => by have := how _ hh; omega, by simp [ownsOf], by simp [ownsOf], hnx, ?_, by simp, rfl, by simpa using hk, by simp⟩ hsm ?_
    · intro x hx; rw [(List.mem_replicate.1 hx).2]; rfl
    · intro x hx
      simp [rfp, ownsOf] at hx
      rcases hx with rfl | hx
      · omega
      · exact Nat.le_of_lt (how x hx)
end Go.Gx.Y

/-
  The reference's disk: Write, Read.
-/
namespace Go.Gx.Y
open Go.Gx
set_option linter.all false

theorem rwrite_ok {S : AS} {m : Nat} {sv pv : Value} {D : Dk} {data : List UInt8} (h : RefAt S m sv pv D) {at_ : Int} (hpl : D.pend.length ≤ 1000000000) {Q : En → AS → Prop}
    (hq : ∀ S' pv', RefAt S' m sv pv' (D.write at_ data).2 → Same S S' (rfp m sv pv) → (∀ x ∈ rfp m sv pv', x ∈ rfp m sv pv ∨ S.next ≤ x) → Q (.ret (.int .i64 (D.write at_ data).1)) S') : Call G 35 [ptr m, .int .i64 at_, str data] S Q := by
  refine call_run' (G := G) rfl (ext_none (by decide)) ?_
  have ho := h.obj
  have hsm := h.same
  have hln := h.last.ln (S' := S)
  simp only [List.length_map] at hln
  by_cases hdn : D.down = true
  · simp [ho, hdn]
    have e : D.write at_ data = (80, D) := by unfold Dk.write; rw [if_pos hdn]
    rw [e] at hq
    exact hq S pv h (.refl _ _) (fun x hx => .inl hx)
  · rw [Bool.not_eq_true] at hdn
    by_cases hat : at_ < 0 ∨ (D.now.length : Int) ≤ at_
    · have e : D.write at_ data = (1, D) := by unfold Dk.write; rw [if_neg (by simp [hdn]), if_pos hat]
      rw [e] at hq
      rw [hsm] at hat
      by_cases h0 : at_ < 0
      · simp [ho, hdn, h0]
        exact hq S pv h (.refl _ _) (fun x hx => .inl hx)
      · have h1 : (D.last.length : Int) ≤ at_ := by omega
        simp [ho, hdn, h0, hln, h1]
        exact hq S pv h (.refl _ _) (fun x hx => .inl hx)
    · have hat' := hat
      rw [hsm] at hat'
      have h0 : ¬ at_ < 0 := by omega
      have h1 : ¬ (D.last.length : Int) ≤ at_ := by omega
      by_cases h64 : 64 < data.length
      · have h64' : (64 : Int) < data.length := by omega
        simp [ho, hdn, h0, hln, h1, h64']
        have e : D.write at_ data = (2, D) := by unfold Dk.write; rw [if_neg (by simp [hdn]), if_neg hat, if_pos h64]
        rw [e] at hq
        exact hq S pv h (.refl _ _) (fun x hx => .inl hx)
      · have h64' : ¬ (64 : Int) < data.length := by omega
        obtain ⟨k, rfl⟩ : ∃ k : Nat, at_ = k := ⟨at_.toNat, by omega⟩
        have h1' : ¬ D.last.length ≤ k := by omega
        simp [ho, hdn, h0, hln, h1, h64', h1', h64]
        refine rcall_ok h hdn fun S1 h1 hs1 hn1 => ?_
        cases hp : D.power.1
        · have e : D.write (k : Int) data = (80, D.power.2) := by unfold Dk.write; rw [if_neg (by simp [hdn]), if_neg hat, if_neg h64, if_neg (by simp [hp])]
          rw [e] at hq
          simp
          exact hq S1 pv h1 (hs1.mono (by simp [rfp])) (fun x hx => .inl hx)
        · have e : D.write (k : Int) data = (0, { D.power.2 with now := D.now.set k (pad data), pend := D.pend ++ [(k, pad data)] }) := by unfold Dk.write; rw [if_neg (by simp [hdn]), if_neg hat, if_neg h64, if_pos hp, Int.toNat_natCast]
          rw [e] at hq
          have ho1 := h1.obj
          have hlt1 := h1.lt
          have hb1 : ({ env := [], defers := [] } : Act).recd = false := rfl
          simp [ho1]
          have hbump : RefAt (S1.bump 2) m sv pv D.power.2 := h1.stays (same_bump _ _ []) (by simp)
          refine padded_ok (by omega) ?_
          have hmn : m ≠ S1.next := by omega
          have hpc : (rcell (k, pad data)).length = 2 := rfl
          have hpl2 : placeIn [Value.int .i64 0, str []] [(0, [.int .i64 k]), (1, [str (pad data)])] = some (rcell (k, pad data)) := by
            simp [placeIn, splice, rcell]
          have hpl3 : placeIn [Value.int .i64 0, str []] [(0, rcell (k, pad data))] = some (rcell (k, pad data)) := placeIn_all rfl
          have hsT : Same S1 ((S1.bump 2).put S1.next (AObj.row (rcell (k, pad data)) 94 true true)) [] := ⟨by simp, fun x hx _ => by
            have : x ≠ S1.next := by omega
            simp [this]⟩
          have hpd := h1.pend
          simp only [Dk.power_pend] at hpd
          obtain ⟨S3, a1, a2, a3⟩ := appV_new (fr := S1.next + 1) (e := 94) (k := 2) (bytes := 24) (ms := [rcell (k, pad data)]) (y := .slice (some ⟨S1.next, 0, none⟩) 1 1) (hpd.stays hsT (by simp)) (uniR _) (by omega) (List.cons_ne_nil _ _) (fun x hx => by simp at hx; rw [hx]; rfl) (by simp [srcCells, hpc, List.take_of_length_le]) (by simp; omega) (by omega) (by simp [rcell])
          simp only [List.length_map, List.length_cons, List.length_nil, Nat.zero_add] at a1
          have hS3m : S3.get m = S1.get m := by
            rw [a3 m h1.mp]; exact hsT.2 m hlt1 (by simp)
          have hmn2 : m ≠ S1.next + 1 := by omega
          simp [ho1, hpl2, hpl3, hpc, hmn, hmn.symm, a1, hS3m, hmn2, hmn2.symm, rowStore, splice]
          have hb : ∀ x, x < S1.next → x ∉ rfp m sv pv → ((S3.put (S1.next + 1) (AObj.row ((List.map rcell D.pend).flatten ++ rcell (k, pad data)) 94 true false)).put m (AObj.row [sv, Value.slice (some ⟨S1.next + 1, 0, none⟩) (D.pend.length + 1) (D.pend.length + 1), Value.int .i64 D.power.2.fuse, Value.bool D.power.2.down] 47 true true)).get x = S1.get x := fun x hx hf => by
            simp only [rfp, List.mem_cons, List.mem_append, not_or] at hf
            rw [AS.get_put_ne _ _ hf.1, AS.get_put_ne _ _ (by omega), a3 x hf.2.2]
            exact hsT.2 x hx (by simp)
          have hsv : SlAt ((S3.put (S1.next + 1) (AObj.row ((List.map rcell D.pend).flatten ++ rcell (k, pad data)) 94 true false)).put m (AObj.row [sv, Value.slice (some ⟨S1.next + 1, 0, none⟩) (D.pend.length + 1) (D.pend.length + 1), Value.int .i64 D.power.2.fuse, Value.bool D.power.2.down] 47 true true)) 9 sv (D.power.2.last.map scell) := by
            refine h1.last.stays (fp := m :: ownsOf pv) ⟨?_, fun x hx hf => ?_⟩ fun x hx hh => ?_
            · simp only [AS.next_put]; rw [a2]; have := hsT.1; omega
            · simp only [List.mem_cons, not_or] at hf
              rw [AS.get_put_ne _ _ hf.1, AS.get_put_ne _ _ (by omega), a3 x hf.2]
              exact hsT.2 x hx (by simp)
            · rcases List.mem_cons.1 hh with rfl | hh
              · exact h1.ms hx
              · exact h1.sp x hx hh
          have hown := h1.last.owns_lt
          have hn3 : S3.next = S1.next + 2 := by rw [a2]; simp
          refine hq _ (.slice (some ⟨S1.next + 1, 0, none⟩) (D.pend.length + 1) (D.pend.length + 1)) ⟨by simp, hsv, .inr ⟨S1.next + 1, false, by simp, ?_, ?_⟩, h1.ms, ?_, ?_, ?_, h1.u1, ?_, ?_, h1.big, h1.fz⟩ ⟨?_, ?_⟩ ?_
          · rw [AS.get_put_ne _ _ hmn2.symm, AS.get_put_self]; simp
          · simp only [AS.next_put]; omega
          · simp [ownsOf]; omega
          · intro x hx hh
            have := hown x hx
            simp [ownsOf] at hh
            omega
          · simp only [AS.next_put]; omega
          · intro x hx
            rcases List.mem_append.1 hx with h5 | h5
            · exact h1.u3 x (by rw [Dk.power_pend]; exact h5)
            · simp at h5; subst h5
              refine ⟨pad_len (by omega), ?_⟩
              simp; omega
          · simp [hsm]
          · simp only [AS.next_put]; omega
          · intro x hx hf
            rw [hb x (by omega) hf]
            exact hs1.2 x hx (fun hh => hf (by simp at hh; simp [rfp, hh]))
          · intro x hx
            simp only [rfp, List.mem_cons, List.mem_append] at hx ⊢
            rcases hx with rfl | hx | hx
            · simp
            · simp [hx]
            · right; simp [ownsOf] at hx; omega
end Go.Gx.Y

/-
  The reference's disk: Read, Flush.
-/
namespace Go.Gx.Y
open Go.Gx
set_option linter.all false

theorem flushed_get_succ {D : Dk} {i k : Nat} {c : Nat × List UInt8} {x : List UInt8} (hc : D.pend[i]? = some c) (hx : (D.flushed i)[k]? = some x) : (D.flushed (i + 1))[k]? = some (if c.1 = k then c.2 else x) := by
  rw [flushed_succ D hc, List.getElem?_set]
  have := (List.getElem?_eq_some_iff.1 hx).1
  split
  · rename_i h; subst h; rw [if_pos this]
  · exact hx

theorem sflat (l : List (List UInt8)) : (l.map scell).flatten = l.map str := by
  induction l with
  | nil => rfl
  | cons x l ih => rw [List.map_cons, List.flatten_cons, ih]; rfl

theorem rread_ok {S : AS} {m : Nat} {sv pv : Value} {D : Dk} (h : RefAt S m sv pv D) {at_ : Int} (hpl : D.pend.length ≤ 1000000000) {Q : En → AS → Prop}
    (h0 : D.read at_ ≠ 0 → Q (.ret (.tuple #[str [], .int .i64 (D.read at_)])) S)
    (hq : ∀ (k : Nat) (x : List UInt8), at_ = k → D.read at_ = 0 → (D.flushed D.pend.length)[k]? = some x → Q (.ret (.tuple #[str x, .int .i64 0])) S) : Call G 34 [ptr m, .int .i64 at_] S Q := by
  refine call_run' (G := G) rfl (ext_none (by decide)) ?_
  have ho := h.obj
  have hsm := h.same
  have hln := h.last.ln (S' := S)
  have hlp := h.pend.ln (S' := S)
  simp only [List.length_map] at hln hlp
  by_cases hdn : D.down = true
  · have e : D.read at_ = 80 := by unfold Dk.read; rw [if_pos hdn]
    rw [e] at h0
    simp [ho, hdn]
    exact h0 (by omega)
  · rw [Bool.not_eq_true] at hdn
    by_cases hat : at_ < 0 ∨ (D.now.length : Int) ≤ at_
    · have e : D.read at_ = 1 := by unfold Dk.read; rw [if_neg (by simp [hdn]), if_pos hat]
      rw [e] at h0
      rw [hsm] at hat
      by_cases h1 : at_ < 0
      · simp [ho, hdn, h1]
        exact h0 (by omega)
      · have h2 : (D.last.length : Int) ≤ at_ := by omega
        simp [ho, hdn, h1, hln, h2]
        exact h0 (by omega)
    · have e : D.read at_ = 0 := by unfold Dk.read; rw [if_neg (by simp [hdn]), if_neg hat]
      rw [hsm] at hat
      obtain ⟨k, rfl⟩ : ∃ k : Nat, at_ = k := ⟨at_.toNat, by omega⟩
      have h1' : ¬ D.last.length ≤ k := by omega
      obtain ⟨p, ex, e1, e2, e3, e4⟩ := h.last.idx (k := 1) (i := k) (j := .i64) (S' := S) (by simp; omega)
      have hx : D.last[k]? = some D.last[k] := List.getElem?_eq_getElem (by omega)
      generalize D.last[k] = y at hx
      simp [ho, hdn, h1', hln, e1, e2, sflat, hx]
      refine run_loop (fun j a S' => ∃ i x, j = D.pend.length - i ∧ i ≤ D.pend.length ∧ S' = S ∧ (D.flushed i)[k]? = some x ∧ Has a 58 [(0, ptr m), (1, .int .i64 k), (6, str x), (7, .int .i64 i)]) _ ⟨0, y, rfl, by omega, rfl, hx, ⟨rfl, rfl, by simp⟩⟩ ?_
      rintro _ R hR _ S' ⟨i, x, rfl, hi, rfl, hfx, ha⟩
      obtain ⟨z, rfl⟩ := ha.lit
      by_cases hlt : i < D.pend.length
      · have hw : IntKind.i64.wrap ((i : Int) + 1) = ((i + 1 : Nat) : Int) := by rw [wrap64 (by omega) (by omega)]; rfl
        obtain ⟨q, ex2, f1, f2, f3, f4⟩ := h.pend.idx (k := 2) (i := i) (j := .i64) (S' := S') (by simpa using hlt)
        have hc : D.pend[i]? = some D.pend[i] := List.getElem?_eq_getElem hlt
        generalize D.pend[i] = c at hc
        have hrc : (D.pend.map rcell)[i]? = some (rcell c) := by rw [List.getElem?_map, hc]; rfl
        have g0 : (D.pend.map rcell).flatten[i * 2]? = some (.int .i64 c.1) := (uniR D.pend).cell (j := 0) hrc (by omega)
        have g1 : (D.pend.map rcell).flatten[i * 2 + 1]? = some (str c.2) := (uniR D.pend).cell (j := 1) hrc (by omega)
        have hnx := flushed_get_succ hc hfx
        by_cases hck : c.1 = k
        · rw [if_pos hck] at hnx
          simp [fillF, pickL, ho, hlp, hlt, f1, f2, g0, g1, hck, hw]
          exact hR _ _ _ (by omega) ⟨i + 1, _, rfl, by omega, rfl, hnx, ⟨rfl, rfl, by simp⟩⟩
        · rw [if_neg hck] at hnx
          have hck' : ¬ (c.1 : Int) = k := by omega
          simp [fillF, pickL, ho, hlp, hlt, f1, f2, g0, g1, hck, hck', hw]
          exact hR _ _ _ (by omega) ⟨i + 1, _, rfl, by omega, rfl, hnx, ⟨rfl, rfl, by simp⟩⟩
      · obtain rfl : i = D.pend.length := by omega
        simp [fillF, pickL, ho, hlp]
        exact hq k x rfl e hfx

theorem rflush_ok {S : AS} {m : Nat} {sv pv : Value} {D : Dk} (h : RefAt S m sv pv D) (hpl : D.pend.length ≤ 1000000000) {Q : En → AS → Prop}
    (hq : ∀ S' pv', RefAt S' m sv pv' D.flush.2 → Same S S' (rfp m sv pv) → (∀ x ∈ rfp m sv pv', x ∈ rfp m sv pv) → Q (.ret (.int .i64 D.flush.1)) S') : Call G 36 [ptr m] S Q := by
  refine call_run' (G := G) rfl (ext_none (by decide)) ?_
  have ho := h.obj
  by_cases hdn : D.down = true
  · have e : D.flush = (80, D) := by unfold Dk.flush; rw [if_pos hdn]
    rw [e] at hq
    simp [ho, hdn]
    exact hq S pv h (.refl _ _) (fun x hx => hx)
  · rw [Bool.not_eq_true] at hdn
    simp [ho, hdn]
    refine rcall_ok h hdn fun S1 h1 hs1 hn1 => ?_
    cases hp : D.power.1
    · have e : D.flush = (80, D.power.2) := by unfold Dk.flush; rw [if_neg (by simp [hdn]), if_neg (by simp [hp])]
      rw [e] at hq
      simp
      exact hq S1 pv h1 (hs1.mono (by simp [rfp])) (fun x hx => hx)
    · have e : D.flush = (0, { D.power.2 with last := D.flushed D.pend.length, pend := [] }) := by unfold Dk.flush; rw [if_neg (by simp [hdn]), if_pos hp]
      rw [e] at hq
      simp
      refine run_loop (fun j a S2 => ∃ i, j = D.pend.length - i ∧ i ≤ D.pend.length ∧ Has a 46 [(0, ptr m), (3, .int .i64 i)] ∧ RefAt S2 m sv pv { D.power.2 with last := D.flushed i } ∧ Same S1 S2 (ownsOf sv)) _ ⟨0, rfl, by omega, ⟨rfl, rfl, by simp⟩, ?_, .refl _ _⟩ ?_
      · have : { D.power.2 with last := D.flushed 0 } = D.power.2 := by
          show { D.power.2 with last := D.last } = D.power.2
          rw [← D.power_last]
        rw [this]; exact h1
      rintro _ R hR _ S2 ⟨i, rfl, hi, ha, h2, hs2⟩
      obtain ⟨z, rfl⟩ := ha.lit
      have ho2 := h2.obj
      have hlp := h2.pend.ln (S' := S2)
      simp only [List.length_map, Dk.power_pend] at hlp
      by_cases hlt : i < D.pend.length
      · have hw : IntKind.i64.wrap ((i : Int) + 1) = ((i + 1 : Nat) : Int) := by rw [wrap64 (by omega) (by omega)]; rfl
        obtain ⟨q, ex2, f1, f2, f3, f4⟩ := h2.pend.idx (k := 2) (i := i) (j := .i64) (S' := S2) (by simpa using hlt)
        have hc : D.pend[i]? = some D.pend[i] := List.getElem?_eq_getElem hlt
        have hcu := h.u3 D.pend[i] (by simp)
        generalize D.pend[i] = c at hc hcu
        have hrc : (D.pend.map rcell)[i]? = some (rcell c) := by rw [List.getElem?_map, hc]; rfl
        have g0 : (D.pend.map rcell).flatten[i * 2]? = some (.int .i64 c.1) := (uniR D.pend).cell (j := 0) hrc (by omega)
        have g1 : (D.pend.map rcell).flatten[i * 2 + 1]? = some (str c.2) := (uniR D.pend).cell (j := 1) hrc (by omega)
        have hcl : c.1 < (D.flushed i).length := by rw [flushed_len]; exact hcu.2
        obtain ⟨p, ex, e1, e2, e3, e4⟩ := h2.last.idx (k := 1) (i := c.1) (j := .i64) (S' := S2) (by simpa using hcl)
        simp only [Dk.power_pend] at f2
        simp only [] at e2
        have e5 : rowStore (List.map scell (D.flushed i)).flatten (c.1 * 1) [str c.2] = some (((D.flushed i).set c.1 c.2).map scell).flatten := by
          rw [(uniS _).store (by simpa using hcl) rfl (by simp), List.map_set]
          rfl
        rw [Nat.mul_one] at e5
        have hmp : m ≠ p := fun hh => h2.ms (hh ▸ e4)
        have hqp : q ≠ p := fun hh => h2.sp p e4 (hh ▸ f4)
        simp [fillF, pickL, ho2, hlp, hlt, f1, f2, g0, g1, hw, e1, e2, e5, hmp, hqp]
        refine hR _ _ _ (by omega) ⟨i + 1, rfl, by omega, ⟨rfl, rfl, by simp⟩, ?_, hs2.trans (same_put _ _ _) (by simp [e4])⟩
        rw [flushed_succ D hc, ← List.map_set]
        refine h2.setAt e4 e2 (by simp) fun x hx => ?_
        rcases List.mem_or_eq_of_mem_set hx with h5 | h5
        · exact h2.u1 x h5
        · rw [h5]; exact hcu.1
      · obtain rfl : i = D.pend.length := by omega
        simp [fillF, pickL, ho2, hlp, rowStore, splice]
        refine hq _ (.slice none 0 0) ⟨by simp, h2.last.stays (same_put _ _ _) fun x hx hh => h2.ms (by simp at hh; subst hh; exact hx), .inl ⟨rfl, rfl⟩, h2.ms, by simp [ownsOf], by simp [ownsOf], h2.lt, h2.u1, by simp, h2.same, h2.big, h2.fz⟩ (((hs1.mono (gp := rfp m sv pv) (by simp [rfp])).trans hs2 (fun x hx _ => by simp [rfp, hx])).trans (same_put _ _ _) (by simp [rfp])) ?_
        intro x hx
        simp [rfp, ownsOf] at hx ⊢
        rcases hx with hx | hx
        · simp [hx]
        · simp [hx]

theorem rcrash_ok {S : AS} {m : Nat} {sv pv kv : Value} {D : Dk} {keep : List Int} (h : RefAt S m sv pv D) (hk : Cs S kv (keep.map (.int .i64 ·))) (hsep : ∀ b ∈ ownsOf kv, b ∉ rfp m sv pv) (hpl : D.pend.length ≤ 1000000000) {Q : En → AS → Prop}
    (hq : ∀ S' pv' v, RefAt S' m sv pv' (D.crash keep) → Same S S' (rfp m sv pv) → (∀ x ∈ rfp m sv pv', x ∈ rfp m sv pv) → Q (.ret v) S') : Call G 38 [ptr m, kv] S Q := by
  refine call_run' (G := G) rfl (ext_none (by decide)) ?_
  simp
  refine run_loop (fun j a S2 => ∃ i, j = D.pend.length - i ∧ i ≤ D.pend.length ∧ Has a 64 [(0, ptr m), (1, kv), (4, .int .i64 i)] ∧ RefAt S2 m sv pv { D with last := D.torn keep i } ∧ Same S S2 (ownsOf sv)) _ ⟨0, rfl, by omega, ⟨rfl, rfl, by simp⟩, h, .refl _ _⟩ ?_
  rintro _ R hR _ S2 ⟨i, rfl, hi, ha, h2, hs2⟩
  obtain ⟨z, rfl⟩ := ha.lit
  have hk2 := hk.stays hs2 (fun x hx hh => hsep x hx (by simp [rfp, hh]))
  obtain ⟨ka, kcap, rfl⟩ := hk.shape
  have ho2 := h2.obj
  have hlp := h2.pend.ln (S' := S2)
  simp only [List.length_map] at hlp
  by_cases hlt : i < D.pend.length
  · have hw : IntKind.i64.wrap ((i : Int) + 1) = ((i + 1 : Nat) : Int) := by rw [wrap64 (by omega) (by omega)]; rfl
    have hmn : m ≠ S2.next := by have := h2.lt; omega
    obtain ⟨q, ex2, f1, f2, f3, f4⟩ := h2.pend.idx (k := 2) (i := i) (j := .i64) (S' := S2.bump 1) (by simpa using hlt)
    have hc : D.pend[i]? = some D.pend[i] := List.getElem?_eq_getElem hlt
    have hcu := h.u3 D.pend[i] (by simp)
    generalize D.pend[i] = c at hc hcu
    have hrc : (D.pend.map rcell)[i]? = some (rcell c) := by rw [List.getElem?_map, hc]; rfl
    have g0 := (uniR D.pend).load hrc
    have hcl : c.1 < (D.torn keep i).length := by rw [torn_len]; exact hcu.2
    have hol : (D.torn keep i)[c.1]? = some ((D.torn keep i).getD c.1 []) := by simp [hcl]
    have hold := h2.u1 _ (List.mem_of_getElem? hol)
    generalize hog : (D.torn keep i).getD c.1 [] = old at hol hold
    generalize hT : ((S2.bump 1).put S2.next (AObj.row [Value.int .i64 0, str []] 94 true true)).put S2.next (AObj.row (rcell c) 94 true true) = T
    have hTf : T.get S2.next = some (AObj.row (rcell c) 94 true true) := by rw [← hT]; simp
    have hTs : Same S2 T [] := ⟨by rw [← hT]; simp, fun x hx _ => by
      have : x ≠ S2.next := by omega
      rw [← hT]; simp [this]⟩
    have h3 := h2.stays hTs (by simp)
    have ho3 := h3.obj
    obtain ⟨p, ex, e1, e2, e3, e4⟩ := h3.last.idx (k := 1) (i := c.1) (j := .i64) (S' := T) (by simpa using hcl)
    simp only [sflat] at e2
    have hK := keepOf_le keep i
    have hnew : D.torn keep (i + 1) = (D.torn keep i).set c.1 (tear old c.2 (keepOf keep i)) := by rw [torn_succ hc, hog]
    have hpf : S2.next ≠ p := by have := h2.last.owns_lt p e4; omega
    have hmp : m ≠ p := fun hh => h2.ms (hh ▸ e4)
    have hcl2 : c.1 < (List.map str (D.torn keep i)).length := by simpa using hcl
    have hsum : old.length ≤ 9223372036854775807 := by omega
    have e5 : rowStore (List.map str (D.torn keep i)) c.1 [str (c.2.take (keepOf keep i) ++ old.drop (keepOf keep i))] = some ((D.torn keep (i + 1)).map str) := by
      have := (uniS (D.torn keep i)).store (i := c.1) (v := scell (tear old c.2 (keepOf keep i))) (by simpa using hcl) rfl (by simp [scell])
      rw [Nat.mul_one, sflat, ← List.map_set, sflat, ← hnew] at this
      exact this
    have hfin : ∀ a, Has a 64 [(0, ptr m), (1, Value.slice ka (keep.map (Value.int .i64 ·)).length kcap), (4, .int .i64 (i + 1 : Nat))] → R a (T.put p (.row ((D.torn keep (i + 1)).map str) 9 true ex)) := fun a ha => by
      refine hR _ _ _ (by omega) ⟨i + 1, rfl, by omega, ha, ?_, (hs2.trans hTs (by simp)).trans (same_put _ _ _) (by simp [e4])⟩
      rw [← sflat]
      refine h3.setAt e4 e2 (by simp only [torn_len]) fun x hx => ?_
      rw [hnew] at hx
      rcases List.mem_or_eq_of_mem_set hx with h5 | h5
      · exact h2.u1 x h5
      · rw [h5]; exact tear_len hold hcu.1 hK
    have g1 : (rcell c)[0]? = some (.int .i64 c.1) := rfl
    have g2 : (rcell c)[1]? = some (str c.2) := rfl
    have g3 : ∀ h, (rcell c)[0]'h = .int .i64 c.1 := fun _ => rfl
    have g4 : ∀ h, (rcell c)[1]'h = str c.2 := fun _ => rfl
    have hrl : (rcell c).length = 2 := rfl
    have hrs : rowStore [Value.int .i64 0, str []] 0 (rcell c) = some (rcell c) := rowStore_all rfl (by simp [rcell])
    have holg : ∀ h, (D.torn keep i)[c.1]'h = old := fun h => (List.getElem?_eq_some_iff.1 hol).2
    have hKl : keepOf keep i ≤ c.2.length := by omega
    have hKo : keepOf keep i ≤ old.length := by omega
    by_cases hki : i < keep.length
    · obtain ⟨b, o, cells, e, wr, ex3, k1, k2, k3, k4, k5⟩ := hk2.idx (i := i) (j := .i64) (S' := S2) (by simpa using hki)
      simp only [List.length_map, List.getElem_map] at k1 k5
      have hkk : min (max keep[i] 0) 64 = (keepOf keep i : Int) := by
        unfold keepOf
        rw [List.getElem?_eq_getElem hki]
        simp only []
        omega
      simp [fillF, pickL, hki, hlp, hlt, ho2, ho3, k1, k2, k5, f1, f2, g0, g1, g2, g3, g4, hkk, foldV, hmn, hrl, hrs, hT, hTf, bndsV, bndV, hKl, hKo, e1, e2, hol, holg, hcl, hsum, e5, hmp, hpf, hw]
      exact hfin _ ⟨rfl, rfl, by simp⟩
    · have hkk : keepOf keep i = 0 := by unfold keepOf; rw [List.getElem?_eq_none (by omega)]
      rw [hkk] at e5 hKl hKo
      simp at e5
      simp [fillF, pickL, hki, hlp, hlt, ho2, ho3, f1, f2, g0, g1, g2, g3, g4, hmn, hrl, hrs, hT, hTf, bndsV, bndV, hKl, hKo, e1, e2, hol, holg, hcl, hsum, e5, hmp, hpf, hw]
      exact hfin _ ⟨rfl, rfl, by simp⟩
  · obtain rfl : i = D.pend.length := by omega
    simp [fillF, pickL, ho2, hlp, rowStore, splice]
    have hms : ∀ x ∈ ownsOf sv, x ≠ m := fun x hx hh => h2.ms (by subst hh; exact hx)
    have hsame : ∀ o1 o2 o3 : AObj, Same S2 (((S2.put m o1).put m o2).put m o3) [m] := fun o1 o2 o3 => ⟨Nat.le_refl _, fun x _ hx => by
      have hx' : x ≠ m := by simpa using hx
      rw [AS.get_put_ne _ _ hx', AS.get_put_ne _ _ hx', AS.get_put_ne _ _ hx']⟩
    refine hq _ (.slice none 0 0) _ ⟨by simp [Dk.crash], h2.last.stays (hsame _ _ _) fun x hx hh => hms x hx (by simpa using hh), .inl ⟨rfl, rfl⟩, h2.ms, by simp [ownsOf], by simp [ownsOf], h2.lt, h2.u1, by simp [Dk.crash], rfl, h2.big, by simp [Dk.crash]⟩ ((hs2.mono (gp := rfp m sv pv) (fun x hx _ => by simp [rfp, hx])).trans (hsame _ _ _) (by simp [rfp])) ?_
    intro x hx
    simp [rfp, ownsOf] at hx ⊢
    rcases hx with hx | hx
    · simp [hx]
    · simp [hx]
end Go.Gx.Y

/-
  The disk and the reference's disk, side by side.
-/
namespace Go.Gx.Y
open Go.Gx
set_option linter.all false

/-- an operation on a disk -/
structure DOp where
  kind : Int
  sector : Int
  dv : Value
  data : List UInt8
  n : Int
  kv : Value
  keep : List Int
def DOp.cells (o : DOp) : List Value := [.int .u8 o.kind, .int .i64 o.sector, o.dv, .int .i64 o.n, o.kv]
structure DOp.OK (S : AS) (o : DOp) : Prop where
  data : Cs S o.dv (bv o.data)
  keep : Cs S o.kv (o.keep.map (.int .i64 ·))
  kind : 0 ≤ o.kind ∧ o.kind ≤ 255
  n : -9223372036854775808 ≤ o.n ∧ o.n ≤ 9223372036854775807

theorem small_ok {S : AS} {v : Value} {ops : List DOp} (h : Ps S 5 v (ops.map DOp.cells)) (ho : ∀ o ∈ ops, o.OK S) {Q : En → AS → Prop}
    (h0 : ¬ (ops.length ≤ 200 ∧ ∀ o ∈ ops, o.data.length ≤ 200 ∧ o.keep.length ≤ 200) → Q (.ret (.bool false)) S) (h1 : ops.length ≤ 200 → (∀ o ∈ ops, o.data.length ≤ 200 ∧ o.keep.length ≤ 200) → Q (.ret (.bool true)) S) : Call G 15 [v] S Q := by
  refine call_run' (G := G) rfl (ext_none (by decide)) ?_
  obtain ⟨a, cap, rfl⟩ := h.shape
  rw [List.length_map] at h
  rw [List.length_map]
  by_cases hl : 200 < ops.length
  · have hl' : (200 : Int) < ops.length := by omega
    simp [hl, hl']
    exact h0 (fun hh => by omega)
  · have hl' : ¬ (200 : Int) < ops.length := by omega
    simp [hl, hl']
    refine run_loop (fun j a' S' => ∃ i, j = ops.length - i ∧ i ≤ ops.length ∧ S' = S ∧ (∀ o ∈ ops.take i, o.data.length ≤ 200 ∧ o.keep.length ≤ 200) ∧ Has a' 29 [(0, .slice a ops.length cap), (3, .int .i64 i)]) _ ⟨0, rfl, by omega, rfl, by simp, ⟨rfl, rfl, by simp⟩⟩ ?_
    rintro _ R hR _ S' ⟨i, rfl, hi, rfl, hok, ha⟩
    obtain ⟨z, rfl⟩ := ha.lit
    by_cases hlt : i < ops.length
    · have hw : IntKind.i64.wrap ((i : Int) + 1) = ((i + 1 : Nat) : Int) := by rw [wrap64 (by omega) (by omega)]; rfl
      have hc : ops[i]? = some ops[i] := List.getElem?_eq_getElem hlt
      have hoo := ho ops[i] (by simp)
      have hmem : ops[i] ∈ ops := by simp
      generalize ops[i] = o at hc hoo hmem
      obtain ⟨p, off, cells, e, wr, ex, e1, e2, e3, e4, e5, e6⟩ := h.idx (by omega) (i := i) (j := .i64) (S' := S') (l := o.cells) (by rw [List.getElem?_map, hc]; rfl)
      have c2 : cells[off + 2]? = some o.dv := e5 2 (by omega)
      have c4 : cells[off + 4]? = some o.kv := e5 4 (by omega)
      obtain ⟨da, dc, hd⟩ := hoo.data.shape
      obtain ⟨ka, kc, hk⟩ := hoo.keep.shape
      rw [bv_len] at hd
      rw [List.length_map] at hk
      by_cases hd2 : 200 < o.data.length
      · have hd3 : (200 : Int) < o.data.length := by omega
        simp [fillF, pickL, hlt, e1, e2, c2, hd, hd2, hd3]
        exact h0 (fun hh => by have := (hh.2 o hmem).1; omega)
      · have hd3 : ¬ (200 : Int) < o.data.length := by omega
        by_cases hk2 : 200 < o.keep.length
        · have hk3 : (200 : Int) < o.keep.length := by omega
          simp [fillF, pickL, hlt, e1, e2, c2, c4, hd, hd2, hd3, hk, hk2, hk3]
          exact h0 (fun hh => by have := (hh.2 o hmem).2; omega)
        · have hk3 : ¬ (200 : Int) < o.keep.length := by omega
          simp [fillF, pickL, hlt, e1, e2, c2, c4, hd, hd2, hd3, hk, hk2, hk3, hw]
          refine hR _ _ _ (by omega) ⟨i + 1, rfl, by omega, rfl, ?_, ⟨rfl, rfl, by simp⟩⟩
          intro x hx
          rw [List.take_add_one, hc] at hx
          rcases List.mem_append.1 hx with hx | hx
          · exact hok x hx
          · simp at hx; subst hx; omega
    · obtain rfl : i = ops.length := by omega
      simp [fillF, pickL]
      rw [List.take_length] at hok
      exact h1 (by omega) hok

/-- both disks, their names apart, behind all that was there -/
structure Both (S0 S : AS) (d l n : Nat) (pv : Value) (m : Nat) (sv rv : Value) (D : Dk) : Prop where
  dk : Dsk S0 S d l n pv D
  rf : RefAt S m sv rv D
  new : ∀ x ∈ rfp m sv rv, S0.next ≤ x
  apart : ∀ x ∈ fpOf d l n pv, x ∉ rfp m sv rv
  inv : D.now = D.flushed D.pend.length

theorem Both.stays {S0 S S' : AS} {d l n m : Nat} {pv sv rv : Value} {D : Dk} (h : Both S0 S d l n pv m sv rv D) (hs : Same S S' []) : Both S0 S' d l n pv m sv rv D :=
  ⟨h.dk.stays hs, h.rf.stays hs (by simp), h.new, h.apart, h.inv⟩

theorem disk_ok {S : AS} {sectors : Int} {Q : En → AS → Prop}
    (hq : ∀ S' d l n m sv k, 16 ≤ k → k ≤ 80 → Both S S' d l n (.slice none 0 0) m sv (.slice none 0 0) ⟨List.replicate k zero64, List.replicate k zero64, [], false, -1⟩ → Q (.ret (.tuple #[ptr d, ptr m, .bool true])) S') : Call G 16 [.int .i64 sectors] S Q := by
  refine call_run' (G := G) rfl (ext_none (by decide)) ?_
  obtain ⟨k, hk, hkk⟩ : ∃ k : Nat, k < 65 ∧ IntKind.i64.wrap ((IntKind.u64.wrap sectors).tmod 65) = (k : Int) := by
    have h : 0 ≤ IntKind.u64.wrap sectors := by
      simp only [IntKind.wrap, IntKind.bits, IntKind.signed]
      simp
      omega
    refine ⟨((IntKind.u64.wrap sectors).tmod 65).toNat, ?_, ?_⟩
    · rw [Int.tmod_eq_emod_of_nonneg h]; omega
    · rw [Int.tmod_eq_emod_of_nonneg h, wrap64 (by omega) (by omega)]; omega
  have hw : IntKind.i64.wrap (16 + (k : Int)) = ((16 + k : Nat) : Int) := by rw [wrap64 (by omega) (by omega)]; rfl
  simp [hkk, hw]
  have hcast : (16 + (k : Int)) = ((16 + k : Nat) : Int) := by omega
  rw [hcast]
  refine newDisk_dsk (S0 := S) (k := 16 + k) (.refl _ _) (by omega) (by omega) fun S1 d l n D1 hs1 => ?_
  simp
  rw [hcast]
  refine rnew_ok (k := 16 + k) (by omega) (by omega) fun S2 sv R2 hs2 hnw => ?_
  simp
  refine hq S2 d l n S1.next sv (16 + k) (by omega) (by omega) ⟨D1.stays hs2, R2, fun x hx => Nat.le_trans D1.same.1 (hnw x hx), fun x hx hh => ?_, by simp [Dk.flushed]⟩
  have h1 := D1.at_.fp_lt x hx
  have h2 := hnw x hh
  omega
end Go.Gx.Y

/-
  One operation on both disks.
-/
namespace Go.Gx.Y
open Go.Gx
set_option linter.all false

theorem Dk.write_inv {D : Dk} (h : D.now = D.flushed D.pend.length) (at_ : Int) (data : List UInt8) : (D.write at_ data).2.now = (D.write at_ data).2.flushed (D.write at_ data).2.pend.length := by
  have hp : D.power.2.now = D.power.2.flushed D.power.2.pend.length := by
    simp only [Dk.power_now, Dk.flushed, Dk.power_last, Dk.power_pend]; exact h
  unfold Dk.write
  split
  · exact h
  · split
    · exact h
    · split
      · exact h
      · split
        · have := flushed_succ (D := { D.power.2 with now := D.now.set at_.toNat (pad data), pend := D.pend ++ [(at_.toNat, pad data)] }) (i := D.pend.length) (c := (at_.toNat, pad data)) (by simp)
          simp only [List.length_append, List.length_cons, List.length_nil, Nat.zero_add]
          rw [this]
          have e : ({ D.power.2 with now := D.now.set at_.toNat (pad data), pend := D.pend ++ [(at_.toNat, pad data)] } : Dk).flushed D.pend.length = D.flushed D.pend.length := by
            simp [Dk.flushed]
          rw [e, ← h]
        · exact hp
theorem Dk.flush_inv {D : Dk} (h : D.now = D.flushed D.pend.length) : D.flush.2.now = D.flush.2.flushed D.flush.2.pend.length := by
  have hp : D.power.2.now = D.power.2.flushed D.power.2.pend.length := by
    simp only [Dk.power_now, Dk.flushed, Dk.power_last, Dk.power_pend]; exact h
  unfold Dk.flush
  split
  · exact h
  · split
    · show D.power.2.now = _
      rw [Dk.power_now, h]
      simp [Dk.flushed]
    · exact hp
theorem Dk.stop_inv {D : Dk} (h : D.now = D.flushed D.pend.length) (n : Int) : (D.stop n).2.now = (D.stop n).2.flushed (D.stop n).2.pend.length := by
  unfold Dk.stop
  split
  · exact h
  · split <;> exact h
theorem Dk.crash_inv (D : Dk) (keep : List Int) : (D.crash keep).now = (D.crash keep).flushed (D.crash keep).pend.length := by
  simp [Dk.crash, Dk.flushed]
theorem Dk.write_sizes (D : Dk) (at_ : Int) (data : List UInt8) : (D.write at_ data).2.pend.length ≤ D.pend.length + 1 ∧ (D.write at_ data).2.last.length = D.last.length := by
  unfold Dk.write
  split
  · simp
  · split
    · simp
    · split
      · simp
      · split <;> simp
theorem Dk.flush_sizes (D : Dk) : D.flush.2.pend.length ≤ D.pend.length + 1 ∧ D.flush.2.last.length = D.last.length := by
  unfold Dk.flush
  split
  · simp
  · split
    · simp [flushed_len]
    · simp
theorem Dk.stop_sizes (D : Dk) (n : Int) : (D.stop n).2.pend.length ≤ D.pend.length + 1 ∧ (D.stop n).2.last.length = D.last.length := by
  unfold Dk.stop
  split
  · simp
  · split <;> simp
theorem Dk.crash_sizes (D : Dk) (keep : List Int) : (D.crash keep).pend.length ≤ D.pend.length + 1 ∧ (D.crash keep).last.length = D.last.length := by
  simp [Dk.crash, torn_len]

theorem Dsk.next {S0 S S' : AS} {d l n : Nat} {pv pv' : Value} {D D' : Dk} (h : Dsk S0 S d l n pv D) (h1 : DiskAt S' d l n pv' D') (h2 : Same S S' (fpOf d l n pv)) (h3 : ∀ m ∈ fpOf d l n pv', m ∈ fpOf d l n pv ∨ S.next ≤ m) : Dsk S0 S' d l n pv' D' :=
  ⟨h1, h.same.trans h2 fun m hm hl => absurd (h.new m hm) (by omega), fun m hm => by
    rcases h3 m hm with h4 | h4
    · exact h.new m h4
    · exact Nat.le_trans h.same.1 h4⟩

/-- both change -/
theorem Both.next {S0 S S1 S2 : AS} {d l n m : Nat} {pv sv rv pv' rv' : Value} {D D' : Dk} (h : Both S0 S d l n pv m sv rv D) (h1 : Dsk S0 S1 d l n pv' D') (hs1 : Same S S1 (fpOf d l n pv)) (h2 : RefAt S2 m sv rv' D') (hs2 : Same S1 S2 (rfp m sv rv)) (hn1 : ∀ x ∈ fpOf d l n pv', x ∈ fpOf d l n pv ∨ S.next ≤ x) (hn2 : ∀ x ∈ rfp m sv rv', x ∈ rfp m sv rv ∨ S1.next ≤ x)
    (hi : D'.now = D'.flushed D'.pend.length) : Both S0 S2 d l n pv' m sv rv' D' := by
  have hlt := h.rf.fp_lt
  have hap : ∀ x ∈ fpOf d l n pv', x ∉ rfp m sv rv := fun x hx hh => by
    rcases hn1 x hx with h5 | h5
    · exact h.apart x h5 hh
    · have := hlt x hh; omega
  refine ⟨⟨h1.at_.stays hs2 hap, h1.same.trans hs2 fun x hx hl => absurd (h.new x hx) (by omega), h1.new⟩, h2, fun x hx => ?_, fun x hx hh => ?_, hi⟩
  · rcases hn2 x hx with h5 | h5
    · exact h.new x h5
    · exact Nat.le_trans h1.same.1 h5
  · rcases hn2 x hh with h5 | h5
    · exact hap x hx h5
    · have := h1.at_.fp_lt x hx; omega
theorem Both.ref {S0 S S1 : AS} {d l n m : Nat} {pv sv rv : Value} {D : Dk} (h : Both S0 S d l n pv m sv rv D) (hs1 : Same S S1 (fpOf d l n pv)) : RefAt S1 m sv rv D :=
  h.rf.stays hs1 fun x hx hh => h.apart x hh hx


theorem step_ok {S0 S : AS} {d l n m : Nat} {pv sv rv : Value} {D : Dk} {o : DOp} (h : Both S0 S d l n pv m sv rv D) (ho : o.OK S0) (hpl : D.pend.length ≤ 1000000000) {Q : En → AS → Prop}
    (hq : ∀ S' pv' rv' D', D'.pend.length ≤ D.pend.length + 1 → D'.last.length = D.last.length → Both S0 S' d l n pv' m sv rv' D' → Q (.ret (.bool true)) S') : Call G 17 [ptr d, ptr m, .agg o.cells.toArray] S Q := by
  refine call_run' (G := G) rfl (ext_none (by decide)) ?_
  obtain ⟨kind, sector, dv, data, nn, kv, keep⟩ := o
  have hda := ho.data
  have hke := ho.keep
  have hnn := ho.n
  simp only [] at hda hke hnn
  obtain ⟨da, dc, rfl⟩ := hda.shape
  obtain ⟨ka, kc, rfl⟩ := hke.shape
  simp [DOp.cells]
  have hsT : Same S ((S.bump 1).put S.next (AObj.row [.int .u8 kind, .int .i64 sector, .slice da (bv data).length dc, .int .i64 nn, .slice ka keep.length kc] 43 true true)) [] := ⟨by simp, fun x hx _ => by
    have : x ≠ S.next := by omega
    simp [this]⟩
  have hbx : ((S.bump 1).put S.next (AObj.row [.int .u8 kind, .int .i64 sector, .slice da (bv data).length dc, .int .i64 nn, .slice ka keep.length kc] 43 true true)).get S.next = some (AObj.row [.int .u8 kind, .int .i64 sector, .slice da (bv data).length dc, .int .i64 nn, .slice ka keep.length kc] 43 true true) := by simp
  have hB := h.stays hsT
  have hnT : S.next < ((S.bump 1).put S.next (AObj.row [.int .u8 kind, .int .i64 sector, .slice da (bv data).length dc, .int .i64 nn, .slice ka keep.length kc] 43 true true)).next := by simp
  have hfd : S.next ∉ fpOf d l n pv := fun hh => by have := h.dk.at_.fp_lt _ hh; omega
  have hfm : S.next ∉ rfp m sv rv := fun hh => by have := h.rf.fp_lt _ hh; omega
  generalize ((S.bump 1).put S.next (AObj.row [.int .u8 kind, .int .i64 sector, .slice da (bv data).length dc, .int .i64 nn, .slice ka keep.length kc] 43 true true)) = T at hbx hB hnT ⊢
  generalize S.next = bx at hbx hfd hfm hnT ⊢
  rw [List.length_map] at hke
  have hcd := hB.dk.old hda
  have hck := hB.dk.old hke
  have hsd := hB.dk.sep hda
  have hsk := hB.dk.sep hke
  have hsm : ∀ {v : Value} {cs : List Value}, Cs S0 v cs → ∀ x ∈ ownsOf v, x ∉ rfp m sv rv := fun hv x hx hh => by
    have h1 := hv.lt x hx
    have h2 := hB.new x hh
    omega
  have hsrc := hcd.cells
  by_cases k0 : kind.tmod 5 = 0
  · simp [hbx, k0]
    refine read_dsk hB.dk (fun hne => ?_) (fun k x S' e1 e2 e3 e4 e5 e6 e7 e8 => ?_)
    · simp [hbx]
      refine rread_ok hB.rf hpl (fun _ => ?_) (fun k x e1 e2 e3 => absurd e2 hne)
      simp
      exact hq T pv rv D (by omega) rfl hB
    · have hbx' := (e6.2 bx hnT (by simp)).trans hbx
      simp [hbx']
      refine rread_ok (hB.stays e6).rf hpl (fun hne => absurd e2 hne) (fun k' x' f1 f2 f3 => ?_)
      obtain rfl : k = k' := by omega
      rw [← hB.inv, e3] at f3
      obtain rfl : x = x' := Option.some.inj f3
      have hs : srcCells S' 1 (Value.slice (some ⟨T.next + 1, 0, none⟩) 64 64) = some (64, bv x) := by
        simp [srcCells, e5, bv_len, e4, List.take_of_length_le]
      simp [hs]
      exact hq S' pv rv D (by omega) rfl (hB.stays e6)
  by_cases k1 : kind.tmod 5 = 1
  · simp [hbx, k0, k1, hsrc]
    refine write_ok hB.dk.at_ (Cs.bs hcd) (fun b hb => hsd b (blockOf_owns hb)) hpl fun S1 pv' g1 g2 g3 => ?_
    have hbx1 := (g2.2 bx hnT hfd).trans hbx
    have hsrc1 := (hcd.stays g2 hsd).cells
    simp [hbx1, hsrc1]
    refine rwrite_ok (hB.ref g2) hpl fun S2 rv' r1 r2 r3 => ?_
    have hbx2 := (r2.2 bx (Nat.lt_of_lt_of_le hnT g2.1) hfm).trans hbx1
    have hsrc2 := ((hcd.stays g2 hsd).stays r2 (hsm hda)).cells
    simp [hbx2, hsrc2]
    exact hq S2 pv' rv' _ (D.write_sizes _ _).1 (D.write_sizes _ _).2 (hB.next (hB.dk.next g1 g2 g3) g2 r1 r2 g3 r3 (Dk.write_inv hB.inv _ _))
  by_cases k2 : kind.tmod 5 = 2
  · simp [hbx, k0, k1, k2]
    refine flush_ok hB.dk.at_ hpl fun S1 pv' g1 g2 g3 => ?_
    simp
    refine rflush_ok (hB.ref g2) hpl fun S2 rv' r1 r2 r3 => ?_
    simp
    exact hq S2 pv' rv' _ D.flush_sizes.1 D.flush_sizes.2 (hB.next (hB.dk.next g1 g2 fun x hx => .inl (g3 x hx)) g2 r1 r2 (fun x hx => .inl (g3 x hx)) (fun x hx => .inl (r3 x hx)) (Dk.flush_inv hB.inv))
  by_cases k3 : kind.tmod 5 = 3
  · simp [hbx, k0, k1, k2, k3]
    refine stop_ok hB.dk.at_ hnn fun S1 g1 g2 => ?_
    have g2' := g2.mono (gp := fpOf d l n pv) (by simp [fpOf])
    have hbx1 := (g2'.2 bx hnT hfd).trans hbx
    simp [hbx1]
    refine rstop_ok (hB.ref g2') hnn fun S2 r1 r2 => ?_
    have r2' := r2.mono (gp := rfp m sv rv) (by simp [rfp])
    have hbx2 := (r2'.2 bx (Nat.lt_of_lt_of_le hnT g2.1) hfm).trans hbx1
    simp [hbx2]
    exact hq S2 pv rv _ (D.stop_sizes _).1 (D.stop_sizes _).2 (hB.next (hB.dk.next g1 g2' fun x hx => .inl hx) g2' r1 r2' (fun x hx => .inl hx) (fun x hx => .inl hx) (Dk.stop_inv hB.inv _))
  · simp [hbx, k0, k1, k2, k3]
    refine crash_ok hB.dk.at_ hck hsk hpl fun S1 pv' cv g1 g2 g3 => ?_
    have hbx1 := (g2.2 bx hnT hfd).trans hbx
    simp [hbx1]
    refine rcrash_ok (hB.ref g2) (hck.stays g2 hsk) (hsm hke) hpl fun S2 rv' cv2 r1 r2 r3 => ?_
    simp
    exact hq S2 pv' rv' _ (D.crash_sizes _).1 (D.crash_sizes _).2 (hB.next (hB.dk.next g1 g2 fun x hx => .inl (g3 x hx)) g2 r1 r2 (fun x hx => .inl (g3 x hx)) (fun x hx => .inl (r3 x hx)) (D.crash_inv _))
end Go.Gx.Y
