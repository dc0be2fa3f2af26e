/-
  Two lists as one.
-/
import Derived.Test.YtljbmlnddeacfaaGreatDoorPc

set_option linter.all false
set_option linter.deprecated false

namespace Go.Gx.B
open Go.Gx Go.Lib
set_option maxRecDepth 100000
set_option linter.all false
set_option maxHeartbeats 4000000

theorem merge_nilr (a : List Nt) : merge a [] = a := by cases a <;> simp [merge]
theorem merge_nill (a : List Nt) : merge [] a = a := by simp [merge]
theorem merge_cons (x : Nt) (a : List Nt) (y : Nt) (b : List Nt) : merge (x :: a) (y :: b) = if x.dlt y then x :: merge a (y :: b) else if y.dlt x then y :: merge (x :: a) b else x :: merge a b := by rw [merge]
/-- the rest of a slice -/
theorem Ns.tl {S : AS} {v : Value} {x : Nt} {l : List Nt} (h : Ns S v (x :: l)) : ∃ v', (∀ T, Same S T [] → slcE T 104 4 (some (.int .i64 1)) none none v = .ret (v', T)) ∧ Ns S v' l ∧ ∀ m ∈ ownsOf v', m ∈ ownsOf v := by
  obtain ⟨v', h1, h2, h3⟩ := h.slc (lo := some (.int .i64 1)) (hi := none) (i := 1) (j := (x :: l).length) (.inr rfl) (.inl ⟨rfl, rfl⟩) (by simp) (Nat.le_refl _)
  refine ⟨v', fun T hT => ?_, by simpa using h2, h3⟩
  obtain ⟨w, g1, _, _⟩ := (h.stay0 hT).slc (lo := some (.int .i64 1)) (hi := none) (i := 1) (j := (x :: l).length) (.inr rfl) (.inl ⟨rfl, rfl⟩) (by simp) (Nat.le_refl _)
  rw [g1]
  have : w = v' := by
    rcases h.c with ⟨h0, _⟩ | ⟨p, o, cap, cells, e, wr, ex, rfl, k1, k2, k3, k4, k5, k6⟩
    · cases h0
    · have hT2 := hT.2 p k3 (by simp)
      rw [k2] at hT2
      simp only [slcE_some, hT2, k2, slcRow_row, if_pos k4] at g1 h1
      cases hb : bndsV (x :: l).length cap (some (.int .i64 1)) none none with
      | none => rw [hb] at g1; simp at g1
      | some bb =>
        rw [hb] at g1 h1
        simp at g1 h1
        rw [← g1, ← h1]
  rw [this]
theorem merged_ok {S : AS} {v w : Value} {a b : List Nt} (h : Ns S v a) (k : Ns S w b) (hl : a.length + b.length ≤ 100000) {Q : En → AS → Prop}
    (hq : ∀ S' p n, Same S S' [] → n = (merge a b).length → On S' (.slice p n n) (merge a b) → (∀ m ∈ ownsOf (.slice p n n), S.next ≤ m) → Q (.ret (.slice p n n)) S') : Call G 80 [v, w, .func (.func 81) #[] #[]] S Q := by
  refine call_run' (G := G) rfl (ext_none (by decide)) ?_
  simp
  refine run_loop (fun j a' S' => ∃ (x y out : List Nt) (v0 v1 : Value) (ov : Option Addr) (on : Nat), j = x.length + y.length ∧ on = out.length ∧ Same S S' [] ∧ Ns S v0 x ∧ Ns S v1 y ∧ On S' (.slice ov on on) out ∧ (∀ m ∈ ownsOf (.slice ov on on), S.next ≤ m) ∧
    out.length + x.length + y.length ≤ 100000 ∧ merge a b = out ++ merge x y ∧
    Has a' 78 [(0, v0), (1, v1), (2, .func (.func 81) #[] #[]), (7, .slice ov on on)]) _ ⟨a, b, [], v, w, none, 0, rfl, rfl, .refl _ _, h, k, On.nil, by simp [ownsOf], by simpa using hl, by simp, ⟨rfl, rfl, by simp⟩⟩ ?_
  rintro _ R hR _ S1 ⟨x, y, out, v0, v1, ov, on, rfl, rfl, hs1, h0, h1, how, hown, hlen, hm, ha⟩
  obtain ⟨z, rfl⟩ := ha.lit
  obtain ⟨a0, c0, rfl⟩ := h0.shape
  obtain ⟨a1, c1, rfl⟩ := h1.shape
  have hn1 := hs1.1
  have fin : ∀ (u : Nt) (x' y' : List Nt) (v0' v1' : Value) (T' : AS) (av : Option Addr) (act : Act), merge x y = u :: merge x' y' → x'.length + y'.length < x.length + y.length → Ns S v0' x' → Ns S v1' y' →
      On T' (.slice av (out.length + 1) (out.length + 1)) (out ++ [u]) → Same S1 T' (ownsOf (.slice ov out.length out.length)) → (∀ m ∈ ownsOf (.slice av (out.length + 1) (out.length + 1)), m ∈ ownsOf (.slice ov out.length out.length) ∨ S1.next ≤ m) →
      Has act 78 [(0, v0'), (1, v1'), (2, .func (.func 81) #[] #[]), (7, .slice av (out.length + 1) (out.length + 1))] → R act T' := by
    intro u x' y' v0' v1' T' av act e1 e2 e3 e4 e5 e6 e7 e8
    refine hR _ _ _ e2 ⟨x', y', out ++ [u], v0', v1', av, out.length + 1, rfl, by simp, hs1.trans e6 (fun m hm hl => by have := hown m hm; omega), e3, e4, e5, fun m hm => ?_, by simp; omega, by rw [hm, e1]; simp, e8⟩
    rcases e7 m hm with h | h
    · exact hown m h
    · omega
  have hol : out.length + 1 ≤ 1000000 ∨ (x = [] ∧ y = []) := by
    cases x with
    | nil =>
      cases y with
      | nil => exact .inr ⟨rfl, rfl⟩
      | cons _ _ => left; simp at hlen; omega
    | cons _ _ => left; simp at hlen; omega
  cases x with
  | nil =>
    cases y with
    | nil =>
      simp [fillF, pickL]
      simp only [merge, List.append_nil] at hm
      exact hq S1 ov out.length hs1 (by rw [hm]) (by rw [hm]; exact how) hown
    | cons y ys =>
      have ho : out.length + 1 ≤ 1000000 := by rcases hol with h | h; exact h; cases h.2
      obtain ⟨p, o, cells, e, wr, ex, g1, g2, g3, g4, g5, _⟩ := h1.at (i := 0) (by simp)
      obtain ⟨v1', t1, t2, t3⟩ := h1.tl
      have g2' := (hs1.2 p g3 (by simp)).trans g2
      have g1' : ∀ (S' : AS) (j : IntKind), idxE S' 4 none (.int j 0) (.slice a1 (y :: ys).length c1) = .ret (.pointer (some ⟨p, o, none⟩), S') := fun S' j => g1 S' j
      have g5' : rowLoad cells o (some 4) = some y.agg := g5
      have b1 : (0 : Int) < (ys.length : Int) + 1 := by omega
      have b2 : ¬ (ys.length : Int) + 1 = 0 := by omega
      simp only [List.length_cons] at g1' t1
      have q1 := t1 (S1.bump 2) (hs1.bu)
      simp [fillF, pickL, b1, b2, g1', g2', g5', placeIn, splice, undef, q1]
      obtain ⟨T', av, f1, f2, f3, f4, f5⟩ := how.app (T := (S1.bump 2).put S1.next (.row y.cells 104 true true)) (y := .slice (some ⟨S1.next, 0, none⟩) 1 1) (x := y) (fr := S1.next + 1) (q := S1.next) (wr := true) (ex := true) (by omega) (by (repeat' first | exact Same.refl _ _ | assumption | apply Same.bu | (refine Same.pn ?_ (by first | omega | (simp; omega))))) (h1.tx y (by simp)) (by simp) (by simp) (by simp) (by omega) rfl
      simp only [Nt.cells] at f1
      have hTp : T'.get p = some (.row cells e wr ex) := (f3.2 p (by omega) (fun hm => by have := hown _ hm; omega)).trans g2'
      have q2 := t1 T' (hs1.trans f3 (fun m hm hl => by have := hown m hm; omega))
      simp [f1, hTp, g1', g5', q1, q2]
      refine fin y [] ys _ v1' T' av _ (by rw [merge_nill, merge_nill]) (by simp) h0 t2 f2 f3 (fun m hm => by rcases f5 m hm with h | h; exact .inl h; right; omega) ⟨rfl, rfl, by simp⟩
  | cons x xs =>
    have ho : out.length + 1 ≤ 1000000 := by rcases hol with h | h; exact h; cases h.1
    obtain ⟨p, o, cells, e, wr, ex, g1, g2, g3, g4, g5, _⟩ := h0.at (i := 0) (by simp)
    obtain ⟨v0', t1, t2, t3⟩ := h0.tl
    have g2' := (hs1.2 p g3 (by simp)).trans g2
    have g1' : ∀ (S' : AS) (j : IntKind), idxE S' 4 none (.int j 0) (.slice a0 (x :: xs).length c0) = .ret (.pointer (some ⟨p, o, none⟩), S') := fun S' j => g1 S' j
    have g5' : rowLoad cells o (some 4) = some x.agg := g5
    have b1 : (0 : Int) < (xs.length : Int) + 1 := by omega
    have b2 : ¬ (xs.length : Int) + 1 = 0 := by omega
    simp only [List.length_cons] at g1' t1
    have q1 := t1 (S1.bump 2) (hs1.bu)
    cases y with
    | nil =>
      simp [fillF, pickL, b1, b2, g1', g2', g5', placeIn, splice, undef, q1]
      obtain ⟨T', av, f1, f2, f3, f4, f5⟩ := how.app (T := (S1.bump 2).put S1.next (.row x.cells 104 true true)) (y := .slice (some ⟨S1.next, 0, none⟩) 1 1) (x := x) (fr := S1.next + 1) (q := S1.next) (wr := true) (ex := true) (by omega) (by (repeat' first | exact Same.refl _ _ | assumption | apply Same.bu | (refine Same.pn ?_ (by first | omega | (simp; omega))))) (h0.tx x (by simp)) (by simp) (by simp) (by simp) (by omega) rfl
      simp only [Nt.cells] at f1
      have hTp : T'.get p = some (.row cells e wr ex) := (f3.2 p (by omega) (fun hm => by have := hown _ hm; omega)).trans g2'
      have q2 := t1 T' (hs1.trans f3 (fun m hm hl => by have := hown m hm; omega))
      simp [f1, hTp, g1', g5', q1, q2]
      refine fin x xs [] v0' _ T' av _ (by rw [merge_nilr, merge_nilr]) (by simp) t2 h1 f2 f3 (fun m hm => by rcases f5 m hm with h | h; exact .inl h; right; omega) ⟨rfl, rfl, by simp⟩
    | cons y ys =>
      obtain ⟨p', o', cells', e', wr', ex', r1, r2, r3, r4, r5, _⟩ := h1.at (i := 0) (by simp)
      obtain ⟨v1', u1, u2, u3⟩ := h1.tl
      have r2' := (hs1.2 p' r3 (by simp)).trans r2
      have r1' : ∀ (S' : AS) (j : IntKind), idxE S' 4 none (.int j 0) (.slice a1 (y :: ys).length c1) = .ret (.pointer (some ⟨p', o', none⟩), S') := fun S' j => r1 S' j
      have r5' : rowLoad cells' o' (some 4) = some y.agg := r5
      have d1 : (0 : Int) < (ys.length : Int) + 1 := by omega
      have d2 : ¬ (ys.length : Int) + 1 = 0 := by omega
      simp only [List.length_cons] at r1' u1
      rw [merge_cons] at hm
      simp [fillF, pickL, b1, b2, d1, d2, g1', g2', g5', r1', r2', r5', undef]
      refine byDay_ok (x := x) (y := y) fun S2 hsS2 => ?_
      have hnS2 := hsS2.1
      have hSSS2 : Same S S2 [] := hs1.tr0 hsS2
      have e1S2 := (hSSS2.2 p g3 (by simp)).trans g2
      have e2S2 := (hSSS2.2 p' r3 (by simp)).trans r2
      have howS2 := how.stay0 hsS2
      have q1S2 := t1 (S2.bump 2) (hSSS2.bu)
      have u1S2 := u1 (S2.bump 2) (hSSS2.bu)
      by_cases c1 : x.dlt y
      · have cc := cmpD_neg.2 c1
        simp [e1S2, e2S2, g5', r5', cc, b1, b2, d1, d2, g1', r1', placeIn, splice, undef, q1S2]
        obtain ⟨T', av, f1, f2, f3, f4, f5⟩ := howS2.app (T := (S2.bump 2).put S2.next (.row x.cells 104 true true)) (y := .slice (some ⟨S2.next, 0, none⟩) 1 1) (x := x) (fr := S2.next + 1) (q := S2.next) (wr := true) (ex := true) (by omega) (by (repeat' first | exact Same.refl _ _ | assumption | apply Same.bu | (refine Same.pn ?_ (by first | omega | (simp; omega))))) (h0.tx x (by simp)) (by simp) (by simp) (by simp) (by omega) rfl
        simp only [Nt.cells] at f1
        have hST : Same S T' [] := hSSS2.trans f3 (fun m hm hl => by have := hown m hm; omega)
        have hT1 := (hST.2 p g3 (by simp)).trans g2
        have hT2 := (hST.2 p' r3 (by simp)).trans r2
        have hF : Same S1 T' (ownsOf (.slice ov out.length out.length)) := ⟨by have := f3.1; have := hnS2; omega, fun m hm hn => (f3.2 m (by have := hnS2; omega) hn).trans (hsS2.2 m hm (by simp))⟩
        have q2 := t1 T' hST
        simp [f1, hT1, hT2, g1', g5', q1S2, q2]
        refine fin x xs (y :: ys) v0' _ T' av _ (by rw [merge_cons, if_pos c1]) (by simp) t2 h1 f2 hF (fun m hm => by rcases f5 m hm with h | h; exact .inl h; right; omega) ⟨rfl, rfl, by simp⟩
      · have cc : ¬ cmpD x y < 0 := fun h => c1 (cmpD_neg.1 h)
        simp [e1S2, e2S2, g5', r5', cc, b1, b2, d1, d2, g1', r1', placeIn, splice, undef]
        refine byDay_ok (x := x) (y := y) fun S3 hsS23 => ?_
        have hsS3 := hsS2.tr0 hsS23
        have hnS3 := hsS3.1
        have hSSS3 : Same S S3 [] := hs1.tr0 hsS3
        have e1S3 := (hSSS3.2 p g3 (by simp)).trans g2
        have e2S3 := (hSSS3.2 p' r3 (by simp)).trans r2
        have howS3 := how.stay0 hsS3
        have q1S3 := t1 (S3.bump 2) (hSSS3.bu)
        have u1S3 := u1 (S3.bump 2) (hSSS3.bu)
        by_cases c2 : y.dlt x
        · have cc2 := cmpD_pos.2 c2
          simp [e1S3, e2S3, g5', r5', cc2, b1, b2, d1, d2, g1', r1', placeIn, splice, undef, u1S3]
          obtain ⟨T', av, f1, f2, f3, f4, f5⟩ := howS3.app (T := (S3.bump 2).put S3.next (.row y.cells 104 true true)) (y := .slice (some ⟨S3.next, 0, none⟩) 1 1) (x := y) (fr := S3.next + 1) (q := S3.next) (wr := true) (ex := true) (by omega) (by (repeat' first | exact Same.refl _ _ | assumption | apply Same.bu | (refine Same.pn ?_ (by first | omega | (simp; omega))))) (h1.tx y (by simp)) (by simp) (by simp) (by simp) (by omega) rfl
          simp only [Nt.cells] at f1
          have hST : Same S T' [] := hSSS3.trans f3 (fun m hm hl => by have := hown m hm; omega)
          have hT1 := (hST.2 p g3 (by simp)).trans g2
          have hT2 := (hST.2 p' r3 (by simp)).trans r2
          have hF : Same S1 T' (ownsOf (.slice ov out.length out.length)) := ⟨by have := f3.1; have := hnS3; omega, fun m hm hn => (f3.2 m (by have := hnS3; omega) hn).trans (hsS3.2 m hm (by simp))⟩
          have q2 := u1 T' hST
          simp [f1, hT1, hT2, r1', r5', u1S3, q2]
          refine fin y (x :: xs) ys _ v1' T' av _ (by rw [merge_cons, if_neg c1, if_pos c2]) (by simp) h0 u2 f2 hF (fun m hm => by rcases f5 m hm with h | h; exact .inl h; right; omega) ⟨rfl, rfl, by simp⟩
        · have cc2 : ¬ 0 < cmpD x y := fun h => c2 (cmpD_pos.1 h)
          simp [e1S3, e2S3, g5', r5', cc2, b1, b2, d1, d2, g1', r1', placeIn, splice, undef, u1S3, q1S3]
          obtain ⟨T', av, f1, f2, f3, f4, f5⟩ := howS3.app (T := (S3.bump 2).put S3.next (.row x.cells 104 true true)) (y := .slice (some ⟨S3.next, 0, none⟩) 1 1) (x := x) (fr := S3.next + 1) (q := S3.next) (wr := true) (ex := true) (by omega) (by (repeat' first | exact Same.refl _ _ | assumption | apply Same.bu | (refine Same.pn ?_ (by first | omega | (simp; omega))))) (h0.tx x (by simp)) (by simp) (by simp) (by simp) (by omega) rfl
          simp only [Nt.cells] at f1
          have hST : Same S T' [] := hSSS3.trans f3 (fun m hm hl => by have := hown m hm; omega)
          have hT1 := (hST.2 p g3 (by simp)).trans g2
          have hT2 := (hST.2 p' r3 (by simp)).trans r2
          have hF : Same S1 T' (ownsOf (.slice ov out.length out.length)) := ⟨by have := f3.1; have := hnS3; omega, fun m hm hn => (f3.2 m (by have := hnS3; omega) hn).trans (hsS3.2 m hm (by simp))⟩
          have q2 := t1 T' hST
          have q3 := u1 T' hST
          simp [f1, hT1, hT2, g1', g5', u1S3, q1S3, q2, q3]
          refine fin x xs ys v0' v1' T' av _ (by rw [merge_cons, if_neg c1, if_neg c2]) (by simp; omega) t2 u2 f2 hF (fun m hm => by rcases f5 m hm with h | h; exact .inl h; right; omega) ⟨rfl, rfl, by simp⟩
end Go.Gx.B

/-
  Merge.
-/
namespace Go.Gx.B
open Go.Gx Go.Lib
set_option maxRecDepth 100000
set_option linter.all false
set_option maxHeartbeats 4000000

def keyN (x : Nt) : Int × Int := (x.node, x.num)
def knG (l : List Nt) (p : Int × Int) : Option Nt := l.reverse.find? fun x => decide (keyN x = p)
def knF (l : List Nt) (p : Int × Int) : Option Value := (knG l p).map Nt.agg
theorem knF_nil : knF [] = fun _ => none := rfl
theorem knF_snoc (l : List Nt) (x : Nt) : knF (l ++ [x]) = upd1 (knF l) (keyN x) x.agg := by
  funext p
  unfold knF knG upd1
  rw [List.reverse_append, List.reverse_singleton, List.singleton_append, List.find?_cons]
  by_cases h : keyN x = p
  · simp [h]
  · rw [if_neg (Ne.symm h)]; simp [h]
theorem knG_some {l : List Nt} {p : Int × Int} {y : Nt} (h : knG l p = some y) : y ∈ l ∧ keyN y = p := by
  unfold knG at h
  exact ⟨by have := List.mem_of_find?_eq_some h; simpa using this, by simpa using List.find?_some h⟩
theorem knG_none {l : List Nt} {p : Int × Int} (h : knG l p = none) : ∀ y ∈ l, keyN y ≠ p := by
  unfold knG at h
  rw [List.find?_eq_none] at h
  intro y hy
  have := h y (by simpa using hy)
  simpa using this
/-- what is known speaks against none of these -/
def noHit (a b : List Nt) : Bool := b.all fun x => match knG a (keyN x) with | some y => decide (x = y) | none => true
theorem noHit_none {a l : List Nt} {x : Nt} (h : knG a (keyN x) = none) : noHit a (x :: l) = noHit a l := by
  simp only [noHit, List.all_cons, h, Bool.true_and]
theorem noHit_some {a l : List Nt} {x y : Nt} (h : knG a (keyN x) = some y) : noHit a (x :: l) = (decide (x = y) && noHit a l) := by
  simp only [noHit, List.all_cons, h]
theorem noHit_iff {a b : List Nt} (ha : Reg a) : noHit a b = true ↔ Agree a b := by
  unfold noHit
  rw [List.all_eq_true]
  constructor
  · intro h x hx y hy h1 h2
    have := h y hy
    cases e : knG a (keyN y) with
    | none => exact absurd (show keyN x = keyN y by unfold keyN; rw [h1, h2]) (knG_none e x hx)
    | some z =>
      rw [e] at this
      have e2 : y = z := by simpa using this
      obtain ⟨h3, h4⟩ := knG_some e
      unfold keyN at h4
      rw [Prod.mk.injEq] at h4
      rw [e2]
      exact ha.inj hx h3 (by rw [h4.1, h1]) (by rw [h4.2, h2])
  · intro h y hy
    cases e : knG a (keyN y) with
    | none => rfl
    | some z =>
      obtain ⟨h3, h4⟩ := knG_some e
      unfold keyN at h4
      rw [Prod.mk.injEq] at h4
      simpa using (h z h3 y hy h4.1 h4.2).symm
abbrev NoteMap (S : AS) (n : Nat) (f : Int × Int → Option Value) : Prop := MapAt S n [.int .i64, .int .i64] true (fun x : Int × Int => Value.agg #[.int .i64 x.1, .int .i64 x.2]) f
theorem Merge_ok {S : AS} {v w : Value} {a b : List Nt} (h : Ns S v a) (k : Ns S w b) (hl : a.length + b.length ≤ 100000) {Q : En → AS → Prop}
    (hq : ∀ S' p n, Same S S' [] → n = (mergeV a b).length → On S' (.slice p n n) (mergeV a b) → (∀ m ∈ ownsOf (.slice p n n), S.next ≤ m) → Q (.ret (.tuple #[.slice p n n, .int .i64 (mergeE a b)])) S') : Call G 39 [v, w] S Q := by
  have h0 := h
  have k0 := k
  obtain ⟨a0, c0, rfl⟩ := h.shape
  obtain ⟨a1, c1, rfl⟩ := k.shape
  refine call_run' (G := G) rfl (ext_none (by decide)) ?_
  simp
  have bad : ∀ S', Same S S' [] → mergeE a b ≠ 0 → Q (.ret (.tuple #[.slice none 0 0, .int .i64 (mergeE a b)])) S' := by
    intro S' hs he
    have e : mergeV a b = [] := by unfold mergeV; rw [if_neg he]
    exact hq S' none 0 hs (by rw [e]; rfl) (by rw [e]; exact On.nil) (by simp [ownsOf])
  refine check_ok h (by omega) fun S1 hs1 => ?_
  by_cases ra : regB a = true
  · simp [ra]
    refine check_ok (k.stay0 hs1) (by omega) fun S2 hs2 => ?_
    have hs2' := hs1.tr0 hs2
    by_cases rb : regB b = true
    · simp [rb]
      have Ra := regB_iff.1 ra
      refine run_loop (fun j a' S' => ∃ i, j = a.length - i ∧ i ≤ a.length ∧ Same S S' [] ∧ S2.next < S'.next ∧ NoteMap S' S2.next (knF (a.take i)) ∧
        Has a' 62 [(0, .slice a0 a.length c0), (1, .slice a1 b.length c1), (6, .map (some S2.next)), (22, .slice a0 a.length c0), (23, .int .i64 a.length), (24, .int .i64 (i : Nat))]) _ ⟨0, rfl, by omega, ?_, ?_, ⟨[], 0, ?_, Fnd.nil⟩, ⟨rfl, rfl, by simp⟩⟩ ?_
      · have := hs2'.1; exact (hs2'.bu).pn (by omega)
      · show S2.next < S2.next + 1
        omega
      · simp
      rintro _ R hR _ S3 ⟨i, rfl, hi, hs3, hn3, ⟨es, c, hm1, hm2⟩, ha⟩
      obtain ⟨x, rfl⟩ := ha.lit
      have hn2 := hs2'.1
      by_cases hlt : i < a.length
      · obtain ⟨p, o, cells, e, wr, ex, h1, h2, h3, h4, h5, _⟩ := (h.stay0 hs3).at hlt
        have hlt' : (i : Int) < a.length := by omega
        have hw : IntKind.i64.wrap ((i : Int) + 1) = ((i + 1 : Nat) : Int) := wrapS (by omega)
        have e1 : S2.next ≠ S3.next := by omega
        obtain ⟨r, q3, q4⟩ := hm2.get keyInt2 (keyN a[i])
        simp only [keyN] at q3
        have hts := take_snoc hlt
        have fin : ∀ es' c', Fnd [.int .i64, .int .i64] true (fun x : Int × Int => Value.agg #[.int .i64 x.1, .int .i64 x.2]) es' (upd1 (knF (a.take i)) (keyN a[i]) a[i].agg) → ∀ act o1 o2, Has act 62 [(0, .slice a0 a.length c0), (1, .slice a1 b.length c1), (6, .map (some S2.next)), (22, .slice a0 a.length c0), (23, .int .i64 a.length), (24, .int .i64 ((i + 1 : Nat) : Int))] →
            R act ((((S3.bump 1).put S3.next o1).put S3.next o2).put S2.next (.map es' c')) := by
          intro es' c' hF act o1 o2 hA
          refine hR _ _ _ (by omega) ⟨i + 1, rfl, by omega, ?_, by simp; omega, ⟨es', c', by simp, ?_⟩, hA⟩
          · exact (((hs3.bu.pn (by omega)).pn (by omega))).pn (by omega)
          · rw [hts, knF_snoc]; exact hF
        cases r with
        | none =>
          simp [fillF, pickL, hlt, hlt', h1, h2, h5, rowStore, splice, hm1, e1, q3, hw, placeIn]
          refine fin _ _ (hm2.add keyInt2 (by rw [← q4]; rfl) _ _) _ _ _ ⟨rfl, rfl, by simp⟩
        | some r =>
          obtain ⟨ix, u⟩ := r
          simp [fillF, pickL, hlt, hlt', h1, h2, h5, rowStore, splice, hm1, e1, q3, hw, placeIn]
          refine fin _ _ (hm2.set keyInt2 q3 _) _ _ _ ⟨rfl, rfl, by simp⟩
      · obtain rfl : i = a.length := by omega
        rw [List.take_length] at hm2
        simp [fillF, pickL]
        refine run_loop (fun j a' S' => ∃ i, j = b.length - i ∧ i ≤ b.length ∧ Same S S' [] ∧ S2.next < S'.next ∧ NoteMap S' S2.next (knF a) ∧ noHit a b = noHit a (b.drop i) ∧
          Has a' 62 [(0, .slice a0 a.length c0), (1, .slice a1 b.length c1), (6, .map (some S2.next)), (36, .slice a1 b.length c1), (37, .int .i64 b.length), (38, .int .i64 (i : Nat))]) _ ⟨0, rfl, by omega, hs3, hn3, ⟨es, c, hm1, hm2⟩, by simp, ⟨rfl, rfl, by simp⟩⟩ ?_
        clear hm1 hm2 hR ha
        rintro _ R hR _ S4 ⟨i, rfl, hi, hs4, hn4, ⟨es, c, hm1, hm2⟩, hno, ha⟩
        obtain ⟨x, rfl⟩ := ha.lit
        by_cases hlt : i < b.length
        · obtain ⟨p, o, cells, e, wr, ex, h1, h2, h3, h4, h5, _⟩ := (k.stay0 hs4).at hlt
          have hlt' : (i : Int) < b.length := by omega
          have hw : IntKind.i64.wrap ((i : Int) + 1) = ((i + 1 : Nat) : Int) := wrapS (by omega)
          have e1 : S2.next ≠ S4.next := by omega
          have e2 : S2.next ≠ S4.next + 1 := by omega
          obtain ⟨r, q3, q4⟩ := hm2.get keyInt2 (keyN b[i])
          simp only [keyN] at q3
          rw [List.drop_eq_getElem_cons hlt] at hno
          cases r with
          | none =>
            have hg : knG a (keyN b[i]) = none := by
              unfold knF at q4
              cases e : knG a (keyN b[i]) with
              | none => rfl
              | some y => rw [e] at q4; cases q4
            rw [noHit_none hg] at hno
            simp [fillF, pickL, hlt, hlt', h1, h2, h5, rowStore, splice, hm1, e1, e2, q3, hw, placeIn]
            refine hR _ _ _ (by omega) ⟨i + 1, rfl, by omega, ?_, by simp; omega, ⟨es, c, by simp [e1, e2, hm1], hm2⟩, hno, ⟨rfl, rfl, by simp⟩⟩
            exact (((((hs4.bu.pn (by omega)).pn (by omega)).bu).pn (by omega)).pn (by omega))
          | some r =>
            obtain ⟨ix, u⟩ := r
            obtain ⟨y, hg, hu⟩ : ∃ y, knG a (keyN b[i]) = some y ∧ u = y.agg := by
              unfold knF at q4
              cases e : knG a (keyN b[i]) with
              | none => rw [e] at q4; cases q4
              | some y => rw [e] at q4; exact ⟨y, rfl, by simpa using q4⟩
            subst hu
            rw [noHit_some hg] at hno
            simp [fillF, pickL, hlt, hlt', h1, h2, h5, rowStore, splice, hm1, e1, e2, q3, hw, placeIn]
            by_cases he : b[i] = y
            · simp [he]
              rw [decide_eq_true he, Bool.true_and] at hno
              refine hR _ _ _ (by omega) ⟨i + 1, rfl, by omega, ?_, by simp; omega, ⟨es, c, by simp [e1, e2, hm1], hm2⟩, hno, ⟨rfl, rfl, by simp [hw]⟩⟩
              exact (((((hs4.bu.pn (by omega)).pn (by omega)).bu).pn (by omega)).pn (by omega))
            · simp [he]
              rw [decide_eq_false he, Bool.false_and] at hno
              have hA : ¬ Agree a b := fun hA => by rw [(noHit_iff Ra).2 hA] at hno; cases hno
              have hE : mergeE a b = 8 := by unfold mergeE; rw [if_neg (by simp [ra, rb]), if_neg hA]
              rw [hE] at bad
              exact bad _ (((((hs4.bu.pn (by omega)).pn (by omega)).bu).pn (by omega)).pn (by omega)) (by decide)
        · obtain rfl : i = b.length := by omega
          rw [List.drop_length] at hno
          have hno' : noHit a b = true := hno
          have hA := (noHit_iff Ra).1 hno'
          have hE : mergeE a b = 0 := mergeE_zero.2 ⟨Ra, regB_iff.1 rb, hA⟩
          have hV : mergeV a b = merge a b := by unfold mergeV; rw [if_pos hE]
          simp [fillF, pickL]
          refine merged_ok (h.stay0 hs4) (k.stay0 hs4) hl fun S5 p n hs5 hn hon how => ?_
          simp
          have := hq S5 p n (hs4.tr0 hs5) (by rw [hV]; exact hn) (by rw [hV]; exact hon) (fun m hm => Nat.le_trans hs4.1 (how m hm))
          rw [hE] at this
          exact this
    · have rb' : regB b = false := by simpa using rb
      have hE : mergeE a b = 1 := by unfold mergeE; rw [if_pos (.inr rb')]
      simp [rb]
      have := bad S2 hs2' (by rw [hE]; decide)
      rw [hE] at this
      exact this
  · have ra' : regB a = false := by simpa using ra
    have hE : mergeE a b = 1 := by unfold mergeE; rw [if_pos (.inl ra')]
    simp [ra]
    have := bad S1 hs1 (by rw [hE]; decide)
    rw [hE] at this
    exact this
end Go.Gx.B
