/-
  Rebase; AmendRebases.
-/
import Derived.Test.YtamljcdnphjgaaaPv
import Derived.Test.YtamljcdnphjgaaaPm
import Derived.Test.YtamljcdnphjgaaaPu

set_option linter.all false
set_option linter.deprecated false
set_option linter.unusedSimpArgs false
set_option linter.unusedVariables false

namespace Go.Gx.A
open Go.Gx Go.Proofs
set_option maxRecDepth 100000
set_option linter.all false
set_option maxHeartbeats 2000000
abbrev pV (p : Int × Int) : Value := .agg #[.int .i64 p.1, .int .i64 p.2]
def ixP : List (Int × Int) → Int × Int → Int
  | [], _ => -1
  | a :: l, x => if a = x then 0 else if ixP l x < 0 then -1 else ixP l x + 1
theorem ixP_ge : ∀ (l : List (Int × Int)) (x : Int × Int), -1 ≤ ixP l x ∧ ixP l x < l.length
  | [], _ => by simp [ixP]
  | a :: l, x => by
    have := ixP_ge l x
    simp only [ixP, List.length_cons]
    split
    · omega
    · split <;> omega
theorem ixP_none : ∀ {l : List (Int × Int)} {x : Int × Int}, ixP l x < 0 ↔ x ∉ l
  | [], x => by simp [ixP]
  | a :: l, x => by
    have ih := @ixP_none l x
    simp only [ixP, List.mem_cons, not_or]
    by_cases h : a = x
    · simp [h]
    · have h' : ¬ x = a := fun e => h e.symm
      simp only [h, if_false, h', not_false_eq_true, true_and, ← ih]
      by_cases h2 : ixP l x < 0
      · simp [h2]
      · simp only [h2, if_false, iff_false]; omega
def ixPF (l : List (Int × Int)) (x : Int × Int) (i : Nat) : Int := if ixP (l.drop i) x < 0 then -1 else ixP (l.drop i) x + i
theorem ixPF_step {l : List (Int × Int)} {x : Int × Int} {i : Nat} (h : i < l.length) : ixPF l x i = if l[i] = x then (i : Int) else ixPF l x (i + 1) := by
  unfold ixPF
  rw [List.drop_eq_getElem_cons h]
  have := ixP_ge (l.drop (i + 1)) x
  simp only [ixP]
  by_cases h1 : l[i] = x
  · simp [h1]
  · simp only [h1, if_false]
    by_cases h2 : ixP (l.drop (i + 1)) x < 0
    · simp [h2]
    · simp only [h2, if_false]
      rw [if_neg (by omega)]; omega
theorem ixPF_zero (l : List (Int × Int)) (x : Int × Int) : ixPF l x 0 = ixP l x := by
  unfold ixPF
  have := ixP_ge l x
  simp
  intro h; omega
theorem ixPF_end (l : List (Int × Int)) (x : Int × Int) : ixPF l x l.length = -1 := by
  unfold ixPF
  rw [List.drop_length]
  simp [ixP]
theorem ixPF_lt : ∀ {l : List (Int × Int)} {i : Nat} (h : i < l.length), ixP l l[i] ≤ i
  | a :: l, 0, h => by simp [ixP]
  | a :: l, i + 1, h => by
    have ih := @ixPF_lt l i (by simpa using h)
    simp only [List.getElem_cons_succ, ixP]
    split
    · omega
    · split <;> omega
theorem ixP_first : ∀ {l : List (Int × Int)} {i : Nat} (h : i < l.length), ixP l l[i] = i ↔ l[i] ∉ l.take i
  | a :: l, 0, h => by simp [ixP]
  | a :: l, i + 1, h => by
    have hi : i < l.length := by simpa using h
    have ih := ixP_first hi
    simp only [List.getElem_cons_succ, ixP, List.take_succ_cons, List.mem_cons, not_or]
    by_cases e : a = l[i]
    · simp only [← e, if_true, not_true_eq_false, false_and, iff_false]; omega
    · have e' : ¬ l[i] = a := fun x => e x.symm
      simp only [e, if_false, e', not_false_eq_true, true_and, ← ih]
      have hn : ¬ ixP l l[i] < 0 := fun hh => ixP_none.1 hh (List.getElem_mem _)
      simp only [hn, if_false]
      omega
theorem nodup_take {α} [DecidableEq α] {l : List α} {i : Nat} (h : i < l.length) : (l.take (i + 1)).Nodup ↔ (l.take i).Nodup ∧ l[i] ∉ l.take i := by
  have e : l.take (i + 1) = l.take i ++ [l[i]] := by rw [List.take_add_one, List.getElem?_eq_getElem h]; rfl
  rw [e, List.nodup_append]
  simp only [List.nodup_cons, List.not_mem_nil, not_false_eq_true, List.nodup_nil, and_true, true_and, List.mem_singleton, ne_eq, forall_eq]
  constructor
  · rintro ⟨h1, h2⟩
    exact ⟨h1, fun hm => h2 _ hm rfl⟩
  · rintro ⟨h1, h2⟩
    exact ⟨h1, fun a ha e => h2 (e ▸ ha)⟩
theorem not_nodup {α} [DecidableEq α] {l : List α} {i : Nat} (h : i < l.length) (hm : l[i] ∈ l.take i) : ¬ l.Nodup := fun hn => by
  have := (List.Nodup.sublist (List.take_sublist (i + 1) l) hn)
  exact ((nodup_take h).1 this).2 hm
theorem Prs.shape' {S : AS} {v : Value} {P : List (Int × Int)} (h : Prs S v P) : ∃ a cap, v = .slice a P.length cap := by
  obtain ⟨a, cap, e⟩ := h.shape
  exact ⟨a, cap, by rw [e, List.length_map]⟩
theorem Prs.at {S : AS} {v : Value} {P : List (Int × Int)} (h : Prs S v P) {i : Nat} (hi : i < P.length) :
    ∃ p o cells e wr ex, (∀ (S' : AS) (j : IntKind), idxE S' 2 none (.int j i) v = .ret (.pointer (some ⟨p, o, none⟩), S')) ∧ S.get p = some (.row cells e wr ex) ∧ p < S.next ∧ p ∈ ownsOf v ∧ rowLoad cells o (some 2) = some (pV P[i]) := by
  obtain ⟨p, o, cells, e, wr, ex, h1, h2, h3, h4, h5, h6⟩ := Ps.idx (S' := S) h (by omega) (j := .i64) (i := i) (l := [.int .i64 P[i].1, .int .i64 P[i].2]) (by simp [hi])
  refine ⟨p, o, cells, e, wr, ex, fun S' j => ?_, h2, h3, h4, h6⟩
  obtain ⟨a, cap, rfl⟩ := h.shape'
  match a with
  | none => simp [idxE] at h1
  | some ⟨b, q, some s⟩ => simp [idxE] at h1
  | some ⟨b, q, none⟩ =>
    simp [hi] at h1 ⊢
    exact h1
theorem veqP (p q : Int × Int) : veq [.int .i64, .int .i64] true (.agg #[.int .i64 p.1, .int .i64 p.2]) (.agg #[.int .i64 q.1, .int .i64 q.2]) = some (decide (p = q)) := keyInt2.eq p q
theorem gtwice_ok {S : AS} {v : Value} {P : List (Int × Int)} (k : Prs S v P) (hP : P.length ≤ 9223372036854775807) {Q : En → AS → Prop}
    (hq : ∀ S', Same S S' [] → Q (.ret (.bool (!decide P.Nodup))) S') : Call G 104 [v] S Q := by
  obtain ⟨a, cap, rfl⟩ := k.shape'
  refine call_run' (G := G) rfl (ext_none (by decide)) ?_
  simp
  generalize hS1 : AS.put (AS.bump S _) _ _ = S1
  have s1 : Same S S1 [] := by rw [← hS1]; exact ((Same.refl _ _).bu).pn (by omega)
  have gm : MapAt S1 S.next [.int .i64, .int .i64] true (fun x : Int × Int => Value.agg #[.int .i64 x.1, .int .i64 x.2]) (plW P 0) := ⟨[], 0, by rw [← hS1]; simp, by
    have : plW P 0 = fun _ => none := by funext p; simp [plW]
    rw [this]; exact Fnd.nil⟩
  have hn1 : S1.next = S.next + 1 := by rw [← hS1]; simp
  clear hS1
  refine run_loop (fun m a' S' => ∃ j, m = P.length - j ∧ j ≤ P.length ∧ Same S S' [] ∧ S.next + 1 ≤ S'.next ∧ (P.take j).Nodup ∧
    MapAt S' S.next [.int .i64, .int .i64] true (fun x : Int × Int => Value.agg #[.int .i64 x.1, .int .i64 x.2]) (plW P j) ∧
    Has a' 19 [(3, .map (some S.next)), (7, .slice a P.length cap), (8, .int .i64 P.length), (9, .int .i64 j)]) _ ⟨0, rfl, by omega, s1, by omega, by simp, gm, ⟨rfl, rfl, by simp⟩⟩ ?_
  rintro _ R hR _ S2 ⟨j, rfl, hj, s2, hn2, hnd, km, hA⟩
  obtain ⟨x, rfl⟩ := hA.lit
  by_cases hlt : j < P.length
  · have hwS := wrapS (show j < 9223372036854775807 by omega)
    obtain ⟨p, o, cells, e, wr, ex, h1, h2, h3, h4, h6⟩ := Prs.at (k.stays s2 (by simp)) hlt
    simp [fillF, pickL, hlt, h1, h2, h6, okc, rowStore, splice, -msetE_map, -lookE_map]
    generalize hT : AS.put (AS.put (AS.bump S2 _) _ _) _ _ = T
    have hsT : Same S2 T [] := by rw [← hT]; exact (((Same.refl _ _).bu).pn (by omega)).pn (by omega)
    have hnT : T.next = S2.next + 1 := by rw [← hT]; simp
    have gp : T.get S2.next = some (.row [.int .i64 P[j].1, .int .i64 P[j].2] 145 true true) := by rw [← hT, AS.get_put_self]
    clear hT
    have kmT : MapAt T S.next [.int .i64, .int .i64] true (fun x : Int × Int => Value.agg #[.int .i64 x.1, .int .i64 x.2]) (plW P j) := by
      obtain ⟨es, c, e1, e2⟩ := km
      exact ⟨es, c, by rw [hsT.2 _ (by omega) (by simp)]; exact e1, e2⟩
    have lk := kmT.look keyInt2 P[j] (.bool false) false
    by_cases hm : P[j] ∈ P.take j
    · have e0 : plW P j P[j] = some (.bool true) := if_pos hm
      rw [e0] at lk
      simp [gp, -msetE_map, -lookE_map, lk]
      have hnn := not_nodup hlt hm
      have := hq _ (s2.tr0 hsT)
      simp [hnn] at this
      exact this
    · have e0 : plW P j P[j] = none := if_neg hm
      rw [e0] at lk
      obtain ⟨ob, q1, q2⟩ := kmT.mset keyInt2 P[j] (.bool true)
      simp [gp, -msetE_map, -lookE_map, lk, q1, hwS]
      refine hR _ _ _ (by omega) ⟨j + 1, rfl, by omega, (s2.tr0 hsT).pn (by omega), by simp; omega, (nodup_take hlt).2 ⟨hnd, hm⟩, by rw [← plW_succ hlt]; exact q2, ⟨rfl, rfl, by simp⟩⟩
  · have hje : j = P.length := by omega
    subst hje
    rw [List.take_length] at hnd
    simp [fillF, pickL]
    have := hq _ s2
    simp [hnd] at this
    exact this
theorem gindex_ok {S : AS} {v : Value} {P : List (Int × Int)} {x : Int × Int} (k : Prs S v P) (hP : P.length ≤ 9223372036854775807) {Q : En → AS → Prop}
    (hq : ∀ S', Same S S' [] → Q (.ret (.int .i64 (ixP P x))) S') : Call G 105 [v, .agg #[.int .i64 x.1, .int .i64 x.2]] S Q := by
  obtain ⟨a, cap, rfl⟩ := k.shape'
  refine call_run' (G := G) rfl (ext_none (by decide)) ?_
  simp
  generalize hS1 : AS.put (AS.bump S _) _ _ = S1
  have s1 : Same S S1 [] := by rw [← hS1]; exact ((Same.refl _ _).bu).pn (by omega)
  have g0 : S1.get S.next = some (.row [.int .i64 x.1, .int .i64 x.2] 145 true true) := by rw [← hS1]; simp
  clear hS1
  refine run_loop (fun j a' S' => ∃ i, j = P.length - i ∧ i ≤ P.length ∧ S' = S1 ∧ Has a' 19 [(0, .slice a P.length cap), (3, ptr S.next), (6, .slice a P.length cap), (7, .int .i64 P.length), (8, .int .i64 i)] ∧ ixP P x = ixPF P x i) _ ⟨0, rfl, by omega, rfl, ⟨rfl, rfl, by simp⟩, (ixPF_zero P x).symm⟩ ?_
  rintro _ R hR _ _ ⟨i, rfl, hi, rfl, ha, hne⟩
  obtain ⟨y, rfl⟩ := ha.lit
  by_cases hlt : i < P.length
  · obtain ⟨p, o, cells, e, wr, ex, h1, h2, h3, h4, h6⟩ := Prs.at (k.stays s1 (by simp)) hlt
    rw [ixPF_step hlt] at hne
    have hwS := wrapS (show i < 9223372036854775807 by omega)
    have hv := veqP x P[i]
    simp [-run_draw, fillF, pickL, hlt]
    refine run_calm rfl ?_
    by_cases h0 : P[i] = x
    · rw [if_pos h0] at hne
      rw [decide_eq_true h0.symm] at hv
      simp [h1, h2, h6, g0, hv]
      rw [hne] at hq
      exact hq _ s1
    · rw [if_neg h0] at hne
      rw [decide_eq_false (fun e => h0 e.symm)] at hv
      simp [h1, h2, h6, g0, hv, hwS]
      exact hR _ _ _ (by omega) ⟨i + 1, rfl, by omega, rfl, ⟨rfl, rfl, by simp⟩, hne⟩
  · have : i = P.length := by omega
    subst this
    rw [hne, ixPF_end] at hq
    simp [fillF, pickL]
    exact hq _ s1
theorem guestAt_ok {S : AS} {v : Value} {P : List (Int × Int)} {x : Int × Int} (k : Prs S v P) (hP : P.length ≤ 9223372036854775807) {Q : En → AS → Prop}
    (hq : ∀ S', Same S S' [] → Q (.ret (.int .i64 (ixP P x))) S') : Call G 107 [v, .agg #[.int .i64 x.1, .int .i64 x.2]] S Q := by
  obtain ⟨a, cap, rfl⟩ := k.shape'
  refine call_run' (G := G) rfl (ext_none (by decide)) ?_
  simp
  generalize hS1 : AS.put (AS.bump S _) _ _ = S1
  have s1 : Same S S1 [] := by rw [← hS1]; exact ((Same.refl _ _).bu).pn (by omega)
  have g0 : S1.get S.next = some (.row [.int .i64 x.1, .int .i64 x.2] 145 true true) := by rw [← hS1]; simp
  clear hS1
  refine run_loop (fun j a' S' => ∃ i, j = P.length - i ∧ i ≤ P.length ∧ S' = S1 ∧ Has a' 19 [(0, .slice a P.length cap), (3, ptr S.next), (5, .int .i64 i)] ∧ ixP P x = ixPF P x i) _ ⟨0, rfl, by omega, rfl, ⟨rfl, rfl, by simp⟩, (ixPF_zero P x).symm⟩ ?_
  rintro _ R hR _ _ ⟨i, rfl, hi, rfl, ha, hne⟩
  obtain ⟨y, rfl⟩ := ha.lit
  by_cases hlt : i < P.length
  · obtain ⟨p, o, cells, e, wr, ex, h1, h2, h3, h4, h6⟩ := Prs.at (k.stays s1 (by simp)) hlt
    rw [ixPF_step hlt] at hne
    have hwS := wrapS (show i < 9223372036854775807 by omega)
    have hv := veqP P[i] x
    simp [-run_draw, fillF, pickL, hlt]
    refine run_calm rfl ?_
    by_cases h0 : P[i] = x
    · rw [if_pos h0] at hne
      rw [decide_eq_true h0] at hv
      simp [h1, h2, h6, g0, hv]
      rw [hne] at hq
      exact hq _ s1
    · rw [if_neg h0] at hne
      rw [decide_eq_false h0] at hv
      simp [h1, h2, h6, g0, hv, hwS]
      exact hR _ _ _ (by omega) ⟨i + 1, rfl, by omega, rfl, ⟨rfl, rfl, by simp⟩, hne⟩
  · have : i = P.length := by omega
    subst this
    rw [hne, ixPF_end] at hq
    simp [fillF, pickL]
    exact hq _ s1
theorem guestTwice_ok {S : AS} {v : Value} {P : List (Int × Int)} (k : Prs S v P) (hP : P.length ≤ 9223372036854775807) {Q : En → AS → Prop}
    (hq : ∀ S', Same S S' [] → Q (.ret (.bool (!decide P.Nodup))) S') : Call G 106 [v] S Q := by
  obtain ⟨a, cap, rfl⟩ := k.shape'
  refine call_run' (G := G) rfl (ext_none (by decide)) ?_
  simp
  refine run_loop (fun m a' S' => ∃ j, m = P.length - j ∧ j ≤ P.length ∧ Same S S' [] ∧ (P.take j).Nodup ∧
    Has a' 20 [(0, .slice a P.length cap), (3, .int .i64 j)]) _ ⟨0, rfl, by omega, .refl _ _, by simp, ⟨rfl, rfl, by simp⟩⟩ ?_
  rintro _ R hR _ S2 ⟨j, rfl, hj, s2, hnd, hA⟩
  obtain ⟨x, rfl⟩ := hA.lit
  by_cases hlt : j < P.length
  · have hwS := wrapS (show j < 9223372036854775807 by omega)
    obtain ⟨p, o, cells, e, wr, ex, h1, h2, h3, h4, h6⟩ := Prs.at (k.stays s2 (by simp)) hlt
    simp [fillF, pickL, hlt, h1, h2, h6]
    refine guestAt_ok (k.stays s2 (by simp)) hP fun S3 hs3 => ?_
    by_cases hm : P[j] ∈ P.take j
    · have e0 : ¬ ixP P P[j] = j := fun e => (ixP_first hlt).1 e hm
      simp [e0]
      have hnn := not_nodup hlt hm
      have := hq _ (s2.tr0 hs3)
      simp [hnn] at this
      exact this
    · have e0 : ixP P P[j] = j := (ixP_first hlt).2 hm
      simp [e0, hwS]
      exact hR _ _ _ (by omega) ⟨j + 1, rfl, by omega, s2.tr0 hs3, (nodup_take hlt).2 ⟨hnd, hm⟩, ⟨rfl, rfl, by simp⟩⟩
  · have hje : j = P.length := by omega
    subst hje
    rw [List.take_length] at hnd
    simp [fillF, pickL]
    have := hq _ s2
    simp [hnd] at this
    exact this
def rbs (P N : List (Int × Int)) (c : Int) : Nat → List Int × Int
  | 0 => ([], 0)
  | j + 1 => let r := rbs P N c j
    match P[j]? with
    | none => r
    | some g => if ixP N g < 0 then r else (r.1 ++ [ixP N g], if (j : Int) < c then r.2 + 1 else r.2)
theorem rbs_len (P N : List (Int × Int)) (c : Int) : ∀ j, (rbs P N c j).1.length ≤ j ∧ 0 ≤ (rbs P N c j).2 ∧ (rbs P N c j).2 ≤ j
  | 0 => by simp [rbs]
  | j + 1 => by
    have := rbs_len P N c j
    simp only [rbs]
    split
    · omega
    · split
      · omega
      · simp only [List.length_append, List.length_singleton]
        split <;> omega
theorem rbs_no {P N : List (Int × Int)} {c : Int} {j : Nat} (h : j < P.length) (hi : ixP N P[j] < 0) : rbs P N c (j + 1) = rbs P N c j := by
  simp only [rbs, List.getElem?_eq_getElem h, if_pos hi]
theorem rbs_yes {P N : List (Int × Int)} {c : Int} {j : Nat} (h : j < P.length) (hi : ¬ ixP N P[j] < 0) : rbs P N c (j + 1) = ((rbs P N c j).1 ++ [ixP N P[j]], if (j : Int) < c then (rbs P N c j).2 + 1 else (rbs P N c j).2) := by
  simp only [rbs, List.getElem?_eq_getElem h, if_neg hi]
def rbR (P : List (Int × Int)) (c : Int) (N : List (Int × Int)) : List Int × Int × Int :=
  if c < 0 ∨ (P.length : Int) < c then ([], 0, 1) else if P.Nodup ∧ N.Nodup then ((rbs P N c P.length).1, (rbs P N c P.length).2, 0) else ([], 0, 6)
theorem Rebase_ok {S : AS} {v w : Value} {P N : List (Int × Int)} {c : Int} (h : Prs S v P) (k : Prs S w N) (hP : P.length ≤ 1000) (hN : N.length ≤ 9223372036854775807) {Q : En → AS → Prop}
    (hq : ∀ S' o, Same S S' [] → Is S' o (rbR P c N).1 → Q (.ret (.tuple #[o, .int .i64 (rbR P c N).2.1, .int .i64 (rbR P c N).2.2])) S') : Call G 46 [v, .int .i64 c, w] S Q := by
  obtain ⟨a, cap, rfl⟩ := h.shape'
  obtain ⟨b, bcap, rfl⟩ := k.shape'
  have hq1 : (c < 0 ∨ (P.length : Int) < c) → Q (.ret (.tuple #[.slice none 0 0, .int .i64 0, .int .i64 1])) S := fun hc => by
    have := hq S (.slice none 0 0) (.refl _ _)
    have e : rbR P c N = ([], 0, 1) := if_pos hc
    rw [e] at this
    exact this Is.nil
  have hq2 : ¬ (c < 0 ∨ (P.length : Int) < c) → ¬ (P.Nodup ∧ N.Nodup) → ∀ S', Same S S' [] → Q (.ret (.tuple #[.slice none 0 0, .int .i64 0, .int .i64 6])) S' := fun hc hn S' hs => by
    have := hq S' (.slice none 0 0) hs
    have e : rbR P c N = ([], 0, 6) := by unfold rbR; rw [if_neg hc, if_neg hn]
    rw [e] at this
    exact this Is.nil
  refine call_run' (G := G) rfl (ext_none (by decide)) ?_
  by_cases c1 : c < 0
  · simp [c1, undef]
    exact hq1 (.inl c1)
  by_cases c2 : (P.length : Int) < c
  · simp [c1, c2, undef]
    exact hq1 (.inr c2)
  simp [c1, c2, undef]
  refine gtwice_ok h (by omega) fun S1 hs1 => ?_
  by_cases n1 : P.Nodup
  · simp [n1, undef]
    refine gtwice_ok (k.stays hs1 (by simp)) hN fun S2 hs2 => ?_
    have s2 := hs1.tr0 hs2
    by_cases n2 : N.Nodup
    · simp [n2]
      have hq3 : ∀ S' o, Same S S' [] → Is S' o (rbs P N c P.length).1 → Q (.ret (.tuple #[o, .int .i64 (rbs P N c P.length).2, .int .i64 0])) S' := fun S' o hs ho => by
        have e : rbR P c N = ((rbs P N c P.length).1, (rbs P N c P.length).2, 0) := by unfold rbR; rw [if_neg (by omega), if_pos ⟨n1, n2⟩]
        have := hq S' o hs
        rw [e] at this
        exact this ho
      refine run_loop (fun m a' S' => ∃ j ov n, m = P.length - j ∧ j ≤ P.length ∧ Same S S' [] ∧ S2.next ≤ S'.next ∧ n = (rbs P N c j).1.length ∧ Ow S' (.slice ov n n) (rbs P N c j).1 ∧ (∀ m ∈ ownsOf (.slice ov n n), S2.next ≤ m) ∧
        Has a' 52 [(1, .int .i64 c), (2, .slice b N.length bcap), (9, .slice ov n n), (10, .int .i64 (rbs P N c j).2), (28, .slice a P.length cap), (29, .int .i64 P.length), (30, .int .i64 j)]) _ ⟨0, none, 0, rfl, by omega, s2, by omega, rfl, Ow.nil, by simp [ownsOf], ⟨rfl, rfl, by simp [rbs]⟩⟩ ?_
      rintro _ R hR _ S3 ⟨j, ov, n, rfl, hj, s3, hn3, rfl, how, hown, hA⟩
      obtain ⟨x, rfl⟩ := hA.lit
      have hrl := rbs_len P N c j
      by_cases hlt : j < P.length
      · have hwS := wrapS (show j < 9223372036854775807 by omega)
        obtain ⟨p, o, cells, e, wr, ex, h1, h2, h3, h4, h6⟩ := Prs.at (h.stays s3 (by simp)) hlt
        simp [fillF, pickL, hlt, h1, h2, h6, okc, rowStore, splice]
        generalize hT : AS.put (AS.put (AS.bump S3 _) _ _) _ _ = T
        have hsT : Same S3 T [] := by rw [← hT]; exact (((Same.refl _ _).bu).pn (by omega)).pn (by omega)
        have hnT : T.next = S3.next + 1 := by rw [← hT]; simp
        have gp : T.get S3.next = some (.row [.int .i64 P[j].1, .int .i64 P[j].2] 145 true true) := by rw [← hT, AS.get_put_self]
        clear hT
        have sT := s3.tr0 hsT
        refine gindex_ok (x := P[j]) (k.stays sT (by simp)) hN fun S4 hs4 => ?_
        have s4 := sT.tr0 hs4
        have hn4 := hs4.1
        have how4 := (how.stay0 hsT).stay0 hs4
        by_cases hi : ixP N P[j] < 0
        · have hi' : ¬ 0 ≤ ixP N P[j] := by omega
          simp [hi', hwS]
          have e1 := rbs_no (N := N) (c := c) hlt hi
          exact hR _ _ _ (by omega) ⟨j + 1, ov, _, rfl, by omega, s4, by omega, by rw [e1], by rw [e1]; exact how4, hown, ⟨rfl, rfl, by simp [e1]⟩⟩
        · have hi' : 0 ≤ ixP N P[j] := by omega
          have e1 := rbs_yes (N := N) (c := c) hlt hi
          have hsW : Same S4 ((S4.bump 2).put S4.next (.row [.int .i64 (ixP N P[j])] 3 true true)) [] := ((Same.refl _ _).bu).pn (by omega)
          obtain ⟨T2, a2, q1, q2, q3, q4, q5⟩ := how4.app (T := (S4.bump 2).put S4.next (.row [.int .i64 (ixP N P[j])] 3 true true)) (y := .slice (some ⟨S4.next, 0, none⟩) 1 1) (m := [ixP N P[j]]) (fr := S4.next + 1) (by simp; omega) hsW (Is.one (by rw [AS.get_put_self]) (by simp)) (by simp) (by omega)
          simp at q1 q2 q4 q5
          have s5 : Same S T2 [] := s4.trans q3 (fun m hm hl => by have := hown m hm; have := s2.1; omega)
          have hl2 : (rbs P N c (j + 1)).1.length = (rbs P N c j).1.length + 1 := by rw [e1]; simp
          have hR' : ∀ y z, y = (rbs P N c (j + 1)).2 → Has z 52 [(1, .int .i64 c), (2, .slice b N.length bcap), (9, .slice a2 ((rbs P N c j).1.length + 1) ((rbs P N c j).1.length + 1)), (10, .int .i64 y), (28, .slice a P.length cap), (29, .int .i64 P.length), (30, .int .i64 ((j + 1 : Nat) : Int))] → R z T2 := fun y z hy hz => by
            subst hy
            exact hR _ _ _ (show P.length - (j + 1) < P.length - j by omega) ⟨j + 1, a2, _, rfl, by omega, s5, by rw [q4]; omega, hl2.symm, by rw [e1]; exact q2, fun m hm => by
              rcases q5 m hm with h | h
              · exact hown m h
              · omega, hz⟩
          by_cases hc : (j : Int) < c
          · have hw1 : IntKind.i64.wrap ((rbs P N c j).2 + 1) = (rbs P N c j).2 + 1 := wrap64 (by omega) (by omega)
            simp [hi', placeIn, splice, q1, hc, hwS, hw1]
            exact hR' ((rbs P N c j).2 + 1) _ (by rw [e1]; simp [hc]) ⟨rfl, rfl, by simp⟩
          · simp [hi', placeIn, splice, q1, hc, hwS]
            exact hR' (rbs P N c j).2 _ (by rw [e1]; simp [hc]) ⟨rfl, rfl, by simp⟩
      · have hje : j = P.length := by omega
        subst hje
        simp [fillF, pickL]
        exact hq3 _ _ s3 how.is
    · simp [n2]
      exact hq2 (by omega) (fun h => n2 h.2) _ s2
  · simp [n1, undef]
    exact hq2 (by omega) (fun h => n1 h.1) _ hs1
theorem rRebase_ok {S : AS} {v w : Value} {P N : List (Int × Int)} {c : Int} (h : Prs S v P) (k : Prs S w N) (hP : P.length ≤ 1000) (hN : N.length ≤ 9223372036854775807) {Q : En → AS → Prop}
    (hq : ∀ S' o, Same S S' [] → Is S' o (rbR P c N).1 → Q (.ret (.tuple #[o, .int .i64 (rbR P c N).2.1, .int .i64 (rbR P c N).2.2])) S') : Call G 47 [v, .int .i64 c, w] S Q := by
  obtain ⟨a, cap, rfl⟩ := h.shape'
  obtain ⟨b, bcap, rfl⟩ := k.shape'
  have hq1 : (c < 0 ∨ (P.length : Int) < c) → Q (.ret (.tuple #[.slice none 0 0, .int .i64 0, .int .i64 1])) S := fun hc => by
    have := hq S (.slice none 0 0) (.refl _ _)
    have e : rbR P c N = ([], 0, 1) := if_pos hc
    rw [e] at this
    exact this Is.nil
  have hq2 : ¬ (c < 0 ∨ (P.length : Int) < c) → ¬ (P.Nodup ∧ N.Nodup) → ∀ S', Same S S' [] → Q (.ret (.tuple #[.slice none 0 0, .int .i64 0, .int .i64 6])) S' := fun hc hn S' hs => by
    have := hq S' (.slice none 0 0) hs
    have e : rbR P c N = ([], 0, 6) := by unfold rbR; rw [if_neg hc, if_neg hn]
    rw [e] at this
    exact this Is.nil
  refine call_run' (G := G) rfl (ext_none (by decide)) ?_
  by_cases c1 : c < 0
  · simp [c1, undef]
    exact hq1 (.inl c1)
  by_cases c2 : (P.length : Int) < c
  · simp [c1, c2, undef]
    exact hq1 (.inr c2)
  simp [c1, c2, undef]
  refine guestTwice_ok h (by omega) fun S1 hs1 => ?_
  simp
  refine guestTwice_ok (k.stays hs1 (by simp)) hN fun S2 hs2 => ?_
  have s2 := hs1.tr0 hs2
  by_cases n1 : P.Nodup
  · by_cases n2 : N.Nodup
    · simp [n1, n2, undef]
      have hq3 : ∀ S' o, Same S S' [] → Is S' o (rbs P N c P.length).1 → Q (.ret (.tuple #[o, .int .i64 (rbs P N c P.length).2, .int .i64 0])) S' := fun S' o hs ho => by
        have e : rbR P c N = ((rbs P N c P.length).1, (rbs P N c P.length).2, 0) := by unfold rbR; rw [if_neg (by omega), if_pos ⟨n1, n2⟩]
        have := hq S' o hs
        rw [e] at this
        exact this ho
      refine run_loop (fun m a' S' => ∃ j ov n, m = P.length - j ∧ j ≤ P.length ∧ Same S S' [] ∧ S2.next ≤ S'.next ∧ n = (rbs P N c j).1.length ∧ Ow S' (.slice ov n n) (rbs P N c j).1 ∧ (∀ m ∈ ownsOf (.slice ov n n), S2.next ≤ m) ∧
        Has a' 56 [(0, .slice a P.length cap), (1, .int .i64 c), (2, .slice b N.length bcap), (11, .slice ov n n), (12, .int .i64 (rbs P N c j).2), (13, .int .i64 j)]) _ ⟨0, none, 0, rfl, by omega, s2, by omega, rfl, Ow.nil, by simp [ownsOf], ⟨rfl, rfl, by simp [rbs]⟩⟩ ?_
      rintro _ R hR _ S3 ⟨j, ov, n, rfl, hj, s3, hn3, rfl, how, hown, hA⟩
      obtain ⟨x, rfl⟩ := hA.lit
      have hrl := rbs_len P N c j
      by_cases hlt : j < P.length
      · have hwS := wrapS (show j < 9223372036854775807 by omega)
        obtain ⟨p, o, cells, e, wr, ex, h1, h2, h3, h4, h6⟩ := Prs.at (h.stays s3 (by simp)) hlt
        simp [fillF, pickL, hlt, h1, h2, h6]
        refine guestAt_ok (x := P[j]) (k.stays s3 (by simp)) hN fun S4 hs4 => ?_
        have s4 := s3.tr0 hs4
        have hn4 := hs4.1
        have how4 := how.stay0 hs4
        by_cases hi : ixP N P[j] < 0
        · simp [hi, hwS]
          have e1 := rbs_no (N := N) (c := c) hlt hi
          exact hR _ _ _ (by omega) ⟨j + 1, ov, _, rfl, by omega, s4, by omega, by rw [e1], by rw [e1]; exact how4, hown, ⟨rfl, rfl, by simp [e1]⟩⟩
        · have e1 := rbs_yes (N := N) (c := c) hlt hi
          have hsW : Same S4 ((S4.bump 2).put S4.next (.row [.int .i64 (ixP N P[j])] 3 true true)) [] := ((Same.refl _ _).bu).pn (by omega)
          obtain ⟨T2, a2, q1, q2, q3, q4, q5⟩ := how4.app (T := (S4.bump 2).put S4.next (.row [.int .i64 (ixP N P[j])] 3 true true)) (y := .slice (some ⟨S4.next, 0, none⟩) 1 1) (m := [ixP N P[j]]) (fr := S4.next + 1) (by simp; omega) hsW (Is.one (by rw [AS.get_put_self]) (by simp)) (by simp) (by omega)
          simp at q1 q2 q4 q5
          have s5 : Same S T2 [] := s4.trans q3 (fun m hm hl => by have := hown m hm; have := s2.1; omega)
          have hl2 : (rbs P N c (j + 1)).1.length = (rbs P N c j).1.length + 1 := by rw [e1]; simp
          have hR' : ∀ y z, y = (rbs P N c (j + 1)).2 → Has z 56 [(0, .slice a P.length cap), (1, .int .i64 c), (2, .slice b N.length bcap), (11, .slice a2 ((rbs P N c j).1.length + 1) ((rbs P N c j).1.length + 1)), (12, .int .i64 y), (13, .int .i64 ((j + 1 : Nat) : Int))] → R z T2 := fun y z hy hz => by
            subst hy
            exact hR _ _ _ (show P.length - (j + 1) < P.length - j by omega) ⟨j + 1, a2, _, rfl, by omega, s5, by rw [q4]; omega, hl2.symm, by rw [e1]; exact q2, fun m hm => by
              rcases q5 m hm with h | h
              · exact hown m h
              · omega, hz⟩
          by_cases hc : (j : Int) < c
          · have hw1 : IntKind.i64.wrap ((rbs P N c j).2 + 1) = (rbs P N c j).2 + 1 := wrap64 (by omega) (by omega)
            simp [hi, placeIn, splice, q1, hc, hwS, hw1]
            exact hR' ((rbs P N c j).2 + 1) _ (by rw [e1]; simp [hc]) ⟨rfl, rfl, by simp⟩
          · simp [hi, placeIn, splice, q1, hc, hwS]
            exact hR' (rbs P N c j).2 _ (by rw [e1]; simp [hc]) ⟨rfl, rfl, by simp⟩
      · have hje : j = P.length := by omega
        subst hje
        simp [fillF, pickL]
        exact hq3 _ _ s3 how.is
    · simp [n1, n2, undef]
      exact hq2 (by omega) (fun h => n2 h.2) _ s2
  · simp [n1, undef]
    exact hq2 (by omega) (fun h => n1 h.1) _ s2
theorem rebases_walk {S : AS} {v w : Value} {P N : List (Int × Int)} {c : Int} (h : Prs S v P) (k : Prs S w N) (hN : N.length ≤ 9223372036854775807) : Call G 10 [v, .int .i64 c, w] S fun e _ => e = .ret (.bool true) := by
  obtain ⟨a, cap, hva⟩ := h.shape'
  obtain ⟨b, bcap, hvb⟩ := k.shape'
  refine call_run' (G := G) rfl (ext_none (by decide)) ?_
  by_cases c1 : (30 : Int) < P.length
  · simp [hva, c1, undef]
    refine alive_ok ?_
    simp
  by_cases c2 : (30 : Int) < N.length
  · simp [hva, hvb, c1, c2, undef]
    refine alive_ok ?_
    simp
  simp [hva, hvb, c1, c2, undef]
  rw [← hva, ← hvb]
  refine Rebase_ok h k (by omega) hN fun S1 o1 hs1 ho1 => ?_
  simp
  refine rRebase_ok (h.stays hs1 (by simp)) (k.stays hs1 (by simp)) (by omega) hN fun S2 o2 hs2 ho2 => ?_
  simp
  refine alive_ok ?_
  simp
  refine sameInts_ok (ho1.stay0 hs2) ho2 ?_
  simp
end Go.Gx.A

/-
  Apply and Drop; AmendApplies.
-/
namespace Go.Gx.A
open Go.Gx Go.Proofs
set_option maxRecDepth 100000
set_option linter.all false
set_option maxHeartbeats 2000000
structure Mvs (S : AS) (v : Value) (l : List Mv) : Prop where
  ps : Ps S 3 v (mvsC l)
  small : l.length ≤ 9223372036854775807
theorem Mvs.shape {S : AS} {v : Value} {l : List Mv} (h : Mvs S v l) : ∃ a cap, v = .slice a l.length cap := by
  obtain ⟨a, cap, e⟩ := h.ps.shape
  exact ⟨a, cap, by rw [e, mvs_len]⟩
theorem Mvs.at {S : AS} {v : Value} {l : List Mv} (h : Mvs S v l) {i : Nat} (hi : i < l.length) :
    ∃ p o cells e wr ex, (∀ (S' : AS) (j : IntKind), idxE S' 3 none (.int j i) v = .ret (.pointer (some ⟨p, o, none⟩), S')) ∧ S.get p = some (.row cells e wr ex) ∧ p < S.next ∧ p ∈ ownsOf v ∧ rowLoad cells o (some 3) = some (.agg (mvC l[i]).toArray) := by
  obtain ⟨p, o, cells, e, wr, ex, h1, h2, h3, h4, h5, h6⟩ := Ps.idx (S' := S) h.ps (by omega) (j := .i64) (i := i) (l := mvC l[i]) (by simp [mvsC, hi])
  refine ⟨p, o, cells, e, wr, ex, fun S' j => ?_, h2, h3, h4, h6⟩
  obtain ⟨a, cap, rfl⟩ := h.shape
  match a with
  | none => simp [idxE] at h1
  | some ⟨b, q, some s⟩ => simp [idxE] at h1
  | some ⟨b, q, none⟩ =>
    simp [hi] at h1 ⊢
    exact h1
end Go.Gx.A
