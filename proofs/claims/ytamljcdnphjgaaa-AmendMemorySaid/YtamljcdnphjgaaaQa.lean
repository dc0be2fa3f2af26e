/-
  AmendMemory.
-/
import Derived.Test.YtamljcdnphjgaaaPu
import Derived.Test.YtamljcdnphjgaaaPx
import Derived.Test.YtamljcdnphjgaaaPy

set_option linter.all false
set_option linter.deprecated false
set_option linter.unusedSimpArgs false
set_option linter.unusedVariables false

namespace Go.Gx.A
open Go.Gx Go.Proofs
set_option maxRecDepth 100000
set_option linter.all false
set_option maxHeartbeats 4000000
theorem Oc.set {S : AS} {v : Value} {l : List Int} (h : Oc S v l) {i : Nat} (hi : i < l.length) (x : Int) :
    ∃ p cells cells' ex, (∀ (S' : AS) (j : IntKind), idxE S' 1 none (.int j i) v = .ret (.pointer (some ⟨p, i, none⟩), S')) ∧ S.get p = some (.row cells 3 true ex) ∧ p < S.next ∧ p ∈ ownsOf v ∧ rowStore cells i [.int .i64 x] = some cells' ∧ Oc (S.put p (.row cells' 3 true ex)) v (l.set i x) := by
  rcases h with ⟨rfl, _⟩ | ⟨p, cap, rest, ex, rfl, h1, h2, h3, h4, h5⟩
  · simp at hi
  · refine ⟨p, _, ints (l.set i x) ++ rest, ex, fun S' j => by simp [hi], h3, h4, by simp [ownsOf], ?_, .inr ⟨p, cap, rest, ex, by simp, by simpa using h1, h2, AS.get_put_self _ _ _, by simpa using h4, h5⟩⟩
    unfold rowStore
    rw [if_pos ⟨by simp; omega, rfl⟩]
    congr 1
    apply List.ext_getElem?
    intro j
    rw [splice_get (by simp; omega)]
    by_cases h6 : j < l.length
    · rw [List.getElem?_append_left (by simpa using h6), List.getElem?_append_left (by simpa using h6), ints_get, ints_get, List.getElem?_set]
      by_cases h7 : j < i
      · rw [if_pos h7, if_neg (by omega)]
      · rw [if_neg h7]
        by_cases h8 : j = i
        · subst h8
          simp [h6]
        · rw [if_neg (by simp; omega), if_neg (by omega)]
    · rw [List.getElem?_append_right (by simp; omega), List.getElem?_append_right (by simp; omega), if_neg (by omega), if_neg (by simp; omega)]
      simp
theorem Kept_ok2 {S : AS} {v w : Value} {old order : List Int} (h : Is S v old) (k : Is S w order) {Q : En → AS → Prop}
    (hq : ∀ S' a n, Same S S' [] → n = (keptR old order).length → Ow S' (.slice a n n) (keptR old order) → (∀ m ∈ ownsOf (.slice a n n), S.next ≤ m) → Q (.ret (.tuple #[.slice a n n, .int .i64 (errL [old, order])])) S') : Call G 41 [v, w] S Q := by
  obtain ⟨a, cap, rfl⟩ := h.shape
  obtain ⟨b, cap', rfl⟩ := k.shape
  refine call_run' (G := G) rfl (ext_none (by decide)) ?_
  simp [placeIn, splice]
  have s1 : ∀ o, Same S ((S.bump 1).put S.next o) [] := fun o => by
    repeat' first | exact Same.refl _ _ | apply Same.bu | (refine Same.pn ?_ (by first | omega | (simp; omega)))
  refine lists_ok (ls_two (wr := true) (ex := true) (h.stay0 (s1 _)) (k.stay0 (s1 _)) (by simp) (by simp)) fun S1 hs1 => ?_
  have hs := (s1 _).tr0 hs1
  by_cases he : errL [old, order] = 0
  · obtain ⟨b1, b2, b3, b4⟩ := errL_nodup he
    simp [he]
    refine kept_ok (h.stay0 hs) (k.stay0 hs) b4 (by omega) (by omega) fun S2 oa n hs2 hn how hb => ?_
    simp
    have hn1 := hs.1
    have := hq S2 oa n (hs.tr0 hs2) (by unfold keptR; rw [if_pos he]; exact hn) (by unfold keptR; rw [if_pos he]; exact how) (fun m hm => by have := hb m hm; omega)
    rw [he] at this
    exact this
  · simp [he]
    exact hq S1 none 0 hs (by unfold keptR; rw [if_neg he]; rfl) (by unfold keptR; rw [if_neg he]; exact Ow.nil) (by simp [ownsOf])
theorem Amend_ok2 {S : AS} {va vo : Value} {c : Chg} (h : ChgAt S va vo c) {Q : En → AS → Prop}
    (hq : ∀ S' v k, Same S S' [] → Oc S' v (amdR c).order → Oc S' k (amdR c).kept → (∀ m ∈ ownsOf v, S.next ≤ m) → (∀ m ∈ ownsOf k, S.next ≤ m) → (∀ m ∈ ownsOf v, m ∉ ownsOf k) → Q (.ret (.tuple #[.agg #[v, .int .i64 (amdR c).off, .int .i64 (amdR c).mov, k], .int .i64 c.check])) S') : Call G 34 [c.val va vo] S Q := by
  by_cases hc : c.check = 0
  · have e : amdR c = c.cg.amd := if_pos hc
    rw [e, hc] at hq
    refine Amend_ok h (fun h0 => absurd hc h0) fun _ S' w a n hs h1 h2 hn h3 h4 h5 => hq S' w _ hs h1 (h3.oc ?_) h2 h4 h5
    have ok := check_ok hc
    have hsub := kept_old c.old (c.cg.bests.headD [])
    have := hsub.length_le
    have h24 : c.old.length ≤ 24 := ok.cgSm.ol
    show (kept c.old (c.cg.bests.headD [])).length ≤ 100000
    omega
  · have e : amdR c = ⟨[], 0, 0, []⟩ := if_neg hc
    rw [e] at hq
    exact Amend_ok h (fun _ S' hs => hq S' _ _ hs (.inl ⟨rfl, rfl⟩) (.inl ⟨rfl, rfl⟩) (by simp [ownsOf]) (by simp [ownsOf]) (by simp [ownsOf])) fun h0 => absurd h0 hc
theorem memory_walk {S : AS} {va vo w : Value} {c : Chg} {order : List Int} (h : ChgAt S va vo c) (kk : Is S w order) : Call G 18 [c.val va vo, w] S fun e _ => e = .ret (.bool true) := by
  obtain ⟨oa, ocap, hov⟩ := h.old.shape
  obtain ⟨wa, wcap, hws⟩ := kk.shape
  refine call_run' (G := G) rfl (ext_none (by decide)) ?_
  have al : ∀ (S' : AS) (R : En → AS → Prop), R (.ret (.bool true)) S' → Call G 23 [] S' R := fun S' R h => alive_ok h
  have hval : Value.agg #[.int .i64 c.n, va, vo, .int .i64 c.passed] = c.val va vo := rfl
  simp [Chg.val]
  generalize hS1 : AS.put (AS.bump S 1) _ _ = S1
  have s1 : Same S S1 [] := by rw [← hS1]; exact ((Same.refl _ _).bu).pn (by omega)
  have g1 : S1.get S.next = some (.row [.int .i64 c.n, va, vo, .int .i64 c.passed] 27 true true) := by rw [← hS1]; simp
  have hn1 : S1.next = S.next + 1 := by rw [← hS1]; simp
  clear hS1
  simp [g1, hval]
  refine Few_ok (h.stay0 s1) fun S2 b hs2 => ?_
  have s2 := s1.tr0 hs2
  have hn2 := hs2.1
  have g2 : S2.get S.next = _ := (hs2.2 _ (by omega) (by simp)).trans g1
  cases b with
  | false =>
    simp [undef]
    refine al _ _ ?_
    simp
  | true =>
    by_cases c1 : (40 : Int) < order.length
    · simp [undef, hws, c1]
      refine al _ _ ?_
      simp
    by_cases c2 : (40 : Int) < c.old.length
    · simp [undef, hws, hov, c1, c2, g2]
      refine al _ _ ?_
      simp
    have t2 : Same S2 ((S2.bump 2).put S2.next (.row [] 3 true true)) [] := ((Same.refl _ _).bu).pn (by omega)
    obtain ⟨T3, ca, cc, f1, f2, f3, f4, f5⟩ := app0 (T := (S2.bump 2).put S2.next (.row [] 3 true true)) (p := S2.next) (fr := S2.next + 1) ((h.old.stay0 s2).stay0 t2) (by omega) (by simp) (by simp) (by simp)
    simp at f4
    have h23 : Same S2 T3 [] := t2.trans f3 (fun m hm hl => by simp at hm; omega)
    have s3 := s2.tr0 h23
    have t3 : Same T3 ((T3.bump 2).put T3.next (.row [] 3 true true)) [] := ((Same.refl _ _).bu).pn (by omega)
    obtain ⟨T4, da, dc, e1, e2, e3, e4, e5⟩ := app0 (T := (T3.bump 2).put T3.next (.row [] 3 true true)) (p := T3.next) (fr := T3.next + 1) ((kk.stay0 s3).stay0 t3) (by omega) (by simp) (by simp) (by simp)
    simp at e4
    have h34 : Same T3 T4 [] := t3.trans e3 (fun m hm hl => by simp at hm; omega)
    have s4 := s3.tr0 h34
    have f24 : Oc T4 (.slice ca c.old.length cc) c.old := f2.stay0 h34
    have g3 : T3.get S.next = _ := (h23.2 _ (by omega) (by simp)).trans g2
    have g4 : T4.get S.next = _ := (h34.2 _ (by omega) (by simp)).trans g3
    have hln1 : ∀ S' : AS, lnE S' w = .ret (.int .i64 order.length, S') := fun S' => by rw [hws]; rfl
    have hln2 : ∀ S' : AS, lnE S' vo = .ret (.int .i64 c.old.length, S') := fun S' => by rw [hov]; rfl
    have u1 : (S.next = S2.next) = False := eq_false (by omega)
    have u2 : (S.next = T3.next) = False := eq_false (by omega)
    simp [undef, hln1, hln2, c1, c2, g2, placeIn, f1, g3, e1, g4, hval, u1, u2]
    have s4b : Same T4 (T4.bump 1) [] := (Same.refl _ _).bu
    refine Amend_ok2 ((h.stay0 s4).stay0 s4b) fun S5 v5 k5 hs5 hv5 hk5 ho5 hp5 _ => ?_
    have hn5 := hs5.1
    simp at hn5
    have s45 := s4b.tr0 hs5
    obtain ⟨va5, vc5, hv5s⟩ := hv5.shape
    obtain ⟨ka5, kc5, hk5s⟩ := hk5.shape
    simp [hv5s, hk5s, okc, rowStore, splice]
    rw [← hv5s, ← hk5s]
    generalize hS6 : AS.put (AS.put S5 _ _) _ _ = S6
    have hs6 : Same S5 S6 [T4.next] := by rw [← hS6]; exact ((Same.refl _ _).po (by simp)).po (by simp)
    have c6 : S6.get T4.next = some (.row [v5, .int .i64 (amdR c).off, .int .i64 (amdR c).mov, k5] 44 true true) := by rw [← hS6, AS.get_put_self]
    have hn6 : S6.next = S5.next := by rw [← hS6]; rfl
    clear hS6
    have h46 : Same T4 S6 [] := s45.trans hs6 (fun m hm hl => by simp at hm; omega)
    have s6 := s4.tr0 h46
    have g6 : S6.get S.next = _ := (h46.2 _ (by omega) (by simp)).trans g4
    have iv6 : Is S6 v5 (amdR c).order := hv5.is.stays hs6 (fun m hm => by have := ho5 m hm; simp at this ⊢; omega)
    have ik6 : Is S6 k5 (amdR c).kept := hk5.is.stays hs6 (fun m hm => by have := hp5 m hm; simp at this ⊢; omega)
    have io6 : Is S6 (.slice ca c.old.length cc) c.old := f24.is.stay0 h46
    have iw6 : Is S6 (.slice da order.length dc) order := e2.is.stay0 h46
    simp [g6, hval]
    have s6b : Same S6 (S6.bump 1) [] := (Same.refl _ _).bu
    refine Amend_ok2 ((h.stay0 s6).stay0 s6b) fun S7 v7 k7 hs7 hv7 hk7 ho7 hp7 hd7 => ?_
    have hn7 := hs7.1
    simp at hn7
    have s67 := s6b.tr0 hs7
    obtain ⟨va7, vc7, hv7s⟩ := hv7.shape
    obtain ⟨ka7, kc7, hk7s⟩ := hk7.shape
    simp [hv7s, hk7s, okc, rowStore, splice]
    rw [← hv7s, ← hk7s]
    generalize hS8 : AS.put (AS.put S7 _ _) _ _ = S8
    have hs8 : Same S7 S8 [S5.next] := by rw [← hS8]; exact ((Same.refl _ _).po (by simp)).po (by simp)
    have c8 : S8.get S5.next = some (.row [v7, .int .i64 (amdR c).off, .int .i64 (amdR c).mov, k7] 44 true true) := by rw [← hS8, AS.get_put_self]
    have hn8 : S8.next = S7.next := by rw [← hS8]; rfl
    clear hS8
    have h68 : Same S6 S8 [] := s67.trans hs8 (fun m hm hl => by simp at hm; omega)
    have ho8 : ∀ m ∈ ownsOf v7, S5.next < m := fun m hm => by have := ho7 m hm; simp at this; omega
    have hp8 : ∀ m ∈ ownsOf k7, S5.next < m := fun m hm => by have := hp7 m hm; simp at this; omega
    have hv8 : Oc S8 v7 (amdR c).order := hv7.stays hs8 (fun m hm => by have := ho8 m hm; simp; omega)
    have hk8 : Oc S8 k7 (amdR c).kept := hk7.stays hs8 (fun m hm => by have := hp8 m hm; simp; omega)
    have hnv : ∀ S' : AS, lnE S' v7 = .ret (.int .i64 (amdR c).order.length, S') := fun S' => by rw [hv7s]; rfl
    have hnk : ∀ S' : AS, lnE S' k7 = .ret (.int .i64 (amdR c).kept.length, S') := fun S' => by rw [hk7s]; rfl
    have hsv := hv8.is.small
    have hsk := hk8.is.small
    refine run_loop (fun m a' S' => ∃ j l', m = (amdR c).order.length - j ∧ j ≤ (amdR c).order.length ∧ Same S8 S' (ownsOf v7) ∧ Oc S' v7 l' ∧ l'.length = (amdR c).order.length ∧ Has a' 160 [(1, w), (2, ptr S.next), (5, .slice ca c.old.length cc), (6, .slice da order.length dc), (7, ptr T4.next), (8, .int .i64 c.check), (9, ptr S5.next), (60, .int .i64 (amdR c).order.length), (61, .int .i64 j)]) _ ⟨0, _, rfl, by omega, .refl _ _, hv8, rfl, ⟨rfl, rfl, by simp⟩⟩ ?_
    rintro _ R1a hR1a _ S9 ⟨j, l', rfl, hj, hs1a, hoc1a, hl1a, hA⟩
    obtain ⟨x1a, rfl⟩ := hA.lit
    have c9 : S9.get S5.next = _ := (hs1a.2 _ (by omega) (fun hk => by have := ho8 _ hk; omega)).trans c8
    by_cases hlt1a : j < (amdR c).order.length
    · have hlt1a' : (j : Int) < ((amdR c).order.length : Nat) := by omega
      have hwS := wrapS (show j < 9223372036854775807 by omega)
      obtain ⟨p, cells, cells', ex, i1, i2, i3, i4, i5, i6⟩ := hoc1a.set (i := j) (by omega) (-1)
      simp [fillF, pickL, hlt1a, hlt1a', i1, i2, i5, hwS, c9]
      exact hR1a _ _ _ (by omega) ⟨j + 1, l'.set j (-1), rfl, by omega, hs1a.po i4, i6, by simpa using hl1a, ⟨rfl, rfl, by simp⟩⟩
    have hj1a : j = (amdR c).order.length := by omega
    subst hj1a
    simp [fillF, pickL, c9, hnk]
    have hk9 : Oc S9 k7 (amdR c).kept := hk8.stays hs1a (fun m hm hk => hd7 m hk hm)
    refine run_loop (fun m a' S' => ∃ j l', m = (amdR c).kept.length - j ∧ j ≤ (amdR c).kept.length ∧ Same S9 S' (ownsOf k7) ∧ Oc S' k7 l' ∧ l'.length = (amdR c).kept.length ∧ Has a' 160 [(1, w), (2, ptr S.next), (5, .slice ca c.old.length cc), (6, .slice da order.length dc), (7, ptr T4.next), (8, .int .i64 c.check), (9, ptr S5.next), (71, .int .i64 (amdR c).kept.length), (72, .int .i64 j)]) _ ⟨0, _, rfl, by omega, .refl _ _, hk9, rfl, ⟨rfl, rfl, by simp⟩⟩ ?_
    rintro _ R2a hR2a _ S10 ⟨j, l', rfl, hj, hs2a, hoc2a, hl2a, hA⟩
    obtain ⟨x2a, rfl⟩ := hA.lit
    have c10 : S10.get S5.next = _ := (hs2a.2 _ (by have := hs1a.1; omega) (fun hk => by have := hp8 _ hk; omega)).trans c9
    by_cases hlt2a : j < (amdR c).kept.length
    · have hlt2a' : (j : Int) < ((amdR c).kept.length : Nat) := by omega
      have hwS := wrapS (show j < 9223372036854775807 by omega)
      obtain ⟨p, cells, cells', ex, i1, i2, i3, i4, i5, i6⟩ := hoc2a.set (i := j) (by omega) (-1)
      simp [fillF, pickL, hlt2a, hlt2a', i1, i2, i5, hwS, c10]
      exact hR2a _ _ _ (by omega) ⟨j + 1, l'.set j (-1), rfl, by omega, hs2a.po i4, i6, by simpa using hl2a, ⟨rfl, rfl, by simp⟩⟩
    have hj2a : j = (amdR c).kept.length := by omega
    subst hj2a
    have h69 : Same S6 S9 [] := h68.trans hs1a (fun m hm hl => by have := ho8 m hm; omega)
    have h610 : Same S6 S10 [] := h69.trans hs2a (fun m hm hl => by have := hp8 m hm; omega)
    have s10 := s6.tr0 h610
    have g10 : S10.get S.next = _ := (h610.2 _ (by omega) (by simp)).trans g6
    have hn10 := h610.1
    simp [fillF, pickL, g10]
    refine Kept_ok2 (kk.stay0 s10) (h.old.stay0 s10) fun S11 a11 n11 hs11 hn11 hk11 ho11 => ?_
    have hlk : (keptR order c.old).length ≤ 100000 := by
      unfold keptR
      split
      · have := (kept_old order c.old).length_le; omega
      · simp
    have hoc11 := hk11.oc hlk
    have h611 := h610.tr0 hs11
    have hsm11 := hoc11.is.small
    simp
    rw [← hn11] at hsm11
    refine run_loop (fun m a' S' => ∃ j l', m = n11 - j ∧ j ≤ n11 ∧ Same S11 S' (ownsOf (.slice a11 n11 n11)) ∧ Oc S' (.slice a11 n11 n11) l' ∧ l'.length = n11 ∧ Has a' 160 [(1, w), (2, ptr S.next), (5, .slice ca c.old.length cc), (6, .slice da order.length dc), (7, ptr T4.next), (8, .int .i64 c.check), (13, .slice a11 n11 n11), (88, .int .i64 n11), (89, .int .i64 j)]) _ ⟨0, _, rfl, by omega, .refl _ _, hoc11, hn11.symm, ⟨rfl, rfl, by simp⟩⟩ ?_
    rintro _ R3a hR3a _ S12 ⟨j, l', rfl, hj, hs3a, hoc3a, hl3a, hA⟩
    obtain ⟨x3a, rfl⟩ := hA.lit
    by_cases hlt3a : j < n11
    · have hlt3a' : (j : Int) < (n11 : Nat) := by omega
      have hwS := wrapS (show j < 9223372036854775807 by omega)
      obtain ⟨p, cells, cells', ex, i1, i2, i3, i4, i5, i6⟩ := hoc3a.set (i := j) (by omega) (-1)
      simp [fillF, pickL, hlt3a, hlt3a', i1, i2, i5, hwS]
      exact hR3a _ _ _ (by omega) ⟨j + 1, l'.set j (-1), rfl, by omega, hs3a.po i4, i6, by simpa using hl3a, ⟨rfl, rfl, by simp⟩⟩
    have hj3a : j = n11 := by omega
    subst hj3a
    have h612 : Same S6 S12 [] := h611.trans hs3a (fun m hm hl => by have := ho11 m hm; omega)
    have s12 := s6.tr0 h612
    have g12 : S12.get S.next = _ := (h612.2 _ (by omega) (by simp)).trans g6
    simp [fillF, pickL, g12]
    refine Moves_ok' (h.old.stay0 s12) (kk.stay0 s12) fun S13 mv hs13 hm13 => ?_
    have hmr := placeN_len' c.old order
    have hmv := hm13.mvs (by omega)
    have s13 := s12.tr0 hs13
    have h613 := h612.tr0 hs13
    have g13 : S13.get S.next = _ := (h613.2 _ (by omega) (by simp)).trans g6
    simp [g13]
    refine Apply_ok (h.old.stay0 s13) hmv fun S14 a14 c14 n14 hs14 hn14 ho14 hp14 => ?_
    have h614 := h613.tr0 hs14
    have hn613 := h613.1
    have hsm14 := ho14.is.small
    rw [← hn14] at hsm14
    simp
    refine run_loop (fun m a' S' => ∃ j l', m = n14 - j ∧ j ≤ n14 ∧ Same S14 S' (ownsOf (.slice a14 n14 c14)) ∧ Oc S' (.slice a14 n14 c14) l' ∧ l'.length = n14 ∧ Has a' 160 [(1, w), (2, ptr S.next), (5, .slice ca c.old.length cc), (6, .slice da order.length dc), (7, ptr T4.next), (8, .int .i64 c.check), (18, .slice a14 n14 c14), (111, .int .i64 n14), (112, .int .i64 j)]) _ ⟨0, _, rfl, by omega, .refl _ _, ho14, hn14.symm, ⟨rfl, rfl, by simp⟩⟩ ?_
    rintro _ R4a hR4a _ S15 ⟨j, l', rfl, hj, hs4a, hoc4a, hl4a, hA⟩
    obtain ⟨x4a, rfl⟩ := hA.lit
    by_cases hlt4a : j < n14
    · have hlt4a' : (j : Int) < (n14 : Nat) := by omega
      have hwS := wrapS (show j < 9223372036854775807 by omega)
      obtain ⟨p, cells, cells', ex, i1, i2, i3, i4, i5, i6⟩ := hoc4a.set (i := j) (by omega) (-1)
      simp [fillF, pickL, hlt4a, hlt4a', i1, i2, i5, hwS]
      exact hR4a _ _ _ (by omega) ⟨j + 1, l'.set j (-1), rfl, by omega, hs4a.po i4, i6, by simpa using hl4a, ⟨rfl, rfl, by simp⟩⟩
    have hj4a : j = n14 := by omega
    subst hj4a
    have h615 : Same S6 S15 [] := h614.trans hs4a (fun m hm hl => by have := hp14 m hm; omega)
    have s15 := s6.tr0 h615
    simp [fillF, pickL]
    refine Drop_ok (kk.stay0 s15) fun S16 a16 c16 n16 hs16 hn16 ho16 hp16 => ?_
    have h616 := h615.tr0 hs16
    have hn615 := h615.1
    have hsm16 := ho16.is.small
    rw [← hn16] at hsm16
    simp
    refine run_loop (fun m a' S' => ∃ j l', m = n16 - j ∧ j ≤ n16 ∧ Same S16 S' (ownsOf (.slice a16 n16 c16)) ∧ Oc S' (.slice a16 n16 c16) l' ∧ l'.length = n16 ∧ Has a' 160 [(1, w), (2, ptr S.next), (5, .slice ca c.old.length cc), (6, .slice da order.length dc), (7, ptr T4.next), (8, .int .i64 c.check), (21, .slice a16 n16 c16), (125, .int .i64 n16), (126, .int .i64 j)]) _ ⟨0, _, rfl, by omega, .refl _ _, ho16, hn16.symm, ⟨rfl, rfl, by simp⟩⟩ ?_
    rintro _ R5a hR5a _ S17 ⟨j, l', rfl, hj, hs5a, hoc5a, hl5a, hA⟩
    obtain ⟨x5a, rfl⟩ := hA.lit
    by_cases hlt5a : j < n16
    · have hlt5a' : (j : Int) < (n16 : Nat) := by omega
      have hwS := wrapS (show j < 9223372036854775807 by omega)
      obtain ⟨p, cells, cells', ex, i1, i2, i3, i4, i5, i6⟩ := hoc5a.set (i := j) (by omega) (-1)
      simp [fillF, pickL, hlt5a, hlt5a', i1, i2, i5, hwS]
      exact hR5a _ _ _ (by omega) ⟨j + 1, l'.set j (-1), rfl, by omega, hs5a.po i4, i6, by simpa using hl5a, ⟨rfl, rfl, by simp⟩⟩
    have hj5a : j = n16 := by omega
    subst hj5a
    have h617 : Same S6 S17 [] := h616.trans hs5a (fun m hm hl => by have := hp16 m hm; omega)
    have s17 := s6.tr0 h617
    have hn617 := h617.1
    have g17 : S17.get S.next = _ := (h617.2 _ (by omega) (by simp)).trans g6
    simp [fillF, pickL, g17, hval]
    have s17b : Same S17 (S17.bump 1) [] := (Same.refl _ _).bu
    refine Amend_ok2 ((h.stay0 s17).stay0 s17b) fun S18 v18 k18 hs18 hv18 hk18 ho18 hp18 _ => ?_
    have hn18 := hs18.1
    simp at hn18
    have h618 := h617.tr0 (s17b.tr0 hs18)
    obtain ⟨va8, vc8, hv18s⟩ := hv18.shape
    obtain ⟨ka8, kc8, hk18s⟩ := hk18.shape
    simp [hv18s, hk18s, okc, rowStore, splice]
    rw [← hv18s, ← hk18s]
    generalize hS19 : AS.put (AS.put S18 _ _) _ _ = S19
    have hs19 : Same S18 S19 [S17.next] := by rw [← hS19]; exact ((Same.refl _ _).po (by simp)).po (by simp)
    have c19 : S19.get S17.next = some (.row [v18, .int .i64 (amdR c).off, .int .i64 (amdR c).mov, k18] 44 true true) := by rw [← hS19, AS.get_put_self]
    clear hS19
    have h619 : Same S6 S19 [] := h618.trans hs19 (fun m hm hl => by simp at hm; omega)
    have iv19 : Is S19 v18 (amdR c).order := hv18.is.stays hs19 (fun m hm => by have := ho18 m hm; simp at this ⊢; omega)
    have ik19 : Is S19 k18 (amdR c).kept := hk18.is.stays hs19 (fun m hm => by have := hp18 m hm; simp at this ⊢; omega)
    have ca19 : S19.get T4.next = _ := (h619.2 _ (by omega) (by simp)).trans c6
    have g19 : S19.get S.next = _ := (h619.2 _ (by omega) (by simp)).trans g6
    refine al _ _ ?_
    simp [ca19, c19, undef]
    refine sameAmd_ok (iv6.stay0 h619) iv19 (ik6.stay0 h619) ik19 fun S20 hs20 => ?_
    have h620 := h619.tr0 hs20
    have g20 : S20.get S.next = _ := (h620.2 _ (by omega) (by simp)).trans g6
    simp [g20]
    refine sameInts_ok (h.old.stay0 (s6.tr0 h620)) (io6.stay0 h620) ?_
    simp
    refine sameInts_ok (kk.stay0 (s6.tr0 h620)) (iw6.stay0 h620) ?_
    simp
end Go.Gx.A
