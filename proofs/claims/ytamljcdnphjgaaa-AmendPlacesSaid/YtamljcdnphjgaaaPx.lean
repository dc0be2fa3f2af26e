/-
  Rebase; AmendRebases.
-/
import Derived.Test.YtamljcdnphjgaaaPv
import Derived.Test.YtamljcdnphjgaaaPm
import Derived.Test.YtamljcdnphjgaaaPs
import Derived.Test.YtamljcdnphjgaaaPq
import Derived.Test.YtamljcdnphjgaaaPu

set_option linter.all false
set_option linter.deprecated false
set_option linter.unusedSimpArgs false
set_option linter.unusedVariables false

namespace Go.Gx.A
open Go.Gx Go.Proofs
set_option maxRecDepth 100000
set_option linter.all false
set_option maxHeartbeats 2000000
abbrev pV (p : Int × Int) : Value := .agg #[.int .i64 p.1, .int .i64 p.2]
theorem Prs.shape' {S : AS} {v : Value} {P : List (Int × Int)} (h : Prs S v P) : ∃ a cap, v = .slice a P.length cap := by
  obtain ⟨a, cap, e⟩ := h.shape
  exact ⟨a, cap, by rw [e, List.length_map]⟩
theorem Prs.at {S : AS} {v : Value} {P : List (Int × Int)} (h : Prs S v P) {i : Nat} (hi : i < P.length) :
    ∃ p o cells e wr ex, (∀ (S' : AS) (j : IntKind), idxE S' 2 none (.int j i) v = .ret (.pointer (some ⟨p, o, none⟩), S')) ∧ S.get p = some (.row cells e wr ex) ∧ p < S.next ∧ p ∈ ownsOf v ∧ rowLoad cells o (some 2) = some (pV P[i]) := by
  obtain ⟨p, o, cells, e, wr, ex, h1, h2, h3, h4, h5, h6⟩ := Ps.idx (S' := S) h (by omega) (j := .i64) (i := i) (l := [.int .i64 P[i].1, .int .i64 P[i].2]) (by simp [hi])
  refine ⟨p, o, cells, e, wr, ex, fun S' j => ?_, h2, h3, h4, h6⟩
  obtain ⟨a, cap, rfl⟩ := h.shape'
  match a with
  | none => simp [idxE] at h1
  | some ⟨b, q, some s⟩ => simp [idxE] at h1
  | some ⟨b, q, none⟩ =>
    simp [hi] at h1 ⊢
    exact h1
end Go.Gx.A

/-
  Place; AmendPlaces.
-/
namespace Go.Gx.A
open Go.Gx Go.Proofs
set_option maxRecDepth 100000
set_option linter.all false
set_option maxHeartbeats 2000000
def plT (w : Int → Int → Int) (g : Int) (order : List Int) (q : Nat) : List Int := (List.range order.length).map fun k => if k < q then w g (order.getD k 0) else w (order.getD k 0) g
def plcF (w : Int → Int → Int) (g : Int) (order : List Int) (q : Nat) : Int := isum (plT w g order q)
def plS (f : Nat → Int) : Nat → Nat × Int
  | 0 => (0, f 0)
  | j + 1 => if f (j + 1) < (plS f j).2 then (j + 1, f (j + 1)) else plS f j
@[simp] theorem plT_len (w : Int → Int → Int) (g : Int) (order : List Int) (q : Nat) : (plT w g order q).length = order.length := by simp [plT]
theorem plT_get {w : Int → Int → Int} {g : Int} {order : List Int} {q i : Nat} (h : i < order.length) : (plT w g order q)[i]'(by simpa using h) = if i < q then w g order[i] else w order[i] g := by
  simp [plT, List.getD_eq_getElem?_getD, List.getElem?_eq_getElem h]
theorem plT_step {w : Int → Int → Int} {g : Int} {order : List Int} {q i : Nat} (h : i < order.length) : isum ((plT w g order q).take (i + 1)) = isum ((plT w g order q).take i) + if i < q then w g order[i] else w order[i] g := by
  rw [isum_take _ (by simpa using h), plT_get h]
theorem plT_bd {w : Int → Int → Int} (hw : ∀ x y, 0 ≤ w x y ∧ w x y ≤ 1000) (g : Int) {order : List Int} (q i : Nat) (hl : order.length ≤ 1000) : 0 ≤ isum ((plT w g order q).take i) ∧ isum ((plT w g order q).take i) ≤ 1000000 := by
  have := isum_bd (l := (plT w g order q).take i) fun y hy => by
    obtain ⟨z, _, rfl⟩ := List.mem_map.1 (List.mem_of_mem_take hy)
    split <;> exact hw _ _
  rw [List.length_take, plT_len] at this
  omega
theorem plT_front {w : Int → Int → Int} {g : Int} {order : List Int} {q : Nat} (h : q ≤ order.length) : (plT w g order q).take q = (order.take q).map (w g) := by
  refine List.ext_getElem (by simp) fun i h1 h2 => ?_
  simp at h1 h2
  rw [List.getElem_take, plT_get (by omega), List.getElem_map, List.getElem_take, if_pos (by omega)]
theorem plS_bd {f : Nat → Int} (h : ∀ i, 0 ≤ f i) : ∀ j, 0 ≤ (plS f j).2 ∧ (plS f j).1 ≤ j
  | 0 => ⟨h 0, Nat.le_refl _⟩
  | j + 1 => by
    have ih := plS_bd h j
    simp only [plS]
    split
    · exact ⟨h _, Nat.le_refl _⟩
    · exact ⟨ih.1, by omega⟩
def placeR (N : Int) (l : List Arw) (order : List Int) (g : Int) : Int × Int :=
  if checkR N l ≠ 0 then (0, checkR N l) else if ordOk N.toNat (order ++ [g]) = true then (((plS (plcF (wt l) g order) order.length).1 : Nat), 0) else (0, 1)
theorem Place_ok {S : AS} {v w : Value} {N : Int} {l : List Arw} {order : List Int} {g : Int} (h : As S v l) (k : Is S w order) (hl : order.length ≤ 100) {Q : En → AS → Prop}
    (hq : ∀ S', Same S S' [] → Q (.ret (.tuple #[.int .i64 (placeR N l order g).1, .int .i64 (placeR N l order g).2])) S') : Call G 49 [.agg #[.int .i64 N, v], w, .int .i64 g] S Q := by
  obtain ⟨b, bcap, rfl⟩ := k.shape
  refine call_run' (G := G) rfl (ext_none (by decide)) ?_
  simp
  generalize hS1 : AS.put (AS.bump S 1) _ _ = S1
  have s1 : Same S S1 [] := by rw [← hS1]; exact ((Same.refl _ _).bu).pn (by omega)
  have g1 : S1.get S.next = some (.row [.int .i64 N, v] 24 true true) := by rw [← hS1]; simp
  have hn1 : S1.next = S.next + 1 := by rw [← hS1]; simp
  clear hS1
  refine rankCheck_ok (h.stay0 s1) fun S2 hs2 => ?_
  have s2 := s1.tr0 hs2
  have hn2 := hs2.1
  have g2 : S2.get S.next = _ := (hs2.2 _ (by omega) (by simp)).trans g1
  by_cases hc : checkR N l = 0
  · obtain ⟨n0, n1, ar⟩ := checkR_pos hc
    obtain ⟨n, rfl⟩ : ∃ n : Nat, N = n := ⟨N.toNat, by omega⟩
    simp [hc, g2, placeIn, splice]
    have h23 : Same S2 (S2.bump 2) [] := (Same.refl _ _).bu
    have s3 := s2.tr0 h23
    refine clone_ok (k.stay0 s3) (by omega) fun S4 a cap hs4 hoc hown => ?_
    have hn4 := hs4.1
    simp at hn4
    have g4 : S4.get S.next = _ := (hs4.2 _ (by simp; omega) (by simp)).trans g2
    have hown' : ∀ m ∈ ownsOf (Value.slice a order.length cap), S2.next + 2 ≤ m := fun m hm => by have := hown m hm; simpa using this
    have hoc' : Oc (S4.put S2.next (.row [.int .i64 g] 3 true true)) (.slice a order.length cap) order := hoc.stays (same_put _ _ _) (fun m hm => by have := hown' m hm; simp; omega)
    obtain ⟨T, ca, cc, q1, q2, q3, q4, q5⟩ := hoc'.app1 (fr := S2.next + 1) (y := S2.next) (x := g) (by omega) (AS.get_put_self _ _ _) (by simp; omega)
    simp at q4
    have s5 : Same S2 T [] := ⟨by omega, fun m hm _ => by
      rw [q3.2 m (by simp; omega) (fun hk => by
        rcases List.mem_cons.1 hk with h' | h'
        · omega
        · have := hown' m h'; omega), AS.get_put_ne _ _ (by omega), hs4.2 m (by simp; omega) (by simp), AS.get_bump]⟩
    have hT := s2.tr0 s5
    have gT : T.get S.next = _ := (s5.2 _ (by omega) (by simp)).trans g2
    simp [g4, q1, gT]
    refine checkOrder_ok q2.is (by omega) fun S5 hs5 => ?_
    have s6 := hT.tr0 hs5
    have g5 : S5.get S.next = _ := (hs5.2 _ (by omega) (by simp)).trans gT
    have hn5 := hs5.1
    by_cases ho : ordOk n (order ++ [g]) = true
    · obtain ⟨o1, o2, o3⟩ := ordOk_iff.1 ho
      simp only [List.length_append, List.length_singleton] at o1
      have hg : 0 ≤ g ∧ g < n := o3 g (by simp)
      have hx : ∀ x ∈ order, 0 ≤ x ∧ x < n := fun x hx => o3 x (by simp [hx])
      simp [ho, g5, placeIn, splice]
      have hch : ChgAt S5 v (.slice none 0 0) ⟨n, l, [], 0⟩ := ⟨h.stay0 s6, Is.nil, by show (-9223372036854775808 : Int) ≤ n; omega, by show (n : Int) ≤ 9223372036854775807; omega, by show (-9223372036854775808 : Int) ≤ 0; omega, by show (0 : Int) ≤ 9223372036854775807; omega⟩
      have cok : CgOk (Chg.cg ⟨n, l, [], 0⟩) := ⟨List.nodup_nil, fun x hx => absurd hx (by show x ∉ ([] : List Int); simp), Nat.le_refl _⟩
      refine open_ok hch (by show (0 : Int) ≤ n; omega) (by show (n : Int) ≤ 24; omega) ar cok (Int.le_refl _) fun S6 t hs6 hTk _ _ _ _ _ _ => ?_
      have hn6 := hs6.1
      have s7 := s6.tr0 hs6
      have hw : ∀ x y, 0 ≤ wt l x y ∧ wt l x y ≤ 1000 := wt_bd (arrsOk_none ar).1
      have hcn : (Chg.cg ⟨n, l, [], 0⟩).n = n := Int.toNat_natCast n
      have hcw : (Chg.cg ⟨n, l, [], 0⟩).w = wt l := rfl
      have hwl : IntKind.i64.wrap ((order.length : Int) + 1) = ((order.length + 1 : Nat) : Int) := wrapS (by omega)
      have hf0 : ∀ i, 0 ≤ plcF (wt l) g order i := fun i => by
        have := (plT_bd hw g (order := order) i order.length (by omega)).1
        rwa [List.take_of_length_le (by simp)] at this
      have hR1 : placeR n l order g = ((((plS (plcF (wt l) g order) order.length).1 : Nat) : Int), 0) := by
        unfold placeR
        rw [if_neg (by simp [hc]), if_pos (by rw [Int.toNat_natCast]; exact ho)]
      rw [hR1] at hq
      simp [hwl]
      refine run_loop (fun m a' S' => ∃ j b2 l2, m = order.length + 1 - j ∧ j ≤ order.length + 1 ∧ S' = S6 ∧ (j = 0 ∧ b2 = 0 ∧ l2 = 0 ∨ ∃ i, j = i + 1 ∧ b2 = (plS (plcF (wt l) g order) i).1 ∧ l2 = (plS (plcF (wt l) g order) i).2) ∧
        Has a' 85 [(1, .slice b order.length bcap), (2, .int .i64 g), (9, ptr t.d), (10, .int .i64 (b2 : Nat)), (11, .int .i64 l2), (35, .int .i64 ((order.length + 1 : Nat) : Int)), (36, .int .i64 j)]) _ ⟨0, 0, 0, rfl, by omega, rfl, .inl ⟨rfl, rfl, rfl⟩, ⟨rfl, rfl, by simp⟩⟩ ?_
      rintro _ R hR _ S6 ⟨j, b2, l2, rfl, hj, rfl, hbl, hA⟩
      obtain ⟨x, rfl⟩ := hA.lit
      by_cases hlt : j < order.length + 1
      · have hlt' : (j : Int) < (order.length : Int) + 1 := by omega
        have hwS := wrapS (show j < 9223372036854775807 by omega)
        simp [fillF, pickL, hlt, hlt']
        refine run_loop (fun m a' S' => ∃ i, m = order.length - i ∧ i ≤ order.length ∧ S' = S6 ∧
          Has a' 85 [(1, .slice b order.length bcap), (2, .int .i64 g), (9, ptr t.d), (10, .int .i64 (b2 : Nat)), (11, .int .i64 l2), (12, .int .i64 j), (13, .int .i64 (isum ((plT (wt l) g order j).take i))), (35, .int .i64 ((order.length + 1 : Nat) : Int)), (36, .int .i64 j), (39, .slice b order.length bcap), (40, .int .i64 order.length), (41, .int .i64 i)]) _ ⟨0, rfl, by omega, rfl, ⟨rfl, rfl, by simp [isum]⟩⟩ ?_
        rintro _ R2 hR2 _ S6 ⟨i, rfl, hi, rfl, hA⟩
        obtain ⟨y, rfl⟩ := hA.lit
        by_cases hlt2 : i < order.length
        · have hlt2' : (i : Int) < order.length := by omega
          have hwS2 := wrapS (show i < 9223372036854775807 by omega)
          obtain ⟨p, o, cells, e, wr, ex, h1, h2, h3, h4, h5⟩ := (k.stay0 s7).at hlt2
          have hxi := hx _ (List.getElem_mem hlt2)
          have hst := plT_step (w := wt l) (g := g) (q := j) hlt2
          have hbd := plT_bd hw g (order := order) j i (by omega)
          by_cases hij : i < j
          · have hij' : (i : Int) < j := by omega
            rw [if_pos hij] at hst
            have hwx := hw g order[i]
            have hs : IntKind.i64.wrap (isum ((plT (wt l) g order j).take i) + wt l g order[i]) = isum ((plT (wt l) g order j).take (i + 1)) := by rw [wrap64 (by omega) (by omega), hst]
            obtain ⟨p1, o1, cells1, e1, wr1, ex1, b1, cap1, p2, o2, cells2, e2, wr2, ex2, f1, f2, f3, f4, f5, f6⟩ := paid_at hTk (x := g) (y := order[i]) (by rw [hcn]; exact hg) (by rw [hcn]; exact hxi)
            rw [hcw] at f6
            simp [fillF, pickL, hlt2, hlt2', h1, h2, h5, hij, hij', hTk.row, TkV.row, f1, f2, f3, f4, f5, f6, hs, hwS2]
            exact hR2 _ _ _ (by omega) ⟨i + 1, rfl, by omega, rfl, ⟨rfl, rfl, by simp⟩⟩
          · have hij' : ¬ (i : Int) < j := by omega
            rw [if_neg hij] at hst
            have hwx := hw order[i] g
            have hs : IntKind.i64.wrap (isum ((plT (wt l) g order j).take i) + wt l order[i] g) = isum ((plT (wt l) g order j).take (i + 1)) := by rw [wrap64 (by omega) (by omega), hst]
            obtain ⟨p1, o1, cells1, e1, wr1, ex1, b1, cap1, p2, o2, cells2, e2, wr2, ex2, f1, f2, f3, f4, f5, f6⟩ := paid_at hTk (x := order[i]) (y := g) (by rw [hcn]; exact hxi) (by rw [hcn]; exact hg)
            rw [hcw] at f6
            simp [fillF, pickL, hlt2, hlt2', h1, h2, h5, hij, hij', hTk.row, TkV.row, f1, f2, f3, f4, f5, f6, hs, hwS2]
            exact hR2 _ _ _ (by omega) ⟨i + 1, rfl, by omega, rfl, ⟨rfl, rfl, by simp⟩⟩
        · obtain rfl : i = order.length := by omega
          have hfull : isum ((plT (wt l) g order j).take order.length) = plcF (wt l) g order j := by rw [List.take_of_length_le (by simp)]; rfl
          rw [hfull]
          simp [fillF, pickL]
          have hw1 : IntKind.i64.wrap 1 = 1 := by decide
          rcases hbl with ⟨rfl, rfl, rfl⟩ | ⟨i, hji, rfl, rfl⟩
          · simp [undef, hw1]
            exact hR _ _ _ (by omega) ⟨1, 0, plcF (wt l) g order 0, rfl, by omega, rfl, .inr ⟨0, rfl, rfl, rfl⟩, ⟨rfl, rfl, by simp⟩⟩
          · have hi0 : ((j : Int) = 0) = False := eq_false (by omega)
            have hi1 : (j = 0) = False := eq_false (by omega)
            by_cases hlt3 : plcF (wt l) g order j < (plS (plcF (wt l) g order) i).2
            · have e : plS (plcF (wt l) g order) j = (j, plcF (wt l) g order j) := by rw [hji] at hlt3 ⊢; exact if_pos hlt3
              simp [hi0, hi1, hlt3, hwS, undef]
              exact hR _ _ _ (by omega) ⟨j + 1, j, plcF (wt l) g order j, rfl, by omega, rfl, .inr ⟨j, rfl, by rw [e], by rw [e]⟩, ⟨rfl, rfl, by simp⟩⟩
            · have e : plS (plcF (wt l) g order) j = plS (plcF (wt l) g order) i := by rw [hji] at hlt3 ⊢; exact if_neg hlt3
              simp [hi0, hi1, hlt3, hwS, undef]
              exact hR _ _ _ (by omega) ⟨j + 1, _, _, rfl, by omega, rfl, .inr ⟨j, rfl, by rw [e], by rw [e]⟩, ⟨rfl, rfl, by simp⟩⟩
      · obtain rfl : j = order.length + 1 := by omega
        rcases hbl with ⟨h0, _⟩ | ⟨i, hi, rfl, rfl⟩
        · omega
        · obtain rfl : i = order.length := by omega
          simp [fillF, pickL]
          exact hq _ s7
    · simp [ho]
      have hR1 : placeR n l order g = (0, 1) := by
        unfold placeR
        rw [if_neg (by simp [hc]), if_neg (by rw [Int.toNat_natCast]; exact ho)]
      rw [hR1] at hq
      exact hq _ s6
  · simp [hc]
    have hR1 : placeR N l order g = (0, checkR N l) := if_pos hc
    rw [hR1] at hq
    exact hq _ s2
theorem rPlace_ok {S : AS} {v w : Value} {N : Int} {l : List Arw} {order : List Int} {g : Int} (h : As S v l) (k : Is S w order) (hl : order.length ≤ 100) {Q : En → AS → Prop}
    (hq : ∀ S', Same S S' [] → Q (.ret (.tuple #[.int .i64 (placeR N l order g).1, .int .i64 (placeR N l order g).2])) S') : Call G 50 [.agg #[.int .i64 N, v], w, .int .i64 g] S Q := by
  obtain ⟨b, bcap, hws⟩ := k.shape
  subst hws
  refine call_run' (G := G) rfl (ext_none (by decide)) ?_
  simp
  generalize hS1 : AS.put (AS.bump S 1) _ _ = S1
  have s1 : Same S S1 [] := by rw [← hS1]; exact ((Same.refl _ _).bu).pn (by omega)
  have g1 : S1.get S.next = some (.row [.int .i64 N, v] 24 true true) := by rw [← hS1]; simp
  have hn1 : S1.next = S.next + 1 := by rw [← hS1]; simp
  clear hS1
  refine refCheck_ok (h.stay0 s1) fun S2 hs2 => ?_
  have s2 := s1.tr0 hs2
  have hn2 := hs2.1
  have g2 : S2.get S.next = _ := (hs2.2 _ (by omega) (by simp)).trans g1
  by_cases hc : checkR N l = 0
  · obtain ⟨n0, n1, ar⟩ := checkR_pos hc
    obtain ⟨n, rfl⟩ : ∃ n : Nat, N = n := ⟨N.toNat, by omega⟩
    have hsW : Same S2 ((S2.bump 4).put S2.next (.row [] 3 true true)) [] := ((Same.refl _ _).bu).pn (by omega)
    obtain ⟨T', ca, cap', f1, f2, f3, f4, f5⟩ := app0 (T := (S2.bump 4).put S2.next (.row [] 3 true true)) (p := S2.next) (fr := S2.next + 1) ((k.stay0 s2).stay0 hsW) (by omega) (by simp) (by simp) (by simp)
    simp at f4
    have hsX : Same S2 (T'.put (S2.next + 2) (.row [.int .i64 g] 3 true true)) [] := (hsW.trans f3 (fun m hm hl => by simp at hm; omega)).pn (by omega)
    have f2' : Oc (T'.put (S2.next + 2) (.row [.int .i64 g] 3 true true)) (.slice ca order.length cap') order := f2.stays (same_put _ _ _) (fun m hm => by have := f5 m hm; simp; omega)
    obtain ⟨T2, ca2, cap2, q1, q2, q3, q4, q5⟩ := f2'.app1 (fr := S2.next + 3) (y := S2.next + 2) (x := g) (by omega) (AS.get_put_self _ _ _) (by simp; omega)
    simp at q4
    have gT : T'.get S.next = some (.row [.int .i64 n, v] 24 true true) := (f3.2 _ (by simp; omega) (by simp; omega)).trans (by rw [AS.get_put_ne _ _ (by omega), AS.get_bump]; exact g2)
    have hsT : Same S2 T2 [] := ⟨by omega, fun m hm _ => by
      rw [q3.2 m (by simp; omega) (fun hk => by
        rcases List.mem_cons.1 hk with h' | h'
        · omega
        · have := f5 m h'; omega), hsX.2 m hm (by simp)]⟩
    have gT2 : T2.get S.next = some (.row [.int .i64 n, v] 24 true true) := (hsT.2 _ (by omega) (by simp)).trans g2
    have sT := s2.tr0 hsT
    have nb1 : (S.next = S2.next + 2) = False := eq_false (by omega)
    simp [hc, g2, placeIn, splice, f1, q1, gT, gT2, nb1]
    refine all86_ok q2.is (by omega) ?_
    simp [gT2]
    have hnT := hsT.1
    by_cases ho : ordOk n (order ++ [g]) = true
    · obtain ⟨o1, o2, o3⟩ := ordOk_iff.1 ho
      simp only [List.length_append, List.length_singleton] at o1
      have hw : ∀ x y, 0 ≤ wt l x y ∧ wt l x y ≤ 1000 := wt_bd (arrsOk_none ar).1
      have hf0 : ∀ i, 0 ≤ plcF (wt l) g order i := fun i => by
        have := (plT_bd hw g (order := order) i order.length (by omega)).1
        rwa [List.take_of_length_le (by simp)] at this
      have hR1 : placeR n l order g = ((((plS (plcF (wt l) g order) order.length).1 : Nat) : Int), 0) := by
        unfold placeR
        rw [if_neg (by simp [hc]), if_pos (by rw [Int.toNat_natCast]; exact ho)]
      rw [hR1] at hq
      simp [ho]
      refine run_loop (fun m a' S' => ∃ j b2 l2, m = order.length + 1 - j ∧ j ≤ order.length + 1 ∧ Same S S' [] ∧ S2.next ≤ S'.next ∧ S'.get S.next = some (.row [.int .i64 n, v] 24 true true) ∧ (j = 0 ∧ b2 = 0 ∧ l2 = -1 ∨ ∃ i, j = i + 1 ∧ b2 = (plS (plcF (wt l) g order) i).1 ∧ l2 = (plS (plcF (wt l) g order) i).2) ∧
        Has a' 69 [(1, .slice b order.length bcap), (2, .int .i64 g), (3, ptr S.next), (10, .int .i64 (b2 : Nat)), (11, .int .i64 l2), (12, .int .i64 j)]) _ ⟨0, 0, -1, rfl, by omega, sT, by omega, gT2, .inl ⟨rfl, rfl, rfl⟩, ⟨rfl, rfl, by simp⟩⟩ ?_
      rintro _ R hR _ S3 ⟨j, b2, l2, rfl, hj, s3, hn3, g3, hbl, hA⟩
      obtain ⟨x, rfl⟩ := hA.lit
      by_cases hlt : j < order.length + 1
      · have hlt' : (j : Int) ≤ (order.length : Int) := by omega
        have hwS := wrapS (show j < 9223372036854775807 by omega)
        obtain ⟨v', k1, k2, k3⟩ := (k.stay0 s3).slc (lo := none) (hi := some (.int .i64 j)) (i := 0) (j := j) (.inl ⟨rfl, rfl⟩) (.inr rfl) (by omega) (by omega)
        rw [List.drop_zero] at k2
        simp [fillF, pickL, hlt', g3, k1]
        refine rbehind_ok (h.stay0 s3) k2 hw (by simp; omega) fun S4 hs4 => ?_
        have hn4 := hs4.1
        have s4 := s3.tr0 hs4
        have g4 : S4.get S.next = _ := (hs4.2 _ (by omega) (by simp)).trans g3
        obtain ⟨v2, kk1, kk2, kk3⟩ := (k.stay0 s4).slc (lo := none) (hi := some (.int .i64 j)) (i := 0) (j := j) (.inl ⟨rfl, rfl⟩) (.inr rfl) (by omega) (by omega)
        have hfr := plT_front (w := wt l) (g := g) (order := order) (q := j) (by omega)
        simp [g4, kk1]
        refine run_loop (fun m a' S' => ∃ i, m = order.length - i ∧ i ≤ order.length ∧ j ≤ i ∧ Same S S' [] ∧ S2.next ≤ S'.next ∧ S'.get S.next = some (.row [.int .i64 n, v] 24 true true) ∧
          Has a' 69 [(1, .slice b order.length bcap), (2, .int .i64 g), (3, ptr S.next), (10, .int .i64 (b2 : Nat)), (11, .int .i64 l2), (12, .int .i64 j), (13, .int .i64 (isum ((plT (wt l) g order j).take i))), (14, .int .i64 i)]) _ ⟨j, rfl, by omega, by omega, s4, by omega, g4, ⟨rfl, rfl, by simp [hfr]⟩⟩ ?_
        rintro _ R2 hR2 _ S5 ⟨i, rfl, hi, hji, s5, hn5, g5, hA⟩
        obtain ⟨y, rfl⟩ := hA.lit
        by_cases hlt2 : i < order.length
        · have hlt2' : (i : Int) < order.length := by omega
          have hwS2 := wrapS (show i < 9223372036854775807 by omega)
          obtain ⟨p, o, cells, e, wr, ex, h1, h2, h3, h4, h5⟩ := (k.stay0 s5).at hlt2
          have hst := plT_step (w := wt l) (g := g) (q := j) hlt2
          have hbd := plT_bd hw g (order := order) j i (by omega)
          rw [if_neg (by omega)] at hst
          have hwx := hw order[i] g
          have hs : IntKind.i64.wrap (isum ((plT (wt l) g order j).take i) + wt l order[i] g) = isum ((plT (wt l) g order j).take (i + 1)) := by rw [wrap64 (by omega) (by omega), hst]
          simp [fillF, pickL, hlt2, hlt2', g5, h1, h2, h5]
          refine weight_ok (h.stay0 s5) fun S6 hs6 => ?_
          have g6 : S6.get S.next = _ := (hs6.2 _ (by omega) (by simp)).trans g5
          have h22 : S6.get p = _ := (hs6.2 p h3 (by simp)).trans h2
          simp [g6, h1, h22, h5, hs, hwS2]
          exact hR2 _ _ _ (by omega) ⟨i + 1, rfl, by omega, by omega, s5.tr0 hs6, by have := hs6.1; omega, g6, ⟨rfl, rfl, by simp⟩⟩
        · obtain rfl : i = order.length := by omega
          have hfull : isum ((plT (wt l) g order j).take order.length) = plcF (wt l) g order j := by rw [List.take_of_length_le (by simp)]; rfl
          rw [hfull]
          simp [fillF, pickL]
          have hw1 : IntKind.i64.wrap 1 = 1 := by decide
          rcases hbl with ⟨rfl, rfl, rfl⟩ | ⟨i, hji, rfl, rfl⟩
          · simp [undef, hw1]
            exact hR _ _ _ (by omega) ⟨1, 0, plcF (wt l) g order 0, rfl, by omega, s5, hn5, g5, .inr ⟨0, rfl, rfl, rfl⟩, ⟨rfl, rfl, by simp⟩⟩
          · have hi0 : ((plS (plcF (wt l) g order) i).2 < 0) = False := eq_false (by have := (plS_bd hf0 i).1; omega)
            have hi1 : (j = 0) = False := eq_false (by omega)
            by_cases hlt3 : plcF (wt l) g order j < (plS (plcF (wt l) g order) i).2
            · have e : plS (plcF (wt l) g order) j = (j, plcF (wt l) g order j) := by rw [hji] at hlt3 ⊢; exact if_pos hlt3
              simp [hi0, hi1, hlt3, hwS, undef]
              exact hR _ _ _ (by omega) ⟨j + 1, j, plcF (wt l) g order j, rfl, by omega, s5, hn5, g5, .inr ⟨j, rfl, by rw [e], by rw [e]⟩, ⟨rfl, rfl, by simp⟩⟩
            · have e : plS (plcF (wt l) g order) j = plS (plcF (wt l) g order) i := by rw [hji] at hlt3 ⊢; exact if_neg hlt3
              simp [hi0, hi1, hlt3, hwS, undef]
              exact hR _ _ _ (by omega) ⟨j + 1, _, _, rfl, by omega, s5, hn5, g5, .inr ⟨j, rfl, by rw [e], by rw [e]⟩, ⟨rfl, rfl, by simp⟩⟩
      · obtain rfl : j = order.length + 1 := by omega
        rcases hbl with ⟨h0, _⟩ | ⟨i, hi, rfl, rfl⟩
        · omega
        · obtain rfl : i = order.length := by omega
          have hlt' : ¬ ((order.length : Int) + 1 ≤ order.length) := by omega
          simp [fillF, pickL, hlt']
          exact hq _ s3
    · simp [ho]
      have hR1 : placeR n l order g = (0, 1) := by
        unfold placeR
        rw [if_neg (by simp [hc]), if_neg (by rw [Int.toNat_natCast]; exact ho)]
      rw [hR1] at hq
      exact hq _ sT
  · simp [hc]
    have hR1 : placeR N l order g = (0, checkR N l) := if_pos hc
    rw [hR1] at hq
    exact hq _ s2
theorem places_walk {S : AS} {v w : Value} {N : Int} {l : List Arw} {order : List Int} {g : Int} (h : As S v l) (k : Is S w order) : Call G 12 [.agg #[.int .i64 N, v], w, .int .i64 g] S fun e _ => e = .ret (.bool true) := by
  obtain ⟨b, bcap, hws⟩ := k.shape
  refine call_run' (G := G) rfl (ext_none (by decide)) ?_
  simp [hws]
  generalize hS1 : AS.put (AS.bump S 1) _ _ = S1
  have s1 : Same S S1 [] := by rw [← hS1]; exact ((Same.refl _ _).bu).pn (by omega)
  have g1 : S1.get S.next = some (.row [.int .i64 N, v] 24 true true) := by rw [← hS1]; simp
  have hn1 : S1.next = S.next + 1 := by rw [← hS1]; simp
  clear hS1
  by_cases c1 : (40 : Int) < order.length
  · simp [c1]
    refine alive_ok ?_
    simp
  simp [c1, g1]
  rw [← hws]
  refine Place_ok (h.stay0 s1) (k.stay0 s1) (by omega) fun S2 hs2 => ?_
  have g2 : S2.get S.next = _ := (hs2.2 _ (by omega) (by simp)).trans g1
  have s2 := s1.tr0 hs2
  simp [g2]
  refine rPlace_ok (h.stay0 s2) (k.stay0 s2) (by omega) fun S3 hs3 => ?_
  simp
  refine alive_ok ?_
  simp
end Go.Gx.A

/-
  Apply and Drop; AmendApplies.
-/
namespace Go.Gx.A
open Go.Gx Go.Proofs
set_option maxRecDepth 100000
set_option linter.all false
set_option maxHeartbeats 2000000
structure Mvs (S : AS) (v : Value) (l : List Mv) : Prop where
  ps : Ps S 3 v (mvsC l)
  small : l.length ≤ 9223372036854775807
theorem Mvs.shape {S : AS} {v : Value} {l : List Mv} (h : Mvs S v l) : ∃ a cap, v = .slice a l.length cap := by
  obtain ⟨a, cap, e⟩ := h.ps.shape
  exact ⟨a, cap, by rw [e, mvs_len]⟩
theorem Mvs.at {S : AS} {v : Value} {l : List Mv} (h : Mvs S v l) {i : Nat} (hi : i < l.length) :
    ∃ p o cells e wr ex, (∀ (S' : AS) (j : IntKind), idxE S' 3 none (.int j i) v = .ret (.pointer (some ⟨p, o, none⟩), S')) ∧ S.get p = some (.row cells e wr ex) ∧ p < S.next ∧ p ∈ ownsOf v ∧ rowLoad cells o (some 3) = some (.agg (mvC l[i]).toArray) := by
  obtain ⟨p, o, cells, e, wr, ex, h1, h2, h3, h4, h5, h6⟩ := Ps.idx (S' := S) h.ps (by omega) (j := .i64) (i := i) (l := mvC l[i]) (by simp [mvsC, hi])
  refine ⟨p, o, cells, e, wr, ex, fun S' j => ?_, h2, h3, h4, h6⟩
  obtain ⟨a, cap, rfl⟩ := h.shape
  match a with
  | none => simp [idxE] at h1
  | some ⟨b, q, some s⟩ => simp [idxE] at h1
  | some ⟨b, q, none⟩ =>
    simp [hi] at h1 ⊢
    exact h1
end Go.Gx.A
