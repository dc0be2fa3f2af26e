/-
  The program's CheckProof.
-/
import Derived.Test.YtamljcdnphjgaaaQb
set_option linter.all false
set_option linter.deprecated false
set_option linter.unusedSimpArgs false
set_option linter.unusedVariables false
namespace Go.Gx.A
open Go.Gx Go.Proofs
set_option maxRecDepth 100000
set_option linter.all false
set_option maxHeartbeats 4000000
abbrev encB (b : Bnd) : (Int × Int) × Value:=((b.1,b.2.1),cV b.2.2)
theorem lkp_encB : ∀ (P : List Bnd) (s : Int × Int),lkp (P.map encB) s=fB P s
 | [],s=>rfl
 | b :: P,s=>by
  rw [List.map_cons,lkp_cons,lkp_encB P s]
  unfold fB
  simp only [bget]
  obtain ⟨s1,s2⟩:=s
  simp only [Prod.mk.injEq]
  by_cases h : b.1=s1∧b.2.1=s2
  ·rw [if_pos h,if_pos h]; rfl
  ·rw [if_neg h,if_neg h]
theorem bLt_trans {a b d : Bnd} (h : bLt a b) (k : bLt b d) : bLt a d:=by unfold bLt at *; omega
theorem good_asc {c : Cg} {tot : Cost} {P : List Bnd} : ∀ i,(h : i < P.length)→(∀ j,j ≤ i→goodB c tot P j=true)→∀ a ∈ P.take i,bLt a P[i]
 | 0,_,_,a,ha=>by simp at ha
 | i + 1,h,hg,a,ha=>by
  have hi : i < P.length:=by omega
  have e : P.take (i + 1)=P.take i ++ [P[i]]:=by rw [List.take_add_one,List.getElem?_eq_getElem hi]; rfl
  have h1:=hg (i + 1) (Nat.le_refl _)
  unfold goodB at h1
  simp only [Bool.and_eq_true,decide_eq_true_eq] at h1
  have h2:=h1.1.1 (by omega)
  rw [Nat.add_sub_cancel,List.getD_eq_getElem?_getD,List.getD_eq_getElem?_getD,List.getElem?_eq_getElem hi,List.getElem?_eq_getElem h] at h2
  simp only [Option.getD_some] at h2
  rw [e] at ha
  rcases List.mem_append.1 ha with h' | h'
  ·exact bLt_trans (good_asc i hi (fun j hj=>hg j (by omega)) a h') h2
  ·rw [List.mem_singleton.1 h']; exact h2
theorem CheckProof_ok {S : AS} {va vo v k w : Value} {c : Chg} {A : Amd} {P : List Bnd} (h : ChgAt S va vo c) (hA : AmAt S v k A) (hP : Bs S w P) {Q : En → AS → Prop}
    (hq : ∀ S', Same S S' [] → Q (.ret (.tuple #[.bool (cpR c A P), .int .i64 c.check])) S') : Call G 51 [c.val va vo, A.val v k, .agg #[w]] S Q := by
  obtain ⟨oa, ocap, hov⟩ := h.old.shape
  obtain ⟨va', vcap, hvs⟩ := hA.o.shape
  obtain ⟨ka', kcap, hks⟩ := hA.k.shape
  obtain ⟨pa, pcap, hps⟩ := hP.shape
  have hsm := hP.small
  have hPl : ∀ S' : AS, lnE S' w = .ret (.int .i64 P.length, S') := fun S' => by rw [hps]; rfl
  have hlo : ∀ S' : AS, lnE S' vo = .ret (.int .i64 c.old.length, S') := fun S' => by rw [hov]; rfl
  have hval : Value.agg #[.int .i64 c.n, va, vo, .int .i64 c.passed] = c.val va vo := rfl
  refine call_run' (G := G) rfl (ext_none (by decide)) ?_
  simp [Chg.val, Amd.val, Nat.add_assoc]
  generalize hS1 : AS.put (AS.put (AS.put (AS.put (AS.put (AS.bump S 5) _ _) _ _) _ _) _ _) _ _ = S1
  have s1 : Same S S1 [] := by rw [← hS1]; exact ((((((Same.refl _ _).bu.pn (by omega)).pn (by omega))).pn (by omega)).pn (by omega)).pn (by omega)
  have g1 : S1.get S.next = some (.row [.int .i64 c.n, va, vo, .int .i64 c.passed] 27 true true) := by rw [← hS1]; simp
  have a1 : S1.get (S.next + 1) = some (.row [v, .int .i64 A.off, .int .i64 A.mov, k] 44 true true) := by rw [← hS1]; simp
  have p1 : S1.get (S.next + 2) = some (.row [w] 50 true true) := by rw [← hS1]; simp
  have x1 : S1.get (S.next + 3) = some (.row [.bool false] 4 true true) := by rw [← hS1]; simp
  have y1 : S1.get (S.next + 4) = some (.row [.int .i64 0] 29 true true) := by rw [← hS1]; simp
  have hn1 : S1.next = S.next + 5 := by rw [← hS1]; simp
  clear hS1
  simp [g1, a1, hval]
  refine Valid_ok (h.stay0 s1) (hA.o.stay0 s1) fun S2 hs2 => ?_
  have hn2 := hs2.1
  have s2 := s1.tr0 hs2
  have g2 : S2.get S.next = _ := (hs2.2 _ (by omega) (by simp)).trans g1
  have a2 : S2.get (S.next + 1) = _ := (hs2.2 _ (by omega) (by simp)).trans a1
  have p2 : S2.get (S.next + 2) = _ := (hs2.2 _ (by omega) (by simp)).trans p1
  have x2 : S2.get (S.next + 3) = _ := (hs2.2 _ (by omega) (by simp)).trans x1
  have y2 : S2.get (S.next + 4) = _ := (hs2.2 _ (by omega) (by simp)).trans y1
  have u34 : (S.next + 4 = S.next + 3) = False := eq_false (by omega)
  have u43 : (S.next + 3 = S.next + 4) = False := eq_false (by omega)
  by_cases hc : c.check = 0
  rotate_left
  · simp [hc, undef, x2, y2, rowStore1, okc]
    have : cpR c A P = false := by unfold cpR validR; rw [if_neg hc]; simp
    rw [this] at hq
    exact hq _ ((s2.pn (by omega)).pn (by omega))
  have ok := check_ok hc
  have sm := ok.cgSm
  have cok := ok.cgOk
  rw [hc] at hq
  have hF : ∀ (U : AS), Same S U [] → cpR c A P = false → U.get (S.next + 3) = some (.row [.bool false] 4 true true) → U.get (S.next + 4) = some (.row [.int .i64 0] 29 true true) → Q (.ret (.tuple #[.bool false, .int .i64 0])) ((U.put (S.next + 3) (.row [.bool false] 4 true true)).put (S.next + 4) (.row [.int .i64 0] 29 true true)) := fun U hs e _ _ => by
    have := hq _ ((hs.pn (d := S.next + 3) (o := .row [.bool false] 4 true true) (by omega)).pn (d := S.next + 4) (o := .row [.int .i64 0] 29 true true) (by omega))
    rw [e] at this
    exact this
  have hf8 := free8 ok
  have hol : c.old.length ≤ 24 := sm.ol
  have hp8 : 2 ^ c.cg.free.length ≤ 2 ^ 8 := Nat.pow_le_pow_right (by omega) hf8
  have hpp : 0 < 2 ^ c.cg.free.length := Nat.two_pow_pos _
  have e0 : c.cg.old.length = c.old.length := rfl
  cases hvd : validR c A.order with
  | false =>
    simp [hc, undef, x2, y2, rowStore1, okc]
    exact hF _ s2 (by unfold cpR; rw [hvd]; simp) x2 y2
  | true =>
  have hord : ordOk c.cg.n A.order = true := by
    unfold validR at hvd
    rw [if_pos hc, Bool.and_eq_true] at hvd
    exact hvd.1
  obtain ⟨o1, o2, o3⟩ := ordOk_iff.1 hord
  have hn24 : c.cg.n ≤ 24 := sm.n
  have hrb := rcost_bd ok hord
  simp [hc, undef, g2, hval]
  refine open_ok (h.stay0 s2) ok.n0 ok.n1 ok.ar cok ok.p0 fun S3 t hs3 hT hL _ _ hlm hvB _ => ?_
  have hn3 := hs3.1
  have s3 := s2.tr0 hs3
  have hvl := hT.lt
  have g3 : S3.get S.next = _ := (hs3.2 _ (by omega) (by simp)).trans g2
  have a3 : S3.get (S.next + 1) = _ := (hs3.2 _ (by omega) (by simp)).trans a2
  have p3 : S3.get (S.next + 2) = _ := (hs3.2 _ (by omega) (by simp)).trans p2
  simp [a3, placeIn, splice, rowStore, okc, -run_draw]
  generalize hS4 : AS.put (AS.put (AS.bump S3 1) _ _) _ _ = S4
  have hs4 : Same S3 S4 [] := by rw [← hS4]; exact (((Same.refl _ _).bu).pn (by omega)).pn (by omega)
  have t4 : S4.get S3.next = some (.row [.int .i64 A.off, .int .i64 A.mov] 110 true true) := by rw [← hS4, AS.get_put_self]
  have hn4 : S4.next = S3.next + 1 := by rw [← hS4]; simp
  clear hS4
  have s4 := s3.tr0 hs4
  have g4 : S4.get S.next = _ := (hs4.2 _ (by omega) (by simp)).trans g3
  have a4 : S4.get (S.next + 1) = _ := (hs4.2 _ (by omega) (by simp)).trans a3
  have h24 := hs3.tr0 hs4
  have p4 : S4.get (S.next + 2) = _ := (h24.2 _ (by omega) (by simp)).trans p2
  have x4 : S4.get (S.next + 3) = _ := (h24.2 _ (by omega) (by simp)).trans x2
  have y4 : S4.get (S.next + 4) = _ := (h24.2 _ (by omega) (by simp)).trans y2
  have hT4 := hT.stay0 hs4
  simp [g4, a4, t4, hval]
  refine price_ok (h.stay0 s4) (hA.o.stay0 s4) ok hord fun S5 hs5 => ?_
  have hn5 := hs5.1
  have s5 := s4.tr0 hs5
  have g5 : S5.get S.next = _ := (hs5.2 _ (by omega) (by simp)).trans g4
  have a5 : S5.get (S.next + 1) = _ := (hs5.2 _ (by omega) (by simp)).trans a4
  have p5 : S5.get (S.next + 2) = _ := (hs5.2 _ (by omega) (by simp)).trans p4
  have x5 : S5.get (S.next + 3) = _ := (hs5.2 _ (by omega) (by simp)).trans x4
  have y5 : S5.get (S.next + 4) = _ := (hs5.2 _ (by omega) (by simp)).trans y4
  have t5 : S5.get S3.next = _ := (hs5.2 _ (by omega) (by simp)).trans t4
  have hT5 := hT4.stay0 hs5
  generalize hrc : c.cg.rcost A.order = rc at *
  have hveq : veq [.int .i64, .int .i64] true (cV rc) (.agg #[.int .i64 A.off, .int .i64 A.mov]) = some (decide (rc = (A.off, A.mov))) := keyInt2.eq rc (A.off, A.mov)
  by_cases d1 : rc = (A.off, A.mov)
  rotate_left
  · rw [decide_eq_false d1] at hveq
    simp [g5, a5, t5, hval, hveq, undef, x5, y5, rowStore1, okc]
    exact hF _ s5 (by unfold cpR; rw [hrc, decide_eq_false d1]; simp) x5 y5
  rw [decide_eq_true d1] at hveq
  simp [g5, a5, t5, hval, hveq, undef]
  refine kept_ok (h.old.stay0 s5) (hA.o.stay0 s5) o2 (by omega) (by omega) fun S6 ka6 kn6 hs6 hkn6 hk6 _ => ?_
  have hn6 := hs6.1
  have s6 := s5.tr0 hs6
  have g6 : S6.get S.next = _ := (hs6.2 _ (by omega) (by simp)).trans g5
  have a6 : S6.get (S.next + 1) = _ := (hs6.2 _ (by omega) (by simp)).trans a5
  have p6 : S6.get (S.next + 2) = _ := (hs6.2 _ (by omega) (by simp)).trans p5
  have x6 : S6.get (S.next + 3) = _ := (hs6.2 _ (by omega) (by simp)).trans x5
  have y6 : S6.get (S.next + 4) = _ := (hs6.2 _ (by omega) (by simp)).trans y5
  have t6 : S6.get S3.next = _ := (hs6.2 _ (by omega) (by simp)).trans t5
  have hT6 := hT5.stay0 hs6
  simp [g6, a6, t6, hval, undef]
  refine equal_ok (hA.k.stay0 s6) hk6.is ?_
  by_cases d3 : A.kept = kept c.old A.order
  rotate_left
  · simp [d3, g6, a6, t6, hval, undef, x6, y6, rowStore1, okc]
    exact hF _ s6 (by unfold cpR; rw [decide_eq_false d3]; simp) x6 y6
  have v1 : (S.next + 2 = S6.next) = False := eq_false (by omega)
  have v2 : (S.next + 2 = S6.next + 1) = False := eq_false (by omega)
  simp [d3, g6, a6, t6, hval, undef, p6, hPl, rowStore1, okc, v1, v2]
  generalize hS7 : AS.put (AS.put (AS.put (AS.bump S6 2) _ _) _ _) _ _ = S7
  have hs7 : Same S6 S7 [] := by rw [← hS7]; exact ((((Same.refl _ _).bu).pn (by omega)).pn (by omega)).pn (by omega)
  have m7 : MapL S7 S6.next key2 (([] : List Bnd).map encB) := ⟨[], 0, by rw [← hS7]; simp, Ents.nil⟩
  have q7 : S7.get (S6.next + 1) = some (.row [.map (some S6.next)] 126 true true) := by rw [← hS7, AS.get_put_self]
  have hn7 : S7.next = S6.next + 2 := by rw [← hS7]; simp
  clear hS7
  have s7 := s6.tr0 hs7
  have g7 : S7.get S.next = _ := (hs7.2 _ (by omega) (by simp)).trans g6
  have a7 : S7.get (S.next + 1) = _ := (hs7.2 _ (by omega) (by simp)).trans a6
  have p7 : S7.get (S.next + 2) = _ := (hs7.2 _ (by omega) (by simp)).trans p6
  have x7 : S7.get (S.next + 3) = _ := (hs7.2 _ (by omega) (by simp)).trans x6
  have y7 : S7.get (S.next + 4) = _ := (hs7.2 _ (by omega) (by simp)).trans y6
  have t7 : S7.get S3.next = _ := (hs7.2 _ (by omega) (by simp)).trans t6
  have hT7 := hT6.stay0 hs7
  obtain ⟨N, hN⟩ : ∃ N, N = 2 ^ c.cg.free.length := ⟨_, rfl⟩
  refine run_loop (fun m a' S' => ∃ i, m = P.length - i ∧ i ≤ P.length ∧ Same S7 S' [S6.next] ∧ MapL S' S6.next key2 ((P.take i).map encB) ∧ (∀ j, j < i → goodB c.cg (A.off, A.mov) P j = true) ∧
    Has a' 175 [(3, ptr S.next), (4, ptr (S.next + 1)), (5, ptr (S.next + 2)), (6, ptr (S.next + 3)), (7, ptr (S.next + 4)), (10, ptr t.d), (11, ptr S3.next), (12, ptr (S6.next + 1)), (61, w), (62, .int .i64 P.length), (63, .int .i64 i)]) _ ⟨0, rfl, by omega, .refl _ _, m7, fun j hj => by omega, ⟨rfl, rfl, by simp⟩⟩ ?_
  rintro _ R hR _ S8 ⟨i, rfl, hi, hs8, m8, hgood, hA'⟩
  obtain ⟨x, rfl⟩ := hA'.lit
  have hn8 := hs8.1
  have s8 : Same S S8 [] := s7.trans hs8 (fun m hm hl => by simp at hm; omega)
  have g8 : S8.get S.next = _ := (hs8.2 _ (by omega) (by simp; omega)).trans g7
  have a8 : S8.get (S.next + 1) = _ := (hs8.2 _ (by omega) (by simp; omega)).trans a7
  have p8 : S8.get (S.next + 2) = _ := (hs8.2 _ (by omega) (by simp; omega)).trans p7
  have x8 : S8.get (S.next + 3) = _ := (hs8.2 _ (by omega) (by simp; omega)).trans x7
  have y8 : S8.get (S.next + 4) = _ := (hs8.2 _ (by omega) (by simp; omega)).trans y7
  have t8 : S8.get S3.next = _ := (hs8.2 _ (by omega) (by simp; omega)).trans t7
  have q8 : S8.get (S6.next + 1) = _ := (hs8.2 _ (by omega) (by simp)).trans q7
  have hT8 : TkAt S8 t c.cg := hT7.sb ⟨hs8.1, fun m hm hn => hs8.2 m (by omega) (by simp; omega)⟩
  by_cases hlt : i < P.length
  · have hlt' : (i : Int) < P.length := by omega
    have hwS := wrapS (show i < 9223372036854775807 by omega)
    obtain ⟨p, o, cells, e, wr, ex, h1, h2, h3, h4, h5, h6, h7, h8, h9⟩ := q4_at (hP.stay0 s8).ps hlt
    obtain ⟨b, hb⟩ : ∃ b, b = P[i] := ⟨_, rfl⟩
    have hgd : P.getD i bZ = b := by rw [hb, List.getD_eq_getElem?_getD, List.getElem?_eq_getElem hlt]; rfl
    rw [← hb] at h5 h6 h7 h8 h9
    simp only [q4C] at h5
    simp [fillF, pickL, hlt, hlt', h1, h2, h5, rowStore, splice, okc, placeIn, Nat.add_assoc, -run_draw]
    generalize hT9 : AS.put (AS.put (AS.bump (AS.put (AS.put (AS.bump S8 1) _ _) _ _) 1) _ _) _ _ = T
    have h8T : Same S8 T [] := by rw [← hT9]; exact ((((((Same.refl _ _).bu).pn (by omega)).pn (by omega)).bu).pn (by omega)).pn (by omega)
    have cT : T.get S8.next = some (.row [.int .i64 b.1, .int .i64 b.2.1, .int .i64 b.2.2.1, .int .i64 b.2.2.2] 131 true true) := by rw [← hT9, AS.get_put_ne _ _ (by omega), AS.get_put_ne _ _ (by omega), AS.get_bump, AS.get_put_self]
    have dT : T.get (S8.next + 1) = some (.row [.int .i64 b.2.2.1, .int .i64 b.2.2.2] 110 true true) := by rw [← hT9, AS.get_put_self]
    have hnT : T.next = S8.next + 2 := by rw [← hT9]; simp
    clear hT9
    have sT := s8.tr0 h8T
    have gT : T.get S.next = _ := (h8T.2 _ (by omega) (by simp)).trans g8
    have aT : T.get (S.next + 1) = _ := (h8T.2 _ (by omega) (by simp)).trans a8
    have pT : T.get (S.next + 2) = _ := (h8T.2 _ (by omega) (by simp)).trans p8
    have xT : T.get (S.next + 3) = _ := (h8T.2 _ (by omega) (by simp)).trans x8
    have yT : T.get (S.next + 4) = _ := (h8T.2 _ (by omega) (by simp)).trans y8
    have tT : T.get S3.next = _ := (h8T.2 _ (by omega) (by simp)).trans t8
    have qT : T.get (S6.next + 1) = _ := (h8T.2 _ (by omega) (by simp)).trans q8
    have hTT := hT8.stay0 h8T
    have hnf : (i = 0) ∨ 0 < i := by omega
    have fin : (0 < i → bLt (P.getD (i - 1) bZ) b) → (0 ≤ b.1 ∧ b.1 < (N : Int) - 1 ∧ -1 ≤ b.2.1 ∧ b.2.1 < c.old.length ∧ 0 ≤ b.2.2.1 ∧ 0 ≤ b.2.2.2 ∧ b.2.2.2 ≤ c.old.length) → clt b.2.2 (A.off, A.mov) = true → ∀ (z : Act) (U : AS) (ob : AObj), Same T U [] → (∀ V, MapL V S6.next key2 ((P.take i).map encB) → True) → MapL (U.put S6.next ob) S6.next key2 (aset ((P.take i).map encB) (b.1, b.2.1) (cV b.2.2)) →
        Has z 175 [(3, ptr S.next), (4, ptr (S.next + 1)), (5, ptr (S.next + 2)), (6, ptr (S.next + 3)), (7, ptr (S.next + 4)), (10, ptr t.d), (11, ptr S3.next), (12, ptr (S6.next + 1)), (61, w), (62, .int .i64 P.length), (63, .int .i64 ((i + 1 : Nat) : Int))] → R z (U.put S6.next ob) := by
      intro hbl hbd hch z U ob hU _ hM hz
      have hg : goodB c.cg (A.off, A.mov) P i = true := by
        unfold goodB
        simp only [Bool.and_eq_true, decide_eq_true_eq]
        rw [hgd, ← hN]
        exact ⟨⟨hbl, hbd⟩, hch⟩
      have hgg : ∀ j, j < i + 1 → goodB c.cg (A.off, A.mov) P j = true := fun j hj => by
        rcases Nat.lt_succ_iff_lt_or_eq.1 hj with h' | rfl
        · exact hgood j h'
        · exact hg
      have hasc := good_asc i hlt (fun j hj => hgg j (by omega))
      rw [← hb] at hasc
      have hnone : lkp ((P.take i).map encB) (b.1, b.2.1) = none := by
        have hall : ∀ x ∈ P.take i, ¬ (x.1 = b.1 ∧ x.2.1 = b.2.1) := fun x hx e => by
          have := hasc x hx
          unfold bLt at this
          omega
        clear hM hasc hU
        generalize P.take i = l at hall
        induction l with
        | nil => rfl
        | cons y l ih =>
          rw [List.map_cons, lkp_cons, if_neg, ih fun x hx => hall x (List.mem_cons_of_mem _ hx)]
          intro e
          simp only [Prod.mk.injEq] at e
          exact hall y (List.mem_cons_self ..) e
      rw [aset_new hnone] at hM
      have e : P.take (i + 1) = P.take i ++ [b] := by rw [hb, List.take_add_one, List.getElem?_eq_getElem hlt]; rfl
      have hs' : Same S7 (U.put S6.next ob) [S6.next] := ((hs8.trans (h8T.mono (by simp)) (fun m hm _ => hm)).trans (hU.mono (by simp)) (fun m hm _ => hm)).po (by simp)
      exact hR _ _ _ (show P.length - (i + 1) < P.length - i by omega) ⟨i + 1, rfl, by omega, hs', by rw [e, List.map_append]; exact hM, hgg, hz⟩
    have hmT : ∀ U, Same T U [] → MapL U S6.next key2 ((P.take i).map encB) := fun U hU => m8.stays (by rw [hU.2 _ (by omega) (by simp), h8T.2 _ (by omega) (by simp)])
    have hbad : ¬ goodB c.cg (A.off, A.mov) P i = true → ∀ U, Same T U [] → Q (.ret (.tuple #[.bool false, .int .i64 0])) ((U.put (S.next + 3) (.row [.bool false] 4 true true)).put (S.next + 4) (.row [.int .i64 0] 29 true true)) := fun hg U hU =>
      hF U (sT.tr0 hU) (bad_one hlt hg) ((hU.2 _ (by omega) (by simp)).trans xT) ((hU.2 _ (by omega) (by simp)).trans yT)
    have hgx : ∀ {pr : Prop}, (goodB c.cg (A.off, A.mov) P i = true → pr) → ¬ pr → ¬ goodB c.cg (A.off, A.mov) P i = true := fun f g h => g (f h)
    have hgu : goodB c.cg (A.off, A.mov) P i = true → (0 < i → bLt (P.getD (i - 1) bZ) b) ∧ (0 ≤ b.1 ∧ b.1 < (N : Int) - 1 ∧ -1 ≤ b.2.1 ∧ b.2.1 < c.old.length ∧ 0 ≤ b.2.2.1 ∧ 0 ≤ b.2.2.2 ∧ b.2.2.2 ≤ c.old.length) ∧ clt b.2.2 (A.off, A.mov) = true := fun hg => by
      unfold goodB at hg
      simp only [Bool.and_eq_true, decide_eq_true_eq] at hg
      rw [hgd, ← hN] at hg
      exact ⟨hg.1.1, hg.1.2, hg.2⟩
    have htf : c.cg.tk.f = c.cg.free.length := rfl
    have hNN : ((2 ^ c.cg.tk.f - 1 : Nat) : Int) = ((N - 1 : Nat) : Int) := by rw [htf, hN]
    have hNp : 0 < N := by rw [hN]; exact hpp
    have hws : IntKind.i64.wrap ((i : Int) + 1) = (i : Int) + 1 := hwS
    rcases hnf with hi0 | hip
    · subst hi0
      have hi0 : True := trivial
      by_cases c1 : b.1 < 0
      ·
        simp [cT, dT, gT, tT, pT, xT, yT, hi0, c1, undef, hlo, rowStore1, okc]
        exact hbad (hgx (fun h => (hgu h).2.1) (by omega)) T (Same.refl T [])
      simp [cT, dT, gT, tT, pT, xT, yT, hi0, c1, undef]
      refine all_ok hTT sm ?_
      rw [hNN]
      by_cases c2 : ((N - 1 : Nat) : Int) ≤ b.1
      ·
        simp [cT, dT, gT, tT, pT, xT, yT, hi0, c1, c2, undef, hlo, rowStore1, okc]
        exact hbad (hgx (fun h => (hgu h).2.1) (by omega)) T (Same.refl T [])
      by_cases c3 : b.2.1 < -1
      ·
        simp [cT, dT, gT, tT, pT, xT, yT, hi0, c1, c2, c3, undef, hlo, rowStore1, okc]
        exact hbad (hgx (fun h => (hgu h).2.1) (by omega)) T (Same.refl T [])
      by_cases c4 : (c.old.length : Int) ≤ b.2.1
      ·
        simp [cT, dT, gT, tT, pT, xT, yT, hi0, c1, c2, c3, c4, undef, hlo, rowStore1, okc]
        exact hbad (hgx (fun h => (hgu h).2.1) (by omega)) T (Same.refl T [])
      simp [cT, dT, gT, tT, pT, xT, yT, hi0, c1, c2, c3, c4, undef, hlo]
      refine less_ok (c := b.2.2) (d := (A.off, A.mov)) fun VV hVV => ?_
      have cVV : VV.get S8.next = _ := (hVV.2 _ (by omega) (by simp)).trans cT
      have dVV : VV.get (S8.next + 1) = _ := (hVV.2 _ (by omega) (by simp)).trans dT
      have gVV : VV.get S.next = _ := (hVV.2 _ (by omega) (by simp)).trans gT
      have tVV : VV.get S3.next = _ := (hVV.2 _ (by omega) (by simp)).trans tT
      have pVV : VV.get (S.next + 2) = _ := (hVV.2 _ (by omega) (by simp)).trans pT
      have xVV : VV.get (S.next + 3) = _ := (hVV.2 _ (by omega) (by simp)).trans xT
      have yVV : VV.get (S.next + 4) = _ := (hVV.2 _ (by omega) (by simp)).trans yT
      have qVV : VV.get (S6.next + 1) = _ := (hVV.2 _ (by omega) (by simp)).trans qT
      have hTV : Same T VV [] := (Same.refl T []).tr0 hVV
      cases hch : clt b.2.2 (A.off, A.mov) with
      | false =>
        simp [cVV, dVV, gVV, tVV, pVV, xVV, yVV, hi0, c1, c2, c3, c4, undef, hlo, rowStore1, okc]
        exact hbad (hgx (fun h => (hgu h).2.2) (by rw [hch]; exact Bool.false_ne_true)) VV hTV
      | true =>
        by_cases c5 : b.2.2.1 < 0
        ·
          simp [cVV, dVV, gVV, tVV, pVV, xVV, yVV, hi0, c1, c2, c3, c4, c5, undef, hlo, rowStore1, okc]
          exact hbad (hgx (fun h => (hgu h).2.1) (by omega)) VV hTV
        by_cases c6 : b.2.2.2 < 0
        ·
          simp [cVV, dVV, gVV, tVV, pVV, xVV, yVV, hi0, c1, c2, c3, c4, c5, c6, undef, hlo, rowStore1, okc]
          exact hbad (hgx (fun h => (hgu h).2.1) (by omega)) VV hTV
        by_cases c7 : (c.old.length : Int) < b.2.2.2
        ·
          simp [cVV, dVV, gVV, tVV, pVV, xVV, yVV, hi0, c1, c2, c3, c4, c5, c6, c7, undef, hlo, rowStore1, okc]
          exact hbad (hgx (fun h => (hgu h).2.1) (by omega)) VV hTV
        obtain ⟨ob, ms1, ms2⟩ := (hmT VV hTV).mset keyInt2 (b.1, b.2.1) (cV b.2.2)
        simp only at ms1
        simp [-msetE_map, cVV, dVV, gVV, tVV, pVV, xVV, yVV, qVV, hi0, c1, c2, c3, c4, c5, c6, c7, undef, hlo, placeIn, splice, ms1, hws, (show IntKind.i64.wrap 1 = 1 from by decide)]
        exact fin (fun h => by omega) (by omega) hch _ VV ob hTV (fun _ _ => trivial) ms2 ⟨rfl, rfl, by simp⟩
    · have hip' : (0 : Int) < i := by omega
      have hwi : IntKind.i64.wrap ((i : Int) - 1) = ((i - 1 : Nat) : Int) := by rw [wrap64 (by omega) (by omega)]; omega
      obtain ⟨p', o', cells', e', wr', ex', h1', h2', h3', h4', h5', h6', h7', h8', h9'⟩ := q4_at (hP.stay0 sT).ps (i := i - 1) (by omega)
      have hpd : P.getD (i - 1) bZ = P[i - 1] := by rw [List.getD_eq_getElem?_getD, List.getElem?_eq_getElem (by omega)]; rfl
      obtain ⟨pb, hpb⟩ : ∃ pb, pb = P[i - 1] := ⟨_, rfl⟩
      rw [← hpb] at hpd h5'
      simp only [q4C] at h5'
      simp [cT, dT, gT, tT, pT, xT, yT, hip, hip', hwi, h1', h2', h5', undef]
      refine compareBounds_ok (a := pb) (b := b) fun TT h9 => ?_
      have hn9 := h9.1
      have cTT : TT.get S8.next = _ := (h9.2 _ (by omega) (by simp)).trans cT
      have dTT : TT.get (S8.next + 1) = _ := (h9.2 _ (by omega) (by simp)).trans dT
      have gTT : TT.get S.next = _ := (h9.2 _ (by omega) (by simp)).trans gT
      have tTT : TT.get S3.next = _ := (h9.2 _ (by omega) (by simp)).trans tT
      have pTT : TT.get (S.next + 2) = _ := (h9.2 _ (by omega) (by simp)).trans pT
      have xTT : TT.get (S.next + 3) = _ := (h9.2 _ (by omega) (by simp)).trans xT
      have yTT : TT.get (S.next + 4) = _ := (h9.2 _ (by omega) (by simp)).trans yT
      have qTT : TT.get (S6.next + 1) = _ := (h9.2 _ (by omega) (by simp)).trans qT
      have hTTT := hTT.stay0 h9
      have hneg := @cB_neg pb b
      by_cases hbl : bLt pb b
      rotate_left
      · have hcn : 0 ≤ cB pb b := by have := mt hneg.1 hbl; omega
        simp [cTT, dTT, gTT, tTT, pTT, xTT, yTT, hcn, undef, hlo, rowStore1, okc]
        exact hbad (hgx (fun h => (hgu h).1 hip) (by rw [hpd]; exact hbl)) TT h9
      have hcn : ¬ 0 ≤ cB pb b := by have := hneg.2 hbl; omega
      by_cases c1 : b.1 < 0
      ·
        simp [cTT, dTT, gTT, tTT, pTT, xTT, yTT, hcn, hip, hip', c1, undef, hlo, rowStore1, okc]
        exact hbad (hgx (fun h => (hgu h).2.1) (by omega)) TT h9
      simp [cTT, dTT, gTT, tTT, pTT, xTT, yTT, hcn, hip, hip', c1, undef]
      refine all_ok hTTT sm ?_
      rw [hNN]
      by_cases c2 : ((N - 1 : Nat) : Int) ≤ b.1
      ·
        simp [cTT, dTT, gTT, tTT, pTT, xTT, yTT, hcn, hip, hip', c1, c2, undef, hlo, rowStore1, okc]
        exact hbad (hgx (fun h => (hgu h).2.1) (by omega)) TT h9
      by_cases c3 : b.2.1 < -1
      ·
        simp [cTT, dTT, gTT, tTT, pTT, xTT, yTT, hcn, hip, hip', c1, c2, c3, undef, hlo, rowStore1, okc]
        exact hbad (hgx (fun h => (hgu h).2.1) (by omega)) TT h9
      by_cases c4 : (c.old.length : Int) ≤ b.2.1
      ·
        simp [cTT, dTT, gTT, tTT, pTT, xTT, yTT, hcn, hip, hip', c1, c2, c3, c4, undef, hlo, rowStore1, okc]
        exact hbad (hgx (fun h => (hgu h).2.1) (by omega)) TT h9
      simp [cTT, dTT, gTT, tTT, pTT, xTT, yTT, hcn, hip, hip', c1, c2, c3, c4, undef, hlo]
      refine less_ok (c := b.2.2) (d := (A.off, A.mov)) fun VV hVV => ?_
      have cVV : VV.get S8.next = _ := (hVV.2 _ (by omega) (by simp)).trans cTT
      have dVV : VV.get (S8.next + 1) = _ := (hVV.2 _ (by omega) (by simp)).trans dTT
      have gVV : VV.get S.next = _ := (hVV.2 _ (by omega) (by simp)).trans gTT
      have tVV : VV.get S3.next = _ := (hVV.2 _ (by omega) (by simp)).trans tTT
      have pVV : VV.get (S.next + 2) = _ := (hVV.2 _ (by omega) (by simp)).trans pTT
      have xVV : VV.get (S.next + 3) = _ := (hVV.2 _ (by omega) (by simp)).trans xTT
      have yVV : VV.get (S.next + 4) = _ := (hVV.2 _ (by omega) (by simp)).trans yTT
      have qVV : VV.get (S6.next + 1) = _ := (hVV.2 _ (by omega) (by simp)).trans qTT
      have hTV : Same T VV [] := h9.tr0 hVV
      cases hch : clt b.2.2 (A.off, A.mov) with
      | false =>
        simp [cVV, dVV, gVV, tVV, pVV, xVV, yVV, hcn, hip, hip', c1, c2, c3, c4, undef, hlo, rowStore1, okc]
        exact hbad (hgx (fun h => (hgu h).2.2) (by rw [hch]; exact Bool.false_ne_true)) VV hTV
      | true =>
        by_cases c5 : b.2.2.1 < 0
        ·
          simp [cVV, dVV, gVV, tVV, pVV, xVV, yVV, hcn, hip, hip', c1, c2, c3, c4, c5, undef, hlo, rowStore1, okc]
          exact hbad (hgx (fun h => (hgu h).2.1) (by omega)) VV hTV
        by_cases c6 : b.2.2.2 < 0
        ·
          simp [cVV, dVV, gVV, tVV, pVV, xVV, yVV, hcn, hip, hip', c1, c2, c3, c4, c5, c6, undef, hlo, rowStore1, okc]
          exact hbad (hgx (fun h => (hgu h).2.1) (by omega)) VV hTV
        by_cases c7 : (c.old.length : Int) < b.2.2.2
        ·
          simp [cVV, dVV, gVV, tVV, pVV, xVV, yVV, hcn, hip, hip', c1, c2, c3, c4, c5, c6, c7, undef, hlo, rowStore1, okc]
          exact hbad (hgx (fun h => (hgu h).2.1) (by omega)) VV hTV
        obtain ⟨ob, ms1, ms2⟩ := (hmT VV hTV).mset keyInt2 (b.1, b.2.1) (cV b.2.2)
        simp only at ms1
        simp [-msetE_map, cVV, dVV, gVV, tVV, pVV, xVV, yVV, qVV, hcn, hip, hip', c1, c2, c3, c4, c5, c6, c7, undef, hlo, placeIn, splice, ms1, hws, (show IntKind.i64.wrap 1 = 1 from by decide)]
        exact fin (fun _ => by rw [hpd]; exact hbl) (by omega) hch _ VV ob hTV (fun _ _ => trivial) ms2 ⟨rfl, rfl, by simp⟩
  · obtain rfl : i = P.length := by omega
    have hlt' : ¬ ((P.length : Int) < P.length) := by omega
    rw [List.take_length] at m8
    have hcp : cpR c A P = (folw P (A.off, A.mov) (0, c.cg.goal.last0) (c.cg.goal.base, 0) && P.all (stepsB c.cg (A.off, A.mov) P)) := by
      have hall : (List.range P.length).all (goodB c.cg (A.off, A.mov) P) = true := List.all_eq_true.2 fun j hj => hgood j (by simpa using hj)
      unfold cpR
      rw [hvd, hrc, decide_eq_true d1, decide_eq_true d3, hall]
      simp
    simp [fillF, pickL, undef, Nat.add_assoc]
    refine first_ok (hT8.stay0 (.bu (.refl _ _))) sm fun S9 hs9 => ?_
    have hn9 := hs9.1
    simp at hn9
    have u1 : (S8.next = S9.next) = False := eq_false (by omega)
    have u2 : (S8.next + 1 = S9.next) = False := eq_false (by omega)
    simp [-lookE_map, rowStore, splice, okc, Nat.add_assoc, u1, u2]
    generalize hS10 : AS.put (AS.put (AS.put (AS.put S9 _ _) _ _) _ _) _ _ = S10
    have h910 : Same S9 S10 [S8.next, S8.next + 1] := by rw [← hS10]; exact ((((Same.refl _ _).po (by simp)).po (by simp)).po (by simp)).po (by simp)
    have v10 : S10.get S8.next = some (.row [.int .i64 0, .int .i64 c.cg.goal.last0] 123 true true) := by rw [← hS10]; simp
    have w10 : S10.get (S8.next + 1) = some (.row [.int .i64 c.cg.goal.base, .int .i64 0] 110 true true) := by rw [← hS10, AS.get_put_self]
    have hn10 : S10.next = S9.next := by rw [← hS10]; rfl
    clear hS10
    have h810 : Same S8 S10 [] := ((Same.bu (.refl _ _)).tr0 hs9).trans h910 (fun m hm hl => by simp at hm; omega)
    have q10 : S10.get (S6.next + 1) = _ := (h810.2 _ (by omega) (by simp)).trans q8
    have t10 : S10.get S3.next = _ := (h810.2 _ (by omega) (by simp)).trans t8
    have m10 : MapL S10 S6.next key2 (P.map encB) := m8.stays (h810.2 _ (by omega) (by simp))
    have hMA : ∀ U : AS, MapL U S6.next key2 (P.map encB) → MapAt U S6.next [.int .i64, .int .i64] true (fun x : Int × Int => Value.agg #[.int .i64 x.1, .int .i64 x.2]) (fB P) := fun U hU => by
      have := hU.at keyInt2
      rwa [show lkp (P.map encB) = fB P from funext (lkp_encB P)] at this
    simp [q10, v10, w10, t10]
    refine follows_ok (P := P) (s := (0, c.cg.goal.last0)) (v := (c.cg.goal.base, 0)) (tot := (A.off, A.mov)) (hMA _ m10) (by omega) fun S11 hs11 => ?_
    have hn11 := hs11.1
    have h811 := h810.tr0 hs11
    have s11 := s8.tr0 h811
    have q11 : S11.get (S6.next + 1) = _ := (h811.2 _ (by omega) (by simp)).trans q8
    have t11 : S11.get S3.next = _ := (h811.2 _ (by omega) (by simp)).trans t8
    have x11 : S11.get (S.next + 3) = _ := (h811.2 _ (by omega) (by simp)).trans x8
    have y11 : S11.get (S.next + 4) = _ := (h811.2 _ (by omega) (by simp)).trans y8
    have m11 : MapL S11 S6.next key2 (P.map encB) := m8.stays (h811.2 _ (by omega) (by simp))
    have hT11 := hT8.stay0 h811
    cases hfo : folw P (A.off, A.mov) (((0 : Nat) : Int), c.cg.goal.last0) (c.cg.goal.base, 0) with
    | false =>
      simp [x11, y11, undef, rowStore1, okc]
      exact hF S11 s11 (by rw [hcp]; have e : folw P (A.off, A.mov) (0, c.cg.goal.last0) (c.cg.goal.base, 0) = false := hfo; rw [e]; rfl) x11 y11
    | true =>
      have hcp2 : cpR c A P = P.all (stepsB c.cg (A.off, A.mov) P) := by
        rw [hcp]; have e : folw P (A.off, A.mov) (0, c.cg.goal.last0) (c.cg.goal.base, 0) = true := hfo; rw [e, Bool.true_and]
      simp [q11, undef]
      refine rng_run (m11.stays (by rw [AS.get_bump])) (by omega) rfl fun S12 hIt hs12 hn12 => ?_
      have h1112 : Same S11 S12 [] := (Same.bu (.refl _ _)).trans hs12 (fun m hm hl => by simp at hm; omega)
      simp at hn12
      simp
      refine run_loop (fun m a' S' => ∃ (done rem : List Bnd) (ns : List Nat), m = rem.length ∧ P.Perm (done ++ rem) ∧ Same S11 S' [] ∧ S11.next + 1 ≤ S'.next ∧ ItAt S' S11.next S6.next key2 (rem.map encB) ∧ (∀ b ∈ done, stepsB c.cg (A.off, A.mov) P b = true) ∧ ns.Nodup ∧ (∀ m ∈ ns, S'.get m = some (.defd (some [])) ∧ S11.next < m ∧ m < S'.next) ∧
        Has a' 175 [(3, ptr S.next), (4, ptr (S.next + 1)), (5, ptr (S.next + 2)), (6, ptr (S.next + 3)), (7, ptr (S.next + 4)), (10, ptr t.d), (11, ptr S3.next), (12, ptr (S6.next + 1)), (155, ptr S11.next)] (dsOf ns)) _ ⟨[], P, [], rfl, by simp, h1112, by omega, hIt, by simp, by simp, by simp, ⟨rfl, rfl, by simp⟩⟩ ?_
      rintro _ R2 hR2 _ S13 ⟨done, rem, ns, rfl, hperm, hs13, hn13, hIt13, hdone, hns, hnd, hA13⟩
      obtain ⟨z, rfl⟩ := hA13.lit
      have q13 : S13.get (S6.next + 1) = _ := (hs13.2 _ (by omega) (by simp)).trans q11
      have t13 : S13.get S3.next = _ := (hs13.2 _ (by omega) (by simp)).trans t11
      have x13 : S13.get (S.next + 3) = _ := (hs13.2 _ (by omega) (by simp)).trans x11
      have y13 : S13.get (S.next + 4) = _ := (hs13.2 _ (by omega) (by simp)).trans y11
      have m13 : MapL S13 S6.next key2 (P.map encB) := m11.stays (hs13.2 _ (by omega) (by simp))
      have hT13 := hT11.stay0 hs13
      have s13 := s11.tr0 hs13
      have fin2 : ∀ (bv : Bool) (ns' : List Nat) (U : AS), Same S11 U [] ∨ Same S U [] ∧ S11.next ≤ U.next → U.get (S.next + 3) = some (.row [.bool bv] 4 true true) → U.get (S.next + 4) = some (.row [.int .i64 0] 29 true true) → ns'.Nodup → (∀ m ∈ ns', U.get m = some (.defd (some [])) ∧ S11.next < m) → cpR c A P = bv → ∃ V, drain (dsOf ns') U = some V ∧ V.get (S.next + 3) = some (.row [.bool bv] 4 true true) ∧ V.get (S.next + 4) = some (.row [.int .i64 0] 29 true true) ∧ Q (.ret (.tuple #[.bool bv, .int .i64 0])) V := by
        intro bv ns' U hU hx hy h1 h2 h3
        obtain ⟨V, d1, d2, d3⟩ := drain_ok ns' U h1 (fun m hm => (h2 m hm).1)
        have hlt : S.next + 4 < S11.next := by omega
        have hUs : Same S U [] ∧ S11.next ≤ U.next := by
          rcases hU with h | h
          · exact ⟨s11.tr0 h, h.1⟩
          · exact h
        have hUn := hUs.2
        refine ⟨V, d1, ?_, ?_, ?_⟩
        · rw [d2.2 _ (by omega) (fun hm => by have := (h2 _ hm).2; omega)]; exact hx
        · rw [d2.2 _ (by omega) (fun hm => by have := (h2 _ hm).2; omega)]; exact hy
        · have hs : Same S V [] := hUs.1.trans d2 (fun m hm hl => by have := (h2 m hm).2; omega)
          have := hq V hs
          rw [h3] at this
          exact this
      simp [fillF, pickL]
      refine nxtm_run hIt13 rfl (by omega) (fun he => ?_) (fun i hi S14 hcur hs14 hn14 => ?_)
      · have hre : rem = [] := by simpa using he
        subst hre
        have htrue : cpR c A P = true := by rw [hcp2]; exact List.all_eq_true.2 fun b hb => hdone b (by have := hperm.mem_iff.1 hb; simpa using this)
        have hn13s := hs13.1
        obtain ⟨V, d1, d2, d3, d4⟩ := fin2 true ns ((S13.put (S.next + 3) (.row [.bool true] 4 true true)).put (S.next + 4) (.row [.int .i64 0] 29 true true)) (.inr ⟨(s13.pn (by omega)).pn (by omega), by simpa using hn13s⟩) (by rw [AS.get_put_ne _ _ (by omega), AS.get_put_self]) (by rw [AS.get_put_self]) hns (fun m hm => ⟨by have := (hnd m hm).2.1; rw [AS.get_put_ne _ _ (by omega), AS.get_put_ne _ _ (by omega)]; exact (hnd m hm).1, (hnd m hm).2.1⟩) htrue
        simp [undef, x13, y13, rowStore1, okc, d1, d2, d3]
        exact d4
      · have hi' : i < rem.length := by simpa using hi
        simp only [List.getElem_map] at hcur ⊢
        obtain ⟨b, hbd⟩ : ∃ b, rem[i] = b := ⟨_, rfl⟩
        rw [hbd] at hcur ⊢
        have hmemP : b ∈ P := hperm.mem_iff.2 (by simp [← hbd])
        obtain ⟨k0, hk0, hk0e⟩ := List.getElem_of_mem hmemP
        have hg := hgood k0 hk0
        unfold goodB at hg
        simp only [Bool.and_eq_true, decide_eq_true_eq] at hg
        rw [show P.getD k0 bZ = b from by rw [List.getD_eq_getElem?_getD, List.getElem?_eq_getElem hk0]; exact hk0e, ← hN] at hg
        obtain ⟨⟨_, w1, w2, w3, w4, w5, w6, w7⟩, w8⟩ := hg
        obtain ⟨set, hset⟩ : ∃ n : Nat, b.1 = n := ⟨b.1.toNat, by omega⟩
        have hsl : set < 2 ^ c.cg.free.length := by rw [← hN]; omega
        have hcw : b.2.2.1 ≤ A.off := by
          unfold clt at w8
          simp only [decide_eq_true_eq] at w8
          omega
        have hA1 : A.off ≤ 576000 := by have : rc.1 = A.off := by rw [d1]
                                        omega
        have hn1314 := hs14.1
        have h1114 : Same S11 S14 [] := hs13.trans hs14 (fun m hm hl => by simp at hm; omega)
        simp
        refine entry_run hcur rfl ?_
        simp [rowStore, okc, splice, Nat.add_assoc]
        generalize hS15 : AS.put (AS.put (AS.put (AS.put (AS.bump S14 2) _ _) _ _) _ _) _ _ = S15
        have hs15 : Same S14 S15 [] := by rw [← hS15]; exact (((((Same.refl _ _).bu).pn (by omega)).pn (by omega)).pn (by omega)).pn (by omega)
        have v15 : S15.get S14.next = some (.row [.int .i64 set, .int .i64 b.2.1] 123 true true) := by rw [← hS15, ← hset]; simp
        have w15 : S15.get (S14.next + 1) = some (.row [.int .i64 b.2.2.1, .int .i64 b.2.2.2] 110 true true) := by rw [← hS15]; simp
        have hn15 : S15.next = S14.next + 2 := by rw [← hS15]; simp
        clear hS15
        have h1115 := h1114.tr0 hs15
        rw [hset]
        refine steps98_ok (s := (set, b.2.1)) fun S16 hs16 hn16 kk1 kk2 => ?_
        simp
        refine run_range rfl ?_
        simp
        generalize hS17 : ((S16.bump 2).put S16.next (.defd (some []))).put (S16.next + 1) _ = S17
        obtain ⟨lo, hl0⟩ : ∃ lo, S17.get (S16.next + 1) = some lo := by rw [← hS17]; exact ⟨_, AS.get_put_self _ _ _⟩
        obtain ⟨lod, hld⟩ : ∃ lod, lod = (match lo with | .loop _ _ env ps asg body d => AObj.loop .done (some .ret) env ps asg body d | x => x) := ⟨_, rfl⟩
        have hl0' := hl0
        rw [← hS17, AS.get_put_self] at hl0'
        have hlo2 := Option.some.inj hl0'
        clear hl0'
        have gd : S17.get S16.next = some (.defd (some [])) := by rw [← hS17, AS.get_put_ne _ _ (by omega), AS.get_put_self]
        have hn17 : S17.next = S16.next + 2 := by rw [← hS17]; simp
        have hs1617 : Same S16 S17 [] := by rw [← hS17]; exact (((Same.refl _ _).bu).pn (by omega)).pn (by omega)
        have hs1517 : Same S15 S17 [] := hs16.tr0 hs1617
        clear hS17
        have h1117 := h1115.tr0 hs1517
        have w17 : S17.get (S14.next + 1) = _ := (hs1517.2 _ (by omega) (by simp)).trans w15
        have t17 : S17.get S3.next = _ := (h1117.2 _ (by omega) (by simp)).trans t11
        have q17 : S17.get (S6.next + 1) = _ := (h1117.2 _ (by omega) (by simp)).trans q11
        have x17 : S17.get (S.next + 3) = _ := (h1117.2 _ (by omega) (by simp)).trans x11
        have y17 : S17.get (S.next + 4) = _ := (h1117.2 _ (by omega) (by simp)).trans y11
        have m17 : MapL S17 S6.next key2 (P.map encB) := m11.stays (h1117.2 _ (by omega) (by simp))
        have hT17 := hT11.stay0 h1117
        simp [calleeOf]
        refine stepsF_ok (v := t) (s := (set, b.2.1)) sm hsl [S16.next + 1] (fun m hm => by simp at hm; omega)
          (fun dn S' => Same S17 S' [S16.next + 1] ∧ S'.get (S16.next + 1) = some lo ∧ ∀ x ∈ dn, folw P (A.off, A.mov) ((x.2.1.1 : Int), x.2.1.2) (cadd b.2.2 x.2.2) = true)
          (fun U => Same S17 U [S16.next + 1, S.next + 3, S.next + 4] ∧ U.get (S16.next + 1) = some lod ∧ cpR c A P = false ∧ U.get (S.next + 3) = some (.row [.bool false] 4 true true) ∧ U.get (S.next + 4) = some (.row [.int .i64 0] 29 true true)) ?_ ?_ ?_ ?_ ?_
        · exact ⟨.refl _ _, hl0, by simp⟩
        · rintro dn S' ⟨q1, q3, q5⟩
          refine ⟨q1.1, hT17.sb ⟨q1.1, fun m hm hn => q1.2 m (by omega) (by simp; omega)⟩, ?_, ?_⟩
          · rw [q1.2 _ (by omega) (by simp; omega), hs1617.2 _ (by omega) (by simp)]; exact kk1
          · rw [q1.2 _ (by omega) (by simp; omega), hs1617.2 _ (by omega) (by simp)]; exact kk2
        · rintro dn S' S'' ⟨q1, q3, q5⟩ hs'
          have hn' := q1.1
          exact ⟨q1.trans hs' (by simp), by rw [hs'.2 _ (by omega) (by simp)]; exact q3, q5⟩
        · rintro dn y rest S' P' hst ⟨q1, q3, q5⟩ hP1 hP2
          have hx : y ∈ c.cg.tk.steps (set, b.2.1) := by rw [hst]; simp
          obtain ⟨i', ⟨t1, t2⟩, e1, e2⟩ := y
          have hsb := step_bd sm (mem_steps.1 hx)
          simp only at hsb
          rw [← hlo2] at q3
          refine callRd' q3 rfl ?_
          have hn' := q1.1
          simp
          rw [AS.get_put_ne _ _ (by omega), AS.get_put_ne _ _ (by omega), AS.get_bump, q3, kra_ready]
          generalize hU0 : AS.put (AS.put (AS.put (AS.bump S' 1) _ _) _ _) _ _ = U0
          have j0 : U0.get S'.next = some (.row [.int .i64 i', .int .i64 t1, .int .i64 t2, .int .i64 e1, .int .i64 e2] 135 true true) := by rw [← hU0, AS.get_put_ne _ _ (by omega), AS.get_put_self]
          have hu0 : Same S' U0 [S16.next + 1] := by
            rw [← hU0]
            exact ((((Same.refl _ _).bu).pn (by omega)).pn (by omega)).po (by simp)
          have hnu0 : U0.next = S'.next + 1 := by rw [← hU0]; simp
          obtain ⟨lb, hlb, hlb2, hlb3⟩ : ∃ lb, U0.get (S16.next + 1) = some lb ∧ (∀ (P : En → AS → Prop) (U : AS), KRd (S16.next + 1) P .norm (some lb) U = P (.ret (.bool true)) (U.put (S16.next + 1) lo)) ∧ (∀ (P : En → AS → Prop) (U : AS), KRd (S16.next + 1) P .ret (some lb) U = P (.ret (.bool false)) (U.put (S16.next + 1) lod)) := by
            rw [← hU0, AS.get_put_self]
            exact ⟨_, rfl, fun P U => by rw [← hlo2]; rfl, fun P U => by rw [hld, ← hlo2]; rfl⟩
          clear hU0
          have h17U : Same S17 U0 [S16.next + 1] := q1.trans hu0 (fun m hm _ => hm)
          have wU : U0.get (S14.next + 1) = _ := (h17U.2 _ (by omega) (by simp; omega)).trans w17
          have tU : U0.get S3.next = _ := (h17U.2 _ (by omega) (by simp; omega)).trans t17
          have qU : U0.get (S6.next + 1) = _ := (h17U.2 _ (by omega) (by simp; omega)).trans q17
          have xU : U0.get (S.next + 3) = _ := (h17U.2 _ (by omega) (by simp; omega)).trans x17
          have yU : U0.get (S.next + 4) = _ := (h17U.2 _ (by omega) (by simp; omega)).trans y17
          have mU : MapL U0 S6.next key2 (P.map encB) := m17.stays (h17U.2 _ (by omega) (by simp; omega))
          have hn17U := h17U.1
          simp [j0, wU, tU, qU, undef]
          refine add_ok (c := b.2.2) (d := (e1, e2)) (by unfold Bd; omega) (by unfold Bd; simp only; omega) fun U1 hu1 => ?_
          have hnu1 := hu1.1
          have j1 : U1.get S'.next = _ := (hu1.2 _ (by omega) (by simp)).trans j0
          have w1' : U1.get (S14.next + 1) = _ := (hu1.2 _ (by omega) (by simp)).trans wU
          have t1' : U1.get S3.next = _ := (hu1.2 _ (by omega) (by simp)).trans tU
          have q1' : U1.get (S6.next + 1) = _ := (hu1.2 _ (by omega) (by simp)).trans qU
          have m1' : MapL U1 S6.next key2 (P.map encB) := mU.stays (hu1.2 _ (by omega) (by simp))
          simp [j1, w1', t1', q1', undef]
          refine follows_ok (P := P) (s := (t1, t2)) (v := cadd b.2.2 (e1, e2)) (tot := (A.off, A.mov)) (hMA _ m1') (by omega) fun U2 hu2 => ?_
          have hnu2 := hu2.1
          have hu02 : Same U0 U2 [] := hu1.tr0 hu2
          have x2' : U2.get (S.next + 3) = _ := (hu02.2 _ (by omega) (by simp)).trans xU
          have y2' : U2.get (S.next + 4) = _ := (hu02.2 _ (by omega) (by simp)).trans yU
          have l2' : U2.get (S16.next + 1) = _ := (hu02.2 _ (by omega) (by simp)).trans hlb
          have h17U2 : Same S17 U2 [S16.next + 1] := h17U.trans hu02 (by simp)
          cases hfx : folw P (A.off, A.mov) ((t1 : Int), t2) (cadd b.2.2 (e1, e2)) with
          | false =>
            simp [x2', y2', undef, rowStore1, okc]
            rw [AS.get_put_ne _ _ (by omega), AS.get_put_ne _ _ (by omega), l2', hlb3]
            refine hP2 _ ⟨?_, AS.get_put_self _ _ _, ?_, ?_, ?_⟩
            · exact ((h17U2.mono (by simp)).po (by simp)).po (by simp) |>.po (by simp)
            · exact bad_step hmemP (by rw [hset]; exact hx) hfx
            · rw [AS.get_put_ne _ _ (by omega), AS.get_put_ne _ _ (by omega), AS.get_put_self]
            · rw [AS.get_put_ne _ _ (by omega), AS.get_put_self]
          | true =>
            simp [undef]
            rw [l2', hlb2]
            have hs' : Same S' (U2.put (S16.next + 1) lo) [S16.next + 1] := (hu0.trans hu02 (by simp)).po (by simp)
            refine hP1 _ ⟨q1.trans hs' (fun m hm _ => hm), AS.get_put_self _ _ _, fun x hx' => ?_⟩ hs'
            rcases List.mem_append.1 hx' with h' | h'
            · exact q5 x h'
            · rw [List.mem_singleton.1 h']; exact hfx
        · rintro S' (⟨q1, q3, q5⟩ | ⟨q1, q3, hcpf, qx, qy⟩)
          · rw [← hlo2] at q3
            have hn' := q1.1
            simp only [krg_ret, q3, kre_ready]
            generalize hS18 : AS.put S' (S16.next + 1) _ = S18
            have hs18 : Same S17 S18 [S16.next + 1] := by rw [← hS18]; exact q1.po (by simp)
            have hn18 : S18.next = S'.next := by rw [← hS18]; rfl
            clear hS18
            have h1118 : Same S11 S18 [] := h1117.trans hs18 (fun m hm hl => by simp at hm; omega)
            have h1418 : Same S14 S18 [] := (hs15.tr0 hs1517).trans hs18 (fun m hm hl => by simp at hm; omega)
            simp
            refine hR2 _ _ _ (by rw [List.length_eraseIdx_of_lt hi']; omega) ⟨done ++ [b], rem.eraseIdx i, S16.next :: ns, rfl, ?_, h1118, by omega, ?_, ?_, ?_, ?_, ⟨rfl, rfl, by simp⟩⟩
            · refine hperm.trans ?_
              have := (perm_pick hi').append_left done
              rw [hbd] at this
              refine this.trans ?_
              simp
            · have := hcur.1.stays (S' := S18) (h1418.2 _ (by omega) (by simp)) (h1418.2 _ (by omega) (by simp))
              rw [← map_erase] at this
              exact this
            · intro b' hb'
              rcases List.mem_append.1 hb' with h' | h'
              · exact hdone b' h'
              · rw [List.mem_singleton.1 h']
                unfold stepsB
                exact List.all_eq_true.2 fun x hx => q5 x (by rw [hset] at hx; exact hx)
            · rw [List.nodup_cons]
              exact ⟨fun hm => by have := (hnd _ hm).2.2; omega, hns⟩
            · intro m hm
              rcases List.mem_cons.1 hm with rfl | hm
              · exact ⟨by rw [hs18.2 _ (by omega) (by simp)]; exact gd, by omega, by omega⟩
              · obtain ⟨u1, u2, u3⟩ := hnd m hm
                refine ⟨?_, u2, by omega⟩
                rw [h1418.2 _ (by omega) (by simp), hs14.2 _ (by omega) (by simp; omega)]; exact u1
          · rw [hld, ← hlo2] at q3
            simp only at q3
            have hn' := q1.1
            simp only [krg_ret, q3, kre_done]
            generalize hS18 : AS.put S' (S16.next + 1) _ = S18
            have hs18 : Same S17 S18 [S16.next + 1, S.next + 3, S.next + 4] := by rw [← hS18]; exact q1.po (by simp)
            have x18 : S18.get (S.next + 3) = some (.row [.bool false] 4 true true) := by rw [← hS18, AS.get_put_ne _ _ (by omega)]; exact qx
            have y18 : S18.get (S.next + 4) = some (.row [.int .i64 0] 29 true true) := by rw [← hS18, AS.get_put_ne _ _ (by omega)]; exact qy
            have hn18 : S18.next = S'.next := by rw [← hS18]; rfl
            clear hS18
            have hsS : Same S S18 [] := (s11.tr0 h1117).trans hs18 (fun m hm hl => by simp at hm; omega)
            obtain ⟨V, d1', d2, d3, d4⟩ := fin2 false (S16.next :: ns) S18 (.inr ⟨hsS, by have := h1117.1; omega⟩) x18 y18 (by rw [List.nodup_cons]; exact ⟨fun hm => by have := (hnd _ hm).2.2; omega, hns⟩) (fun m hm => by
              rcases List.mem_cons.1 hm with rfl | hm
              · exact ⟨by rw [hs18.2 _ (by omega) (by simp; omega)]; exact gd, by omega⟩
              · obtain ⟨u1, u2, u3⟩ := hnd m hm
                refine ⟨?_, u2⟩
                rw [hs18.2 _ (by omega) (by simp; omega), hs1517.2 _ (by omega) (by simp), hs15.2 _ (by omega) (by simp), hs14.2 _ (by omega) (by simp; omega)]; exact u1) hcpf
            have d1'' : drain ({ target := .collected S16.next, args := #[] } :: dsOf ns) S18 = some V := d1'
            simp [d1'', d2, d3]
            exact d4
end Go.Gx.A
