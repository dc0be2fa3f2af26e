/-
  The program's Moves.
-/
import Derived.Test.YtamljcdnphjgaaaPn
import Derived.Test.YtamljcdnphjgaaaPt
import Derived.Test.YtamljcdnphjgaaaPq

set_option linter.all false
set_option linter.deprecated false
set_option linter.unusedSimpArgs false
set_option linter.unusedVariables false

namespace Go.Gx.A
open Go.Gx Go.Proofs
set_option maxRecDepth 100000
set_option linter.all false
set_option maxHeartbeats 2000000
def movesR (old order : List Int) : List Mv := if errL [old, order] = 0 then movesO (kept old order) old order else []
theorem Moves_ok' {S : AS} {v w : Value} {old order : List Int} (h : Is S v old) (k : Is S w order) {Q : En → AS → Prop}
    (hq : ∀ S' mv, Same S S' [] → Ms S' mv (movesR old order) → Q (.ret (.tuple #[mv, .int .i64 (errL [old, order])])) S') : Call G 26 [v, w] S Q := by
  obtain ⟨a, cap, rfl⟩ := h.shape
  obtain ⟨b, cap', rfl⟩ := k.shape
  refine call_run' (G := G) rfl (ext_none (by decide)) ?_
  simp [placeIn, splice]
  have s1 : ∀ o, Same S ((S.bump 1).put S.next o) [] := fun o => by
    repeat' first | exact Same.refl _ _ | apply Same.bu | (refine Same.pn ?_ (by first | omega | (simp; omega)))
  refine lists_ok (ls_two (wr := true) (ex := true) (h.stay0 (s1 _)) (k.stay0 (s1 _)) (by simp) (by simp)) fun S1 hs1 => ?_
  have hs := (s1 _).tr0 hs1
  by_cases he : errL [old, order] = 0
  · obtain ⟨b1, b2, b3, b4⟩ := errL_nodup he
    simp [he]
    refine clone_ok (h.stay0 hs) (by omega) fun S2 ca cc hs2 hoc how => ?_
    simp
    have hs12 := hs.tr0 hs2
    refine run_loop (fun j a' S' => ∃ i wv mv, j = old.length - i ∧ i ≤ old.length ∧ Same S S' [] ∧ Has a' 101 [(0, .slice a old.length cap), (1, .slice b order.length cap'), (7, wv), (8, mv), (25, .slice a old.length cap), (26, .int .i64 old.length), (27, .int .i64 i)] ∧
      Oc S' wv (dropN old order i).1 ∧ (∀ m ∈ ownsOf wv, S.next ≤ m) ∧ Ms S' mv (dropN old order i).2 ∧ (∀ m ∈ ownsOf mv, S.next ≤ m) ∧ (∀ m ∈ ownsOf wv, m ∉ ownsOf mv)) _ ⟨0, _, .slice none 0 0, rfl, by omega, hs12, ⟨rfl, rfl, by simp⟩, hoc, fun m hm => by have := how m hm; have := hs.1; omega, Ms.nil, by simp [ownsOf], by simp [ownsOf]⟩ ?_
    rintro _ R hR _ S3 ⟨i, wv, mv, rfl, hi, hs3, hA, hw, hwo, hm, hmo, hd⟩
    obtain ⟨x, rfl⟩ := hA.lit
    obtain ⟨d1, d2, d3⟩ := dropN_mem (order := order) b3 i hi
    by_cases hlt : i < old.length
    · have hwS := wrapS (show i < 9223372036854775807 by omega)
      obtain ⟨p, o, cells, e, wr, ex, h1, h2, h3, h4, h5⟩ := (h.stay0 hs3).at hlt
      have hg : old.getD i 0 = old[i] := by rw [List.getD_eq_getElem?_getD, List.getElem?_eq_getElem hlt]; rfl
      simp [fillF, pickL, hlt, h1, h2, h5]
      refine contains_ok (k.stay0 hs3) ?_
      by_cases hc : old[i] ∈ order
      · simp [hc, hwS]
        have e1 : dropN old order (i + 1) = dropN old order i := by simp only [dropN, drop1, hg, if_pos hc]
        exact hR _ _ _ (by omega) ⟨i + 1, wv, mv, rfl, by omega, hs3, ⟨rfl, rfl, by simp⟩, by rw [e1]; exact hw, hwo, by rw [e1]; exact hm, hmo, hd⟩
      · simp [hc]
        refine index_ok hw.is ?_
        have hmem : old[i] ∈ (dropN old order i).1 := d1 i (Nat.le_refl _) hlt
        obtain ⟨q, hqe⟩ : ∃ q : Nat, ixI (dropN old order i).1 old[i] = q := ⟨_, (Int.toNat_of_nonneg (ixI_mem.2 hmem)).symm⟩
        have hql : q < (dropN old order i).1.length := by have := ixI_lt (dropN old order i).1 old[i]; omega
        have e1 : dropN old order (i + 1) = ((dropN old order i).1.eraseIdx q, (dropN old order i).2 ++ [(old[i], (q : Int), -1)]) := by
          simp only [dropN, drop1, hg, if_neg hc, hqe]; simp
        have hwq : IntKind.i64.wrap ((q : Int) + 1) = (q : Int) + 1 := wrapS (by omega)
        obtain ⟨T', f1, f2, f3, f4⟩ := hm.app1 (T := (S3.bump 2).put S3.next (.row (mvC (old[i], (q : Int), -1)) 97 true true)) (p := S3.next) (fr := S3.next + 1) (m := (old[i], (q : Int), -1)) (wr := true) (ex := true)
          (by repeat' first | exact Same.refl _ _ | apply Same.bu | (refine Same.pn ?_ (by first | omega | (simp; omega)))) (by simp) (by simp) (by omega) (by omega)
        simp only [mvC] at f1
        simp [hqe, placeIn, splice, f1, hwq]
        have hw' : Oc T' wv (dropN old order i).1 := hw.stays f3 hd
        refine delete_ok hw' hql fun S4 ea ec hs4 hoc4 how4 => ?_
        simp [hwS]
        have hwl : ∀ m ∈ ownsOf wv, m < S3.next := hw.is.cs.lt
        have hdj : ∀ m ∈ ownsOf (.slice (some ⟨S3.next + 1, 0, none⟩) ((dropN old order i).2.length + 1) ((dropN old order i).2.length + 1)), m ∉ ownsOf wv := fun m hm hn => by
          have := hwl m hn
          simp [ownsOf] at hm
          omega
        have hn3 := hs3.1
        refine hR _ _ _ (by omega) ⟨i + 1, _, _, rfl, by omega, ?_, ⟨rfl, rfl, by simp⟩, by rw [e1]; exact hoc4, fun m hm => hwo m (how4 m hm), by rw [e1]; exact f2.stays hs4 hdj, fun m hm => ?_, fun m hm hn => hdj m hn (how4 m hm)⟩
        · exact (hs3.trans f3 (fun m hm hl => by have := hmo m hm; omega)).trans hs4 (fun m hm hl => by have := hwo m hm; omega)
        · simp [ownsOf] at hm; omega
    · obtain rfl : i = old.length := by omega
      simp [fillF, pickL]
      refine kept_ok (h.stay0 hs3) (k.stay0 hs3) b4 (by omega) (by omega) fun S4 oa n hs4 hn how4 hb4 => ?_
      simp
      have hn3 := hs3.1
      have hn4 := hs4.1
      have hwl : ∀ m ∈ ownsOf wv, m < S3.next := hw.is.cs.lt
      have hml : ∀ m ∈ ownsOf mv, m < S3.next := SlAt.owns_lt hm
      refine run_loop (fun j a' S' => ∃ i wv mv, j = order.length - i ∧ i ≤ order.length ∧ Same S S' [] ∧ Has a' 101 [(1, .slice b order.length cap'), (7, wv), (8, mv), (12, .slice oa n n), (53, .slice b order.length cap'), (54, .int .i64 order.length), (55, .int .i64 i)] ∧
        Oc S' wv (placeN (kept old order) order (dropN old order old.length) i).1 ∧ (∀ m ∈ ownsOf wv, S.next ≤ m) ∧ Ms S' mv (placeN (kept old order) order (dropN old order old.length) i).2 ∧ (∀ m ∈ ownsOf mv, S.next ≤ m) ∧ (∀ m ∈ ownsOf wv, m ∉ ownsOf mv) ∧
        Is S' (.slice oa n n) (kept old order) ∧ (∀ m ∈ ownsOf (.slice oa n n), S.next ≤ m) ∧ (∀ m ∈ ownsOf (.slice oa n n), m ∉ ownsOf wv ∧ m ∉ ownsOf mv)) _ ⟨0, wv, mv, rfl, by omega, hs3.tr0 hs4, ⟨rfl, rfl, by simp⟩, hw.stay0 hs4, hwo, hm.stays hs4 (by simp), hmo, hd, how4.is, fun m hm => by have := hb4 m hm; omega, fun m hm => ⟨fun h => by have := hb4 m hm; have := hwl m h; omega, fun h => by have := hb4 m hm; have := hml m h; omega⟩⟩ ?_
      clear hw hwo hm hmo hd hA hwl hml
      rintro _ R hR _ S5 ⟨i, wv, mv, rfl, hi, hs5, hA, hw, hwo, hm, hmo, hd, hK, hKo, hKd⟩
      obtain ⟨x, rfl⟩ := hA.lit
      obtain ⟨l1, l2⟩ := placeN_len (kept := kept old order) (order := order) (s := dropN old order old.length) i
      by_cases hlt : i < order.length
      · have hwS := wrapS (show i < 9223372036854775807 by omega)
        obtain ⟨p, o, cells, e, wr, ex, h1, h2, h3, h4, h5⟩ := (k.stay0 hs5).at hlt
        have hg : order.getD i 0 = order[i] := by rw [List.getD_eq_getElem?_getD, List.getElem?_eq_getElem hlt]; rfl
        simp [fillF, pickL, hlt, h1, h2, h5]
        refine contains_ok hK ?_
        by_cases hc : order[i] ∈ kept old order
        · simp [hc, hwS]
          have e1 : placeN (kept old order) order (dropN old order old.length) (i + 1) = placeN (kept old order) order (dropN old order old.length) i := by simp only [placeN, place1, hg, if_pos hc]
          exact hR _ _ _ (by omega) ⟨i + 1, wv, mv, rfl, by omega, hs5, ⟨rfl, rfl, by simp⟩, by rw [e1]; exact hw, hwo, by rw [e1]; exact hm, hmo, hd, hK, hKo, hKd⟩
        · simp [hc]
          refine index_ok (hw.stay0 (.bu (.refl _ _))).is ?_
          generalize hW : (placeN (kept old order) order (dropN old order old.length) i) = W at *
          have hge := ixI_ge W.1 order[i]
          have hlx := ixI_lt W.1 order[i]
          have hwl : ∀ m ∈ ownsOf wv, m < S5.next := hw.is.cs.lt
          have hml : ∀ m ∈ ownsOf mv, m < S5.next := SlAt.owns_lt hm
          have hn5 := hs5.1
          have hcl := cutO_len W.1 order[i]
          have t6 : ∀ o o', Same S5 (((S5.bump 1).put S5.next o).put S5.next o') [] := fun o o' => by
            repeat' first | exact Same.refl _ _ | apply Same.bu | (refine Same.pn ?_ (by first | omega | (simp; omega)))
          by_cases hf : 0 ≤ ixI W.1 order[i]
          case' pos =>
            obtain ⟨q, hqe⟩ : ∃ q : Nat, ixI W.1 order[i] = q := ⟨_, (Int.toNat_of_nonneg hf).symm⟩
            have hwq : IntKind.i64.wrap ((q : Int) + 1) = (q : Int) + 1 := wrapS (by omega)
            have hcut : cutO W.1 order[i] = W.1.eraseIdx q := by unfold cutO; rw [if_pos hf, hqe]; rfl
            simp [placeIn, splice, rowStore, okc, hqe, hwq]
            refine delete_ok (hw.stay0 (t6 _ _)) (by omega) fun S6 ea ec hs6 hoc6 how6 => ?_
            have g6 : S6.get S5.next = some (.row [.int .i64 order[i], .int .i64 (ixI W.1 order[i]), .int .i64 0] 97 true true) := by
              rw [hs6.2 S5.next (by simp) (fun h => by have := hwl _ h; omega), hqe]
              simp
            have hn6 : S5.next + 1 ≤ S6.next := by have := hs6.1; simpa using this
            have hs56 : Same S5 S6 (ownsOf wv) := ((t6 _ _).mono (by simp)).trans hs6 (fun m h _ => h)
            rw [← hcut] at hoc6 how6 ⊢
            simp [g6]
            generalize hWV : Value.slice ea (cutO W.1 order[i]).length ec = wv6 at *
            clear hs6
          case' neg =>
            have hcut : cutO W.1 order[i] = W.1 := by unfold cutO; rw [if_neg hf]
            simp [placeIn, splice, rowStore, okc, hf]
            obtain ⟨S6, hS6⟩ : ∃ S6, S6 = (((S5.bump 1).put S5.next (AObj.row [Value.int IntKind.i64 0, Value.int IntKind.i64 0, Value.int IntKind.i64 0] 97 true true)).put S5.next (AObj.row [Value.int IntKind.i64 order[i], Value.int IntKind.i64 (ixI W.fst order[i]), Value.int IntKind.i64 0] 97 true true)) := ⟨_, rfl⟩
            have g6 : S6.get S5.next = some (.row [.int .i64 order[i], .int .i64 (ixI W.1 order[i]), .int .i64 0] 97 true true) := by
              rw [hS6]; simp
            have hn6 : S5.next + 1 ≤ S6.next := by rw [hS6]; simp
            have hs56 : Same S5 S6 (ownsOf wv) := by rw [hS6]; exact (t6 _ _).mono (by simp)
            have hoc6 : Oc S6 wv (cutO W.1 order[i]) := by rw [hcut, hS6]; exact hw.stay0 (t6 _ _)
            rw [← hS6]
            obtain ⟨wv6, hwv6⟩ : ∃ z, z = wv := ⟨_, rfl⟩
            have how6 : ∀ m ∈ ownsOf wv6, m ∈ ownsOf wv := fun m h => hwv6 ▸ h
            rw [← hwv6] at hoc6 ⊢
          all_goals
            have hS6 : Same S S6 [] := hs5.trans hs56 (fun m hm hl => by have := hwo m hm; omega)
            have hg2 := ixI_ge (cutO W.1 order[i]) (order.getD (i - 1) 0)
            have hl2 := ixI_lt (cutO W.1 order[i]) (order.getD (i - 1) 0)
            have hto := toO_ok order (cutO W.1 order[i]) i
            by_cases hj : 0 < i
            case' pos =>
              have hwm : IntKind.i64.wrap ((i : Int) - 1) = ((i - 1 : Nat) : Int) := by rw [wrap64 (by omega) (by omega)]; omega
              obtain ⟨p', o', cells', e', wr', ex', j1, j2, j3, j4, j5⟩ := (k.stay0 hS6).at (i := i - 1) (by omega)
              have hgj : order.getD (i - 1) 0 = order[i - 1] := by rw [List.getD_eq_getElem?_getD, List.getElem?_eq_getElem (by omega)]; rfl
              have htoe : toO order (cutO W.1 order[i]) i = ixI (cutO W.1 order[i]) order[i - 1] + 1 := by unfold toO; rw [if_pos hj, hgj]
              have hj' : i - 1 < order.length := by omega
              simp [hj, hwm, hj', j1, j2, j5]
              refine index_ok hoc6.is ?_
              rw [hgj] at hg2 hl2
              have hwp : IntKind.i64.wrap (ixI (cutO W.1 order[i]) order[i - 1] + 1) = ixI (cutO W.1 order[i]) order[i - 1] + 1 := wrap64 (by omega) (by omega)
              simp [g6, rowStore, okc, splice, hwp]
              rw [← htoe]
              obtain ⟨S7, hS7⟩ : ∃ S7, S7 = S6.put S5.next (AObj.row [Value.int IntKind.i64 order[i], Value.int IntKind.i64 (ixI W.fst order[i]), Value.int IntKind.i64 (toO order (cutO W.fst order[i]) i)] 97 true true) := ⟨_, rfl⟩
              have g7 : S7.get S5.next = some (.row (mvC (order[i], ixI W.1 order[i], toO order (cutO W.1 order[i]) i)) 97 true true) := by rw [hS7, AS.get_put_self]; rfl
              have hs67 : Same S6 S7 [S5.next] := by rw [hS7]; exact .po (.refl _ _) (by simp)
              have hn67 : S7.next = S6.next := by rw [hS7]; rfl
              rw [← hS7, ← hn67]
            case' neg =>
              have htoe : toO order (cutO W.1 order[i]) i = 0 := by unfold toO; rw [if_neg hj]
              obtain ⟨S7, hS7⟩ : ∃ S7, S7 = S6 := ⟨_, rfl⟩
              rw [← hS7]
              have g7 : S7.get S5.next = some (.row (mvC (order[i], ixI W.1 order[i], toO order (cutO W.1 order[i]) i)) 97 true true) := by rw [hS7, g6, htoe]; rfl
              have hs67 : Same S6 S7 [S5.next] := by rw [hS7]; exact .refl _ _
              have hn67 : S7.next = S6.next := by rw [hS7]
              have g7' : S7.get S5.next = some (.row [.int .i64 order[i], .int .i64 (ixI W.1 order[i]), .int .i64 (toO order (cutO W.1 order[i]) i)] 97 true true) := g7
              simp [hj, g7']
            all_goals
              obtain ⟨tn, htn⟩ : ∃ tn : Nat, toO order (cutO W.1 order[i]) i = tn := ⟨_, (Int.toNat_of_nonneg hto.1).symm⟩
              have hoc7 : Oc S7 wv6 (cutO W.1 order[i]) := hoc6.stays hs67 (fun m hm => by have := hwl m (how6 m hm); simp; omega)
              simp [placeIn, splice]
              rw [htn] at g7 hto ⊢
              have t8 : ∀ o, Same S7 ((S7.bump 1).put S7.next o) [] := fun o => by
                repeat' first | exact Same.refl _ _ | apply Same.bu | (refine Same.pn ?_ (by first | omega | (simp; omega)))
              have hwl7 : ∀ m ∈ ownsOf wv6, m < S7.next := hoc7.is.cs.lt
              refine insert_ok (hoc7.stay0 (t8 _)) (i := tn) (by omega) (by omega) (vb := S7.next) (x := order[i]) (exv := true) (by rw [AS.get_put_self]) (fun h => by have := hwl7 _ h; omega) fun S8 hs8 hoc8 => ?_
              have hn8 := hs8.1
              simp at hn8
              have g8 : S8.get S5.next = some (.row (mvC (order[i], ixI W.1 order[i], (tn : Int))) 97 true true) := by
                rw [hs8.2 S5.next (by simp; omega) (fun h => by have := hwl _ (how6 _ h); omega), (t8 _).2 S5.next (by omega) (by simp), g7]
              simp only [mvC] at g8
              simp [g8, placeIn, splice]
              have hs57 : Same S5 S7 (ownsOf wv) := hs56.trans hs67 (fun m hm hl => by simp at hm; omega)
              have hs58 : Same S5 S8 (ownsOf wv) := (hs57.trans (t8 _) (by simp)).trans hs8 (fun m hm _ => how6 m hm)
              have hm8 : Ms S8 mv W.2 := hm.stays hs58 (fun m hm' hw => hd m hw hm')
              obtain ⟨T', f1, f2, f3, f4⟩ := hm8.app1 (T := (S8.bump 2).put S8.next (.row (mvC (order[i], ixI W.1 order[i], (tn : Int))) 97 true true)) (p := S8.next) (fr := S8.next + 1) (m := (order[i], ixI W.1 order[i], (tn : Int))) (wr := true) (ex := true)
                (by repeat' first | exact Same.refl _ _ | apply Same.bu | (refine Same.pn ?_ (by first | omega | (simp; omega)))) (by simp) (by simp) (by omega) (by omega)
              simp only [mvC] at f1
              simp [f1, hwS]
              have e1 : placeN (kept old order) order (dropN old order old.length) (i + 1) = (ins1 (cutO W.1 order[i]) tn order[i], W.2 ++ [(order[i], ixI W.1 order[i], (tn : Int))]) := by
                simp only [placeN, place1, hg, hW, if_neg hc, htn]; simp
              have hn7 : S5.next + 1 ≤ S7.next := by omega
              have hkl : ∀ m ∈ ownsOf (Value.slice oa n n), m < S5.next := hK.cs.lt
              have hnx : ((S7.bump 1).put S7.next (AObj.row [Value.int IntKind.i64 order[i]] 3 true true)).next = S7.next + 1 := by simp
              rw [hnx] at hoc8
              generalize hwv' : Value.slice (some { block := S7.next + 1, off := 0 }) (ins1 (cutO W.1 order[i]) tn order[i]).length (ins1 (cutO W.1 order[i]) tn order[i]).length = wv' at *
              generalize hmv' : Value.slice (some { block := S8.next + 1, off := 0 }) (W.2.length + 1) (W.2.length + 1) = mv' at *
              have ow1 : ∀ m ∈ ownsOf wv', m = S7.next + 1 := fun m hm => by rw [← hwv'] at hm; simpa [ownsOf] using hm
              have ow2 : ∀ m ∈ ownsOf mv', m = S8.next + 1 := fun m hm => by rw [← hmv'] at hm; simpa [ownsOf] using hm
              have k1 : Same S5 T' (ownsOf wv ++ ownsOf mv) := (hs58.mono (fun m hm _ => by simp [hm])).trans f3 (fun m hm _ => by simp [hm])
              have k2 : Same S T' [] := hs5.trans k1 (fun m hm hl => by
                rcases List.mem_append.1 hm with h | h
                · have := hwo m h; omega
                · have := hmo m h; omega)
              have k3 : Oc T' wv' (ins1 (cutO W.1 order[i]) tn order[i]) := hoc8.stays f3 (fun m hm hn => by have := ow1 m hm; have := hml m hn; omega)
              have k4 : Is T' (Value.slice oa n n) (kept old order) := hK.stays k1 (fun m hm hn => by
                rcases List.mem_append.1 hn with h | h
                · exact (hKd m hm).1 h
                · exact (hKd m hm).2 h)
              refine hR _ _ _ (by omega) ⟨i + 1, wv', mv', rfl, by omega, k2, ⟨rfl, rfl, by simp⟩, by rw [e1]; exact k3, fun m hm => by have := ow1 m hm; omega, by rw [e1]; exact f2, fun m hm => by have := ow2 m hm; omega, fun m hm hn => by have := ow1 m hm; have := ow2 m hn; omega, k4, hKo, fun m hm => ⟨fun hn => by have := ow1 m hn; have := hkl m hm; omega, fun hn => by have := ow2 m hn; have := hkl m hm; omega⟩⟩
      · obtain rfl : i = order.length := by omega
        simp [fillF, pickL]
        have := hq S5 mv hs5 (by unfold movesR; rw [if_pos he]; exact hm)
        rw [he] at this
        exact this
  · simp [he]
    have := hq S1 (.slice none 0 0) hs (by unfold movesR; rw [if_neg he]; exact Ms.nil)
    exact this
end Go.Gx.A

/-
  The reference's Moves; AmendMoves.
-/
namespace Go.Gx.A
open Go.Gx Go.Proofs
set_option maxRecDepth 100000
set_option linter.all false
set_option maxHeartbeats 2000000
theorem app0 {T : AS} {v : Value} {l : List Int} {p fr : Nat} (h : Is T v l) (hl : l.length ≤ 100000) (hp : T.get p = some (.row [] 3 true true)) (hpn : p < T.next) (hfr : fr < T.next) :
    ∃ T' a cap, appV T fr 3 1 8 (.slice (some ⟨p, 0, none⟩) 0 0) v = some (.slice a l.length cap, T') ∧ Oc T' (.slice a l.length cap) l ∧ Same T T' [fr] ∧ T'.next = T.next ∧ ∀ m ∈ ownsOf (.slice a l.length cap), m = p ∨ m = fr := by
  have hy := h.cs.cells
  rw [ints_len] at hy
  have hsl : SlAt T 3 (.slice (some ⟨p, 0, none⟩) 0 0) (ones []) := .inr ⟨p, true, rfl, by simpa [ones] using hp, hpn⟩
  by_cases hl0 : l = []
  · subst hl0
    refine ⟨T, some ⟨p, 0, none⟩, 0, ?_, .inr ⟨p, 0, [], true, rfl, rfl, rfl, by simpa using hp, hpn, by omega⟩, .refl _ _, rfl, fun m hm => .inl (by simpa [ownsOf] using hm)⟩
    unfold appV
    rw [hy]
    simp
  · have hne : ones l ≠ [] := by
      intro e
      have := congrArg List.length e
      simp at this
      exact hl0 this
    have hnil : ∀ (q : AS) (c : List Value) (e : TypeId) (w x : Bool), True := fun _ _ _ _ _ => trivial
    have e1 : appV T fr 3 1 8 (.slice (some ⟨p, 0, none⟩) 0 0) v = some (vs fr 0 l.length l.length, T.put fr (.row (ints l) 3 true false)) := by
      unfold appV
      rw [hy]
      have : 0 < l.length := List.length_pos_iff.2 hl0
      simp only []
      rw [if_neg (by omega), if_pos ⟨by omega, by omega, by omega⟩, hp]
      simp
    refine ⟨_, some ⟨fr, 0, none⟩, l.length, e1, .inr ⟨fr, l.length, [], false, rfl, by simp, rfl, by rw [AS.get_put_self]; simp, by simpa using hfr, hl⟩, same_put _ _ _, rfl, fun m hm => .inr (by simpa [ownsOf] using hm)⟩
end Go.Gx.A

/-
  AmendMoves.
-/
namespace Go.Gx.A
open Go.Gx Go.Proofs
set_option maxRecDepth 100000
set_option linter.all false
set_option maxHeartbeats 1000000
theorem placeN_len' (old order : List Int) : (movesR old order).length ≤ old.length + order.length := by
  unfold movesR
  split
  · rename_i he
    obtain ⟨b1, b2, b3, b4⟩ := errL_nodup he
    unfold movesO
    have h1 := (placeN_len (kept := kept old order) (order := order) (s := dropN old order old.length) order.length).2
    have h2 := (dropN_mem (order := order) b3 old.length (Nat.le_refl _)).2.2
    omega
  · simp
end Go.Gx.A

/-
  The reference's best orders: less, one order tried.
-/
namespace Go.Gx.A
open Go.Gx Go.Proofs
set_option maxRecDepth 100000
set_option linter.all false
set_option maxHeartbeats 2000000
structure BestAt (S : AS) (lo bp : Nat) (vb : Value) (vals : List Value) (b : Best) : Prop where
  row : ∃ e, S.get bp = some (.row [.int .i64 b.1.1, .int .i64 b.1.2, vb] 118 true e)
  lt : bp < S.next
  sl : SlAt S 25 vb (sing vals)
  len : vals.length = b.2.length
  pt : ∀ (i : Nat) (v : Value) (l : List Int), vals[i]? = some v → b.2[i]? = some l → Oc S v l ∧ ∀ m ∈ ownsOf v, m ≠ bp ∧ m ∉ ownsOf vb
  ne : bp ∉ ownsOf vb
  hi : lo ≤ bp ∧ ∀ m ∈ ownsOf vb, lo ≤ m
  inn : ∀ v ∈ vals, ∀ m ∈ ownsOf v, lo ≤ m
structure TailAt (S V : AS) (lo bp : Nat) (vb v2 : Value) (vals2 : List Value) (L : List (List Int)) (cc : Cost) (be : Bool) : Prop where
  same : Same S V [bp]
  row : V.get bp = some (.row [.int .i64 cc.1, .int .i64 cc.2, v2] 118 true be)
  lt : bp < V.next
  sl : SlAt V 25 v2 (sing vals2)
  len : vals2.length = L.length
  pt : ∀ (i : Nat) (v : Value) (l : List Int), vals2[i]? = some v → L[i]? = some l → Oc V v l ∧ ∀ m ∈ ownsOf v, m ≠ bp ∧ m ∉ ownsOf v2
  sub : ∀ m ∈ ownsOf v2, m ∈ ownsOf vb
  inn : ∀ v ∈ vals2, ∀ m ∈ ownsOf v, lo ≤ m
theorem TailAt.of {S V : AS} {lo bp : Nat} {vb : Value} {vals : List Value} {b : Best} {cc : Cost} {be : Bool} (h : BestAt S lo bp vb vals b) (hs : Same S V [bp]) (g : V.get bp = some (.row [.int .i64 cc.1, .int .i64 cc.2, vb] 118 true be)) : TailAt S V lo bp vb vb vals b.2 cc be :=
  ⟨hs, g, Nat.lt_of_lt_of_le h.lt hs.1, h.sl.stays hs (fun m hm hk => by simp at hk; exact h.ne (hk ▸ hm)), h.len, fun i v l h1 h2 => ⟨(h.pt i v l h1 h2).1.stays hs fun m hm hk => ((h.pt i v l h1 h2).2 m hm).1 (by simpa using hk), (h.pt i v l h1 h2).2⟩, fun m hm => hm, h.inn⟩
end Go.Gx.A

/-
  The reference's try.
-/
namespace Go.Gx.A
open Go.Gx Go.Proofs
set_option maxRecDepth 100000
set_option linter.all false
set_option maxHeartbeats 2000000
end Go.Gx.A

/-
  The reference's best orders and its amendment.
-/
namespace Go.Gx.A
open Go.Gx Go.Proofs
set_option maxRecDepth 100000
set_option linter.all false
set_option maxHeartbeats 2000000
end Go.Gx.A

/-
  The reference's amendment; AmendAmends.
-/
namespace Go.Gx.A
open Go.Gx Go.Proofs
set_option maxRecDepth 100000
set_option linter.all false
set_option maxHeartbeats 2000000
def amdR (c : Chg) : Amd := if c.check = 0 then c.cg.amd else ⟨[], 0, 0, []⟩
end Go.Gx.A
