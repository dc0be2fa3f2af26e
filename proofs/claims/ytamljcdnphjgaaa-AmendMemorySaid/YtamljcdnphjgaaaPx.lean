/-
  Rebase; AmendRebases.
-/
import Derived.Test.YtamljcdnphjgaaaPv
import Derived.Test.YtamljcdnphjgaaaPm
import Derived.Test.YtamljcdnphjgaaaPu

set_option linter.all false
set_option linter.deprecated false
set_option linter.unusedSimpArgs false
set_option linter.unusedVariables false

namespace Go.Gx.A
open Go.Gx Go.Proofs
set_option maxRecDepth 100000
set_option linter.all false
set_option maxHeartbeats 2000000
abbrev pV (p : Int × Int) : Value := .agg #[.int .i64 p.1, .int .i64 p.2]
theorem Prs.shape' {S : AS} {v : Value} {P : List (Int × Int)} (h : Prs S v P) : ∃ a cap, v = .slice a P.length cap := by
  obtain ⟨a, cap, e⟩ := h.shape
  exact ⟨a, cap, by rw [e, List.length_map]⟩
theorem Prs.at {S : AS} {v : Value} {P : List (Int × Int)} (h : Prs S v P) {i : Nat} (hi : i < P.length) :
    ∃ p o cells e wr ex, (∀ (S' : AS) (j : IntKind), idxE S' 2 none (.int j i) v = .ret (.pointer (some ⟨p, o, none⟩), S')) ∧ S.get p = some (.row cells e wr ex) ∧ p < S.next ∧ p ∈ ownsOf v ∧ rowLoad cells o (some 2) = some (pV P[i]) := by
  obtain ⟨p, o, cells, e, wr, ex, h1, h2, h3, h4, h5, h6⟩ := Ps.idx (S' := S) h (by omega) (j := .i64) (i := i) (l := [.int .i64 P[i].1, .int .i64 P[i].2]) (by simp [hi])
  refine ⟨p, o, cells, e, wr, ex, fun S' j => ?_, h2, h3, h4, h6⟩
  obtain ⟨a, cap, rfl⟩ := h.shape'
  match a with
  | none => simp [idxE] at h1
  | some ⟨b, q, some s⟩ => simp [idxE] at h1
  | some ⟨b, q, none⟩ =>
    simp [hi] at h1 ⊢
    exact h1
end Go.Gx.A

/-
  Apply and Drop; AmendApplies.
-/
namespace Go.Gx.A
open Go.Gx Go.Proofs
set_option maxRecDepth 100000
set_option linter.all false
set_option maxHeartbeats 2000000
theorem assocS {G : Tab} {A B rest : C} {st : List Fr} {a : Act} {S : AS} {Q : Post} (h : Run G (.seq (.seq A B) rest) st a S Q) : Run G (.seq A (.seq B rest)) st a S Q := by
  rw [run_seq] at h ⊢
  rw [run_seq] at h
  refine WP.mono h fun e a S hh => ?_
  cases e with
  | norm =>
    have hh' : Run G B (.seq rest :: st) a S Q := hh
    rw [← run_seq] at hh'
    exact hh'
  | _ => exact hh
theorem cutS {G : Tab} {st : List Fr} {a : Act} {S : AS} {Q : Post} {x rest : C} (I : Act → AS → Prop) (h1 : ∀ M : Act → AS → Prop, (∀ a S, I a S → M a S) → Run G x [] a S (RoundR M (unwind G st Q))) (h2 : ∀ a S, I a S → Run G rest st a S Q) : Run G (.seq x rest) st a S Q := by
  rw [run_seq]
  exact cut_run I h1 h2
def restR (now : List Int) (m : Mv) : List Int := if m.2.1 = -1 then now else now.eraseIdx (ixI now m.1).toNat
def putR (rest : List Int) (m : Mv) : List Int × Int :=
  if m.2.2 = -1 then (rest, 0) else if m.2.2 < 0 ∨ (rest.length : Int) < m.2.2 then ([], 1) else if 200 ≤ rest.length then ([], 2) else (ins1 rest m.2.2.toNat m.1, 0)
def step1 (now : List Int) (m : Mv) : List Int × Int :=
  if m.2.1 ≠ -1 ∧ (ixI now m.1 < 0 ∨ m.2.1 ≠ ixI now m.1) then ([], 5) else if m.2.1 = -1 ∧ 0 ≤ ixI now m.1 then ([], 6) else putR (restR now m) m
def apR : List Mv → List Int → List Int × Int
  | [], now => (now, 0)
  | m :: r, now => if (step1 now m).2 ≠ 0 then ([], (step1 now m).2) else apR r (step1 now m).1
def applyR (old : List Int) (l : List Mv) : List Int × Int :=
  if 200 < old.length ∨ 400 < l.length then ([], 2) else if twice old = true then ([], 6) else apR l old
def dropR (order : List Int) (g : Int) : List Int × Int :=
  if 200 < order.length then ([], 2) else if twice order = true then ([], 6) else if ixI order g < 0 then ([], 5) else (order.eraseIdx (ixI order g).toNat, 0)
theorem ixI_at {l : List Int} (hn : l.Nodup) {i : Nat} (h : i < l.length) : ixI l l[i] = i := by
  have hm := ixI_mem.2 (List.getElem_mem h)
  obtain ⟨k, h1, h2, h3, h4⟩ := ixI_some hm
  rw [h1]
  have e : l[k] = l[i] := by rw [List.getElem?_eq_getElem h2] at h3; exact Option.some.inj h3
  rcases Nat.lt_trichotomy k i with h' | h' | h'
  · exact absurd e (List.pairwise_iff_getElem.1 hn _ _ _ _ h')
  · rw [h']
  · exact absurd e.symm (List.pairwise_iff_getElem.1 hn _ _ _ _ h')
theorem ins1_nodup {l : List Int} {x : Int} (i : Nat) (hn : l.Nodup) (hx : x ∉ l) : (ins1 l i x).Nodup := by
  have hp : (ins1 l i x).Perm (x :: l) := by
    unfold ins1
    have h1 : (l.take i ++ x :: l.drop i).Perm (x :: (l.take i ++ l.drop i)) := List.perm_middle
    rw [List.take_append_drop] at h1
    exact h1
  exact hp.nodup_iff.2 (List.nodup_cons.2 ⟨hx, hn⟩)
theorem step1_keeps {now : List Int} {m : Mv} (hn : now.Nodup) (hl : now.length ≤ 200) : (step1 now m).1.Nodup ∧ (step1 now m).1.length ≤ 200 ∧ (restR now m).length ≤ 200 := by
  have hr : (restR now m).length ≤ 200 := by
    unfold restR
    split
    · exact hl
    · have := List.length_eraseIdx_le now (ixI now m.1).toNat
      omega
  refine ⟨?_, ?_, hr⟩
  · unfold step1
    by_cases h1 : m.2.1 ≠ -1 ∧ (ixI now m.1 < 0 ∨ m.2.1 ≠ ixI now m.1)
    · rw [if_pos h1]; exact List.nodup_nil
    · rw [if_neg h1]
      by_cases h2 : m.2.1 = -1 ∧ 0 ≤ ixI now m.1
      · rw [if_pos h2]; exact List.nodup_nil
      · rw [if_neg h2]
        have hrn : (restR now m).Nodup ∧ m.1 ∉ restR now m := by
          unfold restR
          by_cases h3 : m.2.1 = -1
          · rw [if_pos h3]
            exact ⟨hn, fun hm => h2 ⟨h3, ixI_mem.2 hm⟩⟩
          · rw [if_neg h3]
            have h4 : 0 ≤ ixI now m.1 := by
              by_cases h5 : ixI now m.1 < 0
              · exact absurd ⟨h3, .inl h5⟩ h1
              · omega
            rw [ixI_erase (ixI_mem.1 h4)]
            exact ⟨hn.erase _, fun hm => (List.Nodup.mem_erase_iff hn).1 hm |>.1 rfl⟩
        unfold putR
        split
        · exact hrn.1
        · split
          · exact List.nodup_nil
          · split
            · exact List.nodup_nil
            · exact ins1_nodup _ hrn.1 hrn.2
  · unfold step1
    by_cases h1 : m.2.1 ≠ -1 ∧ (ixI now m.1 < 0 ∨ m.2.1 ≠ ixI now m.1)
    · rw [if_pos h1]; simp
    · rw [if_neg h1]
      by_cases h2 : m.2.1 = -1 ∧ 0 ≤ ixI now m.1
      · rw [if_pos h2]; simp
      · rw [if_neg h2]
        unfold putR
        split
        · exact hr
        · split
          · simp
          · split
            · simp
            · rename_i h5
              simp only [ins1, List.length_append, List.length_take, List.length_cons, List.length_drop]
              omega
theorem move_ok {S : AS} {v : Value} {now : List Int} {g fm tt : Int} (h : Is S v now) (hn : now.Nodup) (hl : now.length ≤ 200) {Q : En → AS → Prop}
    (hq : ∀ S' a cap n, Same S S' [] → n = (step1 now (g, fm, tt)).1.length → Oc S' (.slice a n cap) (step1 now (g, fm, tt)).1 → (∀ m ∈ ownsOf (.slice a n cap), S.next ≤ m) → Q (.ret (.tuple #[.slice a n cap, .int .i64 (step1 now (g, fm, tt)).2])) S') :
    Call G 116 [v, .agg #[.int .i64 g, .int .i64 fm, .int .i64 tt]] S Q := by
  obtain ⟨va, vcap, rfl⟩ := h.shape
  have hk := step1_keeps (m := (g, fm, tt)) hn hl
  have hE : ∀ S' e, Same S S' [] → step1 now (g, fm, tt) = ([], e) → Q (.ret (.tuple #[.slice none 0 0, .int .i64 e])) S' := fun S' e hs he => by
    have := hq S' none 0 0 hs
    rw [he] at this
    exact this rfl (.inl ⟨rfl, rfl⟩) (by simp [ownsOf])
  refine call_run' (G := G) rfl (ext_none (by decide)) ?_
  refine assocS (assocS (assocS (assocS (cutS (fun a' S' => ∃ a cap n, Same S S' [] ∧ S.next < S'.next ∧ S'.get S.next = some (.row [.int .i64 g, .int .i64 fm, .int .i64 tt] 97 true true) ∧ n = (restR now (g, fm, tt)).length ∧ Oc S' (.slice a n cap) (restR now (g, fm, tt)) ∧ (∀ m ∈ ownsOf (.slice a n cap), S.next < m) ∧
    step1 now (g, fm, tt) = putR (restR now (g, fm, tt)) (g, fm, tt) ∧ Has a' 84 [(3, ptr S.next), (7, .slice a n cap)]) ?_ ?_))))
  · intro M hM
    simp
    generalize hS1 : AS.put (AS.bump S 1) _ _ = S1
    have s1 : Same S S1 [] := by rw [← hS1]; exact ((Same.refl _ _).bu).pn (by omega)
    have g1 : S1.get S.next = some (.row [.int .i64 g, .int .i64 fm, .int .i64 tt] 97 true true) := by rw [← hS1]; simp
    have hn1 : S1.next = S.next + 1 := by rw [← hS1]; simp
    clear hS1
    refine contains_ok (h.stay0 s1) ?_
    have hm0 := @ixI_mem now g
    have hge := ixI_ge now g
    have hlt0 := ixI_lt now g
    by_cases c1 : fm = -1
    · subst c1
      by_cases c2 : g ∈ now
      · have hs : step1 now (g, -1, tt) = ([], 6) := by
          unfold step1
          rw [if_neg (by simp), if_pos ⟨rfl, hm0.2 c2⟩]
        simp [-run_draw, c2]
        refine run_calm rfl ?_
        simp [g1, undef]
        exact hE _ _ s1 hs
      · have hs : step1 now (g, -1, tt) = putR (restR now (g, -1, tt)) (g, -1, tt) := by
          unfold step1
          rw [if_neg (by simp), if_neg (fun h => c2 (hm0.1 h.2))]
        simp [-run_draw, c2]
        refine run_calm rfl ?_
        simp [g1, undef]
        refine clone_ok (h.stay0 s1) (by omega) fun S2 a cap hs2 hoc how => ?_
        have s2 := s1.tr0 hs2
        have hn2 := hs2.1
        have g2 : S2.get S.next = _ := (hs2.2 _ (by omega) (by simp)).trans g1
        simp [g2]
        have hrr : restR now (g, -1, tt) = now := if_pos rfl
        exact hM _ _ ⟨a, cap, _, s2, by omega, g2, by rw [hrr], by rw [hrr]; exact hoc, fun m hm => by have := how m hm; omega, hs, ⟨rfl, rfl, by simp⟩⟩
    · by_cases c2 : fm < 0
      · have hs : step1 now (g, fm, tt) = ([], 5) := by
          unfold step1
          rw [if_pos ⟨c1, by show ixI now g < 0 ∨ fm ≠ ixI now g; omega⟩]
        simp [-run_draw]
        refine run_calm rfl ?_
        simp [g1, c1, c2, undef]
        exact hE _ _ s1 hs
      · by_cases c3 : (now.length : Int) ≤ fm
        · have hs : step1 now (g, fm, tt) = ([], 5) := by
            unfold step1
            rw [if_pos ⟨c1, by show ixI now g < 0 ∨ fm ≠ ixI now g; omega⟩]
          simp [-run_draw]
          refine run_calm rfl ?_
          simp [g1, c1, c2, c3, undef]
          exact hE _ _ s1 hs
        · obtain ⟨i, rfl⟩ : ∃ i : Nat, fm = i := ⟨fm.toNat, by omega⟩
          have hi : i < now.length := by omega
          obtain ⟨p, o, cells, e, wr, ex, h1, h2, h3, h4, h5⟩ := (h.stay0 s1).at hi
          have hat := ixI_at hn hi
          by_cases c4 : now[i] = g
          · rw [c4] at hat
            have hs : step1 now (g, (i : Int), tt) = putR (restR now (g, (i : Int), tt)) (g, (i : Int), tt) := by
              unfold step1
              rw [if_neg (by show ¬ ((i : Int) ≠ -1 ∧ (ixI now g < 0 ∨ (i : Int) ≠ ixI now g)); omega), if_neg (by show ¬ ((i : Int) = -1 ∧ _); omega)]
            have c0 : ((i : Int) = -1) = False := eq_false c1
            have c0' : ((i : Int) < 0) = False := eq_false c2
            have hwS := wrapS (show i < 9223372036854775807 by omega)
            simp [-run_draw]
            refine run_calm rfl ?_
            simp [g1, c0, c0', c3, h1, h2, h5, c4, undef]
            refine clone_ok (h.stay0 s1) (by omega) fun S2 a cap hs2 hoc how => ?_
            have s2 := s1.tr0 hs2
            have hn2 := hs2.1
            have g2 : S2.get S.next = _ := (hs2.2 _ (by omega) (by simp)).trans g1
            simp [g2, hwS]
            refine delete_ok hoc hi fun S3 a' cap' hs3 hoc3 hsub => ?_
            have g3 : S3.get S.next = _ := (hs3.2 _ (by omega) (fun hk => by have := how _ hk; omega)).trans g2
            have s3 : Same S S3 [] := s2.trans hs3 (fun m hm hl => by have := how m hm; omega)
            have hn3 := hs3.1
            have hrr : restR now (g, (i : Int), tt) = now.eraseIdx i := by
              unfold restR
              rw [if_neg c1]
              show now.eraseIdx (ixI now g).toNat = _
              rw [hat]; rfl
            simp
            exact hM _ _ ⟨a', cap', _, s3, by omega, g3, by rw [hrr], by rw [hrr]; exact hoc3, fun m hm => by have := how m (hsub m hm); omega, hs, ⟨rfl, rfl, by simp⟩⟩
          · have hcond : ixI now g < 0 ∨ (i : Int) ≠ ixI now g := by
              by_cases h0 : ixI now g < 0
              · exact .inl h0
              · refine .inr fun e => c4 ?_
                obtain ⟨k, k1, k2, k3, k4⟩ := ixI_some (by omega : 0 ≤ ixI now g)
                have : k = i := by omega
                subst this
                rw [List.getElem?_eq_getElem k2] at k3
                exact Option.some.inj k3
            have hs : step1 now (g, (i : Int), tt) = ([], 5) := if_pos ⟨c1, hcond⟩
            have c0 : ((i : Int) = -1) = False := eq_false c1
            have c0' : ((i : Int) < 0) = False := eq_false c2
            simp [-run_draw]
            refine run_calm rfl ?_
            simp [g1, c0, c0', c3, h1, h2, h5, c4, undef]
            exact hE _ _ s1 hs
  · rintro _ S1 ⟨a, cap, n, s1, hn1, g1, rfl, hoc, how, hst, hA⟩
    obtain ⟨x, rfl⟩ := hA.lit
    have hrl := hk.2.2
    generalize hrest : restR now (g, fm, tt) = rest at *
    have hE' : ∀ S' e, Same S S' [] → putR rest (g, fm, tt) = ([], e) → Q (.ret (.tuple #[.slice none 0 0, .int .i64 e])) S' := fun S' e hs he => hE S' e hs (hst.trans he)
    by_cases c1 : tt = -1
    · subst c1
      have hp : putR rest (g, fm, -1) = (rest, 0) := if_pos rfl
      rw [hst, hp] at hq
      have hlx : ¬ ((rest.length : Int) < -1) := by omega
      simp [fillF, pickL, g1, undef, hlx]
      exact hq _ a cap _ s1 rfl hoc (fun m hm => by have := how m hm; omega)
    · by_cases c2 : tt < 0
      · have hp : putR rest (g, fm, tt) = ([], 1) := by unfold putR; rw [if_neg c1, if_pos (.inl c2)]
        have c2' : tt < -1 := by omega
        simp [fillF, pickL, g1, undef, c2']
        exact hE' _ _ s1 hp
      · by_cases c3 : (rest.length : Int) < tt
        · have hp : putR rest (g, fm, tt) = ([], 1) := by unfold putR; rw [if_neg c1, if_pos (.inr c3)]
          have c2' : ¬ tt < -1 := by omega
          simp [fillF, pickL, g1, undef, c2', c3]
          exact hE' _ _ s1 hp
        · have c2' : ¬ tt < -1 := by omega
          by_cases c4 : 200 ≤ rest.length
          · have hp : putR rest (g, fm, tt) = ([], 2) := by unfold putR; rw [if_neg c1, if_neg (by simp only; omega), if_pos c4]
            have c4' : (200 : Int) ≤ rest.length := by omega
            simp [fillF, pickL, g1, undef, c1, c2', c3, c4']
            exact hE' _ _ s1 hp
          · have hp : putR rest (g, fm, tt) = (ins1 rest tt.toNat g, 0) := by unfold putR; rw [if_neg c1, if_neg (by simp only; omega), if_neg c4]
            rw [hst, hp] at hq
            have c4' : ¬ (200 : Int) ≤ rest.length := by omega
            obtain ⟨i, rfl⟩ : ∃ i : Nat, tt = i := ⟨tt.toNat, by omega⟩
            have c1' : ((i : Int) = -1) = False := eq_false c1
            rw [Int.toNat_natCast] at hq
            simp [fillF, pickL, g1, undef, c1', c2', c3, c4', placeIn, splice]
            have hs2 : Same S1 ((S1.bump 1).put S1.next (.row [.int .i64 g] 3 true true)) [] := ((Same.refl _ _).bu).pn (by omega)
            have hol := hoc.is.cs.lt
            refine insert_ok (hoc.stay0 hs2) (i := i) (by omega) (by omega) (AS.get_put_self _ _ _) (fun hk => by have := hol _ hk; omega) fun S3 hs3 hoc3 => ?_
            have s3 : Same S S3 [] := (s1.tr0 hs2).trans hs3 (fun m hm hl => by have := how m hm; omega)
            simp
            exact hq _ _ _ _ s3 rfl hoc3 (fun m hm => by simp [ownsOf] at hm; omega)
structure Mvs (S : AS) (v : Value) (l : List Mv) : Prop where
  ps : Ps S 3 v (mvsC l)
  small : l.length ≤ 9223372036854775807
theorem Mvs.stay0 {S S' : AS} {v : Value} {l : List Mv} (h : Mvs S v l) (hs : Same S S' []) : Mvs S' v l := ⟨h.ps.stays hs (by simp), h.small⟩
theorem Mvs.shape {S : AS} {v : Value} {l : List Mv} (h : Mvs S v l) : ∃ a cap, v = .slice a l.length cap := by
  obtain ⟨a, cap, e⟩ := h.ps.shape
  exact ⟨a, cap, by rw [e, mvs_len]⟩
theorem Mvs.at {S : AS} {v : Value} {l : List Mv} (h : Mvs S v l) {i : Nat} (hi : i < l.length) :
    ∃ p o cells e wr ex, (∀ (S' : AS) (j : IntKind), idxE S' 3 none (.int j i) v = .ret (.pointer (some ⟨p, o, none⟩), S')) ∧ S.get p = some (.row cells e wr ex) ∧ p < S.next ∧ p ∈ ownsOf v ∧ rowLoad cells o (some 3) = some (.agg (mvC l[i]).toArray) := by
  obtain ⟨p, o, cells, e, wr, ex, h1, h2, h3, h4, h5, h6⟩ := Ps.idx (S' := S) h.ps (by omega) (j := .i64) (i := i) (l := mvC l[i]) (by simp [mvsC, hi])
  refine ⟨p, o, cells, e, wr, ex, fun S' j => ?_, h2, h3, h4, h6⟩
  obtain ⟨a, cap, rfl⟩ := h.shape
  match a with
  | none => simp [idxE] at h1
  | some ⟨b, q, some s⟩ => simp [idxE] at h1
  | some ⟨b, q, none⟩ =>
    simp [hi] at h1 ⊢
    exact h1
theorem Apply_ok {S : AS} {v w : Value} {old : List Int} {l : List Mv} (h : Is S v old) (k : Mvs S w l) {Q : En → AS → Prop}
    (hq : ∀ S' a cap n, Same S S' [] → n = (applyR old l).1.length → Oc S' (.slice a n cap) (applyR old l).1 → (∀ m ∈ ownsOf (.slice a n cap), S.next ≤ m) → Q (.ret (.tuple #[.slice a n cap, .int .i64 (applyR old l).2])) S') : Call G 54 [v, w] S Q := by
  obtain ⟨va, vcap, rfl⟩ := h.shape
  obtain ⟨wa, wcap, hws⟩ := k.shape
  subst hws
  have hsm := k.small
  have hE : ∀ S' e, Same S S' [] → applyR old l = ([], e) → Q (.ret (.tuple #[.slice none 0 0, .int .i64 e])) S' := fun S' e hs he => by
    have := hq S' none 0 0 hs
    rw [he] at this
    exact this rfl (.inl ⟨rfl, rfl⟩) (by simp [ownsOf])
  refine call_run' (G := G) rfl (ext_none (by decide)) ?_
  by_cases c1 : (200 : Int) < old.length
  · simp [c1, undef]
    exact hE _ _ (.refl _ _) (if_pos (.inl (by omega)))
  by_cases c2 : (400 : Int) < l.length
  · simp [c1, c2, undef]
    exact hE _ _ (.refl _ _) (if_pos (.inr (by omega)))
  have c0 : ¬ (200 < old.length ∨ 400 < l.length) := by omega
  simp [c1, c2, undef]
  refine ptwice_ok h fun S1 hs1 => ?_
  cases ht : twice old with
  | true =>
    simp
    exact hE _ _ hs1 (by unfold applyR; rw [if_neg c0, if_pos ht])
  | false =>
    have hap : applyR old l = apR l old := by unfold applyR; rw [if_neg c0, if_neg (by simp [ht])]
    rw [hap] at hE hq
    simp
    refine clone_ok (h.stay0 hs1) (by omega) fun S2 a cap hs2 hoc how => ?_
    have s2 := hs1.tr0 hs2
    have hn1 := hs1.1
    have hn2 := hs2.1
    simp
    refine run_loop (fun m a' S' => ∃ j now b cb n, m = l.length - j ∧ j ≤ l.length ∧ Same S S' [] ∧ S.next ≤ S'.next ∧ n = now.length ∧ now.Nodup ∧ now.length ≤ 200 ∧ Oc S' (.slice b n cb) now ∧ (∀ m ∈ ownsOf (.slice b n cb), S.next ≤ m) ∧ apR l old = apR (l.drop j) now ∧
      Has a' 41 [(6, .slice b n cb), (23, .slice wa l.length wcap), (24, .int .i64 l.length), (25, .int .i64 j)]) _ ⟨0, old, a, cap, _, rfl, by omega, s2, by omega, rfl, (twice_spec old).1 ht, by omega, hoc, fun m hm => by have := how m hm; omega, rfl, ⟨rfl, rfl, by simp⟩⟩ ?_
    rintro _ R hR _ S3 ⟨j, now, b, cb, n, rfl, hj, s3, hn3, rfl, hnd, hnl, hoc3, how3, hap3, hA⟩
    obtain ⟨x, rfl⟩ := hA.lit
    by_cases hlt : j < l.length
    · have hwS := wrapS (show j < 9223372036854775807 by omega)
      obtain ⟨p, o, cells, e, wr, ex, h1, h2, h3, h4, h6⟩ := (k.stay0 s3).at hlt
      rw [List.drop_eq_getElem_cons hlt] at hap3
      obtain ⟨⟨g, fm, tt⟩, hlj⟩ : ∃ m : Mv, m = l[j] := ⟨_, rfl⟩
      rw [← hlj] at hap3 h6
      simp [mvC] at h6
      simp [fillF, pickL, hlt, h1, h2, h6, okc, rowStore, splice]
      generalize hT : AS.put (AS.put (AS.bump S3 _) _ _) _ _ = T
      have hsT : Same S3 T [] := by rw [← hT]; exact (((Same.refl _ _).bu).pn (by omega)).pn (by omega)
      have hnT : T.next = S3.next + 1 := by rw [← hT]; simp
      have gp : T.get S3.next = some (.row [.int .i64 g, .int .i64 fm, .int .i64 tt] 97 true true) := by rw [← hT, AS.get_put_self]
      clear hT
      have sT := s3.tr0 hsT
      refine move_ok (hoc3.is.stay0 hsT) hnd hnl fun S4 b4 cb4 n4 hs4 hn4 hoc4 how4 => ?_
      have s4 := sT.tr0 hs4
      by_cases he : (step1 now (g, fm, tt)).2 = 0
      · have hk := step1_keeps (m := (g, fm, tt)) hnd hnl
        simp [he, hwS]
        exact hR _ _ _ (by omega) ⟨j + 1, (step1 now (g, fm, tt)).1, b4, cb4, n4, rfl, by omega, s4, by have := hs4.1; omega, hn4, hk.1, hk.2.1, hoc4, fun m hm => by have := how4 m hm; omega, by rw [hap3]; simp only [apR]; rw [if_neg (by simp [he])], ⟨rfl, rfl, by simp⟩⟩
      · simp [he]
        exact hE _ _ s4 (by rw [hap3]; simp only [apR]; rw [if_pos he])
    · obtain rfl : j = l.length := by omega
      rw [List.drop_length] at hap3
      simp only [apR] at hap3
      rw [hap3] at hq
      simp [fillF, pickL]
      exact hq _ _ _ _ s3 rfl hoc3 how3
theorem Drop_ok {S : AS} {v : Value} {order : List Int} {g : Int} (h : Is S v order) {Q : En → AS → Prop}
    (hq : ∀ S' a cap n, Same S S' [] → n = (dropR order g).1.length → Oc S' (.slice a n cap) (dropR order g).1 → (∀ m ∈ ownsOf (.slice a n cap), S.next ≤ m) → Q (.ret (.tuple #[.slice a n cap, .int .i64 (dropR order g).2])) S') : Call G 56 [v, .int .i64 g] S Q := by
  obtain ⟨va, vcap, hvs⟩ := h.shape
  subst hvs
  have hE : ∀ S' e, Same S S' [] → dropR order g = ([], e) → Q (.ret (.tuple #[.slice none 0 0, .int .i64 e])) S' := fun S' e hs he => by
    have := hq S' none 0 0 hs
    rw [he] at this
    exact this rfl (.inl ⟨rfl, rfl⟩) (by simp [ownsOf])
  refine call_run' (G := G) rfl (ext_none (by decide)) ?_
  simp [placeIn, splice]
  generalize hS1 : AS.put (AS.bump S 1) _ _ = S1
  have s1 : Same S S1 [] := by rw [← hS1]; exact ((Same.refl _ _).bu).pn (by omega)
  have g1 : S1.get S.next = some (.row [.slice va order.length vcap] 25 true true) := by rw [← hS1]; simp
  have hn1 : S1.next = S.next + 1 := by rw [← hS1]; simp
  clear hS1
  have hls : Ls S1 (.slice (some ⟨S.next, 0, none⟩) 1 1) [.slice va order.length vcap] [order] := by
    refine ⟨⟨⟨_, _, rfl⟩, by simp [srcCells, g1], by simp [ownsOf]; omega⟩, rfl, by simp, fun i v' l' h1 h2 => ?_⟩
    match i with
    | 0 => simp at h1 h2; subst h1; subst h2; exact h.stay0 s1
    | i + 1 => simp at h1
  refine lists_ok hls fun S2 hs2 => ?_
  have s2 := s1.tr0 hs2
  have hn2 := hs2.1
  by_cases c1 : 200 < order.length
  · have he : errL [order] = 2 := by unfold errL; simp [c1]
    simp [he]
    exact hE _ _ s2 (if_pos c1)
  cases ht : twice order with
  | true =>
    have he : errL [order] = 6 := by unfold errL; simp [c1, ht]
    simp [he]
    exact hE _ _ s2 (by unfold dropR; rw [if_neg c1, if_pos ht])
  | false =>
    have he : errL [order] = 0 := by unfold errL; simp [c1, ht]
    simp [he]
    refine index_ok (h.stay0 s2) ?_
    have hge := ixI_ge order g
    have hlt0 := ixI_lt order g
    by_cases c2 : ixI order g < 0
    · simp [c2]
      exact hE _ _ s2 (by unfold dropR; rw [if_neg c1, if_neg (by simp [ht]), if_pos c2])
    · obtain ⟨q, hq0⟩ : ∃ q : Nat, ixI order g = q := ⟨(ixI order g).toNat, by omega⟩
      have hd : dropR order g = (order.eraseIdx q, 0) := by unfold dropR; rw [if_neg c1, if_neg (by simp [ht]), if_neg c2, hq0]; rfl
      rw [hd] at hq
      have hwS := wrapS (show q < 9223372036854775807 by omega)
      have c2' : ((q : Int) < 0) = False := eq_false (by omega)
      simp [hq0, c2']
      refine clone_ok (h.stay0 s2) (by omega) fun S3 a cap hs3 hoc how => ?_
      have s3 := s2.tr0 hs3
      simp [hwS]
      refine delete_ok hoc (i := q) (by omega) fun S4 a' cap' hs4 hoc4 hsub => ?_
      have s4 : Same S S4 [] := s3.trans hs4 (fun m hm hl => by have := how m hm; omega)
      simp
      exact hq _ _ _ _ s4 rfl hoc4 (fun m hm => by have := how m (hsub m hm); omega)
end Go.Gx.A
