/-
  Lists that are changed: Clone, Delete, Insert; the reference's ways.
-/
import Derived.Test.YtnhaainnhmmbfaaGreatPm
set_option linter.all false
set_option linter.deprecated false
namespace Go.Gx.Z
open Go.Gx Go.Proofs
set_option maxRecDepth 100000
set_option maxHeartbeats 1000000
def Oc (S : AS) (v : Value) (l : List Int) : Prop:=(l=[]∧v=.slice none 0 0) ∨
 ∃ p cap rest ex,v=.slice (some ⟨p,0,none⟩) l.length cap∧l.length + rest.length=cap∧rest.all okc=true∧S.get p=some (.row (ints l ++ rest) 3 true ex)∧p < S.next∧cap≤100000
theorem Oc.is {S : AS} {v : Value} {l : List Int} (h : Oc S v l) : Is S v l:=by
 rcases h with ⟨rfl,rfl⟩ | ⟨p,cap,rest,ex,rfl,h1,h2,h3,h4,h5⟩
 ·exact Is.nil
 ·refine ⟨by omega,.inr ⟨p,0,cap,_,3,true,ex,rfl,by omega,h3,h4,.inr rfl,by simp,?_⟩⟩
  rw [List.drop_zero,List.take_append_of_le_length (by simp),← ints_len l,List.take_length]
theorem Oc.stays {S S' : AS} {v : Value} {l : List Int} (h : Oc S v l) {fp : List Nat} (hs : Same S S' fp) (hd : ∀ m∈ownsOf v,m∉fp) : Oc S' v l:=by
 rcases h with h | ⟨p,cap,rest,ex,rfl,h1,h2,h3,h4,h5⟩
 ·exact .inl h
 ·exact .inr ⟨p,cap,rest,ex,rfl,h1,h2,by rw [hs.2 p h4 (hd p (by simp [ownsOf]))]; exact h3,Nat.lt_of_lt_of_le h4 hs.1,h5⟩
theorem Oc.stay0 {S S' : AS} {v : Value} {l : List Int} (h : Oc S v l) (hs : Same S S' []) : Oc S' v l:=h.stays hs (by simp)
theorem clone_ok {S : AS} {v : Value} {l : List Int} (h : Is S v l) (hl : l.length ≤ 100000) {Q : En → AS → Prop}
    (hq : ∀ S' a cap, Same S S' [] → Oc S' (.slice a l.length cap) l → (∀ m ∈ ownsOf (.slice a l.length cap), S.next ≤ m) → Q (.ret (.slice a l.length cap)) S') : Call G 25 [v] S Q := by
  have hc := h.cs.cells
  rw [ints_len] at hc
  rcases h.c with ⟨rfl, rfl | ⟨b, o, s, rfl⟩⟩ | ⟨p, o, cap, cells, e, wr, ex, rfl, h1, h2, h3, h4, h5, h6⟩
  · refine call_run' (G := G) rfl (ext_none (by decide)) ?_
    simp [isNil]
    exact hq S none 0 (.refl _ _) (.inl ⟨rfl, rfl⟩) (by simp [ownsOf])
  · refine call_run' (G := G) rfl (ext_none (by decide)) ?_
    simp [isNil, placeIn, appV, srcCells]
    refine hq _ (some ⟨S.next, 0, none⟩) 0 ?_ (.inr ⟨S.next, 0, [], true, rfl, rfl, rfl, by simp, by simp, by omega⟩) (by simp [ownsOf])
    repeat' first | exact Same.refl _ _ | apply Same.bu | (refine Same.pn ?_ (by first | omega | (simp; omega)))
  · refine call_run' (G := G) rfl (ext_none (by decide)) ?_
    have s1 : Same S ((S.bump 2).put S.next (.row [] 3 true true)) [] := by
      repeat' first | exact Same.refl _ _ | apply Same.bu | (refine Same.pn ?_ (by first | omega | (simp; omega)))
    have hy := (h.stay0 s1).cs.cells
    rw [ints_len] at hy
    have hsl : SlAt ((S.bump 2).put S.next (.row [] 3 true true)) 3 (.slice (some ⟨S.next, 0, none⟩) 0 0) (ones []) := .inr ⟨S.next, true, rfl, by simp [ones], by simp⟩
    by_cases hl0 : l = []
    · subst hl0
      have e1 : appV ((S.bump 2).put S.next (.row [] 3 true true)) (S.next + 1) 3 1 8 (.slice (some ⟨S.next, 0, none⟩) 0 0) (.slice (some ⟨p, o, none⟩) ([] : List Int).length cap) = some (.slice (some ⟨S.next, 0, none⟩) 0 0, (S.bump 2).put S.next (.row [] 3 true true)) := by
        unfold appV
        rw [hy]
        simp
      simp only [List.length_nil] at e1 ⊢
      simp [isNil, placeIn, e1]
      exact hq _ (some ⟨S.next, 0, none⟩) 0 s1 (.inr ⟨S.next, 0, [], true, rfl, rfl, rfl, by simp, by simp, by omega⟩) (by simp [ownsOf])
    · obtain ⟨T0, a1, a2, a3⟩ := appV_new (fr := S.next + 1) (bytes := 8) (ms := ones l) (y := .slice (some ⟨p, o, none⟩) l.length cap) hsl (ones_uni []) (by omega) (by
          intro e
          have := congrArg List.length e
          simp at this
          exact hl0 this) (ones_uni l) (by rw [hy, ones_len, ones_flat]) (by simp [ones]; omega) (by omega) (by rw [ones_flat]; exact ints_ok l)
      simp only [ones_len, List.length_nil, Nat.zero_add] at a1
      simp [isNil, placeIn, a1]
      refine hq _ (some ⟨S.next + 1, 0, none⟩) l.length ?_ (.inr ⟨S.next + 1, l.length, [], false, rfl, by simp, rfl, ?_, by simp [a2], hl⟩) (by simp [ownsOf])
      · refine ⟨by simp [a2], fun m hm hn => ?_⟩
        rw [AS.get_put_ne _ _ (by omega), a3 m (by simp [ownsOf]; omega)]
        exact s1.2 m hm hn
      · rw [AS.get_put_self]
        simp [ones_flat]
theorem splice_app {A B C D : List Value} (h : B.length=C.length) : splice (A ++ (B ++ D)) A.length C=A ++ (C ++ D):=by
 unfold splice
 rw [List.take_left,List.drop_append,List.drop_eq_nil_of_le (by omega)]
 have : A.length + C.length - A.length=B.length:=by omega
 rw [this,List.drop_left]
 simp

abbrev Mv:=Int × Int × Int
def mvC (m : Mv) : List Value:=[.int .i64 m.1,.int .i64 m.2.1,.int .i64 m.2.2]
def mvsC (ms : List Mv) : List (List Value):=ms.map mvC
theorem mvs_uni (ms : List Mv) : Uni 3 (mvsC ms):=by
 intro l hl
 obtain ⟨m,_,rfl⟩:=List.mem_map.1 hl
 rfl
@[simp] theorem mvs_len (ms : List Mv) : (mvsC ms).length=ms.length:=by simp [mvsC]
theorem mvs_ok (ms : List Mv) : (mvsC ms).flatten.all okc=true:=by
 induction ms with
 | nil=>rfl
 | cons m ms ih=>simp [mvsC,mvC,okc] at ih ⊢
end Go.Gx.Z
