/-
  Lists that are changed: Clone, Delete, Insert; the reference's ways.
-/
import Derived.Test.YtamljcdnphjgaaaPm
set_option linter.all false
set_option linter.deprecated false
set_option linter.unusedSimpArgs false
set_option linter.unusedVariables false
namespace Go.Gx.A
open Go.Gx Go.Proofs
set_option maxRecDepth 100000
set_option linter.all false
set_option maxHeartbeats 1000000
def Oc (S : AS) (v : Value) (l : List Int) : Prop:=(l=[]∧v=.slice none 0 0) ∨
 ∃ p cap rest ex,v=.slice (some ⟨p,0,none⟩) l.length cap∧l.length + rest.length=cap∧rest.all okc=true∧S.get p=some (.row (ints l ++ rest) 3 true ex)∧p < S.next∧cap ≤ 100000
theorem Oc.is {S : AS} {v : Value} {l : List Int} (h : Oc S v l) : Is S v l:=by
 rcases h with ⟨rfl,rfl⟩ | ⟨p,cap,rest,ex,rfl,h1,h2,h3,h4,h5⟩
 ·exact Is.nil
 ·refine ⟨by omega,.inr ⟨p,0,cap,_,3,true,ex,rfl,by omega,h3,h4,.inr rfl,by simp,?_⟩⟩
  rw [List.drop_zero,List.take_append_of_le_length (by simp),← ints_len l,List.take_length]
theorem Oc.shape {S : AS} {v : Value} {l : List Int} (h : Oc S v l) : ∃ a cap,v=.slice a l.length cap:=h.is.shape
theorem Oc.stays {S S' : AS} {v : Value} {l : List Int} (h : Oc S v l) {fp : List Nat} (hs : Same S S' fp) (hd : ∀ m ∈ ownsOf v,m ∉ fp) : Oc S' v l:=by
 rcases h with h | ⟨p,cap,rest,ex,rfl,h1,h2,h3,h4,h5⟩
 ·exact .inl h
 ·exact .inr ⟨p,cap,rest,ex,rfl,h1,h2,by rw [hs.2 p h4 (hd p (by simp [ownsOf]))]; exact h3,Nat.lt_of_lt_of_le h4 hs.1,h5⟩
theorem Oc.stay0 {S S' : AS} {v : Value} {l : List Int} (h : Oc S v l) (hs : Same S S' []) : Oc S' v l:=h.stays hs (by simp)
theorem splice_app {A B C D : List Value} (h : B.length=C.length) : splice (A ++ (B ++ D)) A.length C=A ++ (C ++ D):=by
 unfold splice
 rw [List.take_left,List.drop_append,List.drop_eq_nil_of_le (by omega)]
 have : A.length + C.length - A.length=B.length:=by omega
 rw [this,List.drop_left]
 simp
end Go.Gx.A
namespace Go.Gx.A
open Go.Gx Go.Proofs
set_option maxRecDepth 100000
set_option linter.all false
set_option maxHeartbeats 1000000
abbrev Mv:=Int × Int × Int
def mvC (m : Mv) : List Value:=[.int .i64 m.1,.int .i64 m.2.1,.int .i64 m.2.2]
def mvsC (ms : List Mv) : List (List Value):=ms.map mvC
@[simp] theorem mvs_len (ms : List Mv) : (mvsC ms).length=ms.length:=by simp [mvsC]
def Ms (S : AS) (v : Value) (ms : List Mv) : Prop:=SlAt S 97 v (mvsC ms)
theorem Ms.stays {S S' : AS} {v : Value} {ms : List Mv} (h : Ms S v ms) {fp : List Nat} (hs : Same S S' fp) (hd : ∀ m ∈ ownsOf v,m ∉ fp) : Ms S' v ms:=SlAt.stays h hs hd
end Go.Gx.A
