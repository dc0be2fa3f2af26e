/-
  Rebase; AmendRebases.
-/
import Derived.Test.YtamljcdnphjgaaaPv
set_option linter.all false
set_option linter.deprecated false
set_option linter.unusedSimpArgs false
set_option linter.unusedVariables false
namespace Go.Gx.A
open Go.Gx Go.Proofs
set_option maxRecDepth 100000
set_option maxHeartbeats 2000000
abbrev pV (p : Int × Int) : Value:=.agg #[.int .i64 p.1,.int .i64 p.2]
theorem Prs.shape' {S : AS} {v : Value} {P : List (Int × Int)} (h : Prs S v P) : ∃ a cap,v=.slice a P.length cap:=by
 obtain ⟨a,cap,e⟩:=h.shape
 exact ⟨a,cap,by rw [e,List.length_map]⟩
theorem Prs.at {S : AS} {v : Value} {P : List (Int × Int)} (h : Prs S v P) {i : Nat} (hi : i < P.length) :
  ∃ p o cells e wr ex,(∀ (S' : AS) (j : IntKind),idxE S' 2 none (.int j i) v=.ret (.pointer (some ⟨p,o,none⟩),S'))∧S.get p=some (.row cells e wr ex)∧p < S.next∧p∈ownsOf v∧rowLoad cells o (some 2)=some (pV P[i]):=by
 obtain ⟨p,o,cells,e,wr,ex,h1,h2,h3,h4,h5,h6⟩:=Ps.idx (S':=S) h (by omega) (j:=.i64) (i:=i) (l:=[.int .i64 P[i].1,.int .i64 P[i].2]) (by simp [hi])
 refine ⟨p,o,cells,e,wr,ex,fun S' j=>?_,h2,h3,h4,h6⟩
 obtain ⟨a,cap,rfl⟩:=h.shape'
 match a with
 | none=>simp [idxE] at h1
 | some ⟨b,q,some s⟩=>simp [idxE] at h1
 | some ⟨b,q,none⟩=>
  simp [hi] at h1 ⊢
  exact h1

structure Mvs (S : AS) (v : Value) (l : List Mv) : Prop where
 ps : Ps S 3 v (mvsC l)
 small : l.length≤9223372036854775807
theorem Mvs.shape {S : AS} {v : Value} {l : List Mv} (h : Mvs S v l) : ∃ a cap,v=.slice a l.length cap:=by
 obtain ⟨a,cap,e⟩:=h.ps.shape
 exact ⟨a,cap,by rw [e,mvs_len]⟩
theorem Mvs.at {S : AS} {v : Value} {l : List Mv} (h : Mvs S v l) {i : Nat} (hi : i < l.length) :
  ∃ p o cells e wr ex,(∀ (S' : AS) (j : IntKind),idxE S' 3 none (.int j i) v=.ret (.pointer (some ⟨p,o,none⟩),S'))∧S.get p=some (.row cells e wr ex)∧p < S.next∧p∈ownsOf v∧rowLoad cells o (some 3)=some (.agg (mvC l[i]).toArray):=by
 obtain ⟨p,o,cells,e,wr,ex,h1,h2,h3,h4,h5,h6⟩:=Ps.idx (S':=S) h.ps (by omega) (j:=.i64) (i:=i) (l:=mvC l[i]) (by simp [mvsC,hi])
 refine ⟨p,o,cells,e,wr,ex,fun S' j=>?_,h2,h3,h4,h6⟩
 obtain ⟨a,cap,rfl⟩:=h.shape
 match a with
 | none=>simp [idxE] at h1
 | some ⟨b,q,some s⟩=>simp [idxE] at h1
 | some ⟨b,q,none⟩=>
  simp [hi] at h1 ⊢
  exact h1
end Go.Gx.A
