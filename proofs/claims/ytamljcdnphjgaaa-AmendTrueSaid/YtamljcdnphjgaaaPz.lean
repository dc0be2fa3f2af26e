/-
  Least costs from the start on, by relaxing (no program in sight).
-/
import Derived.Test.YtamljcdnphjgaaaPk
import Derived.Test.YtamljcdnphjgaaaPr
import Derived.Test.YtamljcdnphjgaaaPq
import Derived.Test.YtamljcdnphjgaaaPu
set_option linter.all false
set_option linter.deprecated false
set_option linter.unusedSimpArgs false
set_option linter.unusedVariables false
namespace Go.Gx.A
set_option linter.all false
abbrev Bnd:=Int × Int × Int × Int
end Go.Gx.A
namespace Go.Gx.A
open Go.Gx Go.Proofs
set_option maxRecDepth 100000
set_option linter.all false
set_option maxHeartbeats 2000000
abbrev Q4:=Int × Int × Int × Int
def q4C (q : Q4) : List Value:=[.int .i64 q.1,.int .i64 q.2.1,.int .i64 q.2.2.1,.int .i64 q.2.2.2]
theorem q4_uni (l : List Q4) : Uni 4 (l.map q4C):=fun x hx=>by
 obtain ⟨a,_,rfl⟩:=List.mem_map.1 hx
 rfl
theorem q4_flen : ∀ (l : List Q4),(l.map q4C).flatten.length=l.length * 4
 | []=>rfl
 | a :: l=>by
  have:=q4_flen l
  simp only [List.map_cons,List.flatten_cons,List.length_append,List.length_cons]
  rw [this]
  simp [q4C]
  omega
def Qs (S : AS) (t : TypeId) (v : Value) (l : List Q4) : Prop:=SlAt S t v (l.map q4C)
theorem Qs.stays {S S' : AS} {t : TypeId} {v : Value} {l : List Q4} (h : Qs S t v l) {fp : List Nat} (hs : Same S S' fp) (hd : ∀ m ∈ ownsOf v,m ∉ fp) : Qs S' t v l:=SlAt.stays h hs hd
theorem Qs.ps {S : AS} {t : TypeId} {v : Value} {l : List Q4} (h : Qs S t v l) (hl : l.length ≤ 100000) : Ps S 4 v (l.map q4C):=by
 rcases h with ⟨rfl,hn⟩ | ⟨p,ex,rfl,h2,h3⟩
 ·have : l=[]:=List.map_eq_nil_iff.1 hn
  subst this
  exact ⟨⟨none,0,rfl⟩,rfl,q4_uni [],by simp [ownsOf]⟩
 ·refine ⟨⟨_,_,rfl⟩,?_,q4_uni l,by simpa [ownsOf] using h3⟩
  have hf:=q4_flen l
  unfold srcCells
  simp only [h2,List.length_map]
  by_cases h0 : l.length * 4=0
  ·rw [if_pos h0]
   have : l=[]:=List.length_eq_zero_iff.1 (by omega)
   subst this
   rfl
  ·rw [if_neg h0,if_pos (by omega),List.drop_zero,← hf,List.take_length]
theorem q4_at {S : AS} {v : Value} {l : List Q4} (h : Ps S 4 v (l.map q4C)) {i : Nat} (hi : i < l.length) :
  ∃ p o cells e wr ex,(∀ (S' : AS) (j : IntKind),idxE S' 4 none (.int j i) v=.ret (.pointer (some ⟨p,o,none⟩),S'))∧S.get p=some (.row cells e wr ex)∧p < S.next∧p ∈ ownsOf v∧rowLoad cells o (some 4)=some (.agg (q4C l[i]).toArray) ∧
   cells[o]?=some (.int .i64 l[i].1)∧cells[o + 1]?=some (.int .i64 l[i].2.1)∧cells[o + 2]?=some (.int .i64 l[i].2.2.1)∧cells[o + 3]?=some (.int .i64 l[i].2.2.2):=by
 obtain ⟨p,o,cells,e,wr,ex,h1,h2,h3,h4,h5,h6⟩:=Ps.idx (S':=S) h (by omega) (j:=.i64) (i:=i) (l:=q4C l[i]) (by simp [hi])
 refine ⟨p,o,cells,e,wr,ex,fun S' j=>?_,h2,h3,h4,h6,by simpa [q4C] using h5 0 (by omega),by simpa [q4C] using h5 1 (by omega),by simpa [q4C] using h5 2 (by omega),by simpa [q4C] using h5 3 (by omega)⟩
 obtain ⟨a,cap,rfl⟩:=h.shape
 match a with
 | none=>simp [idxE] at h1
 | some ⟨b,q,some s⟩=>simp [idxE] at h1
 | some ⟨b,q,none⟩=>
  simp [hi] at h1 ⊢
  exact h1
end Go.Gx.A
namespace Go.Gx.A
open Go.Gx Go.Proofs
set_option maxRecDepth 100000
set_option linter.all false
set_option maxHeartbeats 2000000
end Go.Gx.A
namespace Go.Gx.A
open Go.Gx Go.Proofs
set_option maxRecDepth 100000
set_option linter.all false
set_option maxHeartbeats 4000000
def celV : Option Cost→List Value
 | none=>[.bool false,.int .i64 0,.int .i64 0]
 | some c=>[.bool true,.int .i64 c.1,.int .i64 c.2]
def celL (w : Nat) (f : Nat→Option Cost) : List (List Value):=(List.range w).map fun k=>celV (f k)
def celR (w : Nat) (f : Nat→Option Cost) : List Value:=(celL w f).flatten
structure Tc (S : AS) (v : Value) (rs : List Nat) (w : Nat) (M : Nat→Nat→Option Cost) : Prop where
 sl : SlAt S 142 v (rs.map fun r=>[rowv w r])
 rows : ∀ (i r : Nat),rs[i]?=some r→S.get r=some (.row (celR w (M i)) 141 true true)∧r < S.next∧r ∉ ownsOf v
 nd : rs.Nodup
theorem Tc.at {S : AS} {v : Value} {rs : List Nat} {w : Nat} {M : Nat→Nat→Option Cost} (h : Tc S v rs w M) {i : Nat} (hi : i < rs.length) :
  ∃ p ex r,(∀ (S' : AS) (j : IntKind),idxE S' 1 none (.int j i) v=.ret (.pointer (some ⟨p,i,none⟩),S'))∧S.get p=some (.row (rs.map (rowv w)) 142 true ex)∧(rs.map (rowv w))[i]?=some (.slice (some ⟨r,0,none⟩) w w) ∧
   S.get r=some (.row (celR w (M i)) 141 true true)∧r < S.next∧p < S.next∧r ≠ p∧rs[i]?=some r∧p ∈ ownsOf v∧r ∈ rs:=by
 have hl : (rs.map fun r=>[rowv w r]).length=rs.length:=by simp
 obtain ⟨p,ex,h1,h2,h3,h4⟩:=h.sl.idx (S':=S) (k:=1) (i:=i) (j:=.i64) (by rw [hl]; exact hi)
 obtain ⟨g1,g2,g3⟩:=h.rows i rs[i] (List.getElem?_eq_getElem hi)
 refine ⟨p,ex,rs[i],fun S' j=>?_,by rw [h2,flat1],by simp [hi,rowv],g1,g2,h3,fun e=>g3 (e ▸ h4),List.getElem?_eq_getElem hi,h4,List.getElem_mem hi⟩
 rcases h.sl with ⟨rfl,hn⟩ | ⟨p',ex',rfl,h5,h6⟩
 ·simp at hn; subst hn; simp at hi
 ·simp [ownsOf] at h4
  subst h4
  simp [hi]
theorem Tc.stays {S S' : AS} {v : Value} {rs : List Nat} {w : Nat} {M : Nat→Nat→Option Cost} (h : Tc S v rs w M) {fp : List Nat} (hs : Same S S' fp) (hd : ∀ m ∈ ownsOf v,m ∉ fp) (hr : ∀ m ∈ rs,m ∉ fp) : Tc S' v rs w M:=by
 refine ⟨h.sl.stays hs hd,fun i r hi=>?_,h.nd⟩
 obtain ⟨g1,g2,g3⟩:=h.rows i r hi
 exact ⟨by rw [hs.2 r g2 (hr r (List.mem_of_getElem? hi))]; exact g1,Nat.lt_of_lt_of_le g2 hs.1,g3⟩
end Go.Gx.A
