/-
  Least costs from the start on, by relaxing (no program in sight).
-/
import Derived.Test.YtnhaainnhmmbfaaGreatPu
set_option linter.all false
set_option linter.deprecated false
namespace Go.Gx.Z

open Go.Gx Go.Proofs
set_option maxRecDepth 100000
set_option maxHeartbeats 2000000
abbrev Q4:=Int × Int × Int × Int
def q4C (q : Q4) : List Value:=[.int .i64 q.1,.int .i64 q.2.1,.int .i64 q.2.2.1,.int .i64 q.2.2.2]
theorem q4_uni (l : List Q4) : Uni 4 (l.map q4C):=fun x hx=>by
 obtain ⟨a,_,rfl⟩:=List.mem_map.1 hx
 rfl
theorem q4_ok (l : List Q4) : (l.map q4C).flatten.all okc=true:=by
 induction l with
 | nil=>rfl
 | cons a l ih=>simp only [List.map_cons,List.flatten_cons,List.all_append,ih,Bool.and_true]; rfl
theorem q4_flen : ∀ (l : List Q4),(l.map q4C).flatten.length=l.length * 4
 | []=>rfl
 | a :: l=>by
  have:=q4_flen l
  simp only [List.map_cons,List.flatten_cons,List.length_append,List.length_cons]
  rw [this]
  simp [q4C]
  omega
def Qs (S : AS) (t : TypeId) (v : Value) (l : List Q4) : Prop:=SlAt S t v (l.map q4C)
theorem Qs.nil {S : AS} {t : TypeId} : Qs S t (.slice none 0 0) []:=.inl ⟨rfl,rfl⟩
theorem Qs.stays {S S' : AS} {t : TypeId} {v : Value} {l : List Q4} (h : Qs S t v l) {fp : List Nat} (hs : Same S S' fp) (hd : ∀ m∈ownsOf v,m∉fp) : Qs S' t v l:=SlAt.stays h hs hd
theorem Qs.stay0 {S S' : AS} {t : TypeId} {v : Value} {l : List Q4} (h : Qs S t v l) (hs : Same S S' []) : Qs S' t v l:=h.stays hs (by simp)
theorem Qs.shape {S : AS} {t : TypeId} {v : Value} {l : List Q4} (h : Qs S t v l) : ∃ a,v=.slice a l.length l.length:=by
 rcases h with ⟨rfl,hn⟩ | ⟨p,ex,rfl,h2,h3⟩
 ·have : l=[]:=List.map_eq_nil_iff.1 hn
  subst this
  exact ⟨none,rfl⟩
 ·exact ⟨some ⟨p,0,none⟩,by simp⟩
theorem Qs.app1 {S T : AS} {t : TypeId} {v : Value} {l : List Q4} (h : Qs S t v l) (hT : Same S T []) {p fr : Nat} {a : Q4} {wr ex : Bool} (hp : T.get p=some (.row (q4C a) t wr ex)) (hfr : fr < T.next) (hfS : S.next≤fr) (hb : l.length≤100000) :
  ∃ T',appV T fr t 4 32 v (.slice (some ⟨p,0,none⟩) 1 1)=some (.slice (some ⟨fr,0,none⟩) (l.length + 1) (l.length + 1),T')∧Qs T' t (.slice (some ⟨fr,0,none⟩) (l.length + 1) (l.length + 1)) (l ++ [a])∧Same S T' (ownsOf v)∧T'.next=T.next:=by
 have hsl : SlAt T t v (l.map q4C):=SlAt.stays h hT (by simp)
 have hy : srcCells T 4 (.slice (some ⟨p,0,none⟩) 1 1)=some (([a].map q4C).length,([a].map q4C).flatten):=by
  unfold srcCells
  simp only [hp]
  simp [q4C]
 obtain ⟨T0,a1,a2,a3⟩:=appV_new (fr:=fr) (bytes:=32) hsl (q4_uni l) (by omega) (by simp) (q4_uni [a]) hy (by simp; omega) (by omega) (q4_ok [a])
 simp only [List.length_map,List.length_singleton] at a1
 refine ⟨_,a1,.inr ⟨fr,false,by simp,?_,by simp only [AS.next_put,a2]; exact hfr⟩,?_,by simp only [AS.next_put]; exact a2⟩
 ·rw [AS.get_put_self]; simp
 ·refine ⟨by simp only [AS.next_put,a2]; exact hT.1,fun q hq hn=>?_⟩
  rw [AS.get_put_ne _ _ (by omega),a3 q hn,hT.2 q hq (by simp)]
theorem Qs.ps {S : AS} {t : TypeId} {v : Value} {l : List Q4} (h : Qs S t v l) (hl : l.length≤100000) : Ps S 4 v (l.map q4C):=by
 rcases h with ⟨rfl,hn⟩ | ⟨p,ex,rfl,h2,h3⟩
 ·have : l=[]:=List.map_eq_nil_iff.1 hn
  subst this
  exact ⟨⟨none,0,rfl⟩,rfl,q4_uni [],by simp [ownsOf]⟩
 ·refine ⟨⟨_,_,rfl⟩,?_,q4_uni l,by simpa [ownsOf] using h3⟩
  have hf:=q4_flen l
  unfold srcCells
  simp only [h2,List.length_map]
  by_cases h0 : l.length * 4=0
  ·rw [if_pos h0]
   have : l=[]:=List.length_eq_zero_iff.1 (by omega)
   subst this
   rfl
  ·rw [if_neg h0,if_pos (by omega),List.drop_zero,← hf,List.take_length]
theorem q4_at {S : AS} {v : Value} {l : List Q4} (h : Ps S 4 v (l.map q4C)) {i : Nat} (hi : i < l.length) :
  ∃ p o cells e wr ex,(∀ (S' : AS) (j : IntKind),idxE S' 4 none (.int j i) v=.ret (.pointer (some ⟨p,o,none⟩),S'))∧S.get p=some (.row cells e wr ex)∧p < S.next∧p∈ownsOf v∧rowLoad cells o (some 4)=some (.agg (q4C l[i]).toArray) ∧
   cells[o]?=some (.int .i64 l[i].1)∧cells[o + 1]?=some (.int .i64 l[i].2.1)∧cells[o + 2]?=some (.int .i64 l[i].2.2.1)∧cells[o + 3]?=some (.int .i64 l[i].2.2.2):=by
 obtain ⟨p,o,cells,e,wr,ex,h1,h2,h3,h4,h5,h6⟩:=Ps.idx (S':=S) h (by omega) (j:=.i64) (i:=i) (l:=q4C l[i]) (by simp [hi])
 refine ⟨p,o,cells,e,wr,ex,fun S' j=>?_,h2,h3,h4,h6,by simpa [q4C] using h5 0 (by omega),by simpa [q4C] using h5 1 (by omega),by simpa [q4C] using h5 2 (by omega),by simpa [q4C] using h5 3 (by omega)⟩
 obtain ⟨a,cap,rfl⟩:=h.shape
 match a with
 | none=>simp [idxE] at h1
 | some ⟨b,q,some s⟩=>simp [idxE] at h1
 | some ⟨b,q,none⟩=>
  simp [hi] at h1 ⊢
  exact h1
end Go.Gx.Z
