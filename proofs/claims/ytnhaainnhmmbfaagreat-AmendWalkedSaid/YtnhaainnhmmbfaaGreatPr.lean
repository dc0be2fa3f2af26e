/-
  The best orders, one by one: lists and maps that are handed on.
-/
import Derived.Test.YtnhaainnhmmbfaaGreatPp
import Derived.Test.YtnhaainnhmmbfaaGreatPn
set_option linter.all false
set_option linter.deprecated false
namespace Go.Gx.Z
open Go.Gx Go.Proofs
set_option maxRecDepth 100000
set_option maxHeartbeats 4000000
theorem Oc.app1 {T : AS} {v : Value} {l : List Int} (h : Oc T v l) {fr y : Nat} {x : Int} {w e : Bool} (hl : l.length < 1000) (hy : T.get y=some (.row [.int .i64 x] 3 w e)) (hfr : fr < T.next) :
  ∃ T' a cap,appV T fr 3 1 8 v (.slice (some ⟨y,0,none⟩) 1 1)=some (.slice a (l.length + 1) cap,T')∧Oc T' (.slice a (l.length + 1) cap) (l ++ [x])∧Same T T' (fr :: ownsOf v)∧T'.next=T.next∧∀ m∈ownsOf (.slice a (l.length + 1) cap),m=fr∨m∈ownsOf v:=by
 have hs : srcCells T 1 (.slice (some ⟨y,0,none⟩) 1 1)=some (1,[.int .i64 x]):=by simp [srcCells,hy]
 rcases h with ⟨rfl,rfl⟩ | ⟨p,cap,rest,ex,rfl,h1,h2,h3,h4,h5⟩
 ·refine ⟨T.put fr (.row [.int .i64 x] 3 true false),some ⟨fr,0,none⟩,1,?_,.inr ⟨fr,1,[],false,rfl,rfl,rfl,by rw [AS.get_put_self]; rfl,hfr,by omega⟩,(same_put T fr _).mono (by simp),rfl,fun m hm=>.inl (by simpa [ownsOf] using hm)⟩
  unfold appV
  rw [hs]
  simp [vs]
 ·cases rest with
  | nil=>
   have hc : cap=l.length:=by simpa using h1.symm
   subst hc
   simp only [List.append_nil] at h3
   have hd : ((ints l).drop (0 + 0)).take (l.length * 1)=ints l:=by
    rw [List.drop_zero,Nat.mul_one,List.take_of_length_le (by simp)]
   cases ex with
   | true=>
    refine ⟨T.put fr (.row (ints (l ++ [x])) 3 true false),some ⟨fr,0,none⟩,l.length + 1,?_,.inr ⟨fr,l.length + 1,[],false,by simp,by simp,rfl,by rw [AS.get_put_self]; simp,hfr,by omega⟩,(same_put T fr _).mono (by simp),rfl,fun m hm=>.inl (by simpa [ownsOf] using hm)⟩
    unfold appV
    rw [hs]
    simp only []
    rw [if_neg (by omega),if_pos ⟨by omega,by omega,by omega⟩,h3]
    simp only [Nat.zero_add,Nat.mul_one,ints_len,Nat.le_refl,if_true,List.drop_zero,List.take_of_length_le (show (ints l).length≤l.length by simp)]
    simp [vs,ints]
   | false=>
    refine ⟨(T.put p .dead).put fr (.row (ints (l ++ [x])) 3 true false),some ⟨fr,0,none⟩,l.length + 1,?_,.inr ⟨fr,l.length + 1,[],false,by simp,by simp,rfl,by rw [AS.get_put_self]; simp,by simpa using hfr,by omega⟩,?_,rfl,fun m hm=>.inl (by simpa [ownsOf] using hm)⟩
    ·unfold appV
     rw [hs]
     simp only []
     rw [if_neg (by omega),if_pos ⟨by omega,by omega,by omega⟩,h3]
     simp only [Nat.zero_add,Nat.mul_one,ints_len,Nat.le_refl,if_true,List.drop_zero,List.take_of_length_le (show (ints l).length≤l.length by simp)]
     simp [vs,ints,okc]
    ·exact ((Same.refl _ _).po (by simp [ownsOf])).po (by simp)
  | cons r0 rest=>
   simp only [List.length_cons] at h1
   have hst : rowStore (ints l ++ r0 :: rest) (0 + l.length * 1) [.int .i64 x]=some (ints (l ++ [x]) ++ rest):=by
    unfold rowStore
    rw [if_pos ⟨by simp,rfl⟩]
    have:=splice_app (A:=ints l) (B:=[r0]) (C:=[.int .i64 x]) (D:=rest) rfl
    simp only [ints_len,List.singleton_append] at this
    rw [Nat.zero_add,Nat.mul_one,this]
    simp [ints]
   refine ⟨T.put p (.row (ints (l ++ [x]) ++ rest) 3 true ex),some ⟨p,0,none⟩,cap,?_,.inr ⟨p,cap,rest,ex,by simp,by simp; omega,by simpa [List.all_cons] using (by rw [List.all_cons,Bool.and_eq_true] at h2; exact h2.2 : rest.all okc=true),by rw [AS.get_put_self],by simpa using h4,h5⟩,(same_put T p _).mono (by simp [ownsOf]),rfl,fun m hm=>.inr (by simpa [ownsOf] using hm)⟩
   unfold appV
   rw [hs]
   simp only []
   rw [if_pos (by omega),h3]
   simp only [hst]
   simp
theorem len_free {c : Cg} (h : CgOk c) : c.front.length + c.free.length=c.n:=by
 have h1 : (((List.range c.n).map fun (x : Nat)=>(x : Int)).filter fun x=>decide (x∈c.front)).Perm c.front:=by
  have hnd : ((List.range c.n).map fun (x : Nat)=>(x : Int)).Nodup:=List.pairwise_map.2 (List.Pairwise.imp (fun h e=>h (Int.ofNat.inj e)) (List.nodup_range (n:=c.n)))
  refine (List.perm_ext_iff_of_nodup (hnd.sublist List.filter_sublist) (front_nodup h)).2 fun x=>?_
  rw [List.mem_filter,decide_eq_true_eq,List.mem_map]
  constructor
  ·exact fun g=>g.2
  ·intro g
   have:=h.lt x (List.mem_of_mem_take g)
   exact ⟨⟨x.toNat,by simp; omega,by omega⟩,g⟩
 have h2:=h1.length_eq
 have h3 : ∀ l : List Int,(l.filter fun x=>decide (x∈c.front)).length + (l.filter fun x=>decide (x∉c.front)).length=l.length:=fun l=>by
  induction l with
  | nil=>rfl
  | cons a l ih=>
   simp only [List.filter_cons,List.length_cons]
   by_cases ha : a∈c.front <;> simp [ha] <;> simp at ih <;> omega
 have h4:=h3 ((List.range c.n).map fun (x : Nat)=>(x : Int))
 rw [h2,List.length_map,List.length_range] at h4
 exact h4
abbrev enc (p : St × Cost) : (Int × Int) × Value:=(((p.1.1 : Int),p.1.2),cV p.2)

structure FV where
 v : TkV
 l : Nat
 ct : Nat
 cy : Nat
 cT : Nat
 cf : Nat
 B : Nat
def dsOf (ns : List Nat) : List Deferred:=ns.map fun n=>{ target:=.collected n,args:=#[] }
theorem drain_ok : ∀ (ns : List Nat) (S : AS),ns.Nodup→(∀ n∈ns,S.get n=some (.defd (some [])))→∃ S',drain (dsOf ns) S=some S'∧Same S S' ns∧S'.next=S.next
 | [],S,_,_=>⟨S,rfl,.refl _ _,rfl⟩
 | n :: ns,S,hn,h=>by
  rw [List.nodup_cons] at hn
  obtain ⟨S',h1,h2,h3⟩:=drain_ok ns (S.put n (.defd none)) hn.2 (fun m hm=>by rw [AS.get_put_ne _ _ (by rintro rfl; exact hn.1 hm)]; exact h m (by simp [hm]))
  refine ⟨S',?_,((same_put S n _).mono (by simp)).trans h2 (fun m hm _=>by simp [hm]),h3⟩
  show drain ({ target:=.collected n,args:=#[] } :: dsOf ns) S=some S'
  rw [drain_cons (h n (by simp))]; exact h1
section
variable {x : FV} {c : Cg} {ords : List (List Int)} {fpc : List Nat} {I : Nat→AS→Prop} {D : AS→Prop}
end
end Go.Gx.Z
