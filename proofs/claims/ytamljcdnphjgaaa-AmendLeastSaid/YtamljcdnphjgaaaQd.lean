/-
  What CheckProof accepts is the least (no program in sight).
-/
import Derived.Test.YtamljcdnphjgaaaQb
import Derived.Test.YtamljcdnphjgaaaPv
import Derived.Test.YtamljcdnphjgaaaQe
import Derived.Test.YtamljcdnphjgaaaQa
set_option linter.all false
set_option linter.deprecated false
set_option linter.unusedSimpArgs false
set_option linter.unusedVariables false
namespace Go.Gx.A
open Go.Gx Go.Proofs
set_option linter.all false
theorem bget_mem {P : List Bnd} {s : Int × Int} {w : Cost} (h : bget P s=some w) : ∃ b ∈ P,b.1=s.1∧b.2.1=s.2∧b.2.2=w:=by
 induction P with
 | nil=>simp [bget] at h
 | cons b P ih=>
  simp only [bget] at h
  split at h
  ·rename_i e
   exact ⟨b,List.mem_cons_self ..,e.1,e.2,Option.some.inj h⟩
  ·obtain ⟨b',h1,h2⟩:=ih h
   exact ⟨b',List.mem_cons_of_mem _ h1,h2⟩
theorem folw_iff {P : List Bnd} {tot : Cost} {s : Int × Int} {v : Cost} : folw P tot s v=true ↔ cle tot v ∨ ∃ w,bget P s=some w∧cle w v:=by
 unfold folw
 rw [Bool.or_eq_true]
 refine or_congr ?_ ?_
 ·rw [Bool.not_eq_true',clt_not]
 ·cases bget P s with
  | none=>simp
  | some w=>
   simp only [Option.some.injEq,exists_eq_left']
   rw [Bool.not_eq_true',clt_not]
theorem folw_mono {P : List Bnd} {tot : Cost} {s : Int × Int} {v v' : Cost} (h : cle v v') (k : folw P tot s v=true) : folw P tot s v'=true:=by
 rw [folw_iff] at k ⊢
 rcases k with k | ⟨w,k1,k2⟩
 ·exact .inl (cle_trans k h)
 ·exact .inr ⟨w,k1,cle_trans k2 h⟩
theorem cle_add {a b : Cost} (h1 : 0 ≤ b.1) (h2 : 0 ≤ b.2) : cle a (cadd a b):=by unfold cle cadd; simp only; omega
theorem folw_path {c : Cg} (sm : CgSm c) {tot : Cost} {P : List Bnd} (hg : ∀ b ∈ P,0 ≤ b.1∧b.1 < ((2 ^ c.free.length : Nat) : Int) - 1) (hst : ∀ b ∈ P,stepsB c tot P b=true) : ∀ (q : List Nat) (s : St) (d e : Cost) (s' : St),Path c.tk s q e s'→cnt c.tk.f s'.1=0→s.1 < 2 ^ c.tk.f→folw P tot ((s.1 : Int),s.2) d=true→cle tot (cadd d e)
 | [],s,d,e,s',⟨h1,h2⟩,hc,hs,hf=>by
  subst h1
  subst h2
  rw [cadd_zero]
  rcases folw_iff.1 hf with h | ⟨w,h1,_⟩
  ·exact h
  ·exfalso
   obtain ⟨b,hb,h2,h3,h4⟩:=bget_mem h1
   have h5:=(hg b hb).2
   have h6:=(cnt_full hs).1 hc
   have e0 : c.tk.f=c.free.length:=rfl
   rw [e0] at h6
   have h7:=Nat.two_pow_pos c.free.length
   simp only at h2
   omega
 | i :: q,s,d,e,s',⟨to,x,y,h1,h2,h3⟩,hc,hs,hf=>by
  subst h3
  have hb1:=step_bd sm h1
  have hb2:=path_bd sm q to y s' h2
  rcases folw_iff.1 hf with h | ⟨w,k1,k2⟩
  ·refine cle_trans h (cle_add ?_ ?_) <;> (unfold cadd; simp only; omega)
  ·obtain ⟨b,hb,g2,g3,g4⟩:=bget_mem k1
   have hs':=hst b hb
   unfold stepsB at hs'
   simp only at g2 g3
   have e1 : b.1.toNat=s.1:=by omega
   rw [e1,g3] at hs'
   have:=List.all_eq_true.1 hs' (i,to,x) (mem_steps.2 h1)
   simp only at this
   rw [g4] at this
   have:=folw_path sm hg hst q to (cadd d x) y s' h2 hc (h1.set_lt hs) (folw_mono (cadd_mono_r x k2) this)
   rw [cadd_assoc] at this
   exact this
theorem cpR_least {c : Chg} {A : Amd} {P : List Bnd} (hc : c.check=0) (h : cpR c A P=true) : (A.off,A.mov)=c.cg.goal.total∧validR c A.order=true∧c.cg.rcost A.order=(A.off,A.mov):=by
 have ok:=check_ok hc
 have sm:=ok.cgSm
 unfold cpR at h
 simp only [Bool.and_eq_true,decide_eq_true_eq] at h
 obtain ⟨⟨⟨⟨⟨h1,h2⟩,h3⟩,h4⟩,h5⟩,h6⟩:=h
 refine ⟨?_,h1,h2⟩
 have hg : ∀ b ∈ P,0 ≤ b.1∧b.1 < ((2 ^ c.cg.free.length : Nat) : Int) - 1:=fun b hb=>by
  obtain ⟨j,hj,rfl⟩:=List.getElem_of_mem hb
  have:=List.all_eq_true.1 h4 j (by simpa using hj)
  unfold goodB at this
  simp only [Bool.and_eq_true,decide_eq_true_eq] at this
  rw [show P.getD j bZ=P[j] from by rw [List.getD_eq_getElem?_getD,List.getElem?_eq_getElem hj]; rfl] at this
  exact ⟨this.1.2.1,this.1.2.2.1⟩
 obtain ⟨q,s',hp,hc'⟩:=rest_ex (T:=c.cg.tk) _ (0,c.cg.goal.last0) rfl
 have hle : cle (A.off,A.mov) c.cg.goal.total:=folw_path sm hg (fun b hb=>List.all_eq_true.1 h6 b hb) q (0,c.cg.goal.last0) (c.cg.goal.base,0) _ s' hp hc' (Nat.two_pow_pos _) h5
 have hv:=h1
 unfold validR at hv
 rw [if_pos hc,Bool.and_eq_true,decide_eq_true_eq] at hv
 have:=valid_le ok.cgOk hv.1 hv.2
 rw [h2] at this
 exact cle_anti hle this
theorem cost_not_less {c : Chg} (hc : c.check=0) {o : List Int} (h : costE c o=0) : clt (costV c o) c.cg.goal.total=false:=by
 have ok:=check_ok hc
 unfold costV
 rw [if_pos h]
 have hv : validR c o=true:=by
  unfold costE at h
  rw [if_neg (by simpa using hc)] at h
  cases hvv : validR c o with
  | true=>rfl
  | false=>
   rw [hvv] at h
   split at h <;> simp at h
 unfold validR at hv
 rw [if_pos hc,Bool.and_eq_true,decide_eq_true_eq] at hv
 exact clt_not.2 (valid_le ok.cgOk hv.1 hv.2)
end Go.Gx.A
namespace Go.Gx.A
open Go.Gx Go.Proofs
set_option maxRecDepth 100000
set_option linter.all false
set_option maxHeartbeats 4000000
theorem lless_ok {S : AS} {a b : Cost} {Q : En→AS→Prop} (hq : Q (.ret (.bool (clt a b))) S) : Call G 53 [.int .i64 a.1,.int .i64 a.2,.int .i64 b.1,.int .i64 b.2] S Q:=by
 refine call_run' (G:=G) rfl (ext_none (by decide)) ?_
 unfold clt at hq
 by_cases h1 : a.1 < b.1
 ·simp [h1,undef] at hq ⊢; exact hq
 ·by_cases h2 : a.1=b.1
  ·simp [h1,h2,undef] at hq ⊢; exact hq
  ·simp [h1,h2,undef] at hq ⊢; exact hq
end Go.Gx.A
namespace Go.Gx.A
open Go.Gx Go.Proofs
set_option linter.all false
theorem mem_outS {R : Rch} {tot : Cost} {s : St} {b : Bnd} : b ∈ outS R tot s ↔ ∃ a,R s=some a∧clt a tot=true∧b=((s.1 : Int),s.2,a.1,a.2):=by
 unfold outS
 cases R s with
 | none=>simp
 | some a=>
  simp only [Option.some.injEq,exists_eq_left']
  split
  ·rename_i h; simp [h]
  ·rename_i h; simp [h]
theorem mem_outRow {R : Rch} {tot : Cost} {set : Nat} {b : Bnd} : ∀ k,b ∈ outRow R tot set k ↔ ∃ q,q < k∧b ∈ outS R tot (set,(q : Int) - 1)
 | 0=>by simp [outRow]
 | k + 1=>by
  simp only [outRow,List.mem_append,mem_outRow k]
  constructor
  ·rintro (⟨q,h1,h2⟩ | h)
   ·exact ⟨q,by omega,h2⟩
   ·exact ⟨k,by omega,h⟩
  ·rintro ⟨q,h1,h2⟩
   rcases Nat.lt_succ_iff_lt_or_eq.1 h1 with h | rfl
   ·exact .inl ⟨q,h,h2⟩
   ·exact .inr h2
theorem mem_outAll {R : Rch} {tot : Cost} {n : Nat} {b : Bnd} : ∀ j,b ∈ outAll R tot n j ↔ ∃ set q,set < j∧q < n∧b ∈ outS R tot (set,(q : Int) - 1)
 | 0=>by simp [outAll]
 | j + 1=>by
  simp only [outAll,List.mem_append,mem_outAll j,mem_outRow n]
  constructor
  ·rintro (⟨s,q,h1,h2,h3⟩ | ⟨q,h2,h3⟩)
   ·exact ⟨s,q,by omega,h2,h3⟩
   ·exact ⟨j,q,by omega,h2,h3⟩
  ·rintro ⟨s,q,h1,h2,h3⟩
   rcases Nat.lt_succ_iff_lt_or_eq.1 h1 with h | rfl
   ·exact .inl ⟨s,q,h,h2,h3⟩
   ·exact .inr ⟨q,h2,h3⟩
theorem pw_outS {R : Rch} {tot : Cost} {s : St} : (outS R tot s).Pairwise bLt:=by
 unfold outS
 split
 ·exact List.Pairwise.nil
 ·split
  ·exact List.pairwise_singleton _ _
  ·exact List.Pairwise.nil
theorem pw_outRow {R : Rch} {tot : Cost} {set : Nat} : ∀ k,(outRow R tot set k).Pairwise bLt
 | 0=>List.Pairwise.nil
 | k + 1=>by
  simp only [outRow]
  refine List.pairwise_append.2 ⟨pw_outRow k,pw_outS,fun a ha b hb=>?_⟩
  obtain ⟨q,h1,h2⟩:=(mem_outRow k).1 ha
  obtain ⟨x,_,_,rfl⟩:=mem_outS.1 h2
  obtain ⟨y,_,_,rfl⟩:=mem_outS.1 hb
  show ((set : Nat) : Int) < (set : Nat) ∨ ((set : Nat) : Int)=(set : Nat)∧(q : Int) - 1 < (k : Int) - 1
  exact .inr ⟨rfl,by omega⟩
theorem pw_outAll {R : Rch} {tot : Cost} {n : Nat} : ∀ j,(outAll R tot n j).Pairwise bLt
 | 0=>List.Pairwise.nil
 | j + 1=>by
  simp only [outAll]
  refine List.pairwise_append.2 ⟨pw_outAll j,pw_outRow n,fun a ha b hb=>?_⟩
  obtain ⟨s,q,h1,_,h2⟩:=(mem_outAll j).1 ha
  obtain ⟨x,_,_,rfl⟩:=mem_outS.1 h2
  obtain ⟨q',_,h3⟩:=(mem_outRow n).1 hb
  obtain ⟨y,_,_,rfl⟩:=mem_outS.1 h3
  unfold bLt
  simp only
  omega
theorem bget_pw : ∀ {P : List Bnd} {b : Bnd},P.Pairwise bLt→b ∈ P→bget P (b.1,b.2.1)=some b.2.2
 | x :: P,b,hp,hb=>by
  rw [List.pairwise_cons] at hp
  simp only [bget]
  rcases List.mem_cons.1 hb with rfl | hb'
  ·simp
  ·have:=hp.1 b hb'
   unfold bLt at this
   rw [if_neg (by omega)]
   exact bget_pw hp.2 hb'
def LE (R : Rch) (y : St) (d : Cost) : Prop:=∃ w,R y=some w∧cle w d
theorem mnO_le {o : Option Cost} {e : Cost} : cle (mnO o e) e:=by
 cases o with
 | none=>exact cle_refl _
 | some w=>
  unfold mnO
  simp only
  split
  ·exact cle_refl _
  ·rename_i h; exact clt_not.1 (by simpa using h)
theorem mnO_le2 {w e : Cost} : cle (mnO (some w) e) w:=by
 unfold mnO
 simp only
 split
 ·rename_i h
  have:=clt_iff.1 h
  unfold cle; omega
 ·exact cle_refl _
theorem rx_new {R : Rch} {to : St} {e : Cost} : LE (rx R to e) to e:=⟨_,rx_self,mnO_le⟩
theorem rx_le {R : Rch} {to y : St} {d e : Cost} (h : LE R y d) : LE (rx R to e) y d:=by
 obtain ⟨w,h1,h2⟩:=h
 by_cases hy : y=to
 ·subst hy
  exact ⟨_,rx_self,by rw [h1]; exact cle_trans mnO_le2 h2⟩
 ·exact ⟨w,by rw [rx_ne hy]; exact h1,h2⟩
theorem rlx_le : ∀ (l : List Sp) {R : Rch} {a d : Cost} {y : St},LE R y d→LE (rlx R a l) y d
 | [],_,_,_,_,h=>h
 | x :: l,R,a,d,y,h=>rlx_le l (R:=rx R x.2.1 (cadd a x.2.2)) (rx_le h)
theorem rlx_new : ∀ (l : List Sp) {R : Rch} {a : Cost} {x : Sp},x ∈ l→LE (rlx R a l) x.2.1 (cadd a x.2.2)
 | z :: l,R,a,x,h=>by
  rcases List.mem_cons.1 h with rfl | h
  ·exact rlx_le l (R:=rx R x.2.1 (cadd a x.2.2)) rx_new
  ·exact rlx_new l h
theorem prS_le {T : Tk} {tot : Cost} {X : Rch × List Bnd} {s y : St} {d : Cost} (h : LE X.1 y d) : LE (prS T tot X s).1 y d:=by
 unfold prS
 split
 ·exact h
 ·exact rlx_le _ h
theorem prRow_le {T : Tk} {tot : Cost} {X : Rch × List Bnd} {set : Nat} {y : St} {d : Cost} {k : Nat} : ∀ k', k ≤ k' → LE (prRow T tot X set k).1 y d → LE (prRow T tot X set k').1 y d
  | 0, h, g => by obtain rfl : k = 0 := by omega
                  exact g
  | k' + 1, h, g => by
    by_cases e : k = k' + 1
    · subst e; exact g
    · exact prS_le (prRow_le k' (by omega) g)
theorem prAll_le {T : Tk} {tot : Cost} {n : Nat} {X : Rch × List Bnd} {y : St} {d : Cost} {j : Nat} : ∀ j', j ≤ j' → LE (prAll T tot n X j).1 y d → LE (prAll T tot n X j').1 y d
  | 0, h, g => by obtain rfl : j = 0 := by omega
                  exact g
  | j' + 1, h, g => by
    by_cases e : j = j' + 1
    · subst e; exact g
    · exact prRow_le (k := 0) n (by omega) (prAll_le j' (by omega) g)
theorem tbl_step {T : Tk} {tot : Cost} {n N : Nat} {X : Rch × List Bnd} {set q : Nat} {a : Cost} (hset : set < N) (hq : q < n) (h : (prAll T tot n X N).1 (set,(q : Int) - 1)=some a) {x : Sp} (hx : x ∈ T.steps (set,(q : Int) - 1)) : LE (prAll T tot n X N).1 x.2.1 (cadd a x.2.2):=by
 have h1 : (prAll T tot n X set).1 (set,(q : Int) - 1)=some a:=by rw [← h]; exact (prAll_low (j0:=set) (y:=(set,(q : Int) - 1)) (Nat.le_refl _) N (by omega)).symm
 have h2 : (prRow T tot (prAll T tot n X set) set q).1 (set,(q : Int) - 1)=some a:=by rw [prRow_low (y:=(set,(q : Int) - 1)) (Nat.le_refl _)]; exact h1
 refine prAll_le (j:=set + 1) N (by omega) (prRow_le (k:=q + 1) n (by omega) ?_)
 show LE (prS T tot (prRow T tot (prAll T tot n X set) set q) (set,(q : Int) - 1)).1 _ _
 unfold prS
 rw [h2]
 exact rlx_new _ hx
def OnPath (c : Cg) (s : St) (a : Cost) : Prop:=∃ q e,Path c.tk (0,c.goal.last0) q e s∧a=cadd (c.goal.base,0) e
theorem onPath_step {c : Cg} (s : St) (a : Cost) (x : Sp) (h : OnPath c s a) (hx : x ∈ c.tk.steps s) : OnPath c x.2.1 (cadd a x.2.2):=by
 obtain ⟨q,e,h1,rfl⟩:=h
 exact ⟨q ++ [x.1],cadd e x.2.2,path_snoc.2 ⟨s,e,x.2.2,h1,mem_steps.1 hx,rfl⟩,by rw [cadd_assoc]⟩
theorem tbl_onPath (c : Cg) (j : Nat) : ∀ y a,(c.tbl j).1 y=some a→OnPath c y a:=by
 refine prAll_ind (fun s a x h hx=>onPath_step s a x h hx) ?_ j
 intro y a h
 unfold R0 at h
 simp only at h
 split at h
 ·rename_i e
  cases h
  exact ⟨[],(0,0),⟨rfl,e⟩,(cadd_zero _).symm⟩
 ·cases h
theorem path_mov {c : Cg} : ∀ (q : List Nat) (s : St) (e : Cost) (s' : St),Path c.tk s q e s'→e.2 ≤ ((q.filter fun i=>(c.tk.place (c.tk.at' i)).isSome).length : Int)
 | [],s,e,s',⟨h,_⟩=>by subst h; simp
 | i :: q,s,e,s',⟨to,x,y,h1,h2,h3⟩=>by
  subst h3
  have ih:=path_mov q to y s' h2
  have h4:=h1.to'
  cases hp : c.tk.place (c.tk.at' i) with
  | none=>
   rw [hp] at h4
   simp only [StepTo] at h4
   rw [List.filter_cons_of_neg (by simp [hp])]
   simp only [cadd]; omega
  | some p=>
   rw [hp] at h4
   simp only [StepTo] at h4
   rw [List.filter_cons_of_pos (by simp [hp]),List.length_cons]
   simp only [cadd]; omega
theorem moved_le {c : Cg} {q : List Nat} {e : Cost} {s : St} (h : Path c.tk (0,c.goal.last0) q e s) : e.2 ≤ c.old.length:=by
 have h1:=path_mov _ _ _ _ h
 have hg:=((vd_good q 0).1 (path_cost _ _ _ _ h).1).1
 have hix : ∀ i ∈ (q.filter fun i=>(c.tk.place (c.tk.at' i)).isSome),∃ n : Nat,c.old.idxOf? (c.tk.at' i)=some n∧i < c.tk.f:=fun i hi=>by
  rw [List.mem_filter] at hi
  have h2:=hi.2
  have e0 : c.tk.place (c.tk.at' i)=(c.old.idxOf? (c.tk.at' i)).map fun (i : Nat)=>(i : Int):=rfl
  rw [e0] at h2
  cases hx : c.old.idxOf? (c.tk.at' i) with
  | none=>rw [hx] at h2; simp at h2
  | some n=>exact ⟨n,rfl,hg.lt i hi.1⟩
 have hnd : ((q.filter fun i=>(c.tk.place (c.tk.at' i)).isSome).map fun i=>((((c.old.idxOf? (c.tk.at' i)).getD 0 : Nat)) : Int)).Nodup:=by
  refine List.pairwise_map.2 (List.Pairwise.imp_of_mem (R:=fun a b=>a ≠ b) (fun {a b} ha hb hne he=>?_) (hg.nd.sublist List.filter_sublist))
  obtain ⟨n,h3,h4⟩:=hix a ha
  obtain ⟨m,h5,h6⟩:=hix b hb
  rw [h3,h5] at he
  simp only [Option.getD_some] at he
  have hnm : n=m:=Int.ofNat.inj he
  subst hnm
  have g1:=(idxOf_some h3).1
  have g2:=(idxOf_some h5).1
  rw [g1] at g2
  exact hne (at_inj h4 h6 (Option.some.inj g2))
 have h2:=nodup_len (n:=c.old.length) hnd fun x hx=>by
  obtain ⟨i,hi,rfl⟩:=List.mem_map.1 hx
  obtain ⟨n,h3,_⟩:=hix i hi
  rw [h3]
  have:=(List.getElem?_eq_some_iff.1 (idxOf_some h3).1).1
  simp only [Option.getD_some]
  omega
 rw [List.length_map] at h2
 omega
theorem step_last {c : Cg} {s : St} {x : Sp} (hx : x ∈ c.tk.steps s) (h1 : -1 ≤ s.2) (h2 : s.2 < c.old.length) : -1 ≤ x.2.1.2∧x.2.1.2 < c.old.length:=by
 have hs:=(mem_steps (i:=x.1) (to:=x.2.1) (c:=x.2.2)).1 hx
 have h3:=hs.to'
 cases hp : c.tk.place (c.tk.at' x.1) with
 | none=>rw [hp] at h3; simp only [StepTo] at h3; omega
 | some p=>
  rw [hp] at h3
  simp only [StepTo] at h3
  have e0 : c.tk.place (c.tk.at' x.1)=(c.old.idxOf? (c.tk.at' x.1)).map fun (i : Nat)=>(i : Int):=rfl
  rw [e0] at hp
  cases hy : c.old.idxOf? (c.tk.at' x.1) with
  | none=>rw [hy] at hp; cases hp
  | some n=>
   rw [hy] at hp
   simp only [Option.map_some,Option.some.injEq] at hp
   have:=(List.getElem?_eq_some_iff.1 (idxOf_some hy).1).1
   omega
theorem bnds_mem {c : Cg} {b : Bnd} : b ∈ c.bnds ↔ ∃ set q : Nat,set < 2 ^ c.free.length∧q < c.old.length + 1∧∃ a,(c.tbl (2 ^ c.free.length)).1 (set,(q : Int) - 1)=some a∧clt a c.goal.total=true∧b=((set : Int),(q : Int) - 1,a.1,a.2):=by
 unfold Cg.bnds
 rw [mem_outAll]
 refine exists_congr fun set=>exists_congr fun q=>and_congr Iff.rfl (and_congr Iff.rfl ?_)
 rw [mem_outS]
theorem folw_of {c : Cg} {s : St} {d : Cost} (h1 : s.1 < 2 ^ c.free.length) (h2 : -1 ≤ s.2) (h3 : s.2 < c.old.length) (h : LE (c.tbl (2 ^ c.free.length)).1 s d) : folw c.bnds c.goal.total ((s.1 : Int),s.2) d=true:=by
 obtain ⟨w,k1,k2⟩:=h
 rw [folw_iff]
 by_cases hd : cle c.goal.total d
 ·exact .inl hd
 ·refine .inr ⟨w,?_,k2⟩
  obtain ⟨q,hq⟩ : ∃ q : Nat,s.2=(q : Int) - 1:=⟨(s.2 + 1).toNat,by omega⟩
  have hw : clt w c.goal.total=true:=by
   cases hc : clt w c.goal.total with
   | true=>rfl
   | false=>exact absurd (cle_trans (clt_not.1 hc) k2) hd
  have hm : ((s.1 : Int),s.2,w.1,w.2) ∈ c.bnds:=bnds_mem.2 ⟨s.1,q,h1,by omega,w,by rw [← hq]; exact k1,hw,by rw [hq]⟩
  exact bget_pw (b:=((s.1 : Int),s.2,w.1,w.2)) (by unfold Cg.bnds; exact pw_outAll _) hm
theorem cpR_amd {c : Chg} (hc : c.check=0) : cpR c c.cg.amd c.cg.bnds=true:=by
 have ok:=check_ok hc
 have sm:=ok.cgSm
 have cok:=ok.cgOk
 have hpos : 0 < 2 ^ c.cg.free.length:=Nat.two_pow_pos _
 have hbb:=base_bd sm
 have hlast : c.cg.goal.last0=(c.cg.passed : Int) - 1:=rfl
 have hps : c.cg.passed ≤ c.cg.old.length:=sm.ps
 obtain ⟨q0,q1,q2,q3⟩:=mem_bests.1 (List.mem_of_getElem? (bests_head c.cg))
 have hord : ordOk c.cg.n c.cg.amd.order=true:=ordOk_iff.2 ⟨amd_len cok,amd_nodup cok,fun x hx=>(amd_mem cok).1 hx⟩
 have htake : c.cg.amd.order.take c.cg.passed=c.old.take c.cg.passed:=by
  show (c.cg.bests.headD []).take c.cg.passed=_
  rw [q3]
  unfold Cg.order
  have hf : c.cg.front=c.old.take c.cg.passed:=rfl
  have hfl : c.cg.front.length=c.cg.passed:=by rw [hf,List.length_take]; have e0 : c.cg.old.length=c.old.length:=rfl; omega
  rw [List.take_left' hfl,hf]
 have htot : (c.cg.amd.off,c.cg.amd.mov)=c.cg.goal.total:=rfl
 unfold cpR
 rw [htot,amd_cost cok]
 have v1 : validR c c.cg.amd.order=true:=by
  unfold validR
  rw [if_pos hc,hord,htake]
  simp
 have v2 : c.cg.amd.kept=kept c.old c.cg.amd.order:=rfl
 have hmem : ∀ b ∈ c.cg.bnds,0 ≤ b.1∧b.1 < ((2 ^ c.cg.free.length : Nat) : Int) - 1∧-1 ≤ b.2.1∧b.2.1 < c.cg.old.length∧0 ≤ b.2.2.1∧0 ≤ b.2.2.2∧b.2.2.2 ≤ c.cg.old.length∧clt b.2.2 c.cg.goal.total=true:=fun b hb=>by
  obtain ⟨set,q,g1,g2,a,g3,g4,rfl⟩:=bnds_mem.1 hb
  obtain ⟨p,e,g5,g6⟩:=tbl_onPath c.cg _ _ _ g3
  have g7:=path_bd sm _ _ _ _ g5
  have g8:=moved_le g5
  have ha : a.1=c.cg.goal.base + e.1∧a.2=e.2:=by rw [g6]; exact ⟨rfl,by simp [cadd]⟩
  have hne : set ≠ 2 ^ c.cg.free.length - 1:=fun he=>by
   have hz : cnt c.cg.tk.f set=0:=(cnt_full g1).2 he
   have:=reach_le (g:=c.cg.goal) g5
   rw [show c.cg.goal.T.rest (set,(q : Int) - 1)=(0,0) from rest_full hz,cadd_zero,← g6] at this
   rw [clt_not.2 this] at g4
   cases g4
  simp only
  refine ⟨by omega,by omega,by omega,by omega,by omega,by omega,by omega,g4⟩
 have v3 : (List.range c.cg.bnds.length).all (goodB c.cg c.cg.goal.total c.cg.bnds)=true:=by
  refine List.all_eq_true.2 fun j hj=>?_
  have hj' : j < c.cg.bnds.length:=by simpa using hj
  have hm:=hmem _ (List.getElem_mem hj')
  unfold goodB
  rw [show c.cg.bnds.getD j bZ=c.cg.bnds[j] from by rw [List.getD_eq_getElem?_getD,List.getElem?_eq_getElem hj']; rfl]
  simp only [Bool.and_eq_true,decide_eq_true_eq]
  refine ⟨⟨fun h0=>?_,hm.1,hm.2.1,hm.2.2.1,hm.2.2.2.1,hm.2.2.2.2.1,hm.2.2.2.2.2.1,hm.2.2.2.2.2.2.1⟩,hm.2.2.2.2.2.2.2⟩
  rw [show c.cg.bnds.getD (j - 1) bZ=c.cg.bnds[j - 1] from by rw [List.getD_eq_getElem?_getD,List.getElem?_eq_getElem (by omega)]; rfl]
  exact List.pairwise_iff_getElem.1 (show c.cg.bnds.Pairwise bLt from pw_outAll _) (j - 1) j (by omega) hj' (by omega)
 have v4 : folw c.cg.bnds c.cg.goal.total (0,c.cg.goal.last0) (c.cg.goal.base,0)=true:=by
  refine folw_of (s:=(0,c.cg.goal.last0)) hpos (by simp only; omega) (by simp only; omega) ⟨(c.cg.goal.base,0),?_,cle_refl _⟩
  show (prAll _ _ _ _ _).1 _=_
  rw [prAll_low (j0:=0) (y:=(0,c.cg.goal.last0)) (Nat.le_refl _) _ (by omega)]
  show (R0 _ _) _=_
  unfold R0
  rw [if_pos rfl]
 have v5 : c.cg.bnds.all (stepsB c.cg c.cg.goal.total c.cg.bnds)=true:=by
  refine List.all_eq_true.2 fun b hb=>?_
  obtain ⟨set,q,g1,g2,a,g3,g4,rfl⟩:=bnds_mem.1 hb
  unfold stepsB
  refine List.all_eq_true.2 fun x hx=>?_
  simp only [Int.toNat_natCast] at hx
  have hs:=(mem_steps (i:=x.1) (to:=x.2.1) (c:=x.2.2)).1 hx
  have hl:=step_last hx (by simp only; omega) (by simp only; omega)
  exact folw_of (s:=x.2.1) (hs.set_lt g1) hl.1 hl.2 (tbl_step g1 g2 g3 hx)
 rw [v1,v2,v3,v4,v5]
 simp
end Go.Gx.A
namespace Go.Gx.A
open Go.Gx Go.Proofs
set_option maxRecDepth 100000
set_option linter.all false
set_option maxHeartbeats 4000000
theorem least_walk {S : AS} {va vo u : Value} {c : Chg} {o : List Int} (h : ChgAt S va vo c) (hO : Is S u o) : Call G 14 [c.val va vo,u] S fun e _=>e=.ret (.bool true):=by
 refine call_run' (G:=G) rfl (ext_none (by decide)) ?_
 simp [Chg.val,Nat.add_assoc]
 generalize hS1 : AS.put (AS.bump S 1) _ _=S1
 have s1 : Same S S1 []:=by rw [← hS1]; exact (Same.refl _ _).bu.pn (by omega)
 have g1 : S1.get S.next=some (.row [.int .i64 c.n,va,vo,.int .i64 c.passed] 27 true true):=by rw [← hS1]; simp
 have hn1 : S1.next=S.next + 1:=by rw [← hS1]; simp
 clear hS1
 have hval : Value.agg #[.int .i64 c.n,va,vo,.int .i64 c.passed]=c.val va vo:=rfl
 simp [g1,hval]
 have s1b : Same S1 (S1.bump 1) []:=(Same.refl _ _).bu
 refine Amend_ok2 ((h.stay0 s1).stay0 s1b) fun S2 v k hs2 ho2 hk2 hov2 hok2 _=>?_
 have hn2:=hs2.1
 simp at hn2
 have s12:=s1b.tr0 hs2
 have s2:=s1.tr0 s12
 have g2 : S2.get S.next=_:=(s12.2 _ (by omega) (by simp)).trans g1
 obtain ⟨z1,z2,hz⟩:=ho2.shape
 obtain ⟨y1,y2,hy⟩:=hk2.shape
 subst hz
 subst hy
 simp [okc,rowStore,splice,placeIn,undef]
 generalize hS3 : AS.put (AS.put S2 _ _) _ _=S3
 have hs3 : Same S2 S3 [S.next + 1]:=by rw [← hS3]; exact ((Same.refl _ _).po (by simp)).po (by simp)
 have a3 : S3.get (S.next + 1)=some (.row [.slice z1 (amdR c).order.length z2,.int .i64 (amdR c).off,.int .i64 (amdR c).mov,.slice y1 (amdR c).kept.length y2] 44 true true):=by rw [← hS3,AS.get_put_self]
 have hn3:=hs3.1
 have e3 : S3.next=S2.next:=by rw [← hS3]; rfl
 clear hS3
 have s3 : Same S S3 []:=s2.trans hs3 (fun m hm hl=>by simp at hm; omega)
 have g3 : S3.get S.next=_:=(hs3.2 _ (by omega) (by simp)).trans g2
 have A3 : AmAt S3 (.slice z1 (amdR c).order.length z2) (.slice y1 (amdR c).kept.length y2) (amdR c):=⟨(ho2.stays hs3 (fun m hm=>by have:=hov2 m hm; simp at this ⊢; omega)).is,(hk2.stays hs3 (fun m hm=>by have:=hok2 m hm; simp at this ⊢; omega)).is⟩
 simp [g2,hval]
 have s3b : Same S3 (S3.bump 1) []:=(Same.refl _ _).bu
 refine Prove_ok ((h.stay0 s3).stay0 s3b) fun S4 a n hs4 hn hqs hown=>?_
 have hn4:=hs4.1
 simp at hn4
 have s34:=s3b.tr0 hs4
 have s4:=s3.tr0 s34
 have g4 : S4.get S.next=_:=(s34.2 _ (by omega) (by simp)).trans g3
 have a4 : S4.get (S.next + 1)=_:=(s34.2 _ (by omega) (by simp)).trans a3
 have A4:=A3.stay0 s34
 have hl:=pfR_len (c:=c)
 simp [okc,rowStore1,splice,placeIn,undef]
 generalize hS5 : AS.put (AS.put S4 _ _) _ _=S5
 have hs5 : Same S4 S5 [S2.next]:=by rw [← hS5]; exact ((Same.refl _ _).po (by simp)).po (by simp)
 have b5 : S5.get S2.next=some (.row [.slice a n n] 50 true true):=by rw [← hS5,AS.get_put_self]
 have hn5:=hs5.1
 clear hS5
 have s35 : Same S3 S5 []:=s34.trans hs5 (fun m hm hl=>by simp at hm; omega)
 have s5:=s3.tr0 s35
 have g5 : S5.get S.next=_:=(s35.2 _ (by omega) (by simp)).trans g3
 have a5 : S5.get (S.next + 1)=_:=(s35.2 _ (by omega) (by simp)).trans a3
 have A5:=A3.stay0 s35
 have q5 : Qs S5 131 (.slice a n n) (pfR c):=hqs.stays hs5 (fun m hm=>by have:=hown m hm; simp at this ⊢; omega)
 have B5 : Bs S5 (.slice a n n) (pfR c):=⟨q5.ps (by omega),by omega⟩
 simp [g5,hval]
 refine refCheckC_ok (h.stay0 s5) fun S6 hs6=>?_
 have hn6:=hs6.1
 have s6:=s5.tr0 hs6
 have g6 : S6.get S.next=_:=(hs6.2 _ (by omega) (by simp)).trans g5
 have a6 : S6.get (S.next + 1)=_:=(hs6.2 _ (by omega) (by simp)).trans a5
 have b6 : S6.get S2.next=_:=(hs6.2 _ (by omega) (by simp)).trans b5
 have A6:=A5.stay0 hs6
 have B6:=B5.stay0 hs6
 by_cases hc : c.check=0
 rotate_left
 ·have e : amdR c=⟨[],0,0,[]⟩:=if_neg hc
  have e2 : pfR c=[]:=if_neg hc
  rw [e2] at hn
  subst hn
  rw [e] at a6
  simp [hc,undef]
  refine alive_ok ?_
  simp [hc,undef,a6,b6,(show IntKind.i64.wrap 0=0 from by decide)]
 ·have e : amdR c=c.cg.amd:=if_pos hc
  have e2 : pfR c=c.cg.bnds:=if_pos hc
  have hcp : cpR c (amdR c) (pfR c)=true:=by rw [e,e2]; exact cpR_amd hc
  obtain ⟨t1,t2,t3⟩:=cpR_least hc hcp
  have he : costE c (amdR c).order=0:=by
   unfold costE
   rw [if_neg (by simpa using hc),t2]
   unfold validR at t2
   rw [if_pos hc,Bool.and_eq_true] at t2
   rw [t2.1]
   simp
  have hv : costV c (amdR c).order=((amdR c).off,(amdR c).mov):=by
   unfold costV
   rw [if_pos he,t3]
  simp [hc,undef,g6,a6,b6,hval]
  refine CheckProof_ok (h.stay0 s6) A6 B6 fun S7 hs7=>?_
  have hn7:=hs7.1
  have s7:=s6.tr0 hs7
  have g7 : S7.get S.next=_:=(hs7.2 _ (by omega) (by simp)).trans g6
  have a7 : S7.get (S.next + 1)=_:=(hs7.2 _ (by omega) (by simp)).trans a6
  have A7:=A6.stay0 hs7
  rw [hcp,hc]
  simp [undef,g7,a7,hval]
  refine Cost_ok (h.stay0 s7) A7.o fun S8 hs8=>?_
  have hn8:=hs8.1
  have s8:=s7.tr0 hs8
  have g8 : S8.get S.next=_:=(hs8.2 _ (by omega) (by simp)).trans g7
  have a8 : S8.get (S.next + 1)=_:=(hs8.2 _ (by omega) (by simp)).trans a7
  rw [he,hv]
  simp [undef,g8,a8,hval]
  refine Cost_ok (h.stay0 s8) (hO.stay0 s8) fun S9 hs9=>?_
  have a9 : S9.get (S.next + 1)=_:=(hs9.2 _ (by omega) (by simp)).trans a8
  simp [undef]
  refine alive_ok ?_
  by_cases he2 : costE c o=0
  ·simp [undef,a9,he2]
   refine lless_ok (a:=costV c o) (b:=((amdR c).off,(amdR c).mov)) ?_
   have:=cost_not_less hc he2
   rw [← t1] at this
   rw [this]
   simp [undef,a9,he2]
  ·simp [undef,a9,he2]
end Go.Gx.A
