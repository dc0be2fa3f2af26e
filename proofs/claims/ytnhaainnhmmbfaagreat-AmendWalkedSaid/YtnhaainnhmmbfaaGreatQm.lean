/-
  A walk begins.
-/
import Derived.Test.YtnhaainnhmmbfaaGreatQl
import Derived.Test.YtnhaainnhmmbfaaGreatPv
set_option linter.all false
set_option linter.deprecated false
namespace Go.Gx.Z
open Go.Gx Go.Proofs
set_option maxRecDepth 100000
set_option maxHeartbeats 4000000
def beginE (n : Int) (ar : List Arw) (order : List Int) (len : Nat) : Int:=
 if checkR n ar≠0 then checkR n ar else if ordOk n.toNat order=false then 1 else if len≤200 then 0 else 2
theorem begin_ok {S : AS} {va vo : Value} {n : Int} {ar : List Arw} {order : List Int} {la : Option Addr} {len lcap k : Nat} {cap : Array Value} (h : As S va ar) (ho : Is S vo order) {Q : En→AS→Prop}
  (hbad : beginE n ar order len≠0→∀ S',Same S S' []→Q (.panic (rfs (beginE n ar order len))) S')
  (hq : beginE n ar order len=0→∀ S' d vo',Same S S' []→S.next≤d→d < S'.next→S'.get d=some (.row (Wk.row ⟨n,ar,order,0⟩ va vo' k cap) 70 true true)→Is S' vo' order→(∀ m∈ownsOf vo',S.next≤m∧m≠d)→Q (.ret (ptr d)) S') :
  Call G 21 [.agg #[.int .i64 n,va],vo,.slice la len lcap,chf k cap] S Q:=by
 obtain ⟨oa,ocap,rfl⟩:=ho.shape
 obtain ⟨ra,rcap,rfl⟩:=h.shape
 refine call_run' (G:=G) rfl (ext_none (by decide)) ?_
 simp
 generalize hS1 : AS.put _ _ _=S1
 have s1 : Same S S1 []:=by rw [← hS1]; exact ((Same.refl _ _).bu).pn (by omega)
 have g0 : S1.get S.next=some (.row [.int .i64 n,.slice ra ar.length rcap] 24 true true):=by rw [← hS1]; simp
 have hn1 : S1.next=S.next + 1:=by rw [← hS1]; simp
 clear hS1
 unfold beginE at hbad hq
 refine rankCheck_ok (h.stay0 s1) fun S2 hs2=>?_
 have hs02:=s1.tr0 hs2
 have k0 : S2.get S.next=_:=(hs2.2 _ (by omega) (by simp)).trans g0
 have hn2:=hs2.1
 simp
 refine right_ok (fun hc=>?_) (fun hc=>?_)
 ·rw [if_neg (by simp [hc])] at hbad hq
  obtain ⟨hN0,hN1,har⟩:=checkR_pos hc
  obtain ⟨m,hm⟩ : ∃ m : Nat,n=m:=⟨n.toNat,by omega⟩
  subst hm
  simp [k0]
  refine checkOrder_ok (ho.stay0 hs02) (by omega) fun S3 hs3=>?_
  have hs03:=hs02.tr0 hs3
  have k3 : S3.get S.next=_:=(hs3.2 _ (by omega) (by simp)).trans k0
  have hn3:=hs3.1
  simp
  refine unless_ok (fun ho'=>?_) (fun ho'=>?_)
  ·have hok : ordOk m order=true:=by
    cases hx : ordOk m order with
    | true=>rfl
    | false=>rw [hx] at ho'; simp at ho'
   rw [if_neg (by simp [hok])] at hbad hq
   simp
   refine unless_ok (fun hl=>?_) (fun hl=>?_)
   ·have hl' : len≤200:=by simp at hl; omega
    rw [if_pos hl'] at hbad hq
    obtain ⟨ol1,ol2,ol3⟩:=ordOk_iff.1 hok
    simp [k3]
    have s3b : Same S3 (S3.bump 1) []:=(Same.refl _ _).bu
    refine clone_ok (ho.stay0 (hs03.tr0 s3b)) (by omega) fun S4 ca ccap hs4 hoc hown=>?_
    have hs34:=s3b.tr0 hs4
    have k4 : S4.get S.next=_:=(hs34.2 _ (by omega) (by simp)).trans k3
    have hn4:=hs4.1
    simp at hn4
    simp [k4,placeIn,splice]
    refine hq rfl _ _ _ ((hs03.tr0 hs34).pn (by omega)) (by omega) (by simp; omega) ?_ (hoc.is.stays (fp:=[S3.next]) ((Same.refl _ _).po (by simp)) ?_) ?_
    ·rw [AS.get_put_self]; rfl
    ·intro q hq'
     have:=hown q hq'
     simp at this ⊢
     omega
    ·intro q hq'
     have:=hown q hq'
     simp at this
     omega
   ·have hl' : ¬ len≤200:=by simp at hl; omega
    rw [if_neg hl'] at hbad hq
    simp
    exact hbad (by simp) _ hs03
  ·have hok : ordOk m order=false:=by
    cases hx : ordOk m order with
    | false=>rfl
    | true=>rw [hx] at ho'; simp at ho'
   rw [if_pos (by simp [hok])] at hbad hq
   simp
   exact hbad (by simp) _ hs03
 ·rw [if_pos hc] at hbad hq
  simp
  exact hbad hc _ hs02

theorem tassert_hit {ev : Operand→Value} {fr : Nat} {S : AS} {t : TypeId} {z v : Value} {x : Operand} (h : ev x=.iface t v) : (I.tassert t z true x).eval ev fr S=.ret (.tuple #[v,.bool true],S):=by
 simp only [I.eval,h]
 simp
abbrev dfr (k : Nat) (xs cap : List Value) : Deferred:={ target:=.fn (.func k) cap.toArray,args:=xs.toArray }
theorem caught_none {S : AS} {e : Nat} {ds : List Deferred} {Q : Option Value→AS→Prop} (h : LeaveP G ds none S Q) : LeaveP G (dfr 20 [ptr e] [] :: ds) none S Q:=by
 refine leave_runR (G:=G) rfl rfl ?_
 simp
 exact h
theorem caught_some {S : AS} {e : Nat} {x y : Int} {ds : List Deferred} {Q : Option Value→AS→Prop} (he : S.get e=some (.row [.int .i64 x] 30 true true)) (h : LeaveP G ds none (S.put e (.row [.int .i64 y] 30 true true)) Q) : LeaveP G (dfr 20 [ptr e] [] :: ds) (some (rfs y)) S Q:=by
 refine leave_runR (G:=G) rfl rfl ?_
 simp
 rw [tassert_hit (v:=.int .i64 y) rfl]
 simp [he,rowStore,okc,splice]
 exact h
theorem check1_leave {S : AS} {e o : Nat} {x : Int} {b : Bool} {ds : List Deferred} {p : Option Value} {Q : Option Value→AS→Prop} (he : S.get e=some (.row [.int .i64 x] 30 true true)) (ho : S.get o=some (.row [.bool b] 4 true true))
  (h : LeaveP G ds p (S.put o (.row [.bool (b && decide (x=0))] 4 true true)) Q) : LeaveP G (dfr 30 [] [ptr o,ptr e] :: ds) p S Q:=by
 refine leave_runP (G:=G) rfl rfl ?_
 cases b with
 | true=>
  simp [he,ho,rowStore,okc,splice]
  exact h
 | false=>
  simp [he,ho,rowStore,okc,splice]
  exact h


theorem doW_err {σ : Type} {ch : σ→Chg→List Int × σ} {s : σ} {w : Wk} {st : Stp} {e : Int} (h : doW ch s w st=.error e) : e≠0:=by
 have ht : ∀ {n ar old},turnW ch s w n ar old=.error e→e≠0:=by
  intro n ar old h
  unfold turnW at h
  split at h
  ·rename_i h1; cases h; exact h1
  ·cases h
 have hr : ∀ {m},renewW ch s w st m=.error e→e≠0:=by
  intro m h
  unfold renewW at h
  split at h
  ·rename_i h1; cases h; exact h1
  ·split at h
   ·exact ht h
   ·cases h; omega
 unfold doW at h
 split at h
 ·unfold passW at h
  split at h
  ·cases h
  ·cases h; omega
 ·split at h
  ·unfold leaveW at h
   split at h
   ·split at h
    ·cases h; omega
    ·exact ht h
   ·cases h; omega
  ·split at h
   ·exact hr h
   ·split at h
    ·exact hr h
    ·cases h; omega
structure Lo (S : AS) (v : Value) (vals : List Value) (ls : List (List Int)) : Prop where
 sl : SlAt S 25 v (sing vals)
 len : vals.length=ls.length
 pt : ∀ (i : Nat) (u : Value) (l : List Int),vals[i]?=some u→ls[i]?=some l→Is S u l
theorem Lo.shape {S : AS} {v : Value} {vals : List Value} {ls : List (List Int)} (h : Lo S v vals ls) : ∃ a,v=.slice a ls.length ls.length:=by
 rcases h.sl with ⟨rfl,hn⟩ | ⟨p,ex,rfl,h2,h3⟩
 ·have:=congrArg List.length hn
  rw [sing_len,h.len] at this
  exact ⟨none,by rw [this]; rfl⟩
 ·exact ⟨some ⟨p,0,none⟩,by rw [sing_len,h.len]⟩
def stC (x : Stp × Value) : List Value:=[.int .u8 x.1.kind,.int .i64 x.1.guest,.int .i64 x.1.n,x.2]
structure Sts (S : AS) (v : Value) (L : List (Stp × Value)) : Prop where
 ps : Ps S 4 v (L.map stC)
 small : L.length≤9223372036854775807
 pt : ∀ x∈L,As S x.2 x.1.ar∧-9223372036854775808≤x.1.n∧x.1.n≤9223372036854775807
theorem Sts.stay0 {S S' : AS} {v : Value} {L : List (Stp × Value)} (h : Sts S v L) (hs : Same S S' []) : Sts S' v L:=⟨h.ps.stays hs (by simp),h.small,fun x hx=>⟨(h.pt x hx).1.stay0 hs,(h.pt x hx).2⟩⟩
theorem Sts.shape {S : AS} {v : Value} {L : List (Stp × Value)} (h : Sts S v L) : ∃ a cap,v=.slice a L.length cap:=by
 obtain ⟨a,cap,e⟩:=h.ps.shape
 exact ⟨a,cap,by rw [e,List.length_map]⟩
theorem Sts.at {S : AS} {v : Value} {L : List (Stp × Value)} (h : Sts S v L) {i : Nat} (hi : i < L.length) :
  ∃ p o cells e wr ex,(∀ (S' : AS) (j : IntKind),idxE S' 4 none (.int j i) v=.ret (.pointer (some ⟨p,o,none⟩),S'))∧S.get p=some (.row cells e wr ex)∧p < S.next∧p∈ownsOf v∧rowLoad cells o (some 4)=some (.agg (stC L[i]).toArray) ∧
   cells[o]?=some (.int .u8 L[i].1.kind)∧cells[o + 1]?=some (.int .i64 L[i].1.guest)∧cells[o + 2]?=some (.int .i64 L[i].1.n):=by
 obtain ⟨p,o,cells,e,wr,ex,h1,h2,h3,h4,h5,h6⟩:=Ps.idx (S':=S) h.ps (by omega) (j:=.i64) (i:=i) (l:=stC L[i]) (by simp [hi])
 refine ⟨p,o,cells,e,wr,ex,fun S' j=>?_,h2,h3,h4,h6,by simpa [stC] using h5 0 (by omega),by simpa [stC] using h5 1 (by omega),by simpa [stC] using h5 2 (by omega)⟩
 obtain ⟨a,cap,rfl⟩:=h.shape
 match a with
 | none=>simp [idxE] at h1
 | some ⟨b,q,some s⟩=>simp [idxE] at h1
 | some ⟨b,q,none⟩=>
  simp [hi] at h1 ⊢
  exact h1

theorem As.lt {S : AS} {v : Value} {l : List Arw} (h : As S v l) : ∀ m∈ownsOf v,m < S.next:=h.ps.lt
def pre (ws : List Wk) : Except Int (List Wk)→Except Int (List Wk)
 | .error e=>.error e
 | .ok l=>.ok (ws ++ l)
end Go.Gx.Z
