/-
  A walk begins.
-/
import Derived.Test.YtnhaainnhmmbfaaGreatQl
import Derived.Test.YtnhaainnhmmbfaaGreatPv
set_option linter.all false
set_option linter.deprecated false
namespace Go.Gx.Z
open Go.Gx Go.Proofs
set_option maxRecDepth 100000
set_option maxHeartbeats 4000000
def beginE (n : Int) (ar : List Arw) (order : List Int) (len : Nat) : Int:=
 if checkR n ar≠0 then checkR n ar else if ordOk n.toNat order=false then 1 else if len≤200 then 0 else 2
theorem begin_ok {S : AS} {va vo : Value} {n : Int} {ar : List Arw} {order : List Int} {la : Option Addr} {len lcap k : Nat} {cap : Array Value} (h : As S va ar) (ho : Is S vo order) {Q : En→AS→Prop}
  (hbad : beginE n ar order len≠0→∀ S',Same S S' []→Q (.panic (rfs (beginE n ar order len))) S')
  (hq : beginE n ar order len=0→∀ S' d vo',Same S S' []→S.next≤d→d < S'.next→S'.get d=some (.row (Wk.row ⟨n,ar,order,0⟩ va vo' k cap) 70 true true)→Is S' vo' order→(∀ m∈ownsOf vo',S.next≤m∧m≠d)→Q (.ret (ptr d)) S') :
  Call G 21 [.agg #[.int .i64 n,va],vo,.slice la len lcap,chf k cap] S Q:=by
 obtain ⟨oa,ocap,rfl⟩:=ho.shape
 obtain ⟨ra,rcap,rfl⟩:=h.shape
 refine call_run' (G:=G) rfl (ext_none (by decide)) ?_
 simp
 generalize hS1 : AS.put _ _ _=S1
 have s1 : Same S S1 []:=by rw [← hS1]; exact ((Same.refl _ _).bu).pn (by omega)
 have g0 : S1.get S.next=some (.row [.int .i64 n,.slice ra ar.length rcap] 24 true true):=by rw [← hS1]; simp
 have hn1 : S1.next=S.next + 1:=by rw [← hS1]; simp
 clear hS1
 unfold beginE at hbad hq
 refine rankCheck_ok (h.stay0 s1) fun S2 hs2=>?_
 have hs02:=s1.tr0 hs2
 have k0 : S2.get S.next=_:=(hs2.2 _ (by omega) (by simp)).trans g0
 have hn2:=hs2.1
 simp
 refine right_ok (fun hc=>?_) (fun hc=>?_)
 ·rw [if_neg (by simp [hc])] at hbad hq
  obtain ⟨hN0,hN1,har⟩:=checkR_pos hc
  obtain ⟨m,hm⟩ : ∃ m : Nat,n=m:=⟨n.toNat,by omega⟩
  subst hm
  simp [k0]
  refine checkOrder_ok (ho.stay0 hs02) (by omega) fun S3 hs3=>?_
  have hs03:=hs02.tr0 hs3
  have k3 : S3.get S.next=_:=(hs3.2 _ (by omega) (by simp)).trans k0
  have hn3:=hs3.1
  simp
  refine unless_ok (fun ho'=>?_) (fun ho'=>?_)
  ·have hok : ordOk m order=true:=by
    cases hx : ordOk m order with
    | true=>rfl
    | false=>rw [hx] at ho'; simp at ho'
   rw [if_neg (by simp [hok])] at hbad hq
   simp
   refine unless_ok (fun hl=>?_) (fun hl=>?_)
   ·have hl' : len≤200:=by simp at hl; omega
    rw [if_pos hl'] at hbad hq
    obtain ⟨ol1,ol2,ol3⟩:=ordOk_iff.1 hok
    simp [k3]
    have s3b : Same S3 (S3.bump 1) []:=(Same.refl _ _).bu
    refine clone_ok (ho.stay0 (hs03.tr0 s3b)) (by omega) fun S4 ca ccap hs4 hoc hown=>?_
    have hs34:=s3b.tr0 hs4
    have k4 : S4.get S.next=_:=(hs34.2 _ (by omega) (by simp)).trans k3
    have hn4:=hs4.1
    simp at hn4
    simp [k4,placeIn,splice]
    refine hq rfl _ _ _ ((hs03.tr0 hs34).pn (by omega)) (by omega) (by simp; omega) ?_ (hoc.is.stays (fp:=[S3.next]) ((Same.refl _ _).po (by simp)) ?_) ?_
    ·rw [AS.get_put_self]; rfl
    ·intro q hq'
     have:=hown q hq'
     simp at this ⊢
     omega
    ·intro q hq'
     have:=hown q hq'
     simp at this
     omega
   ·have hl' : ¬ len≤200:=by simp at hl; omega
    rw [if_neg hl'] at hbad hq
    simp
    exact hbad (by simp) _ hs03
  ·have hok : ordOk m order=false:=by
    cases hx : ordOk m order with
    | false=>rfl
    | true=>rw [hx] at ho'; simp at ho'
   rw [if_pos (by simp [hok])] at hbad hq
   simp
   exact hbad (by simp) _ hs03
 ·rw [if_pos hc] at hbad hq
  simp
  exact hbad hc _ hs02

theorem tassert_hit {ev : Operand→Value} {fr : Nat} {S : AS} {t : TypeId} {z v : Value} {x : Operand} (h : ev x=.iface t v) : (I.tassert t z true x).eval ev fr S=.ret (.tuple #[v,.bool true],S):=by
 simp only [I.eval,h]
 simp
abbrev dfr (k : Nat) (xs cap : List Value) : Deferred:={ target:=.fn (.func k) cap.toArray,args:=xs.toArray }
theorem caught_none {S : AS} {e : Nat} {ds : List Deferred} {Q : Option Value→AS→Prop} (h : LeaveP G ds none S Q) : LeaveP G (dfr 20 [ptr e] [] :: ds) none S Q:=by
 refine leave_runR (G:=G) rfl rfl ?_
 simp
 exact h
theorem caught_some {S : AS} {e : Nat} {x y : Int} {ds : List Deferred} {Q : Option Value→AS→Prop} (he : S.get e=some (.row [.int .i64 x] 30 true true)) (h : LeaveP G ds none (S.put e (.row [.int .i64 y] 30 true true)) Q) : LeaveP G (dfr 20 [ptr e] [] :: ds) (some (rfs y)) S Q:=by
 refine leave_runR (G:=G) rfl rfl ?_
 simp
 rw [tassert_hit (v:=.int .i64 y) rfl]
 simp [he,rowStore,okc,splice]
 exact h
theorem walk1_leave {S : AS} {e o : Nat} {x : Int} {v : Value} {ds : List Deferred} {p : Option Value} {Q : Option Value→AS→Prop} (he : S.get e=some (.row [.int .i64 x] 30 true true)) (ho : S.get o=some (.row [v] 29 true true))
  (h : LeaveP G ds p (if x=0 then S else S.put o (.row [.slice none 0 0] 29 true true)) Q) : LeaveP G (dfr 19 [] [ptr e,ptr o] :: ds) p S Q:=by
 refine leave_runP (G:=G) rfl rfl ?_
 by_cases hx : x=0
 ·rw [if_pos hx] at h
  simp [he,hx]
  exact h
 ·rw [if_neg hx] at h
  simp [he,ho,hx,rowStore,okc,splice]
  exact h

def chA : Unit→Chg→List Int × Unit:=fun _ c=>(if c.passed < 0 then c.old else c.cg.amd.order,())
theorem choose_ok {S : AS} {va vo : Value} {c : Chg} (h : ChgAt S va vo c) (hc : c.passed = -1 ∨ c.check = 0) {Q : En → AS → Prop}
    (hq : ∀ S' v, Same S S' [] → Is S' v (chA () c).1 → (∀ m ∈ ownsOf v, m ∈ ownsOf vo ∨ S.next ≤ m) → Q (.ret v) S') : Call G 22 [c.val va vo] S Q := by
  refine call_run' (G := G) rfl (ext_none (by decide)) ?_
  obtain ⟨oa, ocap, rfl⟩ := h.old.shape
  simp [Chg.val]
  generalize hS1 : AS.put _ _ _ = S1
  have s1 : Same S S1 [] := by rw [← hS1]; exact ((Same.refl _ _).bu).pn (by omega)
  have g0 : S1.get S.next = some (.row [.int .i64 c.n, va, .slice oa c.old.length ocap, .int .i64 c.passed] 41 true true) := by rw [← hS1]; simp
  have hn1 : S1.next = S.next + 1 := by rw [← hS1]; simp
  clear hS1
  by_cases c1 : c.passed < 0
  · simp [g0, c1]
    refine hq _ _ s1 ?_ (fun m hm => .inl hm)
    unfold chA
    simp only [c1, if_true]
    exact h.old.stay0 s1
  · simp [g0, c1]
    have hck : c.check = 0 := by rcases hc with h | h; · omega
                                 · exact h
    refine amend_ok (h.stay0 s1) (check_ok hck) fun S2 w a n hs2 hoc hown _ _ _ _ => ?_
    obtain ⟨wa, wcap, rfl⟩ := hoc.shape
    simp
    refine hq _ _ (s1.tr0 hs2) ?_ (fun m hm => .inr (by have := hown m hm; omega))
    unfold chA
    simp only [c1, if_false]
    exact hoc.is
theorem chsA (P : List Nat) (d : Nat) : ChsAt 22 #[] [] P d (fun (_ : Unit) _=>True) chA where
 m1 s c h:=by unfold chA; simp [h]
 len s c h:=by
  have ok:=check_ok h
  have:=ok.p0
  unfold chA
  rw [if_neg (by omega)]
  have hl:=amd_len ok.cgOk
  have e : c.cg.n=c.n.toNat:=rfl
  have:=ok.p1
  have:=ok.olen
  simp only [hl]
  omega
 sm s c h:=by
  have ok:=check_ok h
  have:=ok.p0
  unfold chA
  rw [if_neg (by omega)]
  have hl:=amd_len ok.cgOk
  have e : c.cg.n=c.n.toNat:=rfl
  have:=ok.n1
  simp only [hl]
  omega
 stay _ _ _ _ _:=trivial
 call s S c va vo _ h hvo hc hlt Q hq:=choose_ok h hc fun S' v hs hv hown=>hq S' v hs trivial hv fun m hm hP=>by
  rcases hown m hm with h1 | h1
  ·exact hvo m h1 hP
  ·have:=hlt m hP; omega

def walkL : Wk→List Stp→Except Int (List Wk)
 | _,[]=>.ok []
 | w,st :: l=>match doW chA () w st with
  | .error e=>.error e
  | .ok r=>match walkL r.1 l with
   | .error e=>.error e
   | .ok ws=>.ok (r.1 :: ws)
def walkR (n : Int) (ar : List Arw) (order : List Int) (l : List Stp) : List (List Int) × Int:=
 if beginE n ar order l.length≠0 then ([],beginE n ar order l.length) else match walkL ⟨n,ar,order,0⟩ l with
 | .error e=>([],e)
 | .ok ws=>(ws.map (·.order),0)
theorem doW_err {σ : Type} {ch : σ→Chg→List Int × σ} {s : σ} {w : Wk} {st : Stp} {e : Int} (h : doW ch s w st=.error e) : e≠0:=by
 have ht : ∀ {n ar old},turnW ch s w n ar old=.error e→e≠0:=by
  intro n ar old h
  unfold turnW at h
  split at h
  ·rename_i h1; cases h; exact h1
  ·cases h
 have hr : ∀ {m},renewW ch s w st m=.error e→e≠0:=by
  intro m h
  unfold renewW at h
  split at h
  ·rename_i h1; cases h; exact h1
  ·split at h
   ·exact ht h
   ·cases h; omega
 unfold doW at h
 split at h
 ·unfold passW at h
  split at h
  ·cases h
  ·cases h; omega
 ·split at h
  ·unfold leaveW at h
   split at h
   ·split at h
    ·cases h; omega
    ·exact ht h
   ·cases h; omega
  ·split at h
   ·exact hr h
   ·split at h
    ·exact hr h
    ·cases h; omega
structure Lo (S : AS) (v : Value) (vals : List Value) (ls : List (List Int)) : Prop where
 sl : SlAt S 25 v (sing vals)
 len : vals.length=ls.length
 pt : ∀ (i : Nat) (u : Value) (l : List Int),vals[i]?=some u→ls[i]?=some l→Is S u l
theorem Lo.nil {S : AS} : Lo S (.slice none 0 0) [] []:=⟨.inl ⟨rfl,rfl⟩,rfl,by simp⟩
theorem Lo.shape {S : AS} {v : Value} {vals : List Value} {ls : List (List Int)} (h : Lo S v vals ls) : ∃ a,v=.slice a ls.length ls.length:=by
 rcases h.sl with ⟨rfl,hn⟩ | ⟨p,ex,rfl,h2,h3⟩
 ·have:=congrArg List.length hn
  rw [sing_len,h.len] at this
  exact ⟨none,by rw [this]; rfl⟩
 ·exact ⟨some ⟨p,0,none⟩,by rw [sing_len,h.len]⟩
theorem Lo.stays {S S' : AS} {v : Value} {vals : List Value} {ls : List (List Int)} (h : Lo S v vals ls) {fp : List Nat} (hs : Same S S' fp) (hd : ∀ m∈ownsOf v,m∉fp) (hi : ∀ u∈vals,∀ m∈ownsOf u,m∉fp) : Lo S' v vals ls:=
 ⟨h.sl.stays hs hd,h.len,fun i u l h1 h2=>(h.pt i u l h1 h2).stays hs fun m hm=>hi u (List.mem_of_getElem? h1) m hm⟩
theorem Lo.app1 {T : AS} {v u : Value} {vals : List Value} {ls : List (List Int)} {l : List Int} {fr y : Nat} {wr ex : Bool} (h : Lo T v vals ls) (hu : Is T u l) (hl : ls.length≤100000) (hy : T.get y=some (.row [u] 25 wr ex)) (hfr : fr < T.next) (hfo : fr∉ownsOf v)
  (hi : ∀ u'∈u :: vals,∀ m∈ownsOf u',m≠fr∧m∉ownsOf v) :
  ∃ T' v',appV T fr 25 1 24 v (.slice (some ⟨y,0,none⟩) 1 1)=some (v',T')∧Lo T' v' (vals ++ [u]) (ls ++ [l])∧Same T T' (fr :: ownsOf v)∧T'.next=T.next∧∀ x∈ownsOf v',x∈ownsOf v∨x=fr:=by
 obtain ⟨ua,ucap,rfl⟩:=hu.shape
 have hs : srcCells T 1 (.slice (some ⟨y,0,none⟩) 1 1)=some (([Value.slice ua l.length ucap] : List Value).length,[Value.slice ua l.length ucap]):=by simp [srcCells,hy]
 have hvl:=h.len
 obtain ⟨T',v',a1,a2,a3,a4,a5⟩:=appV_cells (fr:=fr) (bytes:=24) h.sl hs (by simp [okc]) (by simp; omega) (by omega) hfr hfo
 have hnf : ∀ u'∈Value.slice ua l.length ucap :: vals,∀ m∈ownsOf u',m∉fr :: ownsOf v:=fun u' hu' m hm hk=>by
  rcases List.mem_cons.1 hk with rfl | hk
  ·exact (hi u' hu' m hm).1 rfl
  ·exact (hi u' hu' m hm).2 hk
 refine ⟨T',v',a1,⟨a2,by simp [hvl],fun i u' l' h1 h2=>?_⟩,a3,a4,a5⟩
 by_cases hi' : i < vals.length
 ·rw [List.getElem?_append_left hi'] at h1
  rw [List.getElem?_append_left (by omega)] at h2
  exact (h.pt i u' l' h1 h2).stays a3 fun m hm=>hnf u' (List.mem_cons_of_mem _ (List.mem_of_getElem? h1)) m hm
 ·rw [List.getElem?_append_right (by omega)] at h1
  rw [List.getElem?_append_right (by omega)] at h2
  have e0 : i - vals.length=0:=by
   have:=(List.getElem?_eq_some_iff.1 h1).1
   simpa using this
  rw [e0] at h1
  rw [← hvl,e0] at h2
  simp at h1 h2
  subst h1; subst h2
  exact hu.stays a3 fun m hm=>hnf _ (List.mem_cons_self ..) m hm
def stC (x : Stp × Value) : List Value:=[.int .u8 x.1.kind,.int .i64 x.1.guest,.int .i64 x.1.n,x.2]
structure Sts (S : AS) (v : Value) (L : List (Stp × Value)) : Prop where
 ps : Ps S 4 v (L.map stC)
 small : L.length≤9223372036854775807
 pt : ∀ x∈L,As S x.2 x.1.ar∧-9223372036854775808≤x.1.n∧x.1.n≤9223372036854775807
theorem Sts.stay0 {S S' : AS} {v : Value} {L : List (Stp × Value)} (h : Sts S v L) (hs : Same S S' []) : Sts S' v L:=⟨h.ps.stays hs (by simp),h.small,fun x hx=>⟨(h.pt x hx).1.stay0 hs,(h.pt x hx).2⟩⟩
theorem Sts.shape {S : AS} {v : Value} {L : List (Stp × Value)} (h : Sts S v L) : ∃ a cap,v=.slice a L.length cap:=by
 obtain ⟨a,cap,e⟩:=h.ps.shape
 exact ⟨a,cap,by rw [e,List.length_map]⟩
theorem Sts.at {S : AS} {v : Value} {L : List (Stp × Value)} (h : Sts S v L) {i : Nat} (hi : i < L.length) :
  ∃ p o cells e wr ex,(∀ (S' : AS) (j : IntKind),idxE S' 4 none (.int j i) v=.ret (.pointer (some ⟨p,o,none⟩),S'))∧S.get p=some (.row cells e wr ex)∧p < S.next∧p∈ownsOf v∧rowLoad cells o (some 4)=some (.agg (stC L[i]).toArray) ∧
   cells[o]?=some (.int .u8 L[i].1.kind)∧cells[o + 1]?=some (.int .i64 L[i].1.guest)∧cells[o + 2]?=some (.int .i64 L[i].1.n):=by
 obtain ⟨p,o,cells,e,wr,ex,h1,h2,h3,h4,h5,h6⟩:=Ps.idx (S':=S) h.ps (by omega) (j:=.i64) (i:=i) (l:=stC L[i]) (by simp [hi])
 refine ⟨p,o,cells,e,wr,ex,fun S' j=>?_,h2,h3,h4,h6,by simpa [stC] using h5 0 (by omega),by simpa [stC] using h5 1 (by omega),by simpa [stC] using h5 2 (by omega)⟩
 obtain ⟨a,cap,rfl⟩:=h.shape
 match a with
 | none=>simp [idxE] at h1
 | some ⟨b,q,some s⟩=>simp [idxE] at h1
 | some ⟨b,q,none⟩=>
  simp [hi] at h1 ⊢
  exact h1

theorem walk_fail {S S' : AS} {e o : Nat} {x y : Int} {v : Value} {env : List Value} {Q : En→AS→Prop} (he : S'.get e=some (.row [.int .i64 x] 30 true true)) (ho : S'.get o=some (.row [v] 29 true true)) (hne : e≠o) (hy : y≠0) (h6 : env[6]?=some (ptr o)) (h7 : env[7]?=some (ptr e)) (hlt : e < S'.next∧o < S'.next)
  (hs : Same S S' []) (hlo : S.next≤e∧S.next≤o)
  (hq : ∀ S2,Same S S2 []→Q (.ret (.tuple #[.slice none 0 0,.int .i64 y])) S2) :
  OutX G [.cell 6 none,.cell 7 none] Q (.panic (rfs y)) { env:=env,defers:=[dfr 20 [ptr e] [],dfr 19 [] [ptr e,ptr o]] } S':=by
 rw [outX_panic]
 refine caught_some he ?_
 refine walk1_leave (x:=y) (v:=v) (by rw [AS.get_put_self]) (by rw [AS.get_put_ne _ _ (Ne.symm hne)]; exact ho) ?_
 rw [if_neg hy]
 refine leave_nil ?_
 refine ⟨rfl,.tuple #[.slice none 0 0,.int .i64 y],?_,hq _ ((hs.pn (by omega)).pn (by omega))⟩
 simp [resV,loadRV,List.getD,h6,h7,hne,AS.get_put_ne,rowLoad]
theorem WkAt.reP {S : AS} {P P' : List Nat} {d k : Nat} {cap : Array Value} {w : Wk} {va vo : Value} (h : WkAt S P d k cap w va vo) (hd : d∈P') (hl : ∀ m∈P',m < S.next) (hp : ∀ m∈P',m∈P∨(m∉ownsOf va∧m∉ownsOf vo)) : WkAt S P' d k cap w va vo:=
 ⟨h.row,h.ar,h.or,fun m hm hP=>(hp m hP).elim (h.oa m hm) fun k=>k.1 hm,fun m hm hP=>(hp m hP).elim (h.oo m hm) fun k=>k.2 hm,h.ck,h.ps,h.sm,hd,hl⟩
theorem As.lt {S : AS} {v : Value} {l : List Arw} (h : As S v l) : ∀ m∈ownsOf v,m < S.next:=h.ps.lt
def pre (ws : List Wk) : Except Int (List Wk)→Except Int (List Wk)
 | .error e=>.error e
 | .ok l=>.ok (ws ++ l)
theorem walkL_step {w : Wk} {ws : List Wk} {l : List Stp} {i : Nat} (hi : i < l.length) : pre ws (walkL w (l.drop i))=match doW chA () w l[i] with
  | .error e=>.error e
  | .ok r=>pre (ws ++ [r.1]) (walkL r.1 (l.drop (i + 1))):=by
 rw [List.drop_eq_getElem_cons hi]
 simp only [walkL]
 cases doW chA () w l[i] with
 | error e=>rfl
 | ok r=>
  simp only
  cases walkL r.1 (l.drop (i + 1)) with
  | error e=>rfl
  | ok x=>simp [pre]
theorem Walk_ok {S : AS} {va vo vl : Value} {n : Int} {ar : List Arw} {order : List Int} {L : List (Stp × Value)} (h : As S va ar) (ho : Is S vo order) (hL : Sts S vl L) {Q : En→AS→Prop}
  (hq : ∀ S' v vals,Same S S' []→Lo S' v vals (walkR n ar order (L.map (·.1))).1→(∀ m∈ownsOf v,S.next≤m)→(∀ u∈vals,∀ m∈ownsOf u,S.next≤m)→Q (.ret (.tuple #[v,.int .i64 (walkR n ar order (L.map (·.1))).2])) S') : Call G 7 [.agg #[.int .i64 n,va],vo,vl] S Q:=by
 obtain ⟨la,lcap,rfl⟩:=hL.shape
 refine call_runX (G:=G) rfl (ext_none (by decide)) ?_
 simp
 generalize hS1 : AS.put (AS.put (AS.put (AS.bump S 3) _ _) _ _) _ _=S1
 have s1 : Same S S1 []:=by rw [← hS1]; exact ((((Same.refl _ _).bu).pn (by omega)).pn (by omega)).pn (by omega)
 have g0 : S1.get S.next=some (.row [.int .i64 n,va] 24 true true):=by rw [← hS1,AS.get_put_ne _ _ (by omega),AS.get_put_ne _ _ (by omega),AS.get_put_self]
 have g1 : S1.get (S.next + 1)=some (.row [.slice none 0 0] 29 true true):=by rw [← hS1,AS.get_put_ne _ _ (by omega),AS.get_put_self]
 have g2 : S1.get (S.next + 2)=some (.row [.int .i64 0] 30 true true):=by rw [← hS1]; exact AS.get_put_self _ _ _
 have hn1 : S1.next=S.next + 3:=by rw [← hS1]; rfl
 clear hS1
 simp [g0]
 unfold walkR at hq
 rw [List.length_map] at hq
 refine begin_ok (k:=22) (cap:=#[]) (h.stay0 s1) (ho.stay0 s1) (fun hb S2 hs2=>?_) (fun hb S2 d vo2 hs2 hd1 hd2 gd hio hown=>?_)
 ·rw [if_pos hb] at hq
  simp [-outX_panic]
  have hn2:=hs2.1
  refine walk_fail (S:=S) (x:=0) (v:=.slice none 0 0) ((hs2.2 _ (by omega) (by simp)).trans g2) ((hs2.2 _ (by omega) (by simp)).trans g1) (by omega) hb (by rfl) (by rfl) ⟨by omega,by omega⟩ (s1.tr0 hs2) ⟨by omega,by omega⟩ fun S3 hs3=>hq _ _ [] hs3 Lo.nil (by simp [ownsOf]) (by simp)
 ·rw [if_neg (by simp [hb])] at hq
  simp [-outX_panic]
  obtain ⟨hck,hord⟩ : checkR n ar=0∧ordOk n.toNat order=true:=by
   unfold beginE at hb
   by_cases c1 : checkR n ar=0
   ·rw [if_neg (by simp [c1])] at hb
    cases c2 : ordOk n.toNat order with
    | true=>exact ⟨c1,rfl⟩
    | false=>rw [if_pos c2] at hb; cases hb
   ·rw [if_pos c1] at hb
    exact absurd hb c1
  have hl200 : L.length≤200:=by
   unfold beginE at hb
   rw [if_neg (by simp [hck]),if_neg (by simp [hord])] at hb
   split at hb
   ·assumption
   ·cases hb
  obtain ⟨ol1,ol2,ol3⟩:=ordOk_iff.1 hord
  have hN:=checkR_pos hck
  have hn2:=hs2.1
  have k1 : S2.get (S.next + 1)=_:=(hs2.2 _ (by omega) (by simp)).trans g1
  have k2 : S2.get (S.next + 2)=_:=(hs2.2 _ (by omega) (by simp)).trans g2
  have e2 : S.next + 1 + 1=S.next + 2:=rfl
  rw [e2]
  obtain ⟨o,ho1⟩ : ∃ o,o=S.next + 1:=⟨_,rfl⟩
  obtain ⟨e,he1⟩ : ∃ e,e=S.next + 2:=⟨_,rfl⟩
  rw [← ho1] at k1
  rw [← he1] at k2
  rw [← ho1,← he1]
  have hs02:=s1.tr0 hs2
  have hva:=h.lt
  have hvo:=ho.owns_lt
  generalize hst : L.map (·.1)=sts at hq
  have hsl : sts.length=L.length:=by rw [← hst,List.length_map]
  have hsi : ∀ i (hi : i < L.length),sts[i]'(by omega)=L[i].1:=fun i hi=>by subst hst; simp
  refine run_loop (fun j a' S'=>∃ i w va' vo' ov vals ws,j=L.length - i∧i≤L.length∧Same S S' []∧S2.next≤S'.next∧WkAt S' (d :: o :: e :: ownsOf ov) d 22 #[] w va' vo'∧S'.get o=some (.row [ov] 29 true true)∧S'.get e=some (.row [.int .i64 0] 30 true true) ∧
    Lo S' ov vals (ws.map (·.order))∧(∀ m∈ownsOf ov,S2.next≤m)∧(∀ u∈vals,∀ m∈ownsOf u,S2.next≤m∧m∉ownsOf ov)∧walkL ⟨n,ar,order,0⟩ sts=pre ws (walkL w (sts.drop i))∧ws.length=i ∧
    Has a' 35 [(2,.slice la L.length lcap),(6,ptr o),(7,ptr e),(8,ptr d),(16,.slice la L.length lcap),(17,.int .i64 L.length),(18,.int .i64 i)] [dfr 20 [ptr e] [],dfr 19 [] [ptr e,ptr o]]) _
   ⟨0,_,va,vo2,.slice none 0 0,[],[],rfl,by omega,hs02,by omega,⟨gd,h.stay0 hs02,hio,fun m hm hP=>?_,fun m hm hP=>?_,hck,by simp,by simp only; omega,by simp,fun m hP=>?_⟩,k1,k2,Lo.nil,by simp [ownsOf],by simp,?_,rfl,⟨rfl,rfl,by simp⟩⟩ ?_
  ·have:=hva m hm
   simp [ownsOf] at hP
   omega
  ·have:=hown m hm
   simp [ownsOf] at hP
   omega
  ·simp [ownsOf] at hP
   omega
  ·simp only [List.drop_zero]
   generalize walkL ⟨n,ar,order,0⟩ sts=r
   cases r <;> rfl
  rintro _ R hR _ S3 ⟨i,w,va3,vo3,ov,vals,ws,rfl,hi,hs3,hn3,hW,r1,r2,hLo,hov,hvals,hwl,hwsl,hA⟩
  obtain ⟨x,rfl⟩:=hA.lit
  by_cases hlt : i < L.length
  ·have hwS:=wrapS (show i < 9223372036854775807 by have:=hL.small; omega)
   have hlt' : (i : Int) < L.length:=by omega
   have hstep:=walkL_step (w:=w) (ws:=ws) (l:=sts) (i:=i) (by omega)
   rw [hsi i hlt] at hstep
   have hLi:=hL.pt L[i] (List.getElem_mem hlt)
   obtain ⟨p,q,cells,et,wr,ex,h1,h2,h3,h4,h5,_⟩:=(hL.stay0 hs3).at hlt
   generalize hx : L[i]=x at hstep hLi h5
   obtain ⟨st,sv⟩:=x
   obtain ⟨hsa,hsn1,hsn2⟩:=hLi
   simp only at hstep hsn1 hsn2 hsa
   obtain ⟨sa,scap,rfl⟩:=hsa.shape
   have hsvl:=hsa.lt
   simp [-outX_panic,fillF,pickL,hlt,hlt',h1,h2,h5,stC,rowStore,okc,splice]
   generalize hS4 : AS.put (AS.put (AS.bump S3 1) _ _) _ _=S4
   have s4 : Same S3 S4 []:=by rw [← hS4]; exact (((Same.refl _ _).bu).pn (by omega)).pn (by omega)
   have g4 : S4.get S3.next=some (.row [.int .u8 st.kind,.int .i64 st.guest,.int .i64 st.n,.slice sa st.ar.length scap] 38 true true):=by rw [← hS4,AS.get_put_self]
   have hn4 : S4.next=S3.next + 1:=by rw [← hS4]; rfl
   clear hS4
   have hW4:=hW.stays s4 (by simp) (by simp)
   have hLo4:=hLo.stays s4 (by simp) (by simp)
   have p1 : S4.get o=_:=(s4.2 _ (by omega) (by simp)).trans r1
   have p2 : S4.get e=_:=(s4.2 _ (by omega) (by simp)).trans r2
   refine do_ok (st:=st) (w:=w) (s:=()) (I:=fun _ _=>True) (chsA _ _) (by simp) (by simp) hW4 trivial ⟨hsa.stay0 (hs3.tr0 s4),fun m hm hP=>?_,hsn1,hsn2⟩ ?_
   ·have:=hsvl m hm
    simp only [List.mem_cons] at hP
    rcases hP with rfl | rfl | rfl | hP
    ·omega
    ·omega
    ·omega
    ·have:=hov m hP; omega
   cases hdo : doW chA () w st with
   | error er=>
    rw [hdo] at hstep
    rw [hwl,hstep] at hq
    simp only at hq
    intro S5 hs5
    have hn5:=hs5.1
    simp [-outX_panic]
    refine walk_fail (S:=S) (x:=0) (v:=ov) ((hs5.2 _ (by omega) (by simp; omega)).trans p2) ((hs5.2 _ (by omega) (by simp; omega)).trans p1) (by omega) (doW_err hdo) (by rfl) (by rfl) ⟨by omega,by omega⟩ ((hs3.tr0 s4).trans hs5 (fun m hm hl=>by simp at hm; omega)) ⟨by omega,by omega⟩ fun S6 hs6=>hq _ _ [] hs6 Lo.nil (by simp [ownsOf]) (by simp)
   | ok r=>
    obtain ⟨w',u⟩:=r
    rw [hdo] at hstep
    simp only at hstep
    intro S5 va5 vo5 hs5 hW5 _
    have hn5:=hs5.1
    have q1 : S5.get o=_:=(hs5.2 _ (by omega) (by simp; omega)).trans p1
    have q2 : S5.get e=_:=(hs5.2 _ (by omega) (by simp; omega)).trans p2
    have hrow5:=hW5.row
    unfold Wk.row at hrow5
    obtain ⟨oa5,ocap5,rfl⟩:=hW5.or.shape
    simp [-outX_panic,q1,hrow5]
    have s5b : Same S5 (S5.bump 2) []:=(Same.refl _ _).bu
    refine clone_ok (hW5.or.stay0 s5b) hW5.sm fun S6 ca ccap hs6 hoc hcown=>?_
    have s56:=s5b.tr0 hs6
    have hn6:=hs6.1
    simp at hn6
    have hdlt:=hW5.lt d hW5.dP
    have t1 : S6.get o=_:=(s56.2 _ (by omega) (by simp)).trans q1
    have td : S6.get d=_:=(s56.2 _ hdlt (by simp)).trans hrow5
    have hLo5:=(hLo4.stays hs5 (fun m hm=>by have:=hov m hm; simp; omega) (fun u hu m hm=>by have:=hvals u hu m hm; simp; omega)).stays s56 (by simp) (by simp)
    simp [-outX_panic,t1,td,placeIn,splice]
    generalize hX : AS.put S6 _ _=X
    have s5X : Same S5 X []:=by rw [← hX]; exact s56.pn (by omega)
    have s6X : Same S6 X [S5.next]:=by rw [← hX]; exact (Same.refl _ _).po (by simp)
    have gX : X.get S5.next=some (.row [.slice ca w'.order.length ccap] 25 true true):=by rw [← hX,AS.get_put_self]
    have hnX : X.next=S6.next:=by rw [← hX]; rfl
    clear hX
    have hcn : ∀ m∈ownsOf (.slice ca w'.order.length ccap),S5.next + 2≤m:=fun m hm=>by have:=hcown m hm; simpa using this
    have hovlt : ∀ m∈ownsOf ov,m < S3.next:=hLo.sl.owns_lt
    have hvlt : ∀ u∈vals,∀ m∈ownsOf u,m < S3.next:=fun u hu m hm=>by
     obtain ⟨j,hj,rfl⟩:=List.mem_iff_getElem.1 hu
     have hj' : j < (ws.map (·.order)).length:=by have:=hLo.len; omega
     exact (hLo.pt j _ _ (List.getElem?_eq_getElem hj) (List.getElem?_eq_getElem hj')).owns_lt m hm
    have hLoX:=hLo5.stays s6X (fun m hm=>by have:=hovlt m hm; simp; omega) (fun u hu m hm=>by have:=hvlt u hu m hm; simp; omega)
    obtain ⟨T',v',f1,f2,f3,f4,f5⟩:=hLoX.app1 (u:=.slice ca w'.order.length ccap) (l:=w'.order) (fr:=S5.next + 1) (y:=S5.next) (hoc.is.stays s6X (fun m hm=>by have:=hcn m hm; simp; omega)) (by rw [List.length_map]; omega) gX (by omega) (fun hm=>by have:=hovlt _ hm; omega)
     (fun u' hu' m hm=>by
      rcases List.mem_cons.1 hu' with rfl | hu'
      ·have:=hcn m hm; exact ⟨by omega,fun hk=>by have:=hovlt m hk; omega⟩
      ·have:=hvlt u' hu' m hm; exact ⟨by omega,(hvals u' hu' m hm).2⟩)
    have v1 : T'.get o=some (.row [ov] 29 true true):=(f3.2 _ (by omega) (fun hm=>by
     rcases List.mem_cons.1 hm with h' | h'
     ·omega
     ·have:=hov o h'; omega)).trans ((s6X.2 _ (by omega) (by simp; omega)).trans t1)
    obtain ⟨va',hv'⟩:=f2.shape
    subst hv'
    simp [-outX_panic,f1,v1,rowStore,okc,splice,hwS]
    generalize hY : AS.put T' _ _=Y
    have sT : Same S5 T' (o :: ownsOf ov):=s5X.mono (by simp) |>.trans f3 (fun m hm hl=>by
     rcases List.mem_cons.1 hm with h' | h'
     ·omega
     ·simp [h'])
    have sY : Same S5 Y (o :: ownsOf ov):=by rw [← hY]; exact sT.po (by simp)
    have sTY : Same T' Y [o]:=by rw [← hY]; exact (Same.refl _ _).po (by simp)
    have gY : Y.get o=some (.row [.slice va' (ws.map (·.order) ++ [w'.order]).length (ws.map (·.order) ++ [w'.order]).length] 29 true true):=by rw [← hY,AS.get_put_self]; simp
    have hnY : Y.next=X.next:=by rw [← hY]; exact f4
    clear hY
    have hodne : o≠d:=by omega
    have hWY:=hW5.stays sY (by
     intro hm
     rcases List.mem_cons.1 hm with h' | h'
     ·omega
     ·have:=hov d h'; omega) (fun m hm=>by
     rcases List.mem_cons.1 hm with h' | h'
     ·simp [h']
     ·simp [h'])
    have hvo5:=hW5.or.owns_lt
    have hva5:=hW5.ar.lt
    refine hR _ _ _ (by omega) ⟨i + 1,w',va5,.slice oa5 w'.order.length ocap5,.slice va' (ws.map (·.order) ++ [w'.order]).length (ws.map (·.order) ++ [w'.order]).length,vals ++ [.slice ca w'.order.length ccap],ws ++ [w'],rfl,by omega,?_,by omega,?_,gY,?_,?_,?_,?_,?_,by simp [hwsl],⟨rfl,rfl,by simp⟩⟩
    ·exact ((hs3.tr0 s4).trans hs5 (fun m hm hl=>by simp at hm; omega)).trans sY (fun m hm hl=>by
      rcases List.mem_cons.1 hm with h' | h'
      ·omega
      ·have:=hov m h'; omega)
    ·refine hWY.reP (by simp) (fun m hm=>?_) (fun m hm=>?_)
     ·simp only [List.mem_cons] at hm
      rcases hm with rfl | rfl | rfl | hm
      ·omega
      ·omega
      ·omega
      ·rcases f5 m hm with h' | h'
       ·have:=hovlt m h'; omega
       ·omega
     ·simp only [List.mem_cons] at hm
      rcases hm with rfl | rfl | rfl | hm
      ·exact .inl (by simp)
      ·exact .inl (by simp)
      ·exact .inl (by simp)
      ·rcases f5 m hm with h' | h'
       ·exact .inl (by simp [h'])
       ·exact .inr ⟨fun hk=>by have:=hva5 m hk; omega,fun hk=>by have:=hvo5 m hk; omega⟩
    ·exact (sTY.2 _ (by omega) (by simp; omega)).trans ((f3.2 _ (by omega) (fun hm=>by
      rcases List.mem_cons.1 hm with h' | h'
      ·omega
      ·have:=hov e h'; omega)).trans ((s6X.2 _ (by omega) (by simp; omega)).trans ((s56.2 _ (by omega) (by simp)).trans q2)))
    ·rw [List.map_append]
     refine f2.stays sTY (fun m hm=>?_) (fun u hu m hm=>?_)
     ·rcases f5 m hm with h' | h'
      ·have:=hov m h'; simp; omega
      ·simp; omega
     ·rcases List.mem_append.1 hu with h' | h'
      ·have:=hvals u h' m hm; simp; omega
      ·simp at h'; subst h'
       have:=hcn m hm; simp; omega
    ·intro m hm
     rcases f5 m hm with h' | h'
     ·exact hov m h'
     ·omega
    ·intro u hu m hm
     rcases List.mem_append.1 hu with h' | h'
     ·refine ⟨(hvals u h' m hm).1,fun hk=>?_⟩
      rcases f5 m hk with h2 | h2
      ·exact (hvals u h' m hm).2 h2
      ·have:=hvlt u h' m hm; omega
     ·simp at h'; subst h'
      have hc:=hcn m hm
      refine ⟨by omega,fun hk=>?_⟩
      rcases f5 m hk with h2 | h2
      ·have:=hovlt m h2; omega
      ·omega
    ·rw [hwl,hstep]
  ·obtain rfl : i=L.length:=by omega
   have hws : walkL ⟨n,ar,order,0⟩ sts=.ok ws:=by
    rw [hwl,List.drop_eq_nil_of_le (by omega)]
    simp [walkL,pre]
   rw [hws] at hq
   simp only at hq
   have hneo : e≠o:=by omega
   have hneo' : o≠e:=by omega
   obtain ⟨oa,hoa⟩:=hLo.shape
   subst hoa
   simp [-outX_panic,fillF,pickL,r1,r2,hneo,hneo',rowStore,okc,splice]
   generalize hS4 : AS.put (AS.put S3 _ _) _ _=S4
   have s4 : Same S3 S4 [o,e]:=by rw [← hS4]; exact ((Same.refl _ _).po (by simp)).po (by simp)
   have p1 : S4.get o=some (.row [.slice oa (ws.map (·.order)).length (ws.map (·.order)).length] 29 true true):=by rw [← hS4,AS.get_put_ne _ _ hneo',AS.get_put_self,List.length_map]
   have p2 : S4.get e=some (.row [.int .i64 0] 30 true true):=by rw [← hS4,AS.get_put_self]
   clear hS4
   refine caught_none ?_
   refine walk1_leave (x:=0) p2 p1 ?_
   rw [if_pos rfl]
   refine leave_nil ?_
   refine ⟨rfl,.tuple #[.slice oa (ws.map (·.order)).length (ws.map (·.order)).length,.int .i64 0],?_,hq _ _ vals (hs3.trans s4 (fun m hm hl=>by simp at hm; omega)) (hLo.stays s4 (fun m hm=>by have:=hov m hm; simp; omega) (fun u hu m hm=>by have:=hvals u hu m hm; simp; omega)) (fun m hm=>by have:=hov m hm; omega) (fun u hu m hm=>by have:=hvals u hu m hm; omega)⟩
   simp [resV,loadRV,List.getD,p1,p2,rowLoad]
end Go.Gx.Z
