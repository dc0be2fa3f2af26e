/-
  AmendPassed.
-/
import Derived.Test.YtamljcdnphjgaaaQn
import Derived.Test.YtamljcdnphjgaaaPy
import Derived.Test.YtamljcdnphjgaaaQy
set_option linter.all false
set_option linter.deprecated false
set_option linter.unusedSimpArgs false
set_option linter.unusedVariables false
namespace Go.Gx.A
open Go.Gx Go.Proofs
set_option maxRecDepth 100000
set_option maxHeartbeats 4000000
theorem Lo.ls {S : AS} {v : Value} {vals : List Value} {ls : List (List Int)} (h : Lo S v vals ls) (hl : ls.length≤100000) : Ls S v vals ls:=by
 have hvl:=h.len
 obtain ⟨a,e⟩:=h.shape
 have hsrc:=h.sl.src (sing_uni vals) (by omega)
 rw [sing_len,sing_flat] at hsrc
 exact ⟨⟨⟨a,ls.length,by rw [e,hvl]⟩,hsrc,h.sl.owns_lt⟩,hvl,by omega,h.pt⟩
theorem shiftL_step {g : Int} {l : List Int} {i : Nat} (hi : i < l.length) : shiftL g (l.take (i + 1))=shiftL g (l.take i) ++ (if g < l[i] then [l[i] - 1] else if l[i] < g then [l[i]] else []):=by
 unfold shiftL
 rw [List.take_add_one,List.getElem?_eq_getElem hi,List.filterMap_append]
 congr 1
 simp only [Option.toList_some,List.filterMap_cons,List.filterMap_nil]
 by_cases h1 : g < l[i]
 ·simp [h1]
 ·by_cases h2 : l[i] < g
  ·simp [h1,h2]
  ·simp [h1,h2]
theorem shiftL_len (g : Int) (l : List Int) : (shiftL g l).length≤l.length:=List.length_filterMap_le _ _
theorem passed_walk {S : AS} {va vo vl : Value} {n : Int} {ar : List Arw} {order : List Int} {L : List (Stp × Value)} (h : As S va ar) (ho : Is S vo order) (hL : Sts S vl L) (hn0 : -9223372036854775808≤n) : Call G 22 [.agg #[.int .i64 n,va],vo,vl] S fun e _=>e=.ret (.bool true):=by
 obtain ⟨la,lcap,rfl⟩:=hL.shape
 obtain ⟨oa,ocap,rfl⟩:=ho.shape
 refine call_run' (G:=G) rfl (ext_none (by decide)) ?_
 simp
 generalize hS1 : AS.put _ _ _=S1
 have s1 : Same S S1 []:=by rw [← hS1]; exact ((Same.refl _ _).bu).pn (by omega)
 have g0 : S1.get S.next=some (.row [.int .i64 n,va] 24 true true):=by rw [← hS1,AS.get_put_self]
 have hn1 : S1.next=S.next + 1:=by rw [← hS1]; rfl
 clear hS1
 by_cases c1 : 8 < n
 ·simp [g0,c1,undef]
  refine alive_ok ?_
  simp
 by_cases c2 : 8 < order.length
 ·have c2' : (8 : Int) < order.length:=by omega
  simp [g0,c1,c2',undef]
  refine alive_ok ?_
  simp
 by_cases c3 : 8 < L.length
 ·have c2' : ¬ (8 : Int) < order.length:=by omega
  have c3' : (8 : Int) < L.length:=by omega
  simp [g0,c1,c2',c3',undef]
  refine alive_ok ?_
  simp
 have c2' : ¬ (8 : Int) < order.length:=by omega
 have c3' : ¬ (8 : Int) < L.length:=by omega
 simp [g0,c1,c2',c3',undef]
 refine run_loop (fun j a' S'=>∃ i,j=L.length - i∧i≤L.length∧Same S S' []∧S1.next≤S'.next∧S'.get S.next=some (.row [.int .i64 n,va] 24 true true) ∧
   Has a' 174 [(1,.slice oa order.length ocap),(2,.slice la L.length lcap),(3,ptr S.next),(36,.slice la L.length lcap),(37,.int .i64 L.length),(38,.int .i64 i)]) _ ⟨0,rfl,by omega,s1,by omega,g0,⟨rfl,rfl,by simp⟩⟩ ?_
 rintro _ R hR _ S2 ⟨i,rfl,hi,hs2,hn2,r0,hA⟩
 obtain ⟨x,rfl⟩:=hA.lit
 by_cases hlt : i < L.length
 ·have hwS:=wrapS (show i < 9223372036854775807 by omega)
  have hlt' : (i : Int) < L.length:=by omega
  obtain ⟨p,q,cells,et,wr,ex,h1,h2,h3,h4,h5,_⟩:=(hL.stay0 hs2).at hlt
  have s2 : ∀ o o',Same S2 (((S2.bump 1).put S2.next o).put S2.next o') []:=fun o o'=>(((Same.refl _ _).bu).pn (by omega)).pn (by omega)
  obtain ⟨sa,scap,hsv⟩:=(hL.pt L[i] (List.getElem_mem hlt)).1.shape
  by_cases c4 : 8 < L[i].1.n
  ·simp [fillF,pickL,hlt,hlt',h1,h2,h5,stC,rowStore,okc,splice,c4,hsv]
   refine alive_ok ?_
   simp
  ·simp [fillF,pickL,hlt,hlt',h1,h2,h5,stC,rowStore,okc,splice,c4,hwS,hsv]
   refine hR _ _ _ (by omega) ⟨i + 1,rfl,by omega,hs2.tr0 ((((Same.refl _ _).bu).pn (by omega)).pn (by omega)),?_,?_,⟨rfl,rfl,by simp⟩⟩
   ·simp; omega
   ·rw [AS.get_put_ne _ _ (by omega),AS.get_put_ne _ _ (by omega),AS.get_bump]; exact r0
 ·obtain rfl : i=L.length:=by omega
  simp [fillF,pickL,r0]
  refine Walk_ok (h.stay0 hs2) (ho.stay0 hs2) (hL.stay0 hs2) fun S3 tv vals hs3 hLo htv htvals=>?_
  have hs03:=hs2.tr0 hs3
  have hn3:=hs3.1
  have r3 : S3.get S.next=_:=(hs3.2 _ (by omega) (by simp)).trans r0
  obtain ⟨ta,hta⟩:=hLo.shape
  subst hta
  generalize hsts : L.map (·.1)=sts at hLo ⊢
  have hsl : sts.length=L.length:=by rw [← hsts,List.length_map]
  have hsi : ∀ i (hi : i < L.length),sts[i]'(by omega)=L[i].1:=fun i hi=>by subst hsts; simp
  by_cases he : (walkR n ar order sts).2=0
  ·obtain ⟨ws,w1,w2,w3,w4⟩:=walk_ok he
   rw [w3] at hLo ⊢
   have hwl:=walkL_len w2
   have hlen : (ws.map (·.order)).length=L.length:=by rw [List.length_map,hwl,hsl]
   have hT:=hLo.ls (by omega)
   rw [List.length_map] at hLo hT
   simp [he,r3]
   refine CheckWalk_ok (h.stay0 hs03) (ho.stay0 hs03) (hL.stay0 hs03) hT fun S4 hs4=>?_
   rw [hsts,w4]
   have hs04:=hs03.tr0 hs4
   have hn4:=hs4.1
   have r4 : S4.get S.next=_:=(hs4.2 _ (by omega) (by simp)).trans r3
   have hLo4:=hLo.stays hs4 (by simp) (by simp)
   have hwL : (ws.length : Int)=L.length:=by omega
   have hwL' : ws.length=L.length:=by omega
   rw [hwL'] at hLo4
   simp [r4,hwL,hwL',undef]
   refine run_loop (fun j a' S'=>∃ i w bv,j=L.length - i∧i≤L.length∧Same S S' []∧S4.next≤S'.next∧Is S' bv w.order∧WkV w∧walkL w (sts.drop i)=.ok (ws.drop i)∧Lo S' (.slice ta L.length L.length) vals (ws.map (·.order)) ∧
     Has a' 174 [(2,.slice la L.length lcap),(9,.slice ta L.length L.length),(13,bv),(14,.int .i64 w.passed),(15,.int .i64 w.n),(87,.slice ta L.length L.length),(88,.int .i64 L.length),(89,.int .i64 i)]) _
    ⟨0,⟨n,ar,order,0⟩,_,rfl,by omega,hs04,by omega,ho.stay0 hs04,begin_v w1,by simpa using w2,hLo4,⟨rfl,rfl,by simp⟩⟩ ?_
   rintro _ R hR _ S5 ⟨i,w,bv,rfl,hi,hs5,hn5,hbv,hv,hwk,hLo5,hA⟩
   obtain ⟨x,rfl⟩:=hA.lit
   obtain ⟨ba,bcap,rfl⟩:=hbv.shape
   by_cases hlt : i < L.length
   ·have hwS:=wrapS (show i < 9223372036854775807 by omega)
    have hlt' : (i : Int) < L.length:=by omega
    rw [List.drop_eq_getElem_cons (by omega),hsi i hlt] at hwk
    obtain ⟨w',ws',e1,hdo,hwk'⟩:=walkL_cons hwk
    rw [List.drop_eq_getElem_cons (by omega)] at e1
    injection e1 with e1 e2
    rw [← e2] at hwk'
    obtain ⟨f1,f2,f3,f4,f5,_⟩:=do_facts hdo hv
    simp only at f1 f2 f3 f4 f5
    have hLs5:=hLo5.ls (by rw [List.length_map]; omega)
    obtain ⟨tp,tq,tcells,tet,twr,tex,tb,tcap',t1,t2,t3,t4,t5,t6,t7⟩:=hLs5.at (i:=i) (by rw [List.length_map]; omega)
    have hwo : (ws.map (·.order))[i]'(by rw [List.length_map]; omega)=w'.order:=by rw [List.getElem_map,e1]
    rw [hwo] at t5 t6
    obtain ⟨p,q,cells,et,wr,ex,h1,h2,h3,h4,h5,h6,h7,h8⟩:=(hL.stay0 hs5).at hlt
    generalize hst : L[i].1=st at *
    simp [-run_block,fillF,pickL,hlt,hlt',t1,t2,t5,h1,h2,h6]
    rw [run_block]
    simp [-run_block,t1,t2,t5,h1,h2,h6]
    have hwol:=(ordOk_iff.1 f3.or).1
    have hwn:=f3.n0
    have hwps:=f3.ps
    have hwsm:=t6.small
    have hol:=(ordOk_iff.1 hv.or).1
    have hon:=hv.n0
    have hon1:=hv.n1
    have hosm:=hbv.small
    refine cut_run (fun a' S'=>∃ bv',Same S S' []∧S4.next≤S'.next∧Is S' bv' (bfore w.order st)∧Is S' (.slice tb w'.order.length tcap') w'.order∧Lo S' (.slice ta L.length L.length) vals (ws.map (·.order)) ∧
     Has a' 174 [(2,.slice la L.length lcap),(9,.slice ta L.length L.length),(13,bv'),(14,.int .i64 w'.passed),(15,.int .i64 w'.n),(16,.int .i64 i),(17,.slice tb w'.order.length tcap'),(87,.slice ta L.length L.length),(88,.int .i64 L.length),(89,.int .i64 i)]) ?_ ?_
    ·intro M hM
     by_cases k1 : st.kind=1
     ·have hnp : w'.passed=w.passed + 1:=by rw [f2]; simp [nextP,k1]
      have hnn : w'.n=w.n:=by rw [f1]; simp [nextN,k1]
      have hbf : bfore w.order st=w.order:=by simp [bfore,k1]
      have hwp : IntKind.i64.wrap ((w.passed : Int) + 1)=(w'.passed : Int):=by rw [wrap64 (by omega) (by omega)]; omega
      simp [k1,hwp]
      exact hM _ _ ⟨_,hs5,hn5,by rw [hbf]; exact hbv,t6,hLo5,⟨rfl,rfl,by simp [hnn]⟩⟩
     have hnp : w'.passed=w.passed:=by rw [f2]; simp [nextP,k1]
     by_cases k2 : st.kind=2
     ·have hnn : w'.n=w.n - 1:=by rw [f1]; simp [nextN,k2]
      have hbf : bfore w.order st=shiftL st.guest w.order:=by simp [bfore,k2]
      have hwp : IntKind.i64.wrap (w.n - 1)=w'.n:=by rw [wrap64 (by omega) (by omega)]; omega
      simp [k1,k2,hwp]
      refine run_loop (fun j a' S'=>∃ t ra m,j=w.order.length - t∧t≤w.order.length∧Same S5 S' []∧m=(shiftL st.guest (w.order.take t)).length∧Ow S' (.slice ra m m) (shiftL st.guest (w.order.take t))∧(∀ q∈ownsOf (.slice ra m m),S5.next≤q) ∧
        Has a' 174 [(2,.slice la L.length lcap),(9,.slice ta L.length L.length),(14,.int .i64 w.passed),(15,.int .i64 w'.n),(16,.int .i64 i),(17,.slice tb w'.order.length tcap'),(18,.slice ra m m),(87,.slice ta L.length L.length),(88,.int .i64 L.length),(89,.int .i64 i),
         (107,.slice ba w.order.length bcap),(108,.int .i64 w.order.length),(109,.int .i64 t)]) _
       ⟨0,none,0,rfl,by omega,.refl _ _,by simp [shiftL],by simpa [shiftL] using Ow.nil,by simp [ownsOf],⟨rfl,rfl,by simp⟩⟩ ?_
      rintro _ R2 hR2 _ S7 ⟨t,ra,m,rfl,ht,hs57,hm,how,hown,hAt⟩
      obtain ⟨xt,rfl⟩:=hAt.lit
      have hs7:=hs5.tr0 hs57
      have hn7:=hs57.1
      have hsl':=shiftL_len st.guest (w.order.take t)
      rw [List.length_take] at hsl'
      by_cases hlt2 : t < w.order.length
      ·have htS:=wrapS (show t < 9223372036854775807 by omega)
       have hlt2' : (t : Int) < w.order.length:=by omega
       have hstp:=shiftL_step (g:=st.guest) hlt2
       obtain ⟨bp,bo,bcells,bet,bwr,bex,b1,b2,b3,b4,b5⟩:=(hbv.stay0 hs57).at hlt2
       have h27 : S7.get p=_:=(hs57.2 _ h3 (by simp)).trans h2
       have hxb:=(ordOk_iff.1 hv.or).2.2 _ (List.getElem_mem hlt2)
       generalize w.order[t]=y at hstp b5 hxb
       by_cases d1 : st.guest < y
       ·have d2 : ¬ y < st.guest:=by omega
        rw [if_pos d1] at hstp
        have hy1 : IntKind.i64.wrap (y - 1)=y - 1:=wrap64 (by omega) (by omega)
        simp [fillF,pickL,hlt,hlt2,hlt2',b1,b2,b5,h1,h27,h7,d1,hy1,placeIn,splice]
        obtain ⟨T',a2,q1,q2,q3,q4,q5⟩:=how.app (T:=(S7.bump 2).put S7.next (.row [.int .i64 (y - 1)] 3 true true)) (y:=.slice (some ⟨S7.next,0,none⟩) 1 1) (m:=[y - 1]) (fr:=S7.next + 1) (by simp; omega) (((Same.refl _ _).bu).pn (by omega)) (Is.one (by rw [AS.get_put_self]) (by simp)) (by simp) (by omega)
        simp only [List.length_singleton] at q1 q2 q5
        subst hm
        have h2T : T'.get p=_:=(q3.2 _ (by omega) (fun hq=>by have:=hown _ hq; omega)).trans h27
        simp [q1,hlt,h1,h2T,h7,d2,htS]
        refine hR2 _ _ _ (by omega) ⟨t + 1,a2,(shiftL st.guest (w.order.take t)).length + 1,rfl,by omega,hs57.trans q3 (fun q hq hl=>by have:=hown q hq; omega),by rw [hstp]; simp,by rw [hstp]; exact q2,fun q hq=>?_,⟨rfl,rfl,by simp⟩⟩
        rcases q5 q hq with h' | h'
        ·exact hown q h'
        ·omega
       ·rw [if_neg d1] at hstp
        by_cases d2 : y < st.guest
        ·rw [if_pos d2] at hstp
         simp [fillF,pickL,hlt,hlt2,hlt2',b1,b2,b5,h1,h27,h7,d1,d2,placeIn,splice]
         obtain ⟨T',a2,q1,q2,q3,q4,q5⟩:=how.app (T:=(S7.bump 2).put S7.next (.row [.int .i64 y] 3 true true)) (y:=.slice (some ⟨S7.next,0,none⟩) 1 1) (m:=[y]) (fr:=S7.next + 1) (by simp; omega) (((Same.refl _ _).bu).pn (by omega)) (Is.one (by rw [AS.get_put_self]) (by simp)) (by simp) (by omega)
         simp only [List.length_singleton] at q1 q2 q5
         subst hm
         simp [q1,htS]
         refine hR2 _ _ _ (by omega) ⟨t + 1,a2,(shiftL st.guest (w.order.take t)).length + 1,rfl,by omega,hs57.trans q3 (fun q hq hl=>by have:=hown q hq; omega),by rw [hstp]; simp,by rw [hstp]; exact q2,fun q hq=>?_,⟨rfl,rfl,by simp⟩⟩
         rcases q5 q hq with h' | h'
         ·exact hown q h'
         ·omega
        ·rw [if_neg d2,List.append_nil] at hstp
         simp [fillF,pickL,hlt,hlt2,hlt2',b1,b2,b5,h1,h27,h7,d1,d2,htS]
         refine hR2 _ _ _ (by omega) ⟨t + 1,ra,m,rfl,by omega,hs57,by rw [hstp]; exact hm,by rw [hstp]; exact how,hown,⟨rfl,rfl,by simp⟩⟩
      ·obtain rfl : t=w.order.length:=by omega
       rw [List.take_length] at how
       simp [fillF,pickL]
       refine hM _ _ ⟨_,hs7,by omega,by rw [hbf]; exact how.is,t6.stay0 hs57,hLo5.stays hs57 (by simp) (by simp),⟨rfl,rfl,by simp [hnp]⟩⟩
     have hbf : bfore w.order st=w.order:=by simp [bfore,k2]
     by_cases k3 : st.kind=3
     ·have hnn : w'.n=w.n + 1:=by rw [f1]; simp [nextN,k3]
      have hwp : IntKind.i64.wrap (w.n + 1)=w'.n:=by rw [wrap64 (by omega) (by omega)]; omega
      simp [k1,k2,k3,hwp]
      exact hM _ _ ⟨_,hs5,hn5,by rw [hbf]; exact hbv,t6,hLo5,⟨rfl,rfl,by simp [hnp]⟩⟩
     ·have hnn : w'.n=w.n:=by rw [f1]; simp [nextN,k2,k3]
      simp [k1,k2,k3]
      exact hM _ _ ⟨_,hs5,hn5,by rw [hbf]; exact hbv,t6,hLo5,⟨rfl,rfl,by simp [hnp,hnn]⟩⟩
    ·rintro a6 S6 ⟨bv',hs6,hn6,hb6,hx6,hLo6,hA6⟩
     obtain ⟨x6,rfl⟩:=hA6.lit
     obtain ⟨ba',bcap',hbv'⟩:=hb6.shape
     subst hbv'
     have e1 : (w'.order.length : Int)=w'.n:=by omega
     have e2 : ¬ ((bfore w.order st).length : Int) < w'.passed:=by omega
     obtain ⟨v1,q1,q2,_⟩:=hx6.slc (lo:=none) (hi:=some (.int .i64 w'.passed)) (i:=0) (j:=w'.passed) (.inl ⟨rfl,rfl⟩) (.inr rfl) (by omega) f3.ps
     obtain ⟨v2,q3,q4,_⟩:=hb6.slc (lo:=none) (hi:=some (.int .i64 w'.passed)) (i:=0) (j:=w'.passed) (.inl ⟨rfl,rfl⟩) (.inr rfl) (by omega) f4
     rw [List.drop_zero] at q2 q4
     simp [fillF,pickL,e1,e2,q1,q3,undef]
     refine sameInts_ok q2 q4 ?_
     rw [f5]
     simp
     refine run_loop (fun j a' S'=>∃ g,j=w'.order.length - g∧g≤w'.order.length∧S'=S6 ∧
       Has a' 174 [(2,.slice la L.length lcap),(9,.slice ta L.length L.length),(14,.int .i64 w'.passed),(15,.int .i64 w'.n),(17,.slice tb w'.order.length tcap'),(87,.slice ta L.length L.length),(88,.int .i64 L.length),(89,.int .i64 i),(162,.int .i64 w'.n),(163,.int .i64 g)]) _
      ⟨0,rfl,by omega,rfl,⟨rfl,rfl,by simp⟩⟩ ?_
     rintro _ R2 hR2 _ _ ⟨g,rfl,hg,rfl,hAg⟩
     obtain ⟨xg,rfl⟩:=hAg.lit
     by_cases hlg : g < w'.order.length
     ·have hgS:=wrapS (show g < 9223372036854775807 by omega)
      have hlg' : (g : Int) < w'.n:=by omega
      have hin : (g : Int)∈w'.order:=ord_has f3.or (by omega) (by omega)
      simp [fillF,pickL,hlg']
      refine holds_ok hx6 ?_
      simp [hin,hgS]
      exact hR2 _ _ _ (by omega) ⟨g + 1,rfl,by omega,rfl,⟨rfl,rfl,by simp⟩⟩
     ·have hlg' : ¬ (g : Int) < w'.n:=by omega
      simp [fillF,pickL,hlg',hwS]
      exact hR _ _ _ (by omega) ⟨i + 1,w',_,rfl,by omega,hs6,hn6,hx6,f3,hwk',hLo6,⟨rfl,rfl,by simp⟩⟩
   ·obtain rfl : i=L.length:=by omega
    simp [fillF,pickL]
    refine alive_ok ?_
    simp
  ·have hnil : (walkR n ar order sts).1=[]:=by
    unfold walkR at he ⊢
    split
    ·rfl
    ·rename_i hb
     rw [if_neg hb] at he
     cases hw : walkL ⟨n,ar,order,0⟩ sts with
     | error e=>rfl
     | ok ws=>rw [hw] at he; exact absurd rfl he
   simp [he]
   refine alive_ok ?_
   simp [hnil]

theorem u5 : Try.prog.underlying 5=some (.int .u8):=by kernel_rfl
theorem n5 : Try.prog.cellsOf 5=1:=by kernel_rfl
theorem u87 : Try.prog.underlying 87=some (.slice 89):=by kernel_rfl
theorem n89 : Try.prog.cellsOf 89=4:=by kernel_rfl
theorem fa89 : fieldsAt Try.prog 89=[(5,0),(3,1),(24,2)]:=by kernel_rfl
theorem sts_of {S : AS} {d : Nat} {v : Value} (hv : S.Valid) (h : Ty Try.prog S (d + 6) 87 [v]) : ∃ L,Sts S v L:=by
 obtain ⟨ls,h1,h2,h3⟩:=ty_slice u87 n89 (by omega) hv h
 have : ∃ L : List (Stp × Value),ls=L.map stC∧∀ x∈L,As S x.2 x.1.ar∧-9223372036854775808≤x.1.n∧x.1.n≤9223372036854775807:=by
  clear h1 h2
  induction ls with
  | nil=>exact ⟨[],rfl,by simp⟩
  | cons x xs ih=>
   obtain ⟨l,rfl,hl⟩:=ih fun y hy=>h3 y (by simp [hy])
   obtain ⟨g1,g2⟩:=ty_struct fa89 (by simp) (h3 x (by simp))
   rw [n89] at g1
   match x,g1 with
   | [a,b,c,e],_=>
    have ga:=g2 (5,0) (by simp)
    have gb:=g2 (3,1) (by simp)
    have gc:=g2 (24,2) (by simp)
    simp only [n3,n5,n24] at ga gb gc
    obtain ⟨k0,rfl,_⟩:=ty_int u5 ga
    obtain ⟨k1,rfl,_⟩:=ty_int u3 gb
    obtain ⟨q1,q2⟩:=ty_struct fa24 (by simp) gc
    have qa:=q2 (3,0) (by simp)
    have qb:=q2 (22,1) (by simp)
    simp only [n22,n3] at qa qb
    obtain ⟨k2,rfl,w2⟩:=ty_int u3 qa
    obtain ⟨m,hm⟩:=as_of hv qb
    have:=wf_i64 w2
    exact ⟨(⟨k0,k1,k2,m⟩,e) :: l,rfl,fun x hx=>by
     rcases List.mem_cons.1 hx with rfl | hx
     ·exact ⟨hm,by simp only; omega,by simp only; omega⟩
     ·exact hl x hx⟩
 obtain ⟨L,rfl,hL⟩:=this
 exact ⟨L,h1,by rw [List.length_map] at h2; have:=h2; unfold maxLen at this; omega,hL⟩
theorem rel_of2 {S : AS} {d : Nat} {v : Value} (hv : S.Valid) (h : TyV Try.prog S (d + 4) 24 v) : ∃ N l va,v=.agg #[.int .i64 N,va]∧As S va l∧-9223372036854775808≤N:=by
 obtain ⟨cs,rfl,hc⟩:=tyV_struct fa24 (by simp) h
 obtain ⟨k1,k2⟩:=ty_struct fa24 (by simp) hc
 rw [n24] at k1
 match cs,k1 with
 | [a,b],_=>
  have ka:=k2 (3,0) (by simp)
  have kb:=k2 (22,1) (by simp)
  simp only [n22,n3] at ka kb
  obtain ⟨n0,rfl,w0⟩:=ty_int u3 ka
  obtain ⟨m,hm⟩:=as_of hv kb
  have:=wf_i64 w0
  exact ⟨n0,m,b,rfl,hm,by omega⟩
end Go.Gx.A
