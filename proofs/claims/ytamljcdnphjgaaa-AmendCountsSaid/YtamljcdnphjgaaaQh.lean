/-
  AmendCounts.
-/
import Derived.Test.YtamljcdnphjgaaaQg
set_option linter.all false
set_option linter.deprecated false
set_option linter.unusedSimpArgs false
set_option linter.unusedVariables false
namespace Go.Gx.A
open Go.Gx Go.Proofs
set_option maxRecDepth 100000
set_option linter.all false
set_option maxHeartbeats 4000000
theorem settledV_len (c : Chg) : (settledV c).length ≤ 100000:=by
 unfold settledV
 split
 ·rename_i hc
  have ok:=check_ok hc
  have h1:=settled_len ok.cgOk
  have h2 : c.cg.n * c.cg.n ≤ 24 * 24:=Nat.mul_le_mul ok.cgSm.n ok.cgSm.n
  omega
 ·simp
theorem counts_walk {S : AS} {va vo : Value} {c : Chg} (h : ChgAt S va vo c) : Call G 19 [c.val va vo] S fun e _=>e=.ret (.bool true):=by
 refine call_run' (G:=G) rfl (ext_none (by decide)) ?_
 have al : ∀ (S' : AS) (R : En→AS→Prop),R (.ret (.bool true)) S'→Call G 23 [] S' R:=fun S' R h=>alive_ok h
 simp [Chg.val]
 generalize hS1 : AS.put (AS.bump S 1) _ _=S1
 have s1 : Same S S1 []:=by rw [← hS1]; exact ((Same.refl _ _).bu).pn (by omega)
 have g0 : S1.get S.next=some (.row [.int .i64 c.n,va,vo,.int .i64 c.passed] 27 true true):=by rw [← hS1]; simp
 have hn1 : S1.next=S.next + 1:=by rw [← hS1]; simp
 clear hS1
 refine Few_ok (h.stay0 s1) fun S2 b hs2=>?_
 have s2:=s1.tr0 hs2
 have hn2:=hs2.1
 have g2 : S2.get S.next=_:=(hs2.2 _ (by omega) (by simp)).trans g0
 cases b with
 | false=>
  simp
  refine al _ _ ?_
  simp
 | true=>
  simp [g2]
  refine Ways_ok (h.stay0 s2) fun S3 hs3=>?_
  have s3:=s2.tr0 hs3
  have hn3:=hs3.1
  have g3 : S3.get S.next=_:=(hs3.2 _ (by omega) (by simp)).trans g2
  simp [g3]
  refine rWays_ok (h.stay0 s3) fun S4 hs4=>?_
  have s4:=s3.tr0 hs4
  have hn4:=hs4.1
  have g4 : S4.get S.next=_:=(hs4.2 _ (by omega) (by simp)).trans g3
  simp [g4]
  refine Settled_ok (h.stay0 s4) fun S5 v hs5 hv hvo=>?_
  have s5:=s4.tr0 hs5
  have hn5:=hs5.1
  have g5 : S5.get S.next=_:=(hs5.2 _ (by omega) (by simp)).trans g4
  simp [g5]
  refine rSettled_ok (h.stay0 s5) fun S6 w hs6 hw hwo=>?_
  simp
  refine al _ _ ?_
  simp
  refine samePairs_ok (hv.stays hs6 (by simp)) hw (settledV_len c) ?_
  simp
end Go.Gx.A
