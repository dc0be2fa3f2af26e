/-
  The reference's next state: all kinds; what it leaves; choosers behind a step.
-/
import Derived.Test.YtnhaainnhmmbfaaGreatZb
import Derived.Test.YtnhaainnhmmbfaaGreatQn
set_option linter.all false
set_option linter.deprecated false
namespace Go.Gx.Z
open Go.Gx Go.Proofs
set_option maxRecDepth 100000
set_option maxHeartbeats 4000000
theorem Lo.ls {S : AS} {v : Value} {vals : List Value} {ls : List (List Int)} (h : Lo S v vals ls) (hl : ls.length≤100000) : Ls S v vals ls:=by
 have hvl:=h.len
 obtain ⟨a,e⟩:=h.shape
 have hsrc:=h.sl.src (sing_uni vals) (by omega)
 rw [sing_len,sing_flat] at hsrc
 exact ⟨⟨⟨a,ls.length,by rw [e,hvl]⟩,hsrc,h.sl.owns_lt⟩,hvl,by omega,h.pt⟩
def Wk.chg (w : Wk) : Chg:=⟨w.n,w.ar,w.order,w.passed⟩
section
variable {σ : Type} {ch : σ→Chg→List Int × σ}
def askC (w : Wk) (st : Stp) (w1 : Wk) : Chg:=if st.kind=1 then ⟨w.n,w.ar,w.order,-1⟩ else w1.chg
def putC (ch : σ→Chg→List Int × σ) (s : σ) (w : Wk) (st : Stp) (w1 : Wk) : Wk × σ:=(⟨w1.n,w1.ar,(ch s (askC w st w1)).1,w1.passed⟩,(ch s (askC w st w1)).2)
theorem turn_gen (s : σ) (w : Wk) (n : Int) (ar : List Arw) (old : List Int) : turnW ch s w n ar old=match turnW chO () w n ar old with
  | .error e=>.error e
  | .ok r=>.ok (⟨r.1.n,r.1.ar,(ch s r.1.chg).1,r.1.passed⟩,(ch s r.1.chg).2):=by
 unfold turnW
 by_cases h : (Chg.mk n ar old w.passed).check=0
 ·rw [if_neg (by simp [h]),if_neg (by simp [h])]
  rfl
 ·rw [if_pos h,if_pos h]
theorem do_gen (s : σ) (w : Wk) (st : Stp) : doW ch s w st=match doW chO () w st with
  | .error e=>.error e
  | .ok r=>.ok (putC ch s w st r.1):=by
 unfold doW putC askC
 by_cases c1 : st.kind=1
 ·rw [if_pos c1,if_pos c1]
  unfold passW
  by_cases h : w.passed < w.order.length
  ·rw [if_pos h,if_pos h]
   simp only [c1,if_true]
  ·rw [if_neg h,if_neg h]
 ·rw [if_neg c1,if_neg c1]
  simp only [c1,if_false]
  by_cases c2 : st.kind=2
  ·rw [if_pos c2,if_pos c2]
   unfold leaveW
   by_cases hg : 0≤st.guest∧st.guest < w.n
   ·rw [if_pos hg,if_pos hg]
    by_cases hm : st.guest∈w.order.take w.passed
    ·rw [if_pos hm,if_pos hm]
    ·rw [if_neg hm,if_neg hm]
     exact turn_gen _ _ _ _ _
   ·rw [if_neg hg,if_neg hg]
  ·rw [if_neg c2,if_neg c2]
   have hr : ∀ m : Int,renewW ch s w st m=match renewW chO () w st m with
     | .error e=>.error e
     | .ok r=>.ok (⟨r.1.n,r.1.ar,(ch s r.1.chg).1,r.1.passed⟩,(ch s r.1.chg).2):=by
    intro m
    unfold renewW
    by_cases hc : checkR st.n st.ar=0
    ·have hc' : ¬ checkR st.n st.ar≠0:=by simp [hc]
     rw [if_neg hc',if_neg hc']
     by_cases he : st.n=w.n + m
     ·rw [if_pos he,if_pos he]
      exact turn_gen _ _ _ _ _
     ·rw [if_neg he,if_neg he]
    ·rw [if_pos hc,if_pos hc]
   by_cases c3 : st.kind=3
   ·rw [if_pos c3,if_pos c3]; exact hr 1
   ·rw [if_neg c3,if_neg c3]
    by_cases c4 : st.kind=4
    ·rw [if_pos c4,if_pos c4]; exact hr 0
    ·rw [if_neg c4,if_neg c4]
end
structure WkG (w : Wk) : Prop where
 ck : checkR w.n w.ar=0
 or : ordOk w.n.toNat w.order=true
 ps : w.passed≤w.order.length
theorem WkG.len {w : Wk} (h : WkG w) : (w.order.length : Int)=w.n:=by
 have h1:=(ordOk_iff.1 h.or).1
 have h2:=(checkR_pos h.ck).1
 omega
theorem WkG.inn {w : Wk} (h : WkG w) : ∀ x∈w.order,0≤x∧x < w.n:=by
 intro x hx
 have h1:=(ordOk_iff.1 h.or).2.2 x hx
 have h2:=(checkR_pos h.ck).1
 omega
theorem WkG.sm {w : Wk} (h : WkG w) : w.order.length≤24:=by
 have h1:=h.len
 have h2:=(checkR_pos h.ck).2.1
 omega
theorem turn_ck {w : Wk} {n : Int} {ar : List Arw} {old : List Int} {r : Wk × Unit} (h : turnW chO () w n ar old=.ok r) : r.1.chg.check=0:=by
 unfold turnW at h
 split at h
 ·cases h
 ·rename_i h1
  cases h
  exact Decidable.of_not_not h1
theorem step_ck {w : Wk} {st : Stp} {r : Wk × Unit} (h : doW chO () w st=.ok r) (k : ¬ st.kind=1) : r.1.chg.check=0:=by
 have hr : ∀ {m : Int},renewW chO () w st m=.ok r→r.1.chg.check=0:=by
  intro m h
  unfold renewW at h
  split at h
  ·cases h
  ·split at h
   ·exact turn_ck h
   ·cases h
 unfold doW at h
 rw [if_neg k] at h
 split at h
 ·unfold leaveW at h
  split at h
  ·split at h
   ·cases h
   ·exact turn_ck h
  ·cases h
 ·split at h
  ·exact hr h
  ·split at h
   ·exact hr h
   ·cases h
theorem pass_g {w : Wk} {st : Stp} {r : Wk × Unit} (hw : WkG w) (h : doW chO () w st=.ok r) (k : st.kind=1) : r.1=⟨w.n,w.ar,w.order,w.passed + 1⟩∧WkG r.1:=by
 unfold doW at h
 rw [if_pos k] at h
 unfold passW at h
 split at h
 ·rename_i h1
  cases h
  exact ⟨rfl,hw.ck,hw.or,by simp only; exact h1⟩
 ·cases h
theorem order_g {w : Wk} {o : List Int} (h : w.chg.check=0) (ho : ordOk w.chg.cg.n o=true) : WkG ⟨w.n,w.ar,o,w.passed⟩:=by
 have ok:=check_ok h
 have e : w.chg.cg.n=w.n.toNat:=rfl
 have l1:=(ordOk_iff.1 ho).1
 have l2:=ok.p1
 have l3:=ok.olen
 have l4 : w.chg.passed=w.passed:=rfl
 have l5 : w.chg.old=w.order:=rfl
 have l6 : w.chg.n=w.n:=rfl
 rw [l5] at l2 l3
 rw [l4] at l2
 exact ⟨check_ck h,by rw [← e]; exact ho,by simp only; omega⟩
theorem rnext_ok {S : AS} {va vo sv : Value} {w : Wk} {st : Stp} (ha : As S va w.ar) (ho : Is S vo w.order) (hw : WkG w) (hs : As S sv st.ar) (hn1 : -9223372036854775808≤st.n) (hn2 : st.n≤9223372036854775807) {Q : En→AS→Prop}
  (hq : NextE S va vo sv w Q (doW chO () w st)) : Call G 27 [colV w va vo,st.val sv] S Q:=by
 have hsm:=hw.sm
 by_cases c1 : st.kind=1
 ·exact rnext_pass ha ho hw.ps (by omega) hw.len hs c1 hq
 by_cases c2 : st.kind=2
 ·unfold doW at hq
  rw [if_neg c1,if_pos c2] at hq
  exact rnext_leave ha ho hw.ck hw.ps (by omega) hw.inn hs c2 hq
 by_cases c3 : st.kind=3
 ·unfold doW at hq
  rw [if_neg c1,if_neg c2,if_pos c3] at hq
  exact rnext_renew ha ho hw.ck hw.ps (by omega) hs hn1 hn2 (.inl ⟨c3,rfl⟩) hq
 by_cases c4 : st.kind=4
 ·unfold doW at hq
  rw [if_neg c1,if_neg c2,if_neg c3,if_pos c4] at hq
  exact rnext_renew ha ho hw.ck hw.ps (by omega) hs hn1 hn2 (.inr ⟨c4,rfl⟩) hq
 exact rnext_other ha ho hs c1 c2 c3 c4 hq


end Go.Gx.Z
