/-
  Orders that are told, and best orders (plain).
-/
import Derived.Test.YtamljcdnphjgaaaPq
import Derived.Test.YtamljcdnphjgaaaPt
import Derived.Test.YtamljcdnphjgaaaPu

set_option linter.all false
set_option linter.deprecated false
set_option linter.unusedSimpArgs false
set_option linter.unusedVariables false

namespace Go.Gx.A
open Go.Gx Go.Proofs
set_option maxRecDepth 100000
set_option linter.all false
theorem kept_self {l : List Int} (h : l.Nodup) : kept l l = l := by
  have h1 := L_common l l 0 l h (List.Sublist.refl _) (by simp)
  have h2 := kept_len l l
  exact (kept_sub1 l l).eq_of_length_le (by omega)
theorem filter_all {l m : List Int} (h : ∀ x ∈ l, x ∈ m) : (l.filter fun x => decide (x ∈ m)) = l := List.filter_eq_self.2 fun x hx => by simpa using h x hx
theorem movedN_self {l : List Int} (h : l.Nodup) : movedN l l = 0 := by
  unfold movedN
  rw [filter_all fun x hx => hx, ← kept_len, kept_self h]
  omega
theorem moved_zero {old order : List Int} (hm : ∀ x ∈ old, x ∈ order) (hl : order.length = old.length) (h0 : movedN old order = 0) : order = old := by
  unfold movedN at h0
  rw [filter_all hm, ← kept_len] at h0
  have h1 : kept old order = old := (kept_sub1 old order).eq_of_length_le (by omega)
  have h2 : kept old order = order := (kept_sub2 old order).eq_of_length_le (by rw [h1]; omega)
  rw [← h2, h1]
theorem valid_order {c : Cg} (cok : CgOk c) {o : List Int} (ho : ordOk c.n o = true) (ht : o.take c.passed = c.front) : ∃ q ∈ c.goal.all, o = c.order q := by
  obtain ⟨h1, h2, h3⟩ := ordOk_iff.1 ho
  have hsp : o = c.front ++ o.drop c.passed := by rw [← ht, List.take_append_drop]
  have hlf := len_free cok
  have hdl : (o.drop c.passed).length = c.free.length := by
    have := congrArg List.length hsp
    rw [List.length_append] at this
    omega
  have hnd : (o.drop c.passed).Nodup := h2.sublist (List.drop_sublist _ _)
  have hfree : ∀ x ∈ o.drop c.passed, x ∈ c.free := fun x hx => by
    have hxo : x ∈ o := List.mem_of_mem_drop hx
    have hb := h3 x hxo
    have hnf : x ∉ c.front := fun hf => by
      rw [hsp, List.nodup_append] at h2
      exact h2.2.2 x hf x hx rfl
    unfold Cg.free
    rw [List.mem_filter]
    exact ⟨List.mem_map.2 ⟨x.toNat, by rw [List.mem_range]; omega, by omega⟩, by simpa using hnf⟩
  have hat : ∀ x ∈ o.drop c.passed, c.free.idxOf x < c.free.length ∧ c.tk.at' (c.free.idxOf x) = x := fun x hx => by
    have hl := List.idxOf_lt_length_of_mem (hfree x hx)
    refine ⟨hl, ?_⟩
    show c.free.getD _ 0 = x
    rw [List.getD_eq_getElem?_getD, List.getElem?_eq_getElem hl, List.getElem_idxOf]
    rfl
  refine ⟨(o.drop c.passed).map fun x => c.free.idxOf x, mem_all.2 ⟨⟨?_, fun i hi => ?_⟩, by rw [List.length_map]; exact hdl⟩, ?_⟩
  · refine List.pairwise_map.2 (hnd.imp_of_mem fun {a b} ha hb hab e => hab ?_)
    have := congrArg c.tk.at' e
    rw [(hat a ha).2, (hat b hb).2] at this
    exact this
  · obtain ⟨x, hx, rfl⟩ := List.mem_map.1 hi
    exact (hat x hx).1
  · unfold Cg.order
    rw [List.map_map]
    conv => lhs; rw [hsp]
    congr 1
    refine (List.map_id _).symm.trans (List.map_congr_left fun x hx => ?_)
    exact (hat x hx).2.symm
theorem valid_le {c : Cg} (cok : CgOk c) {o : List Int} (ho : ordOk c.n o = true) (ht : o.take c.passed = c.front) : cle c.goal.total (c.rcost o) := by
  obtain ⟨q, hq, rfl⟩ := valid_order cok ho ht
  rw [order_cost cok hq]
  exact total_le hq
theorem amd_cost {c : Cg} (cok : CgOk c) : c.rcost c.amd.order = c.goal.total := by
  obtain ⟨q, q1, q2, q3⟩ := mem_bests.1 (List.mem_of_getElem? (bests_head c))
  show c.rcost (c.bests.headD []) = _
  rw [q3, order_cost cok q1, q2]
end Go.Gx.A

/-
  AmendStays: nobody is moved without need.
-/
namespace Go.Gx.A
open Go.Gx Go.Proofs
set_option maxRecDepth 100000
set_option linter.all false
set_option maxHeartbeats 2000000
theorem amd_mem {c : Cg} (cok : CgOk c) {x : Int} : x ∈ c.amd.order ↔ 0 ≤ x ∧ x < c.n := by
  obtain ⟨q, q1, q2, q3⟩ := mem_bests.1 (List.mem_of_getElem? (bests_head c))
  show x ∈ c.bests.headD [] ↔ _
  rw [q3]
  exact order_mem cok (mem_all.1 q1).1 (mem_all.1 q1).2
theorem stay_facts {c : Chg} (hc : c.check = 0) (hl : (c.old.length : Int) = c.n) :
    costE c c.old = 0 ∧ (costV c c.old).2 = 0 ∧ c.cg.amd.off ≤ (costV c c.old).1 ∧ ((costV c c.old).1 ≤ c.cg.amd.off → c.cg.amd.order = c.old ∧ c.cg.amd.mov = 0 ∧ c.cg.amd.kept = c.old) := by
  have ok := check_ok hc
  have cok := ok.cgOk
  have hcn : (c.cg.n : Int) = c.n := by show (c.n.toNat : Int) = c.n; have := ok.n0; omega
  have hold : c.cg.old = c.old := rfl
  have ho : ordOk c.cg.n c.old = true := ordOk_iff.2 ⟨by omega, ok.nd, fun x hx => by have := ok.lt x hx; omega⟩
  have hE : costE c c.old = 0 := by
    unfold costE validR
    rw [if_neg (by simp [hc]), if_neg (by simp [ho]), if_pos hc, ho]
    simp
  have hV : costV c c.old = c.cg.rcost c.old := by unfold costV; rw [if_pos hE]
  have hm : movedN c.old c.old = 0 := movedN_self ok.nd
  have hle : cle c.cg.goal.total (c.cg.rcost c.old) := valid_le cok ho rfl
  have hr2 : (c.cg.rcost c.old).2 = 0 := hm
  have hbd := total_bd ok.cgSm
  unfold cle at hle
  rw [hr2] at hle
  refine ⟨hE, by rw [hV]; exact hm, ?_, fun hoff => ?_⟩
  · rw [hV]
    show c.cg.goal.total.1 ≤ _
    omega
  · rw [hV] at hoff
    change _ ≤ c.cg.goal.total.1 at hoff
    have h2 : c.cg.goal.total.2 = 0 := by omega
    have hac := amd_cost cok
    have hmv : movedN c.old c.cg.amd.order = 0 := by
      have := congrArg Prod.snd hac
      rw [h2] at this
      exact this
    have heq : c.cg.amd.order = c.old := moved_zero (fun x hx => (amd_mem cok).2 (by have := ok.lt x hx; omega)) (by rw [amd_len cok]; omega) hmv
    refine ⟨heq, h2, ?_⟩
    show kept c.cg.old c.cg.amd.order = c.old
    rw [heq]
    exact kept_self ok.nd
theorem stays_walk {S : AS} {va vo : Value} {c : Chg} (h : ChgAt S va vo c) : Call G 8 [c.val va vo] S fun e _ => e = .ret (.bool true) := by
  obtain ⟨oa, ocap, hov⟩ := h.old.shape
  refine call_run' (G := G) rfl (ext_none (by decide)) ?_
  have al : ∀ (S' : AS) (R : En → AS → Prop), R (.ret (.bool true)) S' → Call G 23 [] S' R := fun S' R h => alive_ok h
  simp [Chg.val]
  generalize hS1 : AS.bump (AS.put (AS.bump S _) _ _) _ = S1
  have s1 : Same S S1 [] := by rw [← hS1]; exact (((Same.refl _ _).bu).pn (by omega)).bu
  have g0 : S1.get S.next = some (.row [.int .i64 c.n, va, vo, .int .i64 c.passed] 27 true true) := by rw [← hS1]; simp
  have hn1 : S1.next = S.next + 2 := by rw [← hS1]; simp
  clear hS1
  refine Amend_ok' (h.stay0 s1) fun S2 v k hs2 hv hk hown => ?_
  have s2 := s1.tr0 hs2
  have hn2 := hs2.1
  have g2 : S2.get S.next = _ := (hs2.2 _ (by omega) (by simp)).trans g0
  obtain ⟨va1, vc1, hvs⟩ := hv.shape
  obtain ⟨ka1, kc1, hks⟩ := hk.shape
  simp [hvs, hks, okc, rowStore, splice]
  generalize hS3 : AS.put (AS.put S2 _ _) _ _ = S3
  have hs3 : Same S2 S3 [S.next + 1] := by rw [← hS3]; exact ⟨by simp, fun m hm hn => by simp at hn; rw [AS.get_put_ne _ _ hn, AS.get_put_ne _ _ hn]⟩
  have gm : S3.get (S.next + 1) = some (.row [.slice va1 (amdR c).order.length vc1, .int .i64 (amdR c).off, .int .i64 (amdR c).mov, .slice ka1 (amdR c).kept.length kc1] 44 true true) := by rw [← hS3, AS.get_put_self]
  clear hS3
  have hn3 := hs3.1
  have s3 : Same S S3 [] := s2.trans hs3 (fun m hm hl => by simp at hm; omega)
  have g3 : S3.get S.next = _ := (hs3.2 _ (by omega) (by simp)).trans g2
  have hv3 : Is S3 v (amdR c).order := hv.stays hs3 (fun m hm => by have := hown m (List.mem_append_left _ hm); simp; omega)
  have hk3 : Is S3 k (amdR c).kept := hk.stays hs3 (fun m hm => by have := hown m (List.mem_append_right _ hm); simp; omega)
  by_cases hc : c.check = 0
  · simp [hc, g3]
    refine refCheckC_ok (h.stay0 s3) fun S4 hs4 => ?_
    have s4 := s3.tr0 hs4
    have hn4 := hs4.1
    have g4 : S4.get S.next = _ := (hs4.2 _ (by omega) (by simp)).trans g3
    have gm4 : S4.get (S.next + 1) = _ := (hs4.2 _ (by omega) (by simp)).trans gm
    have hlo : ∀ v', vo = .slice oa c.old.length ocap → v' = vo → True := fun _ _ _ => trivial
    by_cases hl : (c.old.length : Int) = c.n
    · simp [hc, g4, hov, hl]
      rw [← hov]
      refine Cost_ok (h.stay0 s4) (h.old.stay0 s4) fun S5 hs5 => ?_
      obtain ⟨f1, f2, f3, f4⟩ := stay_facts hc hl
      have hR : amdR c = c.cg.amd := if_pos hc
      rw [f1, f2]
      have g5 : S5.get S.next = _ := (hs5.2 _ (by have := hs4.1; omega) (by simp)).trans g4
      have gm5 : S5.get (S.next + 1) = _ := (hs5.2 _ (by have := hs4.1; omega) (by simp)).trans gm4
      have hv5 : Is S5 v (amdR c).order := (hv3.stay0 hs4).stay0 hs5
      have hk5 : Is S5 k (amdR c).kept := (hk3.stay0 hs4).stay0 hs5
      have hold5 : Is S5 vo c.old := (h.old.stay0 s4).stay0 hs5
      rw [hR] at gm5 hv5 hk5
      rw [hvs, hR] at hv5
      rw [hks, hR] at hk5
      generalize (costV c c.old).1 = off at *
      generalize hxo : c.cg.amd.off = x at *
      have hnl : (off < x) = False := eq_false (by omega)
      simp [gm5, hnl, undef]
      refine al _ _ ?_
      by_cases hgt : x < off
      · simp [gm5, hgt, undef]
      · obtain ⟨p1, p2, p3⟩ := f4 (by omega)
        simp [gm5, hgt, g5, undef]
        refine sameInts_ok hv5 hold5 ?_
        simp [p1, p2, gm5, g5]
        refine sameInts_ok hk5 hold5 ?_
        simp [p3]
    · simp [hc, g4, hov, hl]
      refine al _ _ ?_
      simp [hc, g4]
      rw [← hov]
      refine refCheckC_ok (h.stay0 s4) fun S5 hs5 => ?_
      simp [hc, undef]
  · simp [hc, g3, undef]
    refine al _ _ ?_
    simp [hc, g3, undef]
    refine refCheckC_ok (h.stay0 s3) fun S5 hs5 => ?_
    simp [hc, undef]
end Go.Gx.A
