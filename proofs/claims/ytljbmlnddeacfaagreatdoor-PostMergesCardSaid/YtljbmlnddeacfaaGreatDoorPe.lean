/-
  PostMerges.
-/
import Derived.Test.YtljbmlnddeacfaaGreatDoorPd

set_option linter.all false
set_option linter.deprecated false

namespace Go.Gx.B
open Go.Gx Go.Lib
set_option maxRecDepth 100000
set_option linter.all false
set_option maxHeartbeats 8000000

theorem merge_len : ∀ (a b : List Nt), (merge a b).length ≤ a.length + b.length := by
  intro a b
  induction a, b using merge.induct with
  | case1 b => simp [merge]
  | case2 a _ => rw [merge_nilr]; simp
  | case3 x a y b h ih => rw [merge_cons, if_pos h]; simp at *; omega
  | case4 x a y b h h2 ih => rw [merge_cons, if_neg h, if_pos h2]; simp at *; omega
  | case5 x a y b h h2 ih => rw [merge_cons, if_neg h, if_neg h2]; simp at *; omega
theorem mergeV_len (a b : List Nt) : (mergeV a b).length ≤ a.length + b.length := by
  unfold mergeV
  split
  · exact merge_len a b
  · simp
theorem postMerges_walk {S : AS} {va vb vc : Value} {a b c : List Nt} (ha : Ns S va a) (hb : Ns S vb b) (hc : Ns S vc c) : Call G 7 [va, vb, vc] S fun e _ => e = .ret (.bool true) := by
  refine call_run' (G := G) rfl (ext_none (by decide)) ?_
  simp
  refine long_ok ha fun b1 h1 => ?_
  cases b1 with
  | true => simp; exact greeted_ok (by simp)
  | false =>
  simp
  refine long_ok hb fun b2 h2 => ?_
  cases b2 with
  | true => simp; exact greeted_ok (by simp)
  | false =>
  simp
  refine long_ok hc fun b3 h3 => ?_
  cases b3 with
  | true => simp; exact greeted_ok (by simp)
  | false =>
  have la := h1 rfl
  have lb := h2 rfl
  have lc := h3 rfl
  simp
  refine Merge_ok ha hb (by omega) fun S1 p1 n1 s1 e1 o1 w1 => ?_
  simp
  refine Merge_ok (hb.stay0 s1) (ha.stay0 s1) (by omega) fun S2 p2 n2 s2 e2 o2 w2 => ?_
  have s2' := s1.tr0 s2
  simp [mergeE_comm b a]
  refine same_ok ((o1.stay0 s2).ns) o2.ns (by have := mergeV_len a b; omega) ?_
  have ev : mergeV b a = mergeV a b := by
    unfold mergeV
    rw [mergeE_comm b a]
    split
    · rename_i h; exact (merge_comm h).symm
    · rfl
  by_cases hE : mergeE a b = 0
  · obtain ⟨Ra, Rb, hA⟩ := mergeE_zero.1 hE
    obtain ⟨Rx, hmem, hcx⟩ := merge_reg Ra Rb hA
    have hx : mergeV a b = merge a b := by unfold mergeV; rw [if_pos hE]
    have hlx := merge_len a b
    obtain ⟨hs1, hs2⟩ := merge_self Ra
    have hz : mergeV a a = a := by unfold mergeV; rw [if_pos hs1, hs2]
    rw [hx] at o1 e1
    rw [ev, hx] at o2 e2
    simp [ev, hE, hx]
    refine Merge_ok (ha.stay0 s2') (ha.stay0 s2') (by omega) fun S3 p3 n3 s3 e3 o3 w3 => ?_
    have s3' := s2'.tr0 s3
    rw [hz] at o3 e3
    simp [hs1]
    refine same_ok o3.ns (ha.stay0 s3') (by omega) ?_
    simp
    have ox := ((o1.stay0 s2).stay0 s3).ns
    refine check_ok ox (by omega) fun S4 s4 => ?_
    have s4' := s3'.tr0 s4
    rw [regB_iff.2 Rx]
    simp
    refine count_ok (ha.stay0 s4'.bu) (by omega) fun S5 s5 => ?_
    have n5 := s5.1
    simp at n5
    have s5' : Same S S5 [] := (s4'.bu).tr0 s5
    have l8 : ∀ l, rowStore (ints z8) 0 (ints (counts l)) = some (ints (counts l)) := fun l => ints_put (by simp)
    simp [reps8, l8]
    generalize hT1 : AS.put (AS.put S5 _ _) _ _ = T1
    have t1 : Same S T1 [] := by rw [← hT1]; exact (s5'.pn (by have := s4'.1; omega)).pn (by have := s4'.1; omega)
    have g1 : T1.get S4.next = some (.row (ints (counts a)) 26 true true) := by rw [← hT1]; simp
    have m1 : T1.next = S5.next := by rw [← hT1]; rfl
    have z1 : Same S4 T1 [] := by
      rw [← hT1]
      exact (((Same.refl S4 []).bu.tr0 s5).pn (by omega)).pn (by omega)
    clear hT1
    refine count_ok (hb.stay0 t1.bu) (by omega) fun S6 s6 => ?_
    have n6 := s6.1
    simp at n6
    have s6' : Same S S6 [] := (t1.bu).tr0 s6
    have h6 : S6.get S4.next = _ := (s6.2 S4.next (by simp; omega) (by simp)).trans (by simp; exact g1)
    simp [reps8, l8]
    generalize hT2 : AS.put (AS.put S6 _ _) _ _ = T2
    have ns5 := s5'.1
    have t2 : Same S T2 [] := by rw [← hT2]; exact (s6'.pn (by omega)).pn (by omega)
    have g2 : T2.get S5.next = some (.row (ints (counts b)) 26 true true) := by rw [← hT2]; simp
    have g2' : T2.get S4.next = some (.row (ints (counts a)) 26 true true) := by rw [← hT2, AS.get_put_ne _ _ (by omega), AS.get_put_ne _ _ (by omega)]; exact h6
    have m2 : T2.next = S6.next := by rw [← hT2]; rfl
    have z2 : Same S4 T2 [] := by
      rw [← hT2]
      exact ((z1.bu.tr0 s6).pn (by omega)).pn (by omega)
    clear hT2
    have ox2 := ox.stay0 (s4.tr0 z2)
    refine count_ok (v := .slice p1 n1 n1) (l := merge a b) (ox2.stay0 (Same.refl T2 []).bu) (by omega) fun S7 s7 => ?_
    have n7 := s7.1
    simp at n7
    have s7' : Same S S7 [] := (t2.bu).tr0 s7
    have h7 : S7.get S4.next = _ := (s7.2 S4.next (by simp; omega) (by simp)).trans (by simp; exact g2')
    have h7' : S7.get S5.next = _ := (s7.2 S5.next (by simp; omega) (by simp)).trans (by simp; exact g2)
    simp [reps8, l8]
    generalize hT3 : AS.put (AS.put S7 _ _) _ _ = T3
    have t3 : Same S T3 [] := by rw [← hT3]; exact (s7'.pn (by omega)).pn (by omega)
    have g3 : T3.get S6.next = some (.row (ints (counts (merge a b))) 26 true true) := by rw [← hT3]; simp
    have g3' : T3.get S5.next = some (.row (ints (counts b)) 26 true true) := by rw [← hT3, AS.get_put_ne _ _ (by omega), AS.get_put_ne _ _ (by omega)]; exact h7'
    have g3'' : T3.get S4.next = some (.row (ints (counts a)) 26 true true) := by rw [← hT3, AS.get_put_ne _ _ (by omega), AS.get_put_ne _ _ (by omega)]; exact h7
    have z3 : Same S4 T3 [] := by
      rw [← hT3]
      exact ((z2.bu.tr0 s7).pn (by omega)).pn (by omega)
    clear hT3
    have ox3 := ox.stay0 (s4.tr0 z3)
    refine run_loop (fun j a' S' => ∃ i, j = 8 - i ∧ i ≤ 8 ∧ S' = T3 ∧ Has a' 136 [(0, va), (1, vb), (2, vc), (7, .slice p1 n1 n1), (13, ptr S4.next), (14, ptr S5.next), (15, ptr S6.next), (16, .int .i64 (i : Nat))]) _ ⟨0, rfl, by omega, rfl, ⟨rfl, rfl, by simp⟩⟩ ?_
    rintro _ R hR _ _ ⟨i, rfl, hi, rfl, hA⟩
    obtain ⟨x, rfl⟩ := hA.lit
    by_cases hlt : i < 8
    · have hlt' : (i : Int) < 8 := by omega
      have hmx : foldV max2V [.int .i64 (cnt (i : Int) a : Nat), .int .i64 (cnt (i : Int) b : Nat)] = some (.int .i64 (cnt (i : Int) (merge a b) : Nat)) := by
        rw [hcx]
        simp [foldV, max2V]
        split <;> omega
      have hw : IntKind.i64.wrap ((i : Int) + 1) = ((i + 1 : Nat) : Int) := wrapS (by omega)
      simp [fillF, pickL, hlt, hlt', g3, g3', g3'', hmx, hw]
      exact hR _ _ _ (by omega) ⟨i + 1, rfl, by omega, rfl, ⟨rfl, rfl, by simp [hw]⟩⟩
    · obtain rfl : i = 8 := by omega
      simp [fillF, pickL]
      refine Merge_ok ox3 (hc.stay0 t3) (by omega) fun S8 p8 n8 s8 e8 o8 w8 => ?_
      simp
      have s8' := t3.tr0 s8
      refine Merge_ok (hb.stay0 s8') (hc.stay0 s8') (by omega) fun S9 p9 n9 s9 e9 o9 w9 => ?_
      have s9' := s8'.tr0 s9
      by_cases c1 : mergeE (merge a b) c = 0
      · by_cases c2 : mergeE b c = 0
        · obtain ⟨q1, q2⟩ := merge_assoc hE c1 c2
          have v1 : mergeV (merge a b) c = merge (merge a b) c := by unfold mergeV; rw [if_pos c1]
          have v2 : mergeV b c = merge b c := by unfold mergeV; rw [if_pos c2]
          have v3 : mergeV a (merge b c) = merge (merge a b) c := by unfold mergeV; rw [if_pos q1, q2]
          rw [v1] at o8
          rw [v2] at o9
          have hlm := merge_len b c
          simp [c1, c2]
          refine Merge_ok (ha.stay0 s9') o9.ns (by omega) fun S10 p10 n10 s10 e10 o10 w10 => ?_
          rw [v3] at o10
          simp [q1]
          refine greeted_ok ?_
          simp
          refine same_ok o10.ns (((o8.stay0 s9).stay0 s10).ns) (by have := merge_len (merge a b) c; omega) ?_
          simp
        · simp [c1, c2]
          exact greeted_ok (by simp)
      · simp [c1]
        exact greeted_ok (by simp)
  · simp [ev, hE]
    exact greeted_ok (by simp)
end Go.Gx.B
