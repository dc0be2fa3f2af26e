/-
  Moves lead from one list to the other, and how many there are (plain).
-/
import Derived.Test.YtamljcdnphjgaaaPx
import Derived.Test.YtamljcdnphjgaaaPm
import Derived.Test.YtamljcdnphjgaaaPu

set_option linter.all false
set_option linter.deprecated false
set_option linter.unusedSimpArgs false
set_option linter.unusedVariables false

namespace Go.Gx.A
open Go.Gx Go.Proofs
set_option maxRecDepth 100000
set_option linter.all false
theorem flt_t {p : Int → Bool} {x : Int} (h : p x = true) : [x].filter p = [x] := by simp [h]
theorem flt_f {p : Int → Bool} {x : Int} (h : p x = false) : [x].filter p = [] := by simp [h]
theorem nodup_sub_len : ∀ {l m : List Int}, l.Nodup → (∀ x ∈ l, x ∈ m) → l.length ≤ m.length
  | [], m, _, _ => Nat.zero_le _
  | x :: l, m, hn, hs => by
    rw [List.nodup_cons] at hn
    have h1 := nodup_sub_len (m := m.erase x) hn.2 fun y hy => (List.mem_erase_of_ne (fun e : y = x => hn.1 (e ▸ hy))).2 (hs y (List.mem_cons_of_mem _ hy))
    have hx := hs x (List.mem_cons_self ..)
    have h2 := List.length_erase_of_mem hx
    have h3 := List.length_pos_of_mem hx
    rw [List.length_cons]
    omega
theorem apR_append : ∀ (l m : List Mv) (now : List Int), (apR l now).2 = 0 → apR (l ++ m) now = apR m (apR l now).1
  | [], m, now, _ => rfl
  | x :: l, m, now, h => by
    simp only [List.cons_append, apR] at h ⊢
    by_cases h1 : (step1 now x).2 ≠ 0
    · rw [if_pos h1] at h
      exact absurd h h1
    · rw [if_neg h1] at h ⊢
      rw [if_neg h1]
      exact apR_append l m _ h
theorem apR_snoc {l : List Mv} {now w w' : List Int} {m : Mv} (h : apR l now = (w, 0)) (hs : step1 w m = (w', 0)) : apR (l ++ [m]) now = (w', 0) := by
  rw [apR_append _ _ _ (by rw [h]), h]
  simp only [apR, hs]
  rfl
theorem step1_drop {w : List Int} {x : Int} (h : x ∈ w) : step1 w (x, ixI w x, -1) = (w.eraseIdx (ixI w x).toNat, 0) := by
  have h1 := ixI_mem.2 h
  unfold step1
  rw [if_neg (by simp only; omega), if_neg (by simp only; omega)]
  unfold putR restR
  rw [if_pos rfl, if_neg (by simp only; omega)]
theorem step1_place {w : List Int} {x t : Int} (ht : 0 ≤ t) (hl : t ≤ (cutO w x).length) (hs : (cutO w x).length < 200) : step1 w (x, ixI w x, t) = (ins1 (cutO w x) t.toNat x, 0) := by
  have hge := ixI_ge w x
  have hr : restR w (x, ixI w x, t) = cutO w x := by
    unfold restR cutO
    by_cases h : 0 ≤ ixI w x
    · rw [if_pos h, if_neg (by simp only; omega)]
    · rw [if_neg h, if_pos (by simp only; omega)]
  unfold step1
  rw [if_neg (by simp only; omega), if_neg (by simp only; omega), hr]
  unfold putR
  rw [if_neg (by simp only; omega), if_neg (by simp only; omega), if_neg (by omega)]
theorem dropN_form {old order : List Int} (hn : old.Nodup) : ∀ i, i ≤ old.length → (dropN old order i).1 = (old.take i).filter (fun x => decide (x ∈ order)) ++ old.drop i ∧ (dropN old order i).2.length = ((old.take i).filter (fun x => decide (x ∉ order))).length ∧ apR (dropN old order i).2 old = ((dropN old order i).1, 0)
  | 0, _ => ⟨rfl, rfl, rfl⟩
  | i + 1, hi => by
    obtain ⟨h1, h2, h3⟩ := dropN_form (order := order) hn i (by omega)
    have hg : old.getD i 0 = old[i] := by rw [List.getD_eq_getElem?_getD, List.getElem?_eq_getElem (by omega)]; rfl
    have htk : old.take (i + 1) = old.take i ++ [old[i]] := by rw [List.take_add_one, List.getElem?_eq_getElem (by omega)]; rfl
    have hdr := List.drop_eq_getElem_cons (show i < old.length by omega)
    simp only [dropN, drop1, hg, htk, List.filter_append]
    by_cases hc : old[i] ∈ order
    · rw [if_pos hc]
      refine ⟨?_, ?_, h3⟩
      · rw [h1, hdr, flt_t (by simpa using hc), List.append_assoc, List.singleton_append]
      · rw [h2, flt_f (by simpa using hc), List.append_nil]
    · rw [if_neg hc]
      have hmem : old[i] ∈ (dropN old order i).1 := by rw [h1, hdr]; exact List.mem_append_right _ (List.mem_cons_self ..)
      have hne : old[i] ∉ (old.take i).filter (fun x => decide (x ∈ order)) := fun h => hc (by simpa using (List.mem_filter.1 h).2)
      refine ⟨?_, ?_, apR_snoc h3 (step1_drop hmem)⟩
      · rw [ixI_erase hmem, h1, hdr, List.erase_append_right _ hne, List.erase_cons_head, flt_f (by simpa using hc), List.append_nil]
      · rw [flt_t (by simpa using hc), List.length_append, List.length_append, h2]
        rfl
theorem nodup_cut {α} {A B C D : List α} {z : α} (h : A ++ z :: B = C ++ z :: D) (hn : (A ++ z :: B).Nodup) : A = C := by
  rcases List.append_eq_append_iff.1 h with ⟨E, e1, e2⟩ | ⟨E, e1, e2⟩
  · cases E with
    | nil => simpa using e1.symm
    | cons y E =>
      exfalso
      simp only [List.cons_append, List.cons.injEq] at e2
      obtain ⟨rfl, e2⟩ := e2
      rw [h, e1] at hn
      rw [List.nodup_append] at hn
      exact hn.2.2 z (by simp) z (by simp) rfl
  · cases E with
    | nil => simpa using e1
    | cons y E =>
      exfalso
      simp only [List.cons_append, List.cons.injEq] at e2
      obtain ⟨rfl, e2⟩ := e2
      rw [e1] at hn
      rw [List.nodup_append] at hn
      exact hn.2.2 z (by simp) z (by simp) rfl
structure PlInv (kept order : List Int) (j : Nat) (w : List Int) : Prop where
  nd : w.Nodup
  sub : ∀ x ∈ w, x ∈ order
  fl : w.filter (fun x => decide (x ∈ order.take j ∨ x ∈ kept)) = order.take j ++ (order.drop j).filter (fun x => decide (x ∈ kept))
theorem cutO_erase {w : List Int} {x : Int} : cutO w x = w.erase x := by
  unfold cutO
  split
  · rename_i h
    exact ixI_erase (ixI_mem.1 h)
  · rename_i h
    rw [List.erase_of_not_mem]
    exact fun hm => h (ixI_mem.2 hm)
theorem plInv_step {kept order : List Int} (hno : order.Nodup) {j : Nat} (hj : j < order.length) {w : List Int} (h : PlInv kept order j w) (hx : order[j] ∉ kept) :
    0 ≤ toO order (cutO w order[j]) j ∧ toO order (cutO w order[j]) j ≤ (cutO w order[j]).length ∧ PlInv kept order (j + 1) (ins1 (cutO w order[j]) (toO order (cutO w order[j]) j).toNat order[j]) := by
  obtain ⟨nd, sub, fl⟩ := h
  have htk : order.take (j + 1) = order.take j ++ [order[j]] := by rw [List.take_add_one, List.getElem?_eq_getElem hj]; rfl
  have hxt : order[j] ∉ order.take j := (nodup_take hj).1 (hno.sublist (List.take_sublist _ _)) |>.2
  have hdr := List.drop_eq_getElem_cons hj
  rw [cutO_erase]
  have ndv : (w.erase order[j]).Nodup := nd.erase _
  have hxv : order[j] ∉ w.erase order[j] := fun hm => (List.Nodup.mem_erase_iff nd).1 hm |>.1 rfl
  have flv : (w.erase order[j]).filter (fun x => decide (x ∈ order.take j ∨ x ∈ kept)) = order.take j ++ (order.drop (j + 1)).filter (fun x => decide (x ∈ kept)) := by
    have e1 : (w.erase order[j]).filter (fun x => decide (x ∈ order.take j ∨ x ∈ kept)) = w.filter (fun x => decide (x ∈ order.take j ∨ x ∈ kept)) := by
      rw [nd.erase_eq_filter, List.filter_filter]
      refine List.filter_congr fun y _ => ?_
      by_cases hy : y = order[j]
      · subst hy
        simp [hxt, hx]
      · simp [hy]
    rw [e1, fl, hdr, List.filter_cons, if_neg (by simpa using hx)]
  have subv : ∀ x ∈ w.erase order[j], x ∈ order := fun x hm => sub x (List.mem_of_mem_erase hm)
  generalize w.erase order[j] = v at *
  have hge : 0 ≤ toO order v j ∧ toO order v j ≤ v.length := by
    unfold toO
    split
    · have := ixI_ge v (order.getD (j - 1) 0)
      have := ixI_lt v (order.getD (j - 1) 0)
      omega
    · omega
  refine ⟨hge.1, hge.2, ?_⟩
  obtain ⟨t, ht⟩ : ∃ t : Nat, toO order v j = t := ⟨(toO order v j).toNat, by omega⟩
  rw [ht, Int.toNat_natCast]
  have hnew : ∀ y ∈ v, (decide (y ∈ order.take (j + 1) ∨ y ∈ kept)) = decide (y ∈ order.take j ∨ y ∈ kept) := fun y hy => by
    have : y ≠ order[j] := fun e => hxv (e ▸ hy)
    simp only [htk, List.mem_append, List.mem_singleton, this, or_false]
  have hA : (v.take t).filter (fun x => decide (x ∈ order.take j ∨ x ∈ kept)) = order.take j := by
    unfold toO at ht
    by_cases h0 : 0 < j
    · rw [if_pos h0] at ht
      obtain ⟨k, rfl⟩ : ∃ k, j = k + 1 := ⟨j - 1, by omega⟩
      have hk : k < order.length := by omega
      have hz : order.getD k 0 = order[k] := by rw [List.getD_eq_getElem?_getD, List.getElem?_eq_getElem hk]; rfl
      simp only [Nat.add_sub_cancel, hz] at ht
      have htk2 : order.take (k + 1) = order.take k ++ [order[k]] := by rw [List.take_add_one, List.getElem?_eq_getElem hk]; rfl
      have hzm : order[k] ∈ v.filter (fun x => decide (x ∈ order.take (k + 1) ∨ x ∈ kept)) := by rw [flv, htk2]; exact List.mem_append_left _ (List.mem_append_right _ (List.mem_singleton.2 rfl))
      have hzv := (List.mem_filter.1 hzm).1
      obtain ⟨q, q1, q2, q3, q4⟩ := ixI_some (ixI_mem.2 hzv)
      have htq : t = q + 1 := by omega
      subst htq
      have hvq : v[q] = order[k] := by rw [List.getElem?_eq_getElem q2] at q3; exact Option.some.inj q3
      have hsp : v = v.take q ++ order[k] :: v.drop (q + 1) := by
        rw [← hvq, ← List.drop_eq_getElem_cons q2, List.take_append_drop]
      have htq : v.take (q + 1) = v.take q ++ [order[k]] := by rw [List.take_add_one, List.getElem?_eq_getElem q2, hvq]; rfl
      have hpz : decide (order[k] ∈ order.take (k + 1) ∨ order[k] ∈ kept) = true := decide_eq_true (.inl (by rw [htk2]; exact List.mem_append_right _ (List.mem_singleton.2 rfl)))
      have e2 : (v.take q).filter (fun x => decide (x ∈ order.take (k + 1) ∨ x ∈ kept)) ++ order[k] :: (v.drop (q + 1)).filter (fun x => decide (x ∈ order.take (k + 1) ∨ x ∈ kept)) = order.take k ++ order[k] :: (order.drop (k + 1 + 1)).filter (fun x => decide (x ∈ kept)) := by
        have e3 := flv
        rw [hsp, List.filter_append, List.filter_cons, if_pos hpz] at e3
        rw [e3, htk2, List.append_assoc, List.singleton_append]
      have hndf : ((v.take q).filter (fun x => decide (x ∈ order.take (k + 1) ∨ x ∈ kept)) ++ order[k] :: (v.drop (q + 1)).filter (fun x => decide (x ∈ order.take (k + 1) ∨ x ∈ kept))).Nodup := by
        have := ndv.sublist (List.filter_sublist (p := fun x => decide (x ∈ order.take (k + 1) ∨ x ∈ kept)))
        rw [hsp, List.filter_append, List.filter_cons, if_pos hpz] at this
        exact this
      have e4 := nodup_cut e2 hndf
      rw [htq, List.filter_append, e4, flt_t hpz, htk2]
    · have : t = 0 := by rw [if_neg h0] at ht; omega
      subst this
      have : j = 0 := by omega
      subst this
      simp
  have hB : (v.drop t).filter (fun x => decide (x ∈ order.take j ∨ x ∈ kept)) = (order.drop (j + 1)).filter (fun x => decide (x ∈ kept)) := by
    have e1 := flv
    rw [← List.take_append_drop t v, List.filter_append, hA] at e1
    exact List.append_cancel_left e1
  refine ⟨ins1_nodup _ ndv hxv, fun x hm => ?_, ?_⟩
  · unfold ins1 at hm
    simp only [List.mem_append, List.mem_cons] at hm
    rcases hm with h' | rfl | h'
    · exact subv x (List.mem_of_mem_take h')
    · exact List.getElem_mem hj
    · exact subv x (List.mem_of_mem_drop h')
  · unfold ins1
    rw [List.filter_append, List.filter_cons]
    have e1 : (v.take t).filter (fun x => decide (x ∈ order.take (j + 1) ∨ x ∈ kept)) = order.take j := by
      rw [← hA]
      exact List.filter_congr fun y hy => hnew y (List.mem_of_mem_take hy)
    have e2 : (v.drop t).filter (fun x => decide (x ∈ order.take (j + 1) ∨ x ∈ kept)) = (order.drop (j + 1)).filter (fun x => decide (x ∈ kept)) := by
      rw [← hB]
      exact List.filter_congr fun y hy => hnew y (List.mem_of_mem_drop hy)
    rw [e1, e2, if_pos (decide_eq_true (.inl (by rw [htk]; exact List.mem_append_right _ (List.mem_singleton.2 rfl)))), htk, List.append_assoc, List.singleton_append]
theorem plInv_keep {kept order : List Int} {j : Nat} (hj : j < order.length) {w : List Int} (h : PlInv kept order j w) (hx : order[j] ∈ kept) : PlInv kept order (j + 1) w := by
  obtain ⟨nd, sub, fl⟩ := h
  have htk : order.take (j + 1) = order.take j ++ [order[j]] := by rw [List.take_add_one, List.getElem?_eq_getElem hj]; rfl
  have hdr := List.drop_eq_getElem_cons hj
  refine ⟨nd, sub, ?_⟩
  have e : w.filter (fun x => decide (x ∈ order.take (j + 1) ∨ x ∈ kept)) = w.filter (fun x => decide (x ∈ order.take j ∨ x ∈ kept)) := by
    refine List.filter_congr fun y _ => ?_
    by_cases hy : y = order[j]
    · subst hy
      rw [decide_eq_true (show order[j] ∈ order.take (j + 1) ∨ order[j] ∈ kept from .inr hx), decide_eq_true (show order[j] ∈ order.take j ∨ order[j] ∈ kept from .inr hx)]
    · simp only [htk, List.mem_append, List.mem_singleton, hy, or_false]
  rw [e, fl, htk, hdr, List.filter_cons, if_pos (by simpa using hx), List.append_assoc, List.singleton_append]
theorem placeN_form {kept order : List Int} (hno : order.Nodup) {s : List Int × List Mv} {old : List Int} (hs : apR s.2 old = (s.1, 0)) (h0 : PlInv kept order 0 s.1) (hl : order.length < 200) :
    ∀ j, j ≤ order.length → PlInv kept order j (placeN kept order s j).1 ∧ apR (placeN kept order s j).2 old = ((placeN kept order s j).1, 0) ∧ (placeN kept order s j).2.length = s.2.length + ((order.take j).filter (fun x => decide (x ∉ kept))).length
  | 0, _ => ⟨h0, hs, rfl⟩
  | j + 1, hj => by
    obtain ⟨h1, h2, h3⟩ := placeN_form hno hs h0 hl j (by omega)
    have hg : order.getD j 0 = order[j] := by rw [List.getD_eq_getElem?_getD, List.getElem?_eq_getElem (by omega)]; rfl
    have htk : order.take (j + 1) = order.take j ++ [order[j]] := by rw [List.take_add_one, List.getElem?_eq_getElem (by omega)]; rfl
    simp only [placeN, place1, hg, htk, List.filter_append]
    by_cases hc : order[j] ∈ kept
    · rw [if_pos hc]
      exact ⟨plInv_keep (by omega) h1 hc, h2, by rw [h3, flt_f (by simpa using hc), List.append_nil]⟩
    · rw [if_neg hc]
      obtain ⟨g1, g2, g3⟩ := plInv_step hno (by omega) h1 hc
      have hlen : (cutO (placeN kept order s j).1 order[j]).length < 200 := by
        have e : (cutO (placeN kept order s j).1 order[j]).length ≤ (placeN kept order s j).1.length := by rw [cutO_erase]; exact List.length_erase_le
        have hsub : (placeN kept order s j).1.length ≤ order.length := by
          have := nodup_sub_len h1.nd (fun x hx => h1.sub x hx)
          exact this
        omega
      refine ⟨g3, apR_snoc h2 (step1_place g1 g2 hlen), ?_⟩
      rw [flt_t (by simpa using hc), List.length_append, List.length_append, h3]
      simp only [List.length_singleton]
      omega
theorem kept_filter {kept order : List Int} (hno : order.Nodup) (hsub : kept.Sublist order) : order.filter (fun x => decide (x ∈ kept)) = kept := by
  induction hsub with
  | slnil => rfl
  | @cons l m a h ih =>
    rw [List.nodup_cons] at hno
    have ha : a ∉ l := fun hm => hno.1 (h.subset hm)
    rw [List.filter_cons, if_neg (by simpa using ha)]
    exact ih hno.2
  | @cons_cons l m a h ih =>
    rw [List.nodup_cons] at hno
    rw [List.filter_cons, if_pos (by simp)]
    have e : m.filter (fun x => decide (x ∈ a :: l)) = m.filter (fun x => decide (x ∈ l)) := by
      refine List.filter_congr fun y hy => ?_
      have : y ≠ a := fun e => hno.1 (e ▸ hy)
      simp [this]
    rw [e, ih hno.2]
theorem filter_len {α} (p : α → Bool) (l : List α) : (l.filter p).length + (l.filter fun x => !p x).length = l.length := by
  induction l with
  | nil => rfl
  | cons a l ih =>
    simp only [List.filter_cons, List.length_cons]
    cases p a <;> simp <;> omega
theorem leads_plain {old order kp : List Int} (hn : old.Nodup) (hno : order.Nodup) (hl : order.length < 200) (k1 : kp.Sublist old) (k2 : kp.Sublist order) :
    apR (movesO kp old order) old = (order, 0) ∧ (movesO kp old order).length = (old.filter (fun x => decide (x ∉ order))).length + (order.length - kp.length) := by
  obtain ⟨d1, d2, d3⟩ := dropN_form (order := order) hn old.length (Nat.le_refl _)
  rw [List.take_length, List.drop_length, List.append_nil] at d1
  rw [List.take_length] at d2
  have h0 : PlInv kp order 0 (dropN old order old.length).1 := by
    rw [d1]
    refine ⟨hn.sublist List.filter_sublist, fun x hx => by simpa using (List.mem_filter.1 hx).2, ?_⟩
    rw [List.filter_filter]
    simp only [List.take_zero, List.not_mem_nil, false_or, List.drop_zero, List.nil_append]
    rw [kept_filter hno k2]
    have e : old.filter (fun a => decide (a ∈ kp) && decide (a ∈ order)) = old.filter (fun a => decide (a ∈ kp)) := by
      refine List.filter_congr fun y _ => ?_
      by_cases hy : y ∈ kp
      · simp [hy, k2.subset hy]
      · simp [hy]
    rw [e, kept_filter hn k1]
  obtain ⟨p1, p2, p3⟩ := placeN_form hno d3 h0 hl order.length (Nat.le_refl _)
  have hfull := p1.fl
  rw [List.take_length, List.drop_length] at hfull
  have hw : (placeN kp order (dropN old order old.length) order.length).1 = order := by
    have e : (placeN kp order (dropN old order old.length) order.length).1.filter (fun x => decide (x ∈ order ∨ x ∈ kp)) = (placeN kp order (dropN old order old.length) order.length).1 := by
      refine List.filter_eq_self.2 fun y hy => ?_
      simp [p1.sub y hy]
    rw [e] at hfull
    simpa using hfull
  refine ⟨?_, ?_⟩
  · unfold movesO
    rw [p2, hw]
  · unfold movesO
    rw [p3, d2, List.take_length]
    have e1 := filter_len (fun x => decide (x ∈ kp)) order
    rw [kept_filter hno k2] at e1
    have e2 : (order.filter fun x => !decide (x ∈ kp)) = order.filter (fun x => decide (x ∉ kp)) := List.filter_congr fun y _ => by simp
    rw [e2] at e1
    omega
theorem leads_count {old order kp : List Int} (hn : old.Nodup) (hno : order.Nodup) (k1 : kp.Sublist old) (k2 : kp.Sublist order) :
    (old.filter (fun x => decide (x ∉ order))).length + (order.length - kp.length) = ((old.filter (fun x => decide (x ∈ order))).length - kp.length) + (old.filter (fun x => decide (x ∉ order))).length + (order.filter (fun x => decide (x ∉ old))).length ∧ kp.length ≤ (old.filter (fun x => decide (x ∈ order))).length := by
  have e1 := filter_len (fun x => decide (x ∈ old)) order
  have e2 : (order.filter fun x => !decide (x ∈ old)) = order.filter (fun x => decide (x ∉ old)) := List.filter_congr fun y _ => by simp
  rw [e2] at e1
  have e3 : (order.filter (fun x => decide (x ∈ old))).Perm (old.filter (fun x => decide (x ∈ order))) := by
    refine (List.perm_ext_iff_of_nodup (hno.sublist List.filter_sublist) (hn.sublist List.filter_sublist)).2 fun x => ?_
    simp only [List.mem_filter, decide_eq_true_eq]
    exact ⟨fun h => ⟨h.2, h.1⟩, fun h => ⟨h.2, h.1⟩⟩
  have e4 := e3.length_eq
  have e5 : kp.length ≤ (old.filter (fun x => decide (x ∈ order))).length := by
    have h1 : kp.Nodup := hn.sublist k1
    refine nodup_sub_len h1 fun x hx => List.mem_filter.2 ⟨k1.subset hx, by simpa using k2.subset hx⟩
  have e6 : kp.length ≤ order.length := k2.length_le
  omega
end Go.Gx.A

/-
  AmendLeads.
-/
namespace Go.Gx.A
open Go.Gx Go.Proofs
set_option maxRecDepth 100000
set_option linter.all false
set_option maxHeartbeats 2000000
theorem mvs_flen : ∀ (l : List Mv), (mvsC l).flatten.length = l.length * 3
  | [] => rfl
  | a :: l => by
    have := mvs_flen l
    simp only [mvsC, List.map_cons, List.flatten_cons, List.length_append, List.length_cons] at this ⊢
    rw [this]
    simp [mvC]
    omega
theorem Ms.mvs {S : AS} {v : Value} {l : List Mv} (h : Ms S v l) (hl : l.length ≤ 100000) : Mvs S v l := by
  refine ⟨?_, by omega⟩
  rcases h with ⟨rfl, hn⟩ | ⟨p, ex, rfl, h2, h3⟩
  · have : l = [] := List.map_eq_nil_iff.1 hn
    subst this
    exact ⟨⟨none, 0, rfl⟩, rfl, mvs_uni [], by simp [ownsOf]⟩
  · refine ⟨⟨_, _, rfl⟩, ?_, mvs_uni l, by simpa [ownsOf] using h3⟩
    have hf := mvs_flen l
    unfold srcCells
    simp only [h2, mvs_len]
    by_cases h0 : l.length * 3 = 0
    · rw [if_pos h0]
      have : l = [] := List.length_eq_zero_iff.1 (by omega)
      subst this
      rfl
    · rw [if_neg h0, if_pos (by omega), List.drop_zero, ← hf, List.take_length]
theorem holds_ok {S : AS} {v : Value} {l : List Int} {n : Int} (h : Is S v l) {Q : En → AS → Prop} (hq : Q (.ret (.bool (decide (n ∈ l)))) S) : Call G 58 [v, .int .i64 n] S Q := by
  obtain ⟨a, cap, rfl⟩ := h.shape
  refine call_run' (G := G) rfl (ext_none (by decide)) ?_
  simp
  have hsm := h.small
  refine run_loop (fun j a' S' => ∃ i, j = l.length - i ∧ i ≤ l.length ∧ S' = S ∧ Has a' 17 [(1, .int .i64 n), (7, .slice a l.length cap), (8, .int .i64 l.length), (9, .int .i64 i)] ∧ (n ∈ l ↔ n ∈ l.drop i)) _ ⟨0, rfl, by omega, rfl, ⟨rfl, rfl, by simp⟩, by simp⟩ ?_
  rintro _ R hR _ _ ⟨i, rfl, hi, rfl, ha, hne⟩
  obtain ⟨x, rfl⟩ := ha.lit
  by_cases hlt : i < l.length
  · obtain ⟨p, o, cells, e, wr, ex, h1, h2, h3, h4, h5⟩ := h.at hlt
    rw [List.drop_eq_getElem_cons hlt, List.mem_cons] at hne
    by_cases h0 : l[i] = n
    · have : n ∈ l := hne.2 (.inl h0.symm)
      simp [fillF, pickL, hlt, h1, h2, h5, h0]
      simp [this] at hq
      exact hq
    · simp [fillF, pickL, hlt, h1, h2, h5, h0]
      refine hR _ _ _ (by omega) ⟨i + 1, rfl, by omega, rfl, ⟨rfl, rfl, by simp [wrapS (show i < 9223372036854775807 by omega)]⟩, ?_⟩
      rw [hne]
      simp [Ne.symm h0]
  · have : i = l.length := by omega
    subst this
    simp at hne
    simp [hne] at hq
    simp [fillF, pickL]
    exact hq
def nin (m l : List Int) (j : Nat) : Nat := ((l.take j).filter fun x => decide (x ∉ m)).length
theorem nin_step {m l : List Int} {j : Nat} (h : j < l.length) : nin m l (j + 1) = nin m l j + if l[j] ∈ m then 0 else 1 := by
  have htk : l.take (j + 1) = l.take j ++ [l[j]] := by rw [List.take_add_one, List.getElem?_eq_getElem h]; rfl
  unfold nin
  rw [htk, List.filter_append, List.length_append]
  by_cases hp : l[j] ∈ m
  · rw [flt_f (by simpa using hp), if_pos hp]; rfl
  · rw [flt_t (by simpa using hp), if_neg hp]; rfl
theorem nin_le (m l : List Int) (j : Nat) : nin m l j ≤ j := by
  unfold nin
  have := List.length_filter_le (fun x => decide (x ∉ m)) (l.take j)
  rw [List.length_take] at this
  omega
theorem nin_zero (m l : List Int) : nin m l 0 = 0 := rfl
theorem leads_walk {S : AS} {v w : Value} {old order : List Int} (h : Is S v old) (k : Is S w order) : Call G 17 [v, w] S fun e _ => e = .ret (.bool true) := by
  obtain ⟨a, cap, hva⟩ := h.shape
  obtain ⟨b, bcap, hvb⟩ := k.shape
  refine call_run' (G := G) rfl (ext_none (by decide)) ?_
  by_cases c1 : (60 : Int) < old.length
  · simp [hva, c1, undef]
    refine alive_ok ?_
    simp
  by_cases c2 : (60 : Int) < order.length
  · simp [hva, hvb, c1, c2, undef]
    refine alive_ok ?_
    simp
  simp [hva, hvb, c1, c2, undef]
  rw [← hva, ← hvb]
  refine Moves_ok' h k fun S1 mv hs1 hm => ?_
  have hmr := placeN_len' old order
  have hmv := hm.mvs (by omega)
  obtain ⟨ma, mcap, hms⟩ := hmv.shape
  by_cases he : errL [old, order] = 0
  · obtain ⟨b1, b2, b3, b4⟩ := errL_nodup he
    have hmR : movesR old order = movesO (kept old order) old order := if_pos he
    obtain ⟨p1, p2⟩ := leads_plain b3 b4 (by omega) (kept_old old order) (kept_order old order)
    obtain ⟨p3, p4⟩ := leads_count b3 b4 (kept_old old order) (kept_order old order)
    rw [← hmR] at p1 p2
    have hap : applyR old (movesR old order) = (order, 0) := by
      unfold applyR
      rw [if_neg (by omega), if_neg (by rw [(twice_spec old).2 b3]; simp)]
      exact p1
    have hmN : movedR old order = movedN old order := if_pos he
    simp [he]
    refine Apply_ok (h.stay0 hs1) hmv fun S2 a2 cap2 n2 hs2 hn2 ho2 _ => ?_
    rw [hap] at hn2 ho2 ⊢
    have s2 := hs1.tr0 hs2
    simp
    refine Moved_ok (h.stay0 s2) (k.stay0 s2) fun S3 hs3 => ?_
    have s3 := s2.tr0 hs3
    rw [hmN, he]
    have hmdef : movedN old order = ((old.filter (fun x => decide (x ∈ order))).length : Int) - (kept old order).length := by rw [kept_len]; rfl
    have hfl := List.length_filter_le (fun x => decide (x ∈ order)) old
    simp [hva]
    rw [← hva]
    refine run_loop (fun m a' S' => ∃ j, m = old.length - j ∧ j ≤ old.length ∧ S' = S3 ∧
      Has a' 109 [(0, v), (1, w), (5, mv), (9, .slice a2 n2 cap2), (10, .int .i64 0), (11, .int .i64 (movedN old order + nin order old j)), (12, .int .i64 0), (63, v), (64, .int .i64 old.length), (65, .int .i64 j)]) _ ⟨0, rfl, by omega, rfl, ⟨rfl, rfl, by simp [nin_zero, hva]⟩⟩ ?_
    rintro _ R hR _ S3 ⟨j, rfl, hj, rfl, hA⟩
    obtain ⟨x, rfl⟩ := hA.lit
    by_cases hlt : j < old.length
    · have hwS := wrapS (show j < 9223372036854775807 by omega)
      obtain ⟨p, o, cells, e, wr, ex, h1, h2, h3, h4, h5⟩ := (h.stay0 s3).at hlt
      have hst := nin_step (m := order) hlt
      have hcl := nin_le order old j
      simp [fillF, pickL, hlt, h1, h2, h5]
      refine holds_ok (k.stay0 s3) ?_
      by_cases hc : old[j] ∈ order
      · rw [if_pos hc, Nat.add_zero] at hst
        simp [hc, hwS]
        exact hR _ _ _ (by omega) ⟨j + 1, rfl, by omega, rfl, ⟨rfl, rfl, by simp [hst]⟩⟩
      · rw [if_neg hc] at hst
        have hw2 : IntKind.i64.wrap (movedN old order + nin order old j + 1) = movedN old order + ((nin order old (j + 1) : Nat) : Int) := by rw [wrap64 (by omega) (by omega), hst]; omega
        simp [hc, hwS]
        refine hR _ _ _ (by omega) ⟨j + 1, rfl, by omega, rfl, ⟨rfl, rfl, ?_⟩⟩
        rw [← hw2]
        simp
    · obtain rfl : j = old.length := by omega
      simp [fillF, pickL, hvb]
      rw [← hvb]
      have hcl := nin_le order old old.length
      refine run_loop (fun m a' S' => ∃ j, m = order.length - j ∧ j ≤ order.length ∧ S' = S3 ∧
        Has a' 109 [(0, v), (1, w), (5, mv), (9, .slice a2 n2 cap2), (10, .int .i64 0), (11, .int .i64 (movedN old order + nin order old old.length + nin old order j)), (12, .int .i64 0), (76, w), (77, .int .i64 order.length), (78, .int .i64 j)]) _ ⟨0, rfl, by omega, rfl, ⟨rfl, rfl, by simp [nin_zero, hvb]⟩⟩ ?_
      rintro _ R2 hR2 _ S3 ⟨j, rfl, hj, rfl, hA⟩
      obtain ⟨y, rfl⟩ := hA.lit
      by_cases hlt : j < order.length
      · have hwS := wrapS (show j < 9223372036854775807 by omega)
        obtain ⟨p, o, cells, e, wr, ex, h1, h2, h3, h4, h5⟩ := (k.stay0 s3).at hlt
        have hst := nin_step (m := old) hlt
        have hcl2 := nin_le old order j
        simp [fillF, pickL, hlt, h1, h2, h5]
        refine holds_ok (h.stay0 s3) ?_
        by_cases hc : order[j] ∈ old
        · rw [if_pos hc, Nat.add_zero] at hst
          simp [hc, hwS]
          exact hR2 _ _ _ (by omega) ⟨j + 1, rfl, by omega, rfl, ⟨rfl, rfl, by simp [hst]⟩⟩
        · rw [if_neg hc] at hst
          have hw2 : IntKind.i64.wrap (movedN old order + nin order old old.length + nin old order j + 1) = movedN old order + nin order old old.length + ((nin old order (j + 1) : Nat) : Int) := by rw [wrap64 (by omega) (by omega), hst]; omega
          simp [hc, hwS]
          refine hR2 _ _ _ (by omega) ⟨j + 1, rfl, by omega, rfl, ⟨rfl, rfl, ?_⟩⟩
          rw [← hw2]
          simp
      · obtain rfl : j = order.length := by omega
        have e1 : nin order old old.length = (old.filter (fun x => decide (x ∉ order))).length := by unfold nin; rw [List.take_length]
        have e2 : nin old order order.length = (order.filter (fun x => decide (x ∉ old))).length := by unfold nin; rw [List.take_length]
        have etot : movedN old order + nin order old old.length + nin old order order.length = ((movesR old order).length : Int) := by
          rw [e1, e2, p2, hmdef]
          omega
        simp [fillF, pickL]
        refine alive_ok ?_
        rw [etot]
        simp [hms, undef]
        refine sameInts_ok (ho2.is.stay0 hs3) (k.stay0 s3) ?_
        simp
  · have hmR : movesR old order = [] := if_neg he
    simp [he]
    refine Kept_ok (h.stay0 hs1) (k.stay0 hs1) fun S2 a2 n2 hs2 _ _ => ?_
    simp
    refine alive_ok ?_
    rw [hmR] at hms
    simp [hms, undef]
end Go.Gx.A
