/-
  Orders that are told, and best orders (plain).
-/
import Derived.Test.YtamljcdnphjgaaaPq
import Derived.Test.YtamljcdnphjgaaaPt
import Derived.Test.YtamljcdnphjgaaaPn
import Derived.Test.YtamljcdnphjgaaaPu
import Derived.Test.YtamljcdnphjgaaaPb

set_option linter.all false
set_option linter.deprecated false
set_option linter.unusedSimpArgs false
set_option linter.unusedVariables false

namespace Go.Gx.A
open Go.Gx Go.Proofs
set_option maxRecDepth 100000
set_option linter.all false
theorem valid_order {c : Cg} (cok : CgOk c) {o : List Int} (ho : ordOk c.n o = true) (ht : o.take c.passed = c.front) : ∃ q ∈ c.goal.all, o = c.order q := by
  obtain ⟨h1, h2, h3⟩ := ordOk_iff.1 ho
  have hsp : o = c.front ++ o.drop c.passed := by rw [← ht, List.take_append_drop]
  have hlf := len_free cok
  have hdl : (o.drop c.passed).length = c.free.length := by
    have := congrArg List.length hsp
    rw [List.length_append] at this
    omega
  have hnd : (o.drop c.passed).Nodup := h2.sublist (List.drop_sublist _ _)
  have hfree : ∀ x ∈ o.drop c.passed, x ∈ c.free := fun x hx => by
    have hxo : x ∈ o := List.mem_of_mem_drop hx
    have hb := h3 x hxo
    have hnf : x ∉ c.front := fun hf => by
      rw [hsp, List.nodup_append] at h2
      exact h2.2.2 x hf x hx rfl
    unfold Cg.free
    rw [List.mem_filter]
    exact ⟨List.mem_map.2 ⟨x.toNat, by rw [List.mem_range]; omega, by omega⟩, by simpa using hnf⟩
  have hat : ∀ x ∈ o.drop c.passed, c.free.idxOf x < c.free.length ∧ c.tk.at' (c.free.idxOf x) = x := fun x hx => by
    have hl := List.idxOf_lt_length_of_mem (hfree x hx)
    refine ⟨hl, ?_⟩
    show c.free.getD _ 0 = x
    rw [List.getD_eq_getElem?_getD, List.getElem?_eq_getElem hl, List.getElem_idxOf]
    rfl
  refine ⟨(o.drop c.passed).map fun x => c.free.idxOf x, mem_all.2 ⟨⟨?_, fun i hi => ?_⟩, by rw [List.length_map]; exact hdl⟩, ?_⟩
  · refine List.pairwise_map.2 (hnd.imp_of_mem fun {a b} ha hb hab e => hab ?_)
    have := congrArg c.tk.at' e
    rw [(hat a ha).2, (hat b hb).2] at this
    exact this
  · obtain ⟨x, hx, rfl⟩ := List.mem_map.1 hi
    exact (hat x hx).1
  · unfold Cg.order
    rw [List.map_map]
    conv => lhs; rw [hsp]
    congr 1
    refine (List.map_id _).symm.trans (List.map_congr_left fun x hx => ?_)
    exact (hat x hx).2.symm
theorem valid_le {c : Cg} (cok : CgOk c) {o : List Int} (ho : ordOk c.n o = true) (ht : o.take c.passed = c.front) : cle c.goal.total (c.rcost o) := by
  obtain ⟨q, hq, rfl⟩ := valid_order cok ho ht
  rw [order_cost cok hq]
  exact total_le hq
end Go.Gx.A

/-
  Waived arrows (plain).
-/
namespace Go.Gx.A
open Go.Gx Go.Proofs
set_option maxRecDepth 100000
set_option linter.all false
theorem arrsOk_of {N : Int} : ∀ {l : List Arw} {y : Arw}, (∀ x ∈ l, arrOk N x = true ∧ ltA y x = true) → (l.Pairwise fun x z => ltA x z = true) → arrsOk N (some y) l = true
  | [], _, _, _ => rfl
  | x :: r, y, h1, h2 => by
    rw [List.pairwise_cons] at h2
    simp only [arrsOk, Bool.and_eq_true]
    exact ⟨h1 x (by simp), arrsOk_of (fun z hz => ⟨(h1 z (by simp [hz])).1, h2.1 z hz⟩) h2.2⟩
theorem arrsOk_of0 {N : Int} {l : List Arw} (h1 : ∀ x ∈ l, arrOk N x = true) (h2 : l.Pairwise fun x z => ltA x z = true) : arrsOk N none l = true := by
  cases l with
  | nil => rfl
  | cons x r =>
    rw [List.pairwise_cons] at h2
    simp only [arrsOk, Bool.and_eq_true]
    exact ⟨h1 x (by simp), arrsOk_of (fun z hz => ⟨h1 z (by simp [hz]), h2.1 z hz⟩) h2.2⟩
def unw (P : List (Int × Int)) (l : List Arw) : List Arw := l.filter fun a => decide ((a.f, a.t) ∉ P)
theorem unw_ok {N : Int} {P : List (Int × Int)} {l : List Arw} (h : arrsOk N none l = true) : arrsOk N none (unw P l) = true := by
  obtain ⟨h1, h2⟩ := arrsOk_none h
  exact arrsOk_of0 (fun x hx => h1 x ((List.mem_filter.1 hx).1)) (h2.sublist List.filter_sublist)
theorem checkR_unw {N : Int} {P : List (Int × Int)} {l : List Arw} (h : checkR N l = 0) : checkR N (unw P l) = 0 := by
  obtain ⟨h1, h2, h3⟩ := checkR_pos h
  unfold checkR
  rw [if_neg (by omega), if_neg (by omega), if_pos (unw_ok h3)]
theorem wt_unw {N : Int} {P : List (Int × Int)} {l : List Arw} (h : ∀ a ∈ l, arrOk N a = true) (x y : Int) : wt (unw P l) x y ≤ wt l x y := by
  by_cases hp : (x, y) ∈ P
  · have hb := wt_bd h x y
    have e : wt (unw P l) x y = 0 := by
      unfold wt unw
      have : (l.filter fun a => decide ((a.f, a.t) ∉ P)).find? (fun a => decide (a.f = x ∧ a.t = y)) = none := by
        rw [List.find?_eq_none]
        intro a ha
        rw [List.mem_filter] at ha
        simp only [decide_eq_true_eq]
        rintro ⟨rfl, rfl⟩
        exact (of_decide_eq_true ha.2) hp
      rw [this]
    omega
  · have e : wt (unw P l) x y = wt l x y := by
      unfold wt unw
      rw [List.find?_filter]
      congr 2
      funext a
      by_cases hc : a.f = x ∧ a.t = y
      · obtain ⟨rfl, rfl⟩ := hc
        simp [hp]
      · simp [hc]
    omega
theorem isum_mono {p q : Int → Int} (h : ∀ x, p x ≤ q x) : ∀ (l : List Int), isum (l.map p) ≤ isum (l.map q)
  | [] => Int.le_refl _
  | x :: l => by
    simp only [List.map_cons, isum]
    have := h x
    have := isum_mono h l
    omega
theorem offR_mono {w w' : Int → Int → Int} (h : ∀ x y, w' x y ≤ w x y) : ∀ (l ah : List Int), offR w' ah l ≤ offR w ah l
  | [], _ => Int.le_refl _
  | x :: l, ah => by
    simp only [offR]
    have := isum_mono (h x) ah
    have := offR_mono h l (ah ++ [x])
    omega
def Chg.waived (c : Chg) (P : List (Int × Int)) : Chg := { c with arrows := unw P c.arrows }
theorem waived_check {c : Chg} {P : List (Int × Int)} (h : c.check = 0) : (c.waived P).check = 0 := by
  have h1 : checkR c.n c.arrows = 0 := by
    unfold Chg.check at h
    by_cases h1 : checkR c.n c.arrows = 0
    · exact h1
    · rw [if_pos h1] at h; exact absurd h h1
  unfold Chg.check at h ⊢
  rw [if_neg (by simp [h1])] at h
  have h2 : checkR (c.waived P).n (c.waived P).arrows = 0 := checkR_unw (P := P) h1
  rw [if_neg (by simp [h2])]
  exact h
theorem waived_less {c : Chg} {P : List (Int × Int)} (h : c.check = 0) : (c.waived P).cg.amd.off ≤ c.cg.amd.off := by
  have ok := check_ok h
  have okw := check_ok (waived_check (P := P) h)
  have cok := ok.cgOk
  have cokw := okw.cgOk
  obtain ⟨q, q1, q2, q3⟩ := mem_bests.1 (List.mem_of_getElem? (bests_head c.cg))
  have hq := mem_all.1 q1
  have hv : ordOk c.cg.n (c.cg.order q) = true := ordOk_iff.2 ⟨by rw [order_len, hq.2]; exact len_free cok, order_nodup cok hq.1, fun x hx => (order_mem cok hq.1 hq.2).1 hx⟩
  have ht : (c.cg.order q).take c.cg.passed = c.cg.front := by
    have hl : c.cg.front.length = c.cg.passed := by
      unfold Cg.front
      rw [List.length_take]
      have := cok.ps
      omega
    unfold Cg.order
    rw [← hl, List.take_left]
  have hle : cle (c.waived P).cg.goal.total ((c.waived P).cg.rcost (c.cg.order q)) := valid_le cokw hv ht
  have hm : offR (c.waived P).cg.w [] (c.cg.order q) ≤ offR c.cg.w [] (c.cg.order q) := offR_mono (fun x y => wt_unw (arrsOk_none ok.ar).1 x y) _ _
  have hc : c.cg.rcost (c.cg.order q) = c.cg.goal.total := by rw [order_cost cok q1, q2]
  have hc1 : offR c.cg.w [] (c.cg.order q) = c.cg.goal.total.1 := congrArg Prod.fst hc
  have hw1 : ((c.waived P).cg.rcost (c.cg.order q)).1 = offR (c.waived P).cg.w [] (c.cg.order q) := rfl
  show (c.waived P).cg.goal.total.1 ≤ c.cg.goal.total.1
  unfold cle at hle
  omega
end Go.Gx.A

/-
  Waivers.
-/
namespace Go.Gx.A
open Go.Gx Go.Proofs
set_option maxRecDepth 100000
set_option linter.all false
set_option maxHeartbeats 2000000
def Ao (S : AS) (v : Value) (l : List Arw) : Prop := SlAt S 181 v (l.map Arw.cells)
theorem arw_uni (l : List Arw) : Uni 4 (l.map Arw.cells) := fun x hx => by
  obtain ⟨a, _, rfl⟩ := List.mem_map.1 hx
  rfl
theorem arw_ok (l : List Arw) : (l.map Arw.cells).flatten.all okc = true := by
  induction l with
  | nil => rfl
  | cons a l ih => simp only [List.map_cons, List.flatten_cons, List.all_append, ih, Bool.and_true]; rfl
theorem Ao.nil {S : AS} : Ao S (.slice none 0 0) [] := .inl ⟨rfl, rfl⟩
theorem Ao.stays {S S' : AS} {v : Value} {l : List Arw} (h : Ao S v l) {fp : List Nat} (hs : Same S S' fp) (hd : ∀ m ∈ ownsOf v, m ∉ fp) : Ao S' v l := SlAt.stays h hs hd
theorem Ao.app1 {S T : AS} {v : Value} {l : List Arw} (h : Ao S v l) (hT : Same S T []) {p fr : Nat} {a : Arw} {wr ex : Bool} (hp : T.get p = some (.row a.cells 181 wr ex)) (hfr : fr < T.next) (hfS : S.next ≤ fr) (hb : l.length ≤ 100000) :
    ∃ T', appV T fr 181 4 32 v (.slice (some ⟨p, 0, none⟩) 1 1) = some (.slice (some ⟨fr, 0, none⟩) (l.length + 1) (l.length + 1), T') ∧ Ao T' (.slice (some ⟨fr, 0, none⟩) (l.length + 1) (l.length + 1)) (l ++ [a]) ∧ Same S T' (ownsOf v) ∧ T'.next = T.next := by
  have hsl : SlAt T 181 v (l.map Arw.cells) := SlAt.stays h hT (by simp)
  have hy : srcCells T 4 (.slice (some ⟨p, 0, none⟩) 1 1) = some (([a].map Arw.cells).length, ([a].map Arw.cells).flatten) := by
    unfold srcCells
    simp only [hp]
    simp [Arw.cells]
  obtain ⟨T0, a1, a2, a3⟩ := appV_new (fr := fr) (bytes := 32) hsl (arw_uni l) (by omega) (by simp) (arw_uni [a]) hy (by simp; omega) (by omega) (arw_ok [a])
  simp only [List.length_map, List.length_singleton] at a1
  refine ⟨_, a1, .inr ⟨fr, false, by simp, ?_, by simp only [AS.next_put, a2]; exact hfr⟩, ?_, by simp only [AS.next_put]; exact a2⟩
  · rw [AS.get_put_self]; simp
  · refine ⟨by simp only [AS.next_put, a2]; exact hT.1, fun q hq hn => ?_⟩
    rw [AS.get_put_ne _ _ (by omega), a3 q hn, hT.2 q hq (by simp)]
theorem arw_flen : ∀ (l : List Arw), (l.map Arw.cells).flatten.length = l.length * 4
  | [] => rfl
  | a :: l => by
    have := arw_flen l
    simp only [List.map_cons, List.flatten_cons, List.length_append, List.length_cons]
    rw [this]
    simp [Arw.cells]
    omega
theorem Ao.as {S : AS} {v : Value} {l : List Arw} (h : Ao S v l) (hl : l.length ≤ 100000) : As S v l := by
  refine ⟨?_, by omega⟩
  rcases h with ⟨rfl, hn⟩ | ⟨p, ex, rfl, h2, h3⟩
  · have : l = [] := List.map_eq_nil_iff.1 hn
    subst this
    exact ⟨⟨none, 0, rfl⟩, rfl, arw_uni [], by simp [ownsOf]⟩
  · refine ⟨⟨_, _, rfl⟩, ?_, arw_uni l, by simpa [ownsOf] using h3⟩
    have hf := arw_flen l
    unfold srcCells
    simp only [h2, List.length_map]
    by_cases h0 : l.length * 4 = 0
    · rw [if_pos h0]
      have : l = [] := List.length_eq_zero_iff.1 (by omega)
      subst this
      rfl
    · rw [if_neg h0, if_pos (by omega), List.drop_zero, ← hf, List.take_length]
def Prs (S : AS) (v : Value) (P : List (Int × Int)) : Prop := Ps S 2 v (P.map fun p => [.int .i64 p.1, .int .i64 p.2])
def plW (P : List (Int × Int)) (j : Nat) : Int × Int → Option Value := fun p => if p ∈ P.take j then some (.bool true) else none
theorem plW_succ {P : List (Int × Int)} {j : Nat} (hj : j < P.length) : upd1 (plW P j) P[j] (.bool true) = plW P (j + 1) := by
  funext p
  unfold upd1 plW
  have e : P.take (j + 1) = P.take j ++ [P[j]] := by rw [List.take_add_one, List.getElem?_eq_getElem hj]; rfl
  rw [e]
  by_cases h1 : p = P[j]
  · rw [if_pos h1, if_pos (List.mem_append_right _ (by rw [h1]; exact List.mem_singleton.2 rfl))]
  · have e2 : (p ∈ P.take j ++ [P[j]]) ↔ p ∈ P.take j := by rw [List.mem_append, List.mem_singleton]; exact ⟨fun h => h.resolve_right h1, Or.inl⟩
    rw [if_neg h1]
    simp only [e2]
theorem waive_ok {S : AS} {v w : Value} {N : Int} {l : List Arw} {P : List (Int × Int)} (h : As S v l) (k : Prs S w P) (hl : l.length ≤ 1000) (hP : P.length ≤ 9223372036854775807) {Q : En → AS → Prop}
    (hq : ∀ S' v', Same S S' [] → As S' v' (unw P l) → (∀ m ∈ ownsOf v', S.next ≤ m) → Q (.ret (.agg #[.int .i64 N, v'])) S') : Call G 108 [.agg #[.int .i64 N, v], w] S Q := by
  obtain ⟨wa, wcap, hws⟩ := k.shape
  rw [List.length_map] at hws
  obtain ⟨va, vcap, hvs⟩ := h.shape
  subst hws
  subst hvs
  refine call_run' (G := G) rfl (ext_none (by decide)) ?_
  simp [Nat.add_assoc]
  generalize hS1 : AS.put (AS.bump (AS.put (AS.put (AS.bump S _) _ _) _ _) _) _ _ = S1
  have s1 : Same S S1 [] := by rw [← hS1]; exact (((((Same.refl _ _).bu).pn (by omega)).pn (by omega)).bu).pn (by omega)
  have g0 : S1.get S.next = some (.row [.int .i64 N, .slice va l.length vcap] 24 true true) := by rw [← hS1]; simp
  have g1 : S1.get (S.next + 1) = some (.row [.int .i64 0, .slice none 0 0] 24 true true) := by rw [← hS1]; simp
  have gm : MapAt S1 (S.next + 2) [.int .i64, .int .i64] true (fun x : Int × Int => Value.agg #[.int .i64 x.1, .int .i64 x.2]) (plW P 0) := ⟨[], 0, by rw [← hS1]; simp, by
    have : plW P 0 = fun _ => none := by funext p; simp [plW]
    rw [this]; exact Fnd.nil⟩
  have hn1 : S1.next = S.next + 3 := by rw [← hS1]; simp
  clear hS1
  refine run_loop (fun m a' S' => ∃ j, m = P.length - j ∧ j ≤ P.length ∧ Same S S' [] ∧ S.next + 3 ≤ S'.next ∧ S'.get S.next = some (.row [.int .i64 N, .slice va l.length vcap] 24 true true) ∧ S'.get (S.next + 1) = some (.row [.int .i64 0, .slice none 0 0] 24 true true) ∧
    MapAt S' (S.next + 2) [.int .i64, .int .i64] true (fun x : Int × Int => Value.agg #[.int .i64 x.1, .int .i64 x.2]) (plW P j) ∧
    Has a' 47 [(2, ptr S.next), (4, ptr (S.next + 1)), (5, .map (some (S.next + 2))), (12, .slice wa P.length wcap), (13, .int .i64 P.length), (14, .int .i64 j)]) _ ⟨0, rfl, by omega, s1, by omega, g0, g1, gm, ⟨rfl, rfl, by simp⟩⟩ ?_
  rintro _ R hR _ S2 ⟨j, rfl, hj, s2, hn2, k0, k1, km, hA⟩
  obtain ⟨x, rfl⟩ := hA.lit
  by_cases hlt : j < P.length
  · have hwS := wrapS (show j < 9223372036854775807 by omega)
    obtain ⟨p, o, cells, e, wr, ex, h1, h2, h3, h4, h5, h6⟩ := (k.stays s2 (by simp)).idx (S' := S2.bump 1) (by omega) (j := .i64) (i := j) (l := [.int .i64 P[j].1, .int .i64 P[j].2]) (by simp [hlt])
    simp [fillF, pickL, hlt, h1, h2, h6, okc, rowStore, splice, -msetE_map]
    generalize hT : AS.put (AS.put (AS.bump S2 _) _ _) _ _ = T
    have hsT : Same S2 T [] := by rw [← hT]; exact (((Same.refl _ _).bu).pn (by omega)).pn (by omega)
    have hnT : T.next = S2.next + 1 := by rw [← hT]; simp
    have gp : T.get S2.next = some (.row [.int .i64 P[j].1, .int .i64 P[j].2] 81 true true) := by rw [← hT, AS.get_put_self]
    clear hT
    have kmT : MapAt T (S.next + 2) [.int .i64, .int .i64] true (fun x : Int × Int => Value.agg #[.int .i64 x.1, .int .i64 x.2]) (plW P j) := by
      obtain ⟨es, c, e1, e2⟩ := km
      exact ⟨es, c, by rw [hsT.2 _ (by omega) (by simp)]; exact e1, e2⟩
    obtain ⟨ob, q1, q2⟩ := kmT.mset keyInt2 P[j] (.bool true)
    simp [gp, -msetE_map, q1, hwS]
    refine hR _ _ _ (by omega) ⟨j + 1, rfl, by omega, (s2.tr0 hsT).pn (by omega), by simp; omega, by rw [AS.get_put_ne _ _ (by omega), hsT.2 _ (by omega) (by simp)]; exact k0, by rw [AS.get_put_ne _ _ (by omega), hsT.2 _ (by omega) (by simp)]; exact k1, by rw [← plW_succ hlt]; exact q2, ⟨rfl, rfl, by simp⟩⟩
  · have hje : j = P.length := by omega
    subst hje
    simp [fillF, pickL, k0, placeIn, splice, rowStore, okc]
    generalize hT : AS.put (AS.put (AS.bump S2 _) _ _) _ _ = T
    have hsT : Same S2 T [] := by rw [← hT]; exact (((Same.refl _ _).bu).pn (by omega)).pn (by omega)
    have hnT : T.next = S2.next + 1 := by rw [← hT]; simp
    have gr : T.get S2.next = some (.row [.int .i64 N, .slice none 0 0] 24 true true) := by rw [← hT, AS.get_put_self]
    clear hT
    have kmT : MapAt T (S.next + 2) [.int .i64, .int .i64] true (fun x : Int × Int => Value.agg #[.int .i64 x.1, .int .i64 x.2]) (plW P P.length) := by
      obtain ⟨es, c, e1, e2⟩ := km
      exact ⟨es, c, by rw [hsT.2 _ (by omega) (by simp)]; exact e1, e2⟩
    have k0T : T.get S.next = _ := (hsT.2 _ (by omega) (by simp)).trans k0
    have k1T : T.get (S.next + 1) = _ := (hsT.2 _ (by omega) (by simp)).trans k1
    have sT := s2.tr0 hsT
    simp [k0T]
    refine run_loop (fun m a' S' => ∃ j b n, m = l.length - j ∧ j ≤ l.length ∧ Same S S' [] ∧ S2.next + 1 ≤ S'.next ∧ S'.get S.next = some (.row [.int .i64 N, .slice va l.length vcap] 24 true true) ∧ S'.get (S.next + 1) = some (.row [.int .i64 0, .slice none 0 0] 24 true true) ∧
      MapAt S' (S.next + 2) [.int .i64, .int .i64] true (fun x : Int × Int => Value.agg #[.int .i64 x.1, .int .i64 x.2]) (plW P P.length) ∧ S'.get S2.next = some (.row [.int .i64 N, .slice b n n] 24 true true) ∧ Ao S' (.slice b n n) (unw P (l.take j)) ∧ (∀ m ∈ ownsOf (.slice b n n), S2.next < m) ∧
      Has a' 47 [(2, ptr S.next), (4, ptr (S.next + 1)), (5, .map (some (S.next + 2))), (8, ptr S2.next), (25, .slice va l.length vcap), (26, .int .i64 l.length), (27, .int .i64 j)]) _ ⟨0, none, 0, rfl, by omega, sT, by omega, k0T, k1T, kmT, gr, by simpa [unw] using Ao.nil, by simp [ownsOf], ⟨rfl, rfl, by simp⟩⟩ ?_
    rintro _ R2 hR2 _ S3 ⟨j, b, n, rfl, hj, s3, hn3, m0, m1, mm, mr, hAo, hbo, hA⟩
    obtain ⟨x, rfl⟩ := hA.lit
    by_cases hlt2 : j < l.length
    · have hwS := wrapS (show j < 9223372036854775807 by omega)
      obtain ⟨p, o, cells, e, wr, ex, h1, h2, h3, h4, h5, h6, h7, h8, h9⟩ := (h.stay0 s3).at hlt2
      simp [fillF, pickL, hlt2, h1, h2, h5, Arw.cells, okc, rowStore, splice, placeIn, -lookE_map]
      generalize hV : AS.put (AS.put (AS.bump S3 _) _ _) _ _ = V
      have hsV : Same S3 V [] := by rw [← hV]; exact (((Same.refl _ _).bu).pn (by omega)).pn (by omega)
      have hnV : V.next = S3.next + 1 := by rw [← hV]; simp
      have ga : V.get S3.next = some (.row [.int .i64 l[j].f, .int .i64 l[j].t, .int .i64 l[j].r, .int .i64 l[j].w] 181 true true) := by rw [← hV, AS.get_put_self]
      clear hV
      have mmV : MapAt V (S.next + 2) [.int .i64, .int .i64] true (fun x : Int × Int => Value.agg #[.int .i64 x.1, .int .i64 x.2]) (plW P P.length) := by
        obtain ⟨es, c, e1, e2⟩ := mm
        exact ⟨es, c, by rw [hsV.2 _ (by omega) (by simp)]; exact e1, e2⟩
      have lk := mmV.look keyInt2 (l[j].f, l[j].t) (.bool false) false
      simp only [] at lk
      have m0V : V.get S.next = _ := (hsV.2 _ (by omega) (by simp)).trans m0
      have m1V : V.get (S.next + 1) = _ := (hsV.2 _ (by omega) (by simp)).trans m1
      have mrV : V.get S2.next = _ := (hsV.2 _ (by omega) (by simp)).trans mr
      have hAoV := hAo.stays hsV (by simp)
      have htk : l.take (j + 1) = l.take j ++ [l[j]] := by rw [List.take_add_one, List.getElem?_eq_getElem hlt2]; rfl
      have sV := s3.tr0 hsV
      by_cases hp : (l[j].f, l[j].t) ∈ P
      · have e0 : plW P P.length (l[j].f, l[j].t) = some (.bool true) := by unfold plW; rw [List.take_length, if_pos hp]
        rw [e0] at lk
        simp [-lookE_map, lk, hwS]
        have eu : unw P (l.take (j + 1)) = unw P (l.take j) := by rw [htk]; unfold unw; rw [List.filter_append]; simp [hp]
        exact hR2 _ _ _ (by omega) ⟨j + 1, b, n, rfl, by omega, sV, by omega, m0V, m1V, mmV, mrV, by rw [eu]; exact hAoV, hbo, ⟨rfl, rfl, by simp⟩⟩
      · have e0 : plW P P.length (l[j].f, l[j].t) = none := by unfold plW; rw [List.take_length, if_neg hp]
        rw [e0] at lk
        have hln : (unw P (l.take j)).length ≤ 1000 := by
          have h1 := List.length_filter_le (fun a : Arw => decide ((a.f, a.t) ∉ P)) (l.take j)
          rw [List.length_take] at h1
          unfold unw
          omega
        have hsW : Same V ((V.bump 2).put V.next (.row l[j].cells 181 true true)) [] := ((Same.refl _ _).bu).pn (by omega)
        obtain ⟨T2, q1, q2, q3, q4⟩ := hAoV.app1 (T := (V.bump 2).put V.next (.row l[j].cells 181 true true)) hsW (p := V.next) (fr := V.next + 1) (a := l[j]) (wr := true) (ex := true) (by rw [AS.get_put_self]) (by simp) (by omega) (by omega)
        simp [Arw.cells] at q1 q4
        have hbl := hAoV.owns_lt
        have hq3 : ∀ m, m < V.next → m ≤ S2.next → T2.get m = V.get m := fun m h1 h2 => q3.2 m h1 (fun hk => by have := hbo m hk; omega)
        have eu : unw P (l.take (j + 1)) = unw P (l.take j) ++ [l[j]] := by rw [htk]; unfold unw; rw [List.filter_append]; simp [hp]
        simp [-lookE_map, lk, hwS, mrV, ga, placeIn, splice, q1, Nat.add_assoc, (hq3 S2.next (by omega) (by omega)), okc, rowStore]
        refine hR2 _ _ _ (by omega) ⟨j + 1, some ⟨V.next + 1, 0, none⟩, (unw P (l.take j)).length + 1, rfl, by omega, ⟨by have := sV.1; simp; omega, fun m hm _ => ?_⟩, by simp; omega, ?_, ?_, ?_, by rw [AS.get_put_self], ?_, fun m hm => by simp [ownsOf] at hm; omega, ⟨rfl, rfl, by simp⟩⟩
        · rw [AS.get_put_ne _ _ (by omega), hq3 m (by omega) (by omega), sV.2 m hm (by simp)]
        · rw [AS.get_put_ne _ _ (by omega), hq3 _ (by omega) (by omega)]; exact m0V
        · rw [AS.get_put_ne _ _ (by omega), hq3 _ (by omega) (by omega)]; exact m1V
        · obtain ⟨es, c, e1, e2⟩ := mmV
          exact ⟨es, c, by rw [AS.get_put_ne _ _ (by omega), hq3 _ (by omega) (by omega)]; exact e1, e2⟩
        · rw [eu]
          exact q2.stays (same_put _ _ _) (fun m hm => by simp [ownsOf] at hm; simp; omega)
    · have hje : j = l.length := by omega
      subst hje
      simp [fillF, pickL, mr, m1, okc, rowStore, splice]
      have hbl := hAo.owns_lt
      rw [List.take_length] at hAo
      have hs4 : Same S3 (S3.put (S.next + 1) (.row [.int .i64 N, .slice b n n] 24 true true)) [S.next + 1] := same_put _ _ _
      refine hq _ _ (s3.trans hs4 (fun m hm hl => by simp at hm; omega)) ((hAo.stays hs4 (fun m hm => by have := hbo m hm; simp; omega)).as ?_) (fun m hm => by have := hbo m hm; omega)
      have h1 := List.length_filter_le (fun a : Arw => decide ((a.f, a.t) ∉ P)) l
      unfold unw
      omega
end Go.Gx.A

/-
  Waive; AmendWaives.
-/
namespace Go.Gx.A
open Go.Gx Go.Proofs
set_option maxRecDepth 100000
set_option linter.all false
set_option maxHeartbeats 2000000
theorem arrs_small {N : Int} {l : List Arw} (h : checkR N l = 0) : l.length ≤ 1000 := by
  obtain ⟨h1, h2, h3⟩ := checkR_pos h
  have := arrs_len h2 h3
  omega
theorem Waive_ok {S : AS} {v w : Value} {N : Int} {l : List Arw} {P : List (Int × Int)} (h : As S v l) (k : Prs S w P) (hP : P.length ≤ 9223372036854775807) {Q : En → AS → Prop}
    (h0 : checkR N l ≠ 0 → ∀ S', Same S S' [] → Q (.ret (.tuple #[.agg #[.int .i64 0, .slice none 0 0], .int .i64 (checkR N l)])) S')
    (hq : checkR N l = 0 → ∀ S' v', Same S S' [] → As S' v' (unw P l) → (∀ m ∈ ownsOf v', S.next ≤ m) → Q (.ret (.tuple #[.agg #[.int .i64 N, v'], .int .i64 0])) S') : Call G 48 [.agg #[.int .i64 N, v], w] S Q := by
  obtain ⟨va, vcap, hvs⟩ := h.shape
  refine call_run' (G := G) rfl (ext_none (by decide)) ?_
  simp [hvs]
  rw [← hvs]
  generalize hS1 : AS.put (AS.put (AS.bump S _) _ _) _ _ = S1
  have s1 : Same S S1 [] := by rw [← hS1]; exact (((Same.refl _ _).bu).pn (by omega)).pn (by omega)
  have g0 : S1.get S.next = some (.row [.int .i64 N, v] 24 true true) := by rw [← hS1]; simp
  have g1 : S1.get (S.next + 1) = some (.row [.int .i64 0, .slice none 0 0] 24 true true) := by rw [← hS1]; simp
  have hn1 : S1.next = S.next + 2 := by rw [← hS1]; simp
  clear hS1
  refine rankCheck_ok (h.stay0 s1) fun S2 hs2 => ?_
  have s2 := s1.tr0 hs2
  have hn2 := hs2.1
  have k0 : S2.get S.next = _ := (hs2.2 _ (by omega) (by simp)).trans g0
  have k1 : S2.get (S.next + 1) = _ := (hs2.2 _ (by omega) (by simp)).trans g1
  by_cases hc : checkR N l = 0
  · simp [hc, k0]
    refine waive_ok (h.stay0 s2) (k.stays s2 (by simp)) (arrs_small hc) hP fun S3 v' hs3 hv ho => ?_
    have s3 := s2.tr0 hs3
    have hn3 := hs3.1
    have m1 : S3.get (S.next + 1) = _ := (hs3.2 _ (by omega) (by simp)).trans k1
    obtain ⟨va', vcap', hvs'⟩ := hv.shape
    subst hvs'
    simp [m1, okc, rowStore, splice]
    have hs4 : Same S3 (S3.put (S.next + 1) (.row [.int .i64 N, .slice va' (unw P l).length vcap'] 24 true true)) [S.next + 1] := same_put _ _ _
    exact hq hc _ _ (s3.trans hs4 (fun m hm hl => by simp at hm; omega)) (hv.stays hs4 (fun m hm => by have := ho m hm; simp; omega)) (fun m hm => by have := ho m hm; omega)
  · simp [hc, k1, okc, rowStore, splice, placeIn]
    have hs3 : Same S (S2.put (S.next + 1) (.row [.int .i64 0, .slice none 0 0] 24 true true)) [] := s2.pn (by omega)
    exact h0 hc _ hs3
theorem check_rel {c : Chg} (h : c.check = 0) : checkR c.n c.arrows = 0 := by
  unfold Chg.check at h
  by_cases h1 : checkR c.n c.arrows = 0
  · exact h1
  · rw [if_pos h1] at h; exact absurd h h1
theorem Waive_ok' {S : AS} {v w : Value} {N : Int} {l : List Arw} {P : List (Int × Int)} (h : As S v l) (k : Prs S w P) (hP : P.length ≤ 9223372036854775807) {Q : En → AS → Prop}
    (hq : ∀ S' N' v' l' e, Same S S' [] → As S' v' l' → (∀ m ∈ ownsOf v', S.next ≤ m) → (checkR N l = 0 → N' = N ∧ l' = unw P l ∧ e = 0) → Q (.ret (.tuple #[.agg #[.int .i64 N', v'], .int .i64 e])) S') : Call G 48 [.agg #[.int .i64 N, v], w] S Q :=
  Waive_ok h k hP (fun hc S' hs => hq S' 0 _ [] _ hs (Ao.nil.as (by simp)) (by simp [ownsOf]) fun h0 => absurd h0 hc) (fun hc S' v' hs hv ho => hq S' N v' _ 0 hs hv ho fun _ => ⟨rfl, rfl, rfl⟩)
theorem waives_walk {S : AS} {va vo w : Value} {c : Chg} {P : List (Int × Int)} (h : ChgAt S va vo c) (k : Prs S w P) (hP : P.length ≤ 9223372036854775807) : Call G 11 [c.val va vo, w] S fun e _ => e = .ret (.bool true) := by
  obtain ⟨wa, wcap, hws⟩ := k.shape
  rw [List.length_map] at hws
  refine call_run' (G := G) rfl (ext_none (by decide)) ?_
  have al : ∀ (S' : AS) (R : En → AS → Prop), R (.ret (.bool true)) S' → Call G 23 [] S' R := fun S' R h => alive_ok h
  by_cases c1 : (600 : Int) < P.length
  · simp [Chg.val, hws, c1, undef]
    refine al _ _ ?_
    simp
  simp [Chg.val, hws, c1]
  rw [← hws]
  generalize hS1 : AS.put (AS.bump S 1) _ _ = S1
  have s1 : Same S S1 [] := by rw [← hS1]; exact ((Same.refl _ _).bu).pn (by omega)
  have g0 : S1.get S.next = some (.row [.int .i64 c.n, va, vo, .int .i64 c.passed] 27 true true) := by rw [← hS1]; simp
  have hn1 : S1.next = S.next + 1 := by rw [← hS1]; simp
  clear hS1
  refine Few_ok (h.stay0 s1) fun S2 b hs2 => ?_
  have s2 := s1.tr0 hs2
  have hn2 := hs2.1
  have g2 : S2.get S.next = _ := (hs2.2 _ (by omega) (by simp)).trans g0
  cases b with
  | false =>
    simp [undef]
    refine al _ _ ?_
    simp
  | true =>
    simp [g2, undef]
    have s2b : Same S2 (S2.bump 1) [] := (Same.refl _ _).bu
    refine Waive_ok' ((h.stay0 s2).stay0 s2b).arrows ((k.stays s2 (by simp)).stays s2b (by simp)) hP fun S3 N' v' l' e hs3 hv ho hw0 => ?_
    have hn3 := hs3.1
    simp at hn3
    have s23 := s2b.tr0 hs3
    have s3 := s2.tr0 s23
    have g3 : S3.get S.next = _ := (s23.2 _ (by omega) (by simp)).trans g2
    obtain ⟨va', vcap', hvs'⟩ := hv.shape
    simp [hvs', okc, rowStore, splice]
    rw [← hvs']
    generalize hS4 : AS.put (AS.put S3 _ _) _ _ = S4
    have hs4 : Same S3 S4 [S2.next] := by rw [← hS4]; exact ⟨by simp, fun m hm hn => by simp at hn; rw [AS.get_put_ne _ _ hn, AS.get_put_ne _ _ hn]⟩
    have gr : S4.get S2.next = some (.row [.int .i64 N', v'] 24 true true) := by rw [← hS4, AS.get_put_self]
    have e4 : S4.next = S3.next := by rw [← hS4]; simp
    clear hS4
    have s4 : Same S S4 [] := s3.trans hs4 (fun m hm hl => by simp at hm; omega)
    have g4 : S4.get S.next = _ := (hs4.2 _ (by omega) (by simp; omega)).trans g3
    have hv4 : As S4 v' l' := hv.stays hs4 (fun m hm => by have := ho m hm; simp at this ⊢; omega)
    simp [g4]
    have s4b : Same S4 (S4.bump 1) [] := (Same.refl _ _).bu
    refine Amend_ok' ((h.stay0 s4).stay0 s4b) fun S5 o k5 hs5 ho5 hk5 hown => ?_
    have hn5 := hs5.1
    simp at hn5
    have s45 := s4b.tr0 hs5
    have s5 := s4.tr0 s45
    have g5 : S5.get S.next = _ := (s45.2 _ (by omega) (by simp)).trans g4
    have gr5 : S5.get S2.next = _ := (s45.2 _ (by omega) (by simp)).trans gr
    obtain ⟨oa1, oc1, hos⟩ := ho5.shape
    obtain ⟨ka1, kc1, hks⟩ := hk5.shape
    simp [hos, hks, okc, rowStore, splice]
    rw [← hos, ← hks]
    generalize hS6 : AS.put (AS.put S5 _ _) _ _ = S6
    have hs6 : Same S5 S6 [S3.next] := by rw [← hS6]; exact ⟨by simp, fun m hm hn => by simp at hn; rw [AS.get_put_ne _ _ hn, AS.get_put_ne _ _ hn]⟩
    have gA : S6.get S3.next = some (.row [o, .int .i64 (amdR c).off, .int .i64 (amdR c).mov, k5] 44 true true) := by rw [← hS6, AS.get_put_self]
    clear hS6
    have hn6 := hs6.1
    have s6 : Same S S6 [] := s5.trans hs6 (fun m hm hl => by simp at hm; omega)
    have g6 : S6.get S.next = _ := (hs6.2 _ (by omega) (by simp; omega)).trans g5
    have gr6 : S6.get S2.next = _ := (hs6.2 _ (by omega) (by simp; omega)).trans gr5
    have hv6 : As S6 v' l' := (hv4.stay0 s45).stays hs6 (fun m hm => by have := hv4.ps.lt m hm; simp; omega)
    simp [g6]
    refine refCheckC_ok (h.stay0 s6) fun S7 hs7 => ?_
    have hn7 := hs7.1
    have s7 := s6.tr0 hs7
    have g7 : S7.get S.next = _ := (hs7.2 _ (by omega) (by simp)).trans g6
    have gr7 : S7.get S2.next = _ := (hs7.2 _ (by omega) (by simp)).trans gr6
    have gA7 : S7.get S3.next = _ := (hs7.2 _ (by omega) (by simp)).trans gA
    have hv7 := hv6.stay0 hs7
    by_cases hc : c.check = 0
    · obtain ⟨rfl, rfl, rfl⟩ := hw0 (check_rel hc)
      have hA : amdR c = c.cg.amd := if_pos hc
      rw [hA] at gA7
      obtain ⟨aa, acap, hvas⟩ := h.arrows.shape
      obtain ⟨oa, ocap, hvos⟩ := h.old.shape
      obtain ⟨wa2, wcap2, hvw⟩ := hv7.shape
      have nb : (S2.next = S7.next) = False := eq_false (by omega)
      simp [hc, g7, gr7, hvas, hvos, hvw, okc, rowStore, splice, nb]
      rw [← hvas, ← hvos, ← hvw]
      generalize hS8 : AS.put (AS.put (AS.put _ _ _) _ _) _ _ = S8
      have hs8 : Same S7 S8 [] := by rw [← hS8]; exact ((((Same.refl _ _).bu).pn (by omega)).pn (by omega)).pn (by omega)
      have hn8 : S8.next = S7.next + 1 := by rw [← hS8]; simp
      clear hS8
      have s8b : Same S8 (S8.bump 1) [] := (Same.refl _ _).bu
      have hd : ChgAt S8 v' vo (c.waived P) := ⟨hv7.stay0 hs8, (h.old.stay0 s7).stay0 hs8, h.n1, h.n2, h.p1, h.p2⟩
      have hwc := waived_check (P := P) hc
      have hB : amdR (c.waived P) = (c.waived P).cg.amd := if_pos hwc
      have gA8 : S8.get S3.next = _ := (hs8.2 _ (by omega) (by simp)).trans gA7
      show Call G 34 [(c.waived P).val v' vo] _ _
      refine Amend_ok' (hd.stay0 s8b) fun S9 o9 k9 hs9 ho9 hk9 hown9 => ?_
      rw [hwc, hB]
      rw [hB] at ho9 hk9
      have hn9 := hs9.1
      simp at hn9
      have s89 := s8b.tr0 hs9
      have gA9 : S9.get S3.next = _ := (s89.2 _ (by omega) (by simp)).trans gA8
      obtain ⟨oa9, oc9, ho9s⟩ := ho9.shape
      obtain ⟨ka9, kc9, hk9s⟩ := hk9.shape
      have nb2 : (S3.next = S7.next + 1) = False := eq_false (by omega)
      have hle := waived_less (P := P) hc
      generalize (c.waived P).cg.amd.off = ob at *
      generalize c.cg.amd.off = oa' at *
      simp [ho9s, hk9s, okc, rowStore, splice, hn8]
      refine al _ _ ?_
      simp [gA9, nb2, hle, undef]
    · simp [hc]
      refine al _ _ ?_
      simp [hc, undef]
end Go.Gx.A

/-
  Arguments: pairs.
-/
namespace Go.Gx.A
open Go.Gx Go.Proofs
set_option maxRecDepth 100000
set_option linter.all false
theorem u62 : Try.prog.underlying 62 = some (.slice 81) := by kernel_rfl
theorem n81 : Try.prog.cellsOf 81 = 2 := by kernel_rfl
theorem fa81 : fieldsAt Try.prog 81 = [(3, 0), (3, 1)] := by kernel_rfl
theorem prs_of {S : AS} {d : Nat} {v : Value} (hv : S.Valid) (h : Ty Try.prog S (d + 3) 62 [v]) : ∃ P : List (Int × Int), Prs S v P ∧ P.length ≤ 9223372036854775807 := by
  obtain ⟨ls, h1, h2, h3⟩ := ty_slice u62 n81 (by omega) hv h
  have : ∃ P : List (Int × Int), ls = P.map fun p => [Value.int .i64 p.1, .int .i64 p.2] := by
    clear h1 h2
    induction ls with
    | nil => exact ⟨[], rfl⟩
    | cons x xs ih =>
      obtain ⟨l, rfl⟩ := ih fun y hy => h3 y (by simp [hy])
      obtain ⟨g1, g2⟩ := ty_struct fa81 (by simp) (h3 x (by simp))
      rw [n81] at g1
      match x, g1 with
      | [a, b], _ =>
        have ga := g2 (3, 0) (by simp)
        have gb := g2 (3, 1) (by simp)
        simp only [n3] at ga gb
        obtain ⟨n0, rfl, _⟩ := ty_int u3 ga
        obtain ⟨n1, rfl, _⟩ := ty_int u3 gb
        exact ⟨(n0, n1) :: l, rfl⟩
  obtain ⟨P, rfl⟩ := this
  exact ⟨P, h1, by rw [List.length_map] at h2; exact h2⟩
end Go.Gx.A
