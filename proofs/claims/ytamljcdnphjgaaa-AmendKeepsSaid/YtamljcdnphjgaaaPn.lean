/-
  Moved, Kept, Moved with their errors; lists compared.
-/
import Derived.Test.YtamljcdnphjgaaaPm

set_option linter.all false
set_option linter.deprecated false
set_option linter.unusedSimpArgs false
set_option linter.unusedVariables false

namespace Go.Gx.A
open Go.Gx Go.Proofs
set_option maxRecDepth 100000
set_option linter.all false
set_option maxHeartbeats 4000000

def cntI (old order : List Int) (i : Nat) : Nat := ((old.take i).filter fun x => decide (x ∈ order)).length
theorem cntI_le (old order : List Int) (i : Nat) : cntI old order i ≤ old.length := by
  unfold cntI
  exact Nat.le_trans (List.length_filter_le _ _) (by rw [List.length_take]; omega)
theorem cntI_succ {old order : List Int} {i : Nat} (h : i < old.length) : cntI old order (i + 1) = if old[i] ∈ order then cntI old order i + 1 else cntI old order i := by
  unfold cntI
  rw [List.take_succ_eq_append_getElem h, List.filter_append, List.length_append]
  by_cases hc : old[i] ∈ order <;> simp [hc]
theorem movedN_eq (old order : List Int) : movedN old order = (cntI old order old.length : Int) - L (places old order) 0 := by
  unfold movedN cntI
  rw [List.take_length]

theorem moved_ok {S : AS} {v w : Value} {old order : List Int} (h : Is S v old) (k : Is S w order) (hn : order.Nodup) (hl1 : old.length ≤ 1000) (hl2 : order.length ≤ 1000) {Q : En → AS → Prop}
    (hq : ∀ S', Same S S' [] → Q (.ret (.int .i64 (movedN old order))) S') : Call G 103 [v, w] S Q := by
  obtain ⟨a, cap, rfl⟩ := h.shape
  obtain ⟨b, cap', rfl⟩ := k.shape
  refine call_run' (G := G) rfl (ext_none (by decide)) ?_
  simp
  refine run_loop (fun j a' S' => ∃ i, j = old.length - i ∧ i ≤ old.length ∧ S' = S ∧ Has a' 26 [(0, .slice a old.length cap), (1, .slice b order.length cap'), (5, .int .i64 (cntI old order i)), (8, .slice a old.length cap), (9, .int .i64 old.length), (10, .int .i64 i)]) _ ⟨0, rfl, by omega, rfl, ⟨rfl, rfl, by simp [cntI]⟩⟩ ?_
  rintro _ R hR _ S ⟨i, rfl, hi, rfl, hA⟩
  obtain ⟨x, rfl⟩ := hA.lit
  by_cases hlt : i < old.length
  · obtain ⟨p, o, cells, e, wr, ex, h1, h2, h3, h4, h5⟩ := h.at hlt
    have hc := cntI_le old order i
    simp [fillF, pickL, hlt, h1, h2, h5]
    refine contains_ok k ?_
    have hs := cntI_succ (order := order) hlt
    have hwS := wrapS (show i < 9223372036854775807 by omega)
    have hwC := wrapS (show cntI old order i < 9223372036854775807 by omega)
    by_cases hm : old[i] ∈ order
    · simp [hm]
      rw [if_pos hm] at hs
      exact hR _ _ _ (by omega) ⟨i + 1, rfl, by omega, rfl, ⟨rfl, rfl, by simp [hwS, hwC, hs]⟩⟩
    · simp [hm]
      rw [if_neg hm] at hs
      exact hR _ _ _ (by omega) ⟨i + 1, rfl, by omega, rfl, ⟨rfl, rfl, by simp [hwS, hs]⟩⟩
  · obtain rfl : i = old.length := by omega
    simp [fillF, pickL]
    refine kept_ok h k hn hl1 hl2 fun S1 oa n hs1 hnk how hb => ?_
    have hc := cntI_le old order old.length
    have hk := kept_len old order
    have hLl := L_le (places old order) 0
    rw [places_len] at hLl
    have hmv : IntKind.i64.wrap ((cntI old order old.length : Int) - n) = movedN old order := by
      rw [wrap64 (by omega) (by omega), movedN_eq, hnk, hk]
    simp [hmv]
    exact hq S1 hs1

theorem rmoved_ok {S : AS} {v w : Value} {old order : List Int} (h : Is S v old) (k : Is S w order) (hn : order.Nodup) (hl1 : old.length ≤ 1000) (hl2 : order.length ≤ 1000) {Q : En → AS → Prop}
    (hq : ∀ S', Same S S' [] → Q (.ret (.int .i64 (movedN old order))) S') : Call G 90 [v, w] S Q := by
  obtain ⟨a, cap, rfl⟩ := h.shape
  obtain ⟨b, cap', rfl⟩ := k.shape
  refine call_run' (G := G) rfl (ext_none (by decide)) ?_
  simp
  refine run_loop (fun j a' S' => ∃ i, j = old.length - i ∧ i ≤ old.length ∧ S' = S ∧ Has a' 32 [(0, .slice a old.length cap), (1, .slice b order.length cap'), (5, .int .i64 (cntI old order i)), (6, .int .i64 i)]) _ ⟨0, rfl, by omega, rfl, ⟨rfl, rfl, by simp [cntI]⟩⟩ ?_
  rintro _ R hR _ S ⟨i, rfl, hi, rfl, hA⟩
  obtain ⟨x, rfl⟩ := hA.lit
  by_cases hlt : i < old.length
  · obtain ⟨p, o, cells, e, wr, ex, h1, h2, h3, h4, h5⟩ := h.at hlt
    have hc := cntI_le old order i
    simp [fillF, pickL, hlt, h1, h2, h5]
    refine has_ok k ?_
    have hs := cntI_succ (order := order) hlt
    have hwS := wrapS (show i < 9223372036854775807 by omega)
    have hwC := wrapS (show cntI old order i < 9223372036854775807 by omega)
    by_cases hm : old[i] ∈ order
    · simp [hm]
      rw [if_pos hm] at hs
      exact hR _ _ _ (by omega) ⟨i + 1, rfl, by omega, rfl, ⟨rfl, rfl, by simp [hwS, hwC, hs]⟩⟩
    · simp [hm]
      rw [if_neg hm] at hs
      exact hR _ _ _ (by omega) ⟨i + 1, rfl, by omega, rfl, ⟨rfl, rfl, by simp [hwS, hs]⟩⟩
  · obtain rfl : i = old.length := by omega
    simp [fillF, pickL]
    refine longest_ok h k hn hl1 hl2 fun S1 t rs hs1 ht hrl hrs hot => ?_
    obtain ⟨P, EX, r1, G1, G2, G3, G4, G5, G6, G7, G8, G9⟩ := ht.at (i := 0) (by omega)
    have G1' : ∀ (S' : AS) (j : IntKind), idxE S' 1 none (.int j 0) t = .ret (.pointer (some ⟨P, 0, none⟩), S') := fun S' j => G1 S' j
    have hc := cntI_le old order old.length
    have r0 := rowc_get (f := tabF old order 0) (show 0 < order.length + 1 by omega)
    have hLl := L_le (places old order) 0
    rw [places_len] at hLl
    have hmv : IntKind.i64.wrap ((cntI old order old.length : Int) - tabF old order 0 0) = movedN old order := by
      have : tabF old order 0 0 = (L (places old order) 0 : Nat) := rfl
      rw [this, wrap64 (by omega) (by omega), movedN_eq]
    simp [G1', G2, G3, G4, r0, hmv]
    exact hq S1 hs1

def keptR (old order : List Int) : List Int := if errL [old, order] = 0 then kept old order else []
theorem errL_nodup {l m : List Int} (h : errL [l, m] = 0) : l.length ≤ 200 ∧ m.length ≤ 200 ∧ l.Nodup ∧ m.Nodup := by
  unfold errL at h
  by_cases c1 : [l, m].any (fun l => decide (200 < l.length)) = true
  · rw [if_pos c1] at h; cases h
  · rw [if_neg c1] at h
    by_cases c2 : [l, m].any twice = true
    · rw [if_pos c2] at h; cases h
    · simp at c1 c2
      exact ⟨c1.1, c1.2, (twice_spec l).1 c2.1, (twice_spec m).1 c2.2⟩

/-- two lists are handed over -/
theorem ls_two {S : AS} {v w : Value} {l m : List Int} {p : Nat} {wr ex : Bool} (h : Is S v l) (k : Is S w m) (hp : S.get p = some (.row [v, w] 25 wr ex)) (hps : p < S.next) : Ls S (.slice (some ⟨p, 0, none⟩) 2 2) [v, w] [l, m] := by
  refine ⟨⟨⟨_, _, rfl⟩, by simp [srcCells, hp], by simp [ownsOf]; exact hps⟩, rfl, by simp, fun i v' l' h1 h2 => ?_⟩
  match i with
  | 0 => simp at h1 h2; subst h1; subst h2; exact h
  | 1 => simp at h1 h2; subst h1; subst h2; exact k
  | i + 2 => simp at h1

theorem Kept_ok {S : AS} {v w : Value} {old order : List Int} (h : Is S v old) (k : Is S w order) {Q : En → AS → Prop}
    (hq : ∀ S' a n, Same S S' [] → n = (keptR old order).length → Ow S' (.slice a n n) (keptR old order) → Q (.ret (.tuple #[.slice a n n, .int .i64 (errL [old, order])])) S') : Call G 41 [v, w] S Q := by
  obtain ⟨a, cap, rfl⟩ := h.shape
  obtain ⟨b, cap', rfl⟩ := k.shape
  refine call_run' (G := G) rfl (ext_none (by decide)) ?_
  simp [placeIn, splice]
  have s1 : ∀ o, Same S ((S.bump 1).put S.next o) [] := fun o => by
    repeat' first | exact Same.refl _ _ | apply Same.bu | (refine Same.pn ?_ (by first | omega | (simp; omega)))
  refine lists_ok (ls_two (wr := true) (ex := true) (h.stay0 (s1 _)) (k.stay0 (s1 _)) (by simp) (by simp)) fun S1 hs1 => ?_
  have hs := (s1 _).tr0 hs1
  by_cases he : errL [old, order] = 0
  · obtain ⟨b1, b2, b3, b4⟩ := errL_nodup he
    simp [he]
    refine kept_ok (h.stay0 hs) (k.stay0 hs) b4 (by omega) (by omega) fun S2 oa n hs2 hn how hb => ?_
    simp
    have := hq S2 oa n (hs.tr0 hs2) (by unfold keptR; rw [if_pos he]; exact hn) (by unfold keptR; rw [if_pos he]; exact how)
    rw [he] at this
    exact this
  · simp [he]
    exact hq S1 none 0 hs (by unfold keptR; rw [if_neg he]; rfl) (by unfold keptR; rw [if_neg he]; exact Ow.nil)
theorem rKept_ok {S : AS} {v w : Value} {old order : List Int} (h : Is S v old) (k : Is S w order) {Q : En → AS → Prop}
    (hq : ∀ S' a n, Same S S' [] → n = (keptR old order).length → Ow S' (.slice a n n) (keptR old order) → Q (.ret (.tuple #[.slice a n n, .int .i64 (errL [old, order])])) S') : Call G 42 [v, w] S Q := by
  obtain ⟨a, cap, rfl⟩ := h.shape
  obtain ⟨b, cap', rfl⟩ := k.shape
  refine call_run' (G := G) rfl (ext_none (by decide)) ?_
  simp
  refine rlists_ok h k ?_
  by_cases he : errL [old, order] = 0
  · obtain ⟨b1, b2, b3, b4⟩ := errL_nodup he
    simp [he]
    refine rkept_ok h k b4 (by omega) (by omega) fun S2 oa n hs2 hn how hb => ?_
    simp
    have := hq S2 oa n hs2 (by unfold keptR; rw [if_pos he]; exact hn) (by unfold keptR; rw [if_pos he]; exact how)
    rw [he] at this
    exact this
  · simp [he]
    exact hq S none 0 (.refl _ _) (by unfold keptR; rw [if_neg he]; rfl) (by unfold keptR; rw [if_neg he]; exact Ow.nil)
def movedR (old order : List Int) : Int := if errL [old, order] = 0 then movedN old order else 0
theorem Moved_ok {S : AS} {v w : Value} {old order : List Int} (h : Is S v old) (k : Is S w order) {Q : En → AS → Prop}
    (hq : ∀ S', Same S S' [] → Q (.ret (.tuple #[.int .i64 (movedR old order), .int .i64 (errL [old, order])])) S') : Call G 43 [v, w] S Q := by
  obtain ⟨a, cap, rfl⟩ := h.shape
  obtain ⟨b, cap', rfl⟩ := k.shape
  refine call_run' (G := G) rfl (ext_none (by decide)) ?_
  simp [placeIn, splice]
  have s1 : ∀ o, Same S ((S.bump 1).put S.next o) [] := fun o => by
    repeat' first | exact Same.refl _ _ | apply Same.bu | (refine Same.pn ?_ (by first | omega | (simp; omega)))
  refine lists_ok (ls_two (wr := true) (ex := true) (h.stay0 (s1 _)) (k.stay0 (s1 _)) (by simp) (by simp)) fun S1 hs1 => ?_
  have hs := (s1 _).tr0 hs1
  by_cases he : errL [old, order] = 0
  · obtain ⟨b1, b2, b3, b4⟩ := errL_nodup he
    simp [he]
    refine moved_ok (h.stay0 hs) (k.stay0 hs) b4 (by omega) (by omega) fun S2 hs2 => ?_
    simp
    have := hq S2 (hs.tr0 hs2)
    unfold movedR at this
    rw [if_pos he, he] at this
    exact this
  · simp [he]
    have := hq S1 hs
    unfold movedR at this
    rw [if_neg he] at this
    exact this
theorem rMoved_ok {S : AS} {v w : Value} {old order : List Int} (h : Is S v old) (k : Is S w order) {Q : En → AS → Prop}
    (hq : ∀ S', Same S S' [] → Q (.ret (.tuple #[.int .i64 (movedR old order), .int .i64 (errL [old, order])])) S') : Call G 44 [v, w] S Q := by
  obtain ⟨a, cap, rfl⟩ := h.shape
  obtain ⟨b, cap', rfl⟩ := k.shape
  refine call_run' (G := G) rfl (ext_none (by decide)) ?_
  simp
  refine rlists_ok h k ?_
  by_cases he : errL [old, order] = 0
  · obtain ⟨b1, b2, b3, b4⟩ := errL_nodup he
    simp [he]
    refine rmoved_ok h k b4 (by omega) (by omega) fun S2 hs2 => ?_
    simp
    have := hq S2 hs2
    unfold movedR at this
    rw [if_pos he, he] at this
    exact this
  · simp [he]
    have := hq S (.refl _ _)
    unfold movedR at this
    rw [if_neg he] at this
    exact this

theorem sameInts_ok {S : AS} {v w : Value} {l m : List Int} (h : Is S v l) (k : Is S w m) {Q : En → AS → Prop} (hq : Q (.ret (.bool (decide (l = m)))) S) : Call G 40 [v, w] S Q := by
  obtain ⟨a, cap, rfl⟩ := h.shape
  obtain ⟨b, cap', rfl⟩ := k.shape
  refine call_run' (G := G) rfl (ext_none (by decide)) ?_
  simp
  by_cases hlen : l.length = m.length
  · have hlen' : (l.length : Int) = m.length := by omega
    simp [hlen]
    have hsm := h.small
    refine run_loop (fun j a' S' => ∃ i, j = l.length - i ∧ i ≤ l.length ∧ S' = S ∧ Has a' 26 [(0, .slice a l.length cap), (1, .slice b m.length cap'), (5, .int .i64 i)] ∧ (l = m ↔ l.drop i = m.drop i)) _ ⟨0, rfl, by omega, rfl, ⟨rfl, rfl, by simp [hlen]⟩, by simp⟩ ?_
    rintro _ R hR _ S ⟨i, rfl, hi, rfl, hA, hiff⟩
    obtain ⟨x, rfl⟩ := hA.lit
    by_cases hlt : i < l.length
    · have hltm : i < m.length := by omega
      obtain ⟨p, o, cells, e, wr, ex, h1, h2, h3, h4, h5⟩ := h.at hlt
      obtain ⟨p', o', cells', e', wr', ex', q1, q2, q3, q4, q5⟩ := k.at hltm
      rw [List.drop_eq_getElem_cons hlt, List.drop_eq_getElem_cons hltm, List.cons.injEq] at hiff
      simp [fillF, pickL, hlt, h1, h2, h5, q1, q2, q5]
      by_cases hc : l[i] = m[i]
      · simp [hc]
        refine hR _ _ _ (by omega) ⟨i + 1, rfl, by omega, rfl, ⟨rfl, rfl, by simp [wrapS (show i < 9223372036854775807 by omega)]⟩, ?_⟩
        rw [hiff]; simp [hc]
      · simp [hc]
        have : ¬ l = m := fun e => hc (hiff.1 e).1
        simp [this] at hq
        exact hq
    · obtain rfl : i = l.length := by omega
      rw [List.drop_length, List.drop_eq_nil_of_le (by omega)] at hiff
      simp [fillF, pickL]
      have : l = m := hiff.2 rfl
      simp [this] at hq
      exact hq
  · have hlen' : ¬ (l.length : Int) = m.length := by omega
    simp [hlen, hlen']
    have : ¬ l = m := fun e => hlen (by rw [e])
    simp [this] at hq
    exact hq
end Go.Gx.A

/-
  AmendKeeps.
-/
namespace Go.Gx.A
open Go.Gx Go.Proofs
set_option maxRecDepth 100000
set_option linter.all false
set_option maxHeartbeats 1000000

/-- what is left of a list when another one has been gone through -/
def insG : List Int → List Int → List Int
  | l, [] => l
  | [], _ :: _ => []
  | x :: l, y :: all => if x = y then insG l all else insG (x :: l) all
theorem insG_nil : ∀ all, insG [] all = []
  | [] => rfl
  | _ :: _ => rfl
theorem insG_sub : ∀ {all l : List Int}, l.Sublist all → insG l all = []
  | [], l, h => by simp at h; subst h; rfl
  | y :: all, [], h => insG_nil _
  | y :: all, x :: l, h => by
    unfold insG
    by_cases hc : x = y
    · rw [if_pos hc]
      subst hc
      exact insG_sub (List.cons_sublist_cons.1 h)
    · rw [if_neg hc]
      cases h with
      | cons _ h => exact insG_sub h
      | cons_cons _ h => exact absurd rfl hc
theorem keptG_old : ∀ (r : List Pl) (a : Nat), (keptG r a).Sublist (r.map (·.2))
  | [], _ => .slnil
  | (none, _) :: r, a => (keptG_old r a).cons _
  | (some b, x) :: r, a => by
    simp only [keptG, List.map_cons]
    split
    · exact (keptG_old r (b + 1)).cons_cons _
    · exact (keptG_old r a).cons _
theorem kept_old (old order : List Int) : (kept old order).Sublist old := by
  have := keptG_old (places old order) 0
  have e : (places old order).map (·.2) = old := by
    unfold places
    rw [List.map_map]
    exact List.map_id' old
  rw [e] at this
  exact this
theorem keptG_order (order : List Int) : ∀ (r : List Pl) (a : Nat), (∀ b x, (some b, x) ∈ r → order[b]? = some x) → (keptG r a).Sublist (order.drop a)
  | [], _, _ => List.nil_sublist _
  | (none, _) :: r, a, h => keptG_order order r a fun b x hx => h b x (List.mem_cons_of_mem _ hx)
  | (some b, x) :: r, a, h => by
    simp only [keptG]
    split
    · rename_i hc
      have hb := h b x List.mem_cons_self
      obtain ⟨h1, h2⟩ := List.getElem?_eq_some_iff.1 hb
      have ih := keptG_order order r (b + 1) fun b' x' hx => h b' x' (List.mem_cons_of_mem _ hx)
      have hs : (x :: order.drop (b + 1)).Sublist (order.drop a) := by
        have : x :: order.drop (b + 1) = order.drop b := by rw [List.drop_eq_getElem_cons h1, h2]
        rw [this]
        have e : order.drop b = (order.drop a).drop (b - a) := by rw [List.drop_drop]; congr 1; omega
        rw [e]
        exact List.drop_sublist _ _
      exact (ih.cons_cons x).trans hs
    · exact keptG_order order r a fun b' x' hx => h b' x' (List.mem_cons_of_mem _ hx)
theorem kept_order (old order : List Int) : (kept old order).Sublist order := by
  have := keptG_order order (places old order) 0 fun b x h => by
    unfold places at h
    obtain ⟨y, _, e⟩ := List.mem_map.1 h
    simp only [Prod.mk.injEq] at e
    rw [← e.2]
    exact (idxOf_some e.1).1
  rw [List.drop_zero] at this
  exact this

theorem inside_ok {S : AS} {v w : Value} {l all : List Int} (h : Is S v l) (k : Is S w all) {Q : En → AS → Prop} (hq : Q (.ret (.bool (decide (insG l all = [])))) S) : Call G 45 [v, w] S Q := by
  obtain ⟨a, cap, rfl⟩ := h.shape
  obtain ⟨b, cap', rfl⟩ := k.shape
  refine call_run' (G := G) rfl (ext_none (by decide)) ?_
  simp
  have hsm := h.small
  have hsk := k.small
  refine run_loop (fun j a' S' => ∃ i q : Nat, j = all.length - q ∧ q ≤ all.length ∧ i ≤ l.length ∧ S' = S ∧ Has a' 33 [(0, .slice a l.length cap), (5, .int .i64 i), (8, .slice b all.length cap'), (9, .int .i64 all.length), (10, .int .i64 q)] ∧ insG l all = insG (l.drop i) (all.drop q)) _ ⟨0, 0, rfl, by omega, by omega, rfl, ⟨rfl, rfl, by simp⟩, by simp⟩ ?_
  rintro _ R hR _ S ⟨i, q, rfl, hq1, hi, rfl, hA, hg⟩
  obtain ⟨x, rfl⟩ := hA.lit
  by_cases hlt : q < all.length
  · obtain ⟨p, o, cells, e, wr, ex, h1, h2, h3, h4, h5⟩ := k.at hlt
    have hwq := wrapS (show q < 9223372036854775807 by omega)
    rw [List.drop_eq_getElem_cons hlt] at hg
    simp [fillF, pickL, hlt, h1, h2, h5]
    by_cases hil : i < l.length
    · have hil' : (i : Int) < l.length := by omega
      obtain ⟨p', o', cells', e', wr', ex', q1, q2, q3, q4, q5⟩ := h.at hil
      have hwi := wrapS (show i < 9223372036854775807 by omega)
      rw [List.drop_eq_getElem_cons hil, insG] at hg
      simp [hil, hil', q1, q2, q5]
      by_cases hc : l[i] = all[q]
      · simp [hc]
        rw [if_pos hc] at hg
        exact hR _ _ _ (by omega) ⟨i + 1, q + 1, rfl, by omega, by omega, rfl, ⟨rfl, rfl, by simp [hwq, hwi]⟩, hg⟩
      · simp [hc]
        rw [if_neg hc, ← List.drop_eq_getElem_cons hil] at hg
        exact hR _ _ _ (by omega) ⟨i, q + 1, rfl, by omega, by omega, rfl, ⟨rfl, rfl, by simp [hwq]⟩, hg⟩
    · have hil' : ¬ (i : Int) < l.length := by omega
      have hie : i = l.length := by omega
      simp [hil, hil']
      have hd : l.drop i = [] := List.drop_eq_nil_of_le (by omega)
      rw [hd, insG_nil] at hg
      exact hR _ _ _ (by omega) ⟨i, q + 1, rfl, by omega, by omega, rfl, ⟨rfl, rfl, by simp [hwq]⟩, by rw [hd, insG_nil]; exact hg⟩
  · obtain rfl : q = all.length := by omega
    rw [List.drop_length, insG] at hg
    simp [fillF, pickL]
    have : decide ((i : Int) = l.length) = decide (insG l all = []) := by
      rw [hg, decide_eq_decide, List.drop_eq_nil_iff]
      omega
    first
    | (simp [this]; exact hq)
    | (have h2 : decide (i = l.length) = decide (insG l all = []) := by
         rw [hg, decide_eq_decide, List.drop_eq_nil_iff]
         omega
       simp [h2]; exact hq)

theorem keptR_old (old order : List Int) : insG (keptR old order) old = [] := by
  unfold keptR
  split
  · exact insG_sub (kept_old old order)
  · exact insG_nil _
theorem keptR_order (old order : List Int) : insG (keptR old order) order = [] := by
  unfold keptR
  split
  · exact insG_sub (kept_order old order)
  · exact insG_nil _

theorem keeps_walk {S : AS} {v w : Value} {old order : List Int} (h : Is S v old) (k : Is S w order) : Call G 9 [v, w] S fun e _ => e = .ret (.bool true) := by
  obtain ⟨a, cap, rfl⟩ := h.shape
  obtain ⟨b, cap', rfl⟩ := k.shape
  refine call_run' (G := G) rfl (ext_none (by decide)) ?_
  refine cut2 (fun a' S' => S' = S ∧ Has a' 96 [(0, .slice a old.length cap), (1, .slice b order.length cap')]) ?_ ?_
  · intro M hM
    have fin : ∀ a' S', Has a' 96 [(0, .slice a old.length cap), (1, .slice b order.length cap')] → S' = S → M a' S' := fun a' S' h1 h2 => hM a' S' ⟨h2, h1⟩
    simp
    by_cases c1 : (30 : Int) < old.length
    · by_cases c2 : (old.length : Int) ≤ 200
      · simp [c1, c2, undef]
        refine alive_ok ?_
        simp
      · simp [c1, c2, undef]
        by_cases c3 : (30 : Int) < order.length
        · by_cases c4 : (order.length : Int) ≤ 200
          · simp [c3, c4, undef]
            refine alive_ok ?_
            simp
          · simp [c3, c4, undef]
            by_cases c5 : (300 : Int) < old.length
            · simp [c5, undef]
              refine alive_ok ?_
              simp
            · simp [c5, undef]
              by_cases c6 : (300 : Int) < order.length
              · simp [c6, undef]
                refine alive_ok ?_
                simp
              · simp [c6, undef]
                exact fin _ _ ⟨rfl, rfl, by simp⟩ rfl
        · simp [c3, undef]
          by_cases c5 : (300 : Int) < old.length
          · simp [c5, undef]
            refine alive_ok ?_
            simp
          · simp [c5, undef]
            have c6 : ¬ (300 : Int) < order.length := by omega
            simp [c6, undef]
            exact fin _ _ ⟨rfl, rfl, by simp⟩ rfl
    · simp [c1, undef]
      by_cases c3 : (30 : Int) < order.length
      · by_cases c4 : (order.length : Int) ≤ 200
        · simp [c3, c4, undef]
          refine alive_ok ?_
          simp
        · simp [c3, c4, undef]
          have c5 : ¬ (300 : Int) < old.length := by omega
          simp [c5, undef]
          by_cases c6 : (300 : Int) < order.length
          · simp [c6, undef]
            refine alive_ok ?_
            simp
          · simp [c6, undef]
            exact fin _ _ ⟨rfl, rfl, by simp⟩ rfl
      · simp [c3, undef]
        have c5 : ¬ (300 : Int) < old.length := by omega
        simp [c5, undef]
        have c6 : ¬ (300 : Int) < order.length := by omega
        simp [c6, undef]
        exact fin _ _ ⟨rfl, rfl, by simp⟩ rfl
  · rintro _ S ⟨rfl, hA⟩
    obtain ⟨x, rfl⟩ := hA.lit
    simp [fillF, pickL]
    refine Kept_ok h k fun S1 a1 n1 hs1 hn1 how1 => ?_
    simp
    refine rKept_ok (h.stay0 hs1) (k.stay0 hs1) fun S2 a2 n2 hs2 hn2 how2 => ?_
    have hs12 := hs1.tr0 hs2
    simp
    refine Moved_ok (h.stay0 hs12) (k.stay0 hs12) fun S3 hs3 => ?_
    have hs13 := hs12.tr0 hs3
    simp
    refine rMoved_ok (h.stay0 hs13) (k.stay0 hs13) fun S4 hs4 => ?_
    have hs14 := hs13.tr0 hs4
    simp
    have hk1 := ((how1.is.stay0 hs2).stay0 hs3).stay0 hs4
    have hk2 := (how2.is.stay0 hs3).stay0 hs4
    refine sameInts_ok hk1 hk2 ?_
    simp
    refine alive_ok ?_
    simp
    refine inside_ok hk1 (h.stay0 hs14) ?_
    simp [keptR_old]
    refine inside_ok hk1 (k.stay0 hs14) ?_
    simp [keptR_order]
end Go.Gx.A
