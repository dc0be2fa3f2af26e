/-
  PostJournal returns true for every number of sectors and every script of operations, and its arguments read as before. No condition.
-/
import Derived.Test.YtegjacoooihpgaaPf
import Derived.Test.YtegjacoooihpgaaPc
import Derived.Test.YtegjacoooihpgaaGg
import Derived.Test.YtegjacoooihpgaaPb

set_option linter.all false
set_option linter.deprecated false
set_option linter.unusedSimpArgs false
set_option linter.unusedVariables false

/-
  PostRoom: the walk.
-/
namespace Go.Gx.Y
open Go.Gx
set_option linter.all false

theorem journals_true {S : AS} {Q : En → AS → Prop} (hq : Q (.ret (.bool true)) S) : Call G 21 [] S Q := call_ext (show G.ext 21 [] = some (.bool true) from extOf_some (k := 21) (ks := [8, 21]) (by decide)) hq

theorem umod2000 (n : Int) : ∃ k : Nat, k < 2000 ∧ IntKind.i64.wrap ((IntKind.u64.wrap n).tmod 2000) = (k : Int) := by
  have h : 0 ≤ IntKind.u64.wrap n := by
    simp only [IntKind.wrap, IntKind.bits, IntKind.signed]
    simp
    omega
  refine ⟨((IntKind.u64.wrap n).tmod 2000).toNat, ?_, ?_⟩
  · rw [Int.tmod_eq_emod_of_nonneg h]; omega
  · rw [Int.tmod_eq_emod_of_nonneg h, wrap64 (by omega) (by omega)]; omega

def D0 (k : Nat) : Dk := ⟨List.replicate k zero64, List.replicate k zero64, [], false, -1⟩

/-- a new disk is opened -/
theorem open_new {S0 S : AS} {d l n k : Nat} {pv : Value} (h : Dsk S0 S d l n pv (D0 k)) {Q : En → AS → Prop}
    (hok : ∀ S' pv' lv j D, Jn S0 S' d l n pv' j D [] → Live D [] 0 [] → D.down = false → D.fuse = -1 → D.last.length = k → SlAt S' 9 lv (sing ([].map str)) → S.next ≤ j → Same S S' (fpOf d l n pv) → Q (.ret (.tuple #[ptr j, lv, .int .i64 0])) S') : Call G 18 [ptr d] S Q := by
  have hc := new_crashed k
  obtain ⟨r1, r2⟩ := crashed_reads hc
  obtain ⟨e, D', k1, k2, k3, k4⟩ := crashed_open hc
  obtain ⟨he, hf⟩ := k3 (by simp)
  subst he
  have hlen : D'.last.length = k := by rw [k2]; simp
  refine open_dsk (R := []) h r1 r2 (by simp [D0]) rfl (fun S' pv' h1 => ?_) (fun S' pv' lv j h1 h2 h3 h4 h5 h6 h7 => ?_)
  · exact absurd (by show (Dk.wipe _ _ (D0 k)).1 = 0; rw [show D0 k = ⟨List.replicate k zero64, List.replicate k zero64, [], false, -1⟩ from rfl, k1]) h1
  · have e2 : (Dk.wipe ((D0 k).now.length - (encAll []).length) (encAll []).length (D0 k)).2 = D' := by
      rw [show D0 k = ⟨List.replicate k zero64, List.replicate k zero64, [], false, -1⟩ from rfl, k1]
    rw [e2] at h2
    rcases k4 with ⟨_, hl, hd⟩ | ⟨h8, _⟩
    · exact hok S' pv' lv j D' h2 hl hd hf hlen h4 h3 h6
    · cases h8

theorem many_cost (n : Nat) : manyOf n ≤ 1 + n / 32 := by unfold manyOf; omega

set_option maxHeartbeats 2000000 in
set_option maxRecDepth 8000 in
theorem room_walk {S : AS} {sectors : Int} {v : Value} {data : List (List UInt8)} (hv : Cs S v (data.map str)) (hdl : ∀ s ∈ data, s.length ≤ 9223372036854775807) (hdn : data.length ≤ 9223372036854775807) : Call G 5 [.int .i64 sectors, v] S fun e _ => e = .ret (.bool true) := by
  refine call_run' (G := G) rfl (ext_none (by decide)) ?_
  obtain ⟨k, hk, hkk⟩ := umod2000 sectors
  have hw : IntKind.i64.wrap (16 + (k : Int)) = 16 + (k : Int) := wrap64 (by omega) (by omega)
  obtain ⟨va, vc, rfl⟩ := hv.shape
  simp [hkk, hw]
  have hcast : (16 + (k : Int)) = ((16 + k : Nat) : Int) := by omega
  rw [hcast]
  refine newDisk_dsk (S0 := S) (k := 16 + k) (.refl _ _) (by omega) (by omega) fun S1 d l n H1 _ => ?_
  simp
  refine open_new (k := 16 + k) H1 fun S2 pv2 lv2 j D2 H2 L2 hd2 hf2 hl2 _ _ _ => ?_
  have htd : IntKind.i64.wrap ((16 + (k : Int)).tdiv 2) = (((16 + k) / 2 : Nat) : Int) := by
    rw [Int.tdiv_eq_ediv_of_nonneg (by omega), wrap64 (by omega) (by omega)]; omega
  simp [htd]
  refine cut_block (fun a' S3 => ∃ Rs wv pv D, Jn S S3 d l n pv j D Rs ∧ Live D Rs 0 [] ∧ D.down = false ∧ D.fuse = -1 ∧ SlAt S3 9 wv (sing (Rs.map str)) ∧ (∀ x ∈ ownsOf wv, S.next ≤ x ∧ x ∉ fpOf d l n pv ∧ x ≠ j) ∧ Has a' 122 [(6, ptr d), (8, ptr j), (12, wv)]) (fun M hM => ?_) ?_
  refine run_loop (fun kk a' S3 => ∃ i left Rs wv pv D, data.length - i = kk ∧ i ≤ data.length ∧ i ≤ 2000 ∧ Jn S S3 d l n pv j D Rs ∧ Live D Rs 0 [] ∧ D.down = false ∧ D.fuse = -1 ∧ D.last.length = 16 + k ∧ (encAll Rs).length + left ≤ (16 + k) / 2 ∧ SlAt S3 9 wv (sing (Rs.map str)) ∧ (∀ x ∈ ownsOf wv, S.next ≤ x ∧ x ∉ fpOf d l n pv ∧ x ≠ j) ∧
    Has a' 122 [(1, .slice va data.length vc), (6, ptr d), (8, ptr j), (11, .int .i64 left), (12, wv), (13, .int .i64 i)]) _
    ⟨0, (16 + k) / 2, [], .slice none 0 0, pv2, D2, rfl, by omega, by omega, H2, L2, hd2, hf2, hl2, by simp [encAll], .inl ⟨rfl, rfl⟩, by simp [ownsOf], ⟨rfl, rfl, by simp⟩⟩ ?_
  rintro _ R hR _ S3 ⟨i, left, Rs, wv, pv, D, rfl, hi, hi2, H, L, hd, hf, hl, hcost, hwv, hwo, ha⟩
  obtain ⟨z, rfl⟩ := ha.lit
  have hv3 := H.dk.old hv
  obtain ⟨b1, b2, b3⟩ := live_pend H.dk.at_ L
  by_cases hlt : i < data.length ∧ i < 2000
  · obtain ⟨hlt, hlt2⟩ := hlt
    have hlt2' : (i : Int) < 2000 := by omega
    have hw1 : IntKind.i64.wrap ((i : Int) + 1) = ((i + 1 : Nat) : Int) := by rw [wrap64 (by omega) (by omega)]; rfl
    obtain ⟨p, o, cells, e, wr, ex, e1, e2, e3, e4, e5⟩ := hv3.idx (i := i) (j := .i64) (S' := S3) (by simpa using hlt)
    simp only [List.length_map, List.getElem_map] at e1 e5
    have hsl := hdl data[i] (by simp)
    generalize data[i] = s at e5 hsl
    by_cases h20 : 20000 < s.length
    · have h20' : (20000 : Int) < s.length := by omega
      simp [fillF, pickL, hlt, hlt2, hlt2', e1, e2, e5, h20, h20', hw1]
      exact hR _ _ _ (by omega) ⟨i + 1, left, Rs, wv, pv, D, rfl, by omega, by omega, H, L, hd, hf, hl, hcost, hwv, hwo, ⟨rfl, rfl, by simp⟩⟩
    · have h20' : ¬ (20000 : Int) < s.length := by omega
      have hq1 : IntKind.i64.wrap ((s.length : Int) / 32) = ((s.length / 32 : Nat) : Int) := by
        rw [wrap64 (by omega) (by omega)]; omega
      have hq2 : IntKind.i64.wrap (1 + ((s.length / 32 : Nat) : Int)) = ((1 + s.length / 32 : Nat) : Int) := by
        rw [wrap64 (by omega) (by omega)]; omega
      generalize hcs : s.length / 32 = c at hq1 hq2
      have hcl : manyOf s.length ≤ 1 + c := by rw [← hcs]; exact many_cost _
      by_cases hleft : left < 1 + c
      · have hleft' : (left : Int) < 1 + (c : Int) := by omega
        simp [fillF, pickL, hlt, hlt2, hlt2', e1, e2, e5, h20, h20', hq1, hq2, hleft, hleft', hw1]
        exact hR _ _ _ (by omega) ⟨i + 1, left, Rs, wv, pv, D, rfl, by omega, by omega, H, L, hd, hf, hl, hcost, hwv, hwo, ⟨rfl, rfl, by simp⟩⟩
      · have hleft' : ¬ (left : Int) < 1 + (c : Int) := by omega
        have hq3 : IntKind.i64.wrap ((left : Int) - 1) = (left : Int) - 1 := wrap64 (by omega) (by omega)
        have hq4 : IntKind.i64.wrap ((left : Int) - 1 - (c : Int)) = ((left - 1 - c : Nat) : Int) := by
          rw [wrap64 (by omega) (by omega)]; omega
        simp [fillF, pickL, hlt, hlt2, hlt2', e1, e2, e5, h20, h20', hq1, hq2, hq3, hq4, hleft, hleft']
        refine append_jn H L hd (by omega) (fun S4 pv4 D4 H4 L4 hd4 hl4 hf4 hs4 hfp4 => ?_) (fun hh => absurd (by rw [hf]; decide) hh) (fun hh => absurd hh (by omega))
        have hn34 := hs4.1
        have hwlt := hwv.owns_lt
        have hwv4 := hwv.stays hs4 fun x hx hh => by
          rcases List.mem_cons.1 hh with h1 | h1
          · exact (hwo x hx).2.2 h1
          · exact (hwo x hx).2.1 h1
        have hwo4 : ∀ x ∈ ownsOf wv, S.next ≤ x ∧ x ∉ fpOf d l n pv4 ∧ x ≠ j := fun x hx => ⟨(hwo x hx).1, fun hh => by
          rcases hfp4 x hh with h1 | h1
          · exact (hwo x hx).2.1 h1
          · have := hwlt x hx; omega, (hwo x hx).2.2⟩
        have e24 := (H4.dk.same.2 p (by have := hv.lt p e4; omega) (by simp)).trans ((H.dk.same.2 p (hv.lt p e4) (by simp)).symm.trans e2)
        have e1' := idxE_any (S' := S4.bump 2) e1
        simp [e1', e24, e5, placeIn, splice]
        have hnn : S4.next ≠ p := by have := hv.lt p e4; have := H4.dk.same.1; omega
        have hsT : Same S4 ((S4.bump 2).put S4.next (AObj.row [str s] 9 true true)) [] := ⟨by simp, fun x hx _ => by
          have : x ≠ S4.next := by omega
          simp [this]⟩
        have hTc : ((S4.bump 2).put S4.next (AObj.row [str s] 9 true true)).get S4.next = some (AObj.row [str s] 9 true true) := by simp
        have hTn : ((S4.bump 2).put S4.next (AObj.row [str s] 9 true true)).next = S4.next + 2 := by simp
        generalize ((S4.bump 2).put S4.next (AObj.row [str s] 9 true true)) = T at hsT hTc hTn ⊢
        have hwlt4 := hwv4.owns_lt
        refine runT_ex (appV_cells (ds := [str s]) (cs := Rs.map str) (hwv4.stays hsT (by simp)) (by simp [srcCells, hTc]) (by simp) (by simp; omega) (by omega) (by omega) (fun hh => by have := hwlt4 _ hh; omega)) fun wv5 S5 ⟨g1, g2, g3, g4⟩ => ?_
        simp [hw1]
        have hS5 : Same S4 S5 (ownsOf wv) := hsT.mono (by simp) |>.trans g2 fun x hx hl => by
          rcases List.mem_cons.1 hx with rfl | hx
          · omega
          · exact hx
        have hfl4 := H4.dk.at_.fp_lt
        have hH5 : Jn S S5 d l n pv4 j D4 (Rs ++ [s]) := by
          have h1 : ∀ m ∈ fpOf d l n pv4, m ∉ ownsOf wv := fun m hm hh => (hwo4 m hh).2.1 hm
          refine ⟨⟨H4.dk.at_.stays hS5 h1, H4.dk.same.trans hS5 fun m hm hl => absurd (hwo m hm).1 (by omega), H4.dk.new⟩, (hS5.2 j H4.lt fun hh => (hwo j hh).2.2 rfl).trans H4.jr, H4.new, Nat.lt_of_lt_of_le H4.lt hS5.1, H4.apart⟩
        have hal : encAll (Rs ++ [s]) = encAll Rs ++ enc s := by rw [encAll_app]; simp [encAll]
        refine hR _ _ _ (by omega) ⟨i + 1, left - 1 - c, Rs ++ [s], wv5, pv4, D4, rfl, by omega, by omega, hH5, L4, hd4, by rw [hf4 (by omega), hf], by omega, by rw [hal, List.length_append, enc_len]; omega, by simpa using g1, fun x hx => ?_, ⟨rfl, rfl, by simp⟩⟩
        rcases g4 x hx with h1 | h1
        · exact hwo4 x h1
        · subst h1
          refine ⟨by have := H4.dk.same.1; omega, fun hh => by have := hfl4 _ hh; omega, fun hh => by have := H4.lt; omega⟩
  · have hfin : ∀ a', Has a' 122 [(6, ptr d), (8, ptr j), (12, wv)] → M a' S3 := fun a' ha' => hM _ _ ⟨Rs, wv, pv, D, H, L, hd, hf, hwv, hwo, ha'⟩
    by_cases h1 : i < data.length
    · have h2 : ¬ i < 2000 := fun hh => hlt ⟨h1, hh⟩
      have h2' : ¬ (i : Int) < 2000 := by omega
      simp [fillF, pickL, h1, h2, h2']
      exact hfin _ ⟨rfl, rfl, by simp⟩
    · simp [fillF, pickL, h1]
      exact hfin _ ⟨rfl, rfl, by simp⟩
  rintro _ S3 ⟨Rs, wv, pv, D, H, L, hd, hf, hwv, hwo, ha⟩
  obtain ⟨z, rfl⟩ := ha.lit
  simp [fillF, pickL]
  refine sync_jn H L (fun _ S4 pv4 D4 H4 L4 hd4 hl4 hf4 hs4 hfp4 => ?_) (fun hh => absurd ⟨hd, by rw [hf]; decide⟩ hh)
  have hwv4 := hwv.stays hs4 fun x hx hh => (hwo x hx).2.1 hh
  simp
  obtain ⟨b1, b2, b3⟩ := live_pend H4.dk.at_ L4
  refine crash_dsk2 (keep := []) H4.dk ⟨⟨none, 0, rfl⟩, rfl, by simp [ownsOf]⟩ (by simp [ownsOf]) (by omega) fun S5 pv5 cv H5 hs5 hfp5 => ?_
  obtain ⟨k5, hk1, hk2, hC, hCl⟩ := crash_live L4 (fun x hx => (H4.dk.at_.u3 x hx).1) []
  obtain rfl : k5 = Rs.length := by omega
  rw [List.take_length] at hC
  have hwv5 := hwv4.stays hs5 fun x hx hh => (hwo x hx).2.1 (hfp4 x hh)
  simp
  obtain ⟨r1, r2⟩ := crashed_reads hC
  obtain ⟨e, D6, c1, c2, c3, c4⟩ := crashed_open hC
  obtain ⟨he, _⟩ := c3 (by simp [Dk.crash])
  subst he
  refine open_dsk H5 r1 r2 (by simp [Dk.crash]) rfl (fun S6 pv6 h1 => absurd (by rw [c1]) h1) (fun S6 pv6 lv j6 h1 H6 hj6 hlv6 hlo6 hs6 hfp6 => ?_)
  simp
  refine journals_true ?_
  have hwv6 := hwv5.stays hs6 fun x hx hh => (hwo x hx).2.1 (hfp4 x (hfp5 x hh))
  simp
  refine same_ok (slAt_cs hlv6) (slAt_cs hwv6) (by omega) ?_
  simp
end Go.Gx.Y

/-
  PostPrefix: slices of arguments, stopping.
-/
namespace Go.Gx
/-- a slice that may be sliced anew -/
structure Ws (S : AS) (v : Value) (cs : List Value) : Prop where
  read : Cs S v cs
  cap : ∃ a cap, v = .slice a cs.length cap ∧ cs.length ≤ cap
  ex : ∀ b ∈ ownsOf v, ∃ cells e wr, S.get b = some (.row cells e wr true)

theorem Ws.stays {S S' : AS} {v : Value} {cs : List Value} (h : Ws S v cs) {fp : List Nat} (hs : Same S S' fp) (hd : ∀ m ∈ ownsOf v, m ∉ fp) : Ws S' v cs :=
  ⟨h.read.stays hs hd, h.cap, fun b hb => by
    obtain ⟨cells, e, wr, h1⟩ := h.ex b hb
    exact ⟨cells, e, wr, (hs.2 b (h.read.lt b hb) (hd b hb)).trans h1⟩⟩

theorem Ws.take {S : AS} {v : Value} {cs : List Value} (h : Ws S v cs) {elem : TypeId} {k : Nat} (hk : k ≤ cs.length) : ∃ v', slcE S elem 1 none (some (.int .i64 k)) none v = .ret (v', S) ∧ Cs S v' (cs.take k) := by
  obtain ⟨a, cap, rfl, hcap⟩ := h.cap
  have hl : (cs.take k).length = k := by simp; omega
  have hb : bndsV cs.length cap none (some (.int .i64 (k : Int))) none = some (0, k, cap) := by
    unfold bndsV
    have : bndV (.int .i64 (k : Int)) cap = some k := by
      unfold bndV
      simp only []
      rw [if_pos ⟨by omega, by omega⟩]
      rfl
    simp [this]
  have hc := h.read.cells
  match a, hc with
  | none, hc =>
    simp [srcCells] at hc
    have h0 : cs = [] := hc.2
    subst h0
    simp at hk
    subst hk
    refine ⟨.slice none 0 cap, ?_, ⟨⟨none, cap, rfl⟩, rfl, by simp [ownsOf]⟩⟩
    simp at hb
    simp [hb]
  | some ⟨b, o, some s⟩, hc =>
    simp only [srcCells] at hc
    split at hc
    · rename_i h0
      have h0' : cs = [] := List.length_eq_zero_iff.1 h0
      subst h0'
      simp at hk
      subst hk
      refine ⟨.slice (some ⟨b, o, some s⟩) 0 0, ?_, ⟨⟨_, 0, rfl⟩, by simp [srcCells], by simp [ownsOf]⟩⟩
      simp at hb
      simp [hb]
    · simp at hc
  | some ⟨b, o, none⟩, hc =>
    obtain ⟨cells, e, wr, h1⟩ := h.ex b (by simp [ownsOf])
    refine ⟨.slice (some ⟨b, o, none⟩) k cap, by simp [hb, h1], ⟨⟨some ⟨b, o, none⟩, cap, by rw [hl]⟩, ?_, fun x hx => h.read.lt x (by simpa [ownsOf] using hx)⟩⟩
    rw [hl]
    simp only [srcCells, Nat.mul_one, h1] at hc ⊢
    split
    · rename_i h0; subst h0; simp
    · rename_i h0
      rw [if_neg (by omega)] at hc
      split at hc
      · rename_i hle
        simp only [Option.some.injEq, Prod.mk.injEq, true_and] at hc
        rw [if_pos (by omega)]
        simp only [Option.some.injEq, Prod.mk.injEq, true_and]
        conv => rhs; rw [← hc]
        rw [List.take_take, Nat.min_eq_left hk]
      · simp at hc

theorem ty_ws {P : Program} {S : AS} {d : Nat} {t e : TypeId} {v : Value} (hu : P.underlying t = some (.slice e)) (h1 : P.cellsOf e = 1) (hv : S.Valid) (h : Ty P S (d + 1) t [v]) :
    ∃ cs, Ws S v cs ∧ cs.length ≤ maxLen ∧ (∀ c ∈ cs, Ty P S d e [c]) := by
  have h0 := h
  obtain ⟨cs, g1, g2, g3⟩ := ty_slice1 hu h1 hv h
  refine ⟨cs, ⟨g1, ?_, ?_⟩, g2, g3⟩
  · obtain ⟨a, cap, rfl⟩ := g1.shape
    unfold Ty at h0
    rw [hu] at h0
    simp only [List.cons.injEq, and_true] at h0
    refine ⟨a, cap, rfl, ?_⟩
    rcases h0 with h0 | h0 | ⟨n, len, cap', cells, et, h0, _, h3, _⟩
    · simp only [Value.slice.injEq] at h0; omega
    · simp only [zsl, Value.slice.injEq] at h0; omega
    · simp only [Value.slice.injEq] at h0; omega
  · intro b hb
    unfold Ty at h0
    rw [hu] at h0
    simp only [List.cons.injEq, and_true] at h0
    rcases h0 with rfl | rfl | ⟨n, len, cap', cells, et, rfl, h2, _⟩
    · simp [ownsOf] at hb
    · simp [ownsOf, zsl] at hb
    · simp [ownsOf] at hb
      subst hb
      exact ⟨cells, et, false, h2⟩
end Go.Gx

namespace Go.Gx.Y
open Go.Gx
set_option linter.all false

theorem stop_jn {S0 S : AS} {d l n j : Nat} {pv : Value} {D : Dk} {Rs : List (List UInt8)} (h : Jn S0 S d l n pv j D Rs) {k : Int} (hk : -9223372036854775808 ≤ k ∧ k ≤ 9223372036854775807) {Q : En → AS → Prop}
    (hq : ∀ S', Jn S0 S' d l n pv j (D.stop k).2 Rs → Same S S' (fpOf d l n pv) → Q (.ret (.int .i64 (D.stop k).1)) S') : Call G 23 [ptr d, .int .i64 k] S Q :=
  stop_ok h.dk.at_ hk fun S' h1 h2 => by
    have h2' : Same S S' (fpOf d l n pv) := h2.mono (by simp [fpOf])
    exact hq S' ⟨h.dk.next h1 h2' fun x hx => .inl hx, (h2'.2 j h.lt h.apart).trans h.jr, h.new, Nat.lt_of_lt_of_le h.lt h2.1, h.apart⟩ h2'

def cost1 (l : List (List UInt8)) : Nat := (l.map fun s => 32 + s.length).sum
theorem cost1_app (l : List (List UInt8)) (s : List UInt8) : cost1 (l ++ [s]) = cost1 l + 32 + s.length := by simp [cost1]; omega
theorem cost1_enc : ∀ (l : List (List UInt8)), 32 * (encAll l).length ≤ cost1 l
  | [] => by simp [encAll, cost1]
  | s :: l => by
    have ih := cost1_enc l
    have := many_cost s.length
    rw [encAll_cons, List.length_append, enc_len]
    simp only [cost1, List.map_cons, List.sum_cons] at ih ⊢
    omega
theorem cost1_take : ∀ (l : List (List UInt8)) (i : Nat), cost1 (l.take i) ≤ cost1 l
  | [], i => by simp [cost1]
  | s :: l, 0 => by simp [cost1]
  | s :: l, i + 1 => by
    have := cost1_take l i
    simp only [cost1, List.take_succ_cons, List.map_cons, List.sum_cons] at this ⊢
    omega

theorem umod300 (n : Int) : ∃ k : Nat, k < 300 ∧ IntKind.i64.wrap ((IntKind.u64.wrap n).tmod 300) = (k : Int) := by
  have h : 0 ≤ IntKind.u64.wrap n := by
    simp only [IntKind.wrap, IntKind.bits, IntKind.signed]
    simp
    omega
  refine ⟨((IntKind.u64.wrap n).tmod 300).toNat, ?_, ?_⟩
  · rw [Int.tmod_eq_emod_of_nonneg h]; omega
  · rw [Int.tmod_eq_emod_of_nonneg h, wrap64 (by omega) (by omega)]; omega
end Go.Gx.Y

/-
  The reference's journal.
-/
namespace Go.Gx.Y
open Go.Gx
set_option linter.all false

theorem slAt_slc {S : AS} {e : TypeId} {v : Value} {cs : List Value} {k : Nat} (h : SlAt S e v (sing cs)) (hk : k ≤ cs.length) : ∃ v', (∀ lo, lo = (none : Option Value) → slcE S e 1 lo (some (.int .i64 k)) none v = .ret (v', S)) ∧ Cs S v' (cs.take k) := by
  have hl : (cs.take k).length = k := by simp; omega
  have hc := slAt_cs h
  rcases h with ⟨rfl, h0⟩ | ⟨p, ex, rfl, h2, h3⟩
  · have h0' : cs = [] := by
      have := congrArg List.length h0
      rw [sing_len] at this
      exact List.length_eq_zero_iff.1 this
    subst h0'
    simp at hk
    subst hk
    refine ⟨.slice none 0 0, ?_, ⟨⟨none, 0, rfl⟩, rfl, by simp [ownsOf]⟩⟩
    rintro _ rfl
    have := bnds_hi (len := 0) (cap := 0) (b := 0) (Nat.le_refl _)
    simp at this
    simp [this]
  · rw [sing_len] at hc ⊢
    have hb := bnds_hi (len := cs.length) (cap := cs.length) (b := k) hk
    refine ⟨.slice (some ⟨p, 0, none⟩) k cs.length, ?_, ⟨⟨_, cs.length, by rw [hl]⟩, ?_, fun x hx => by simp [ownsOf] at hx; subst hx; exact h3⟩⟩
    · rintro _ rfl
      simp [h2, hb]
    · rw [hl, sing_flat] at *
      simp only [srcCells, Nat.mul_one, h2]
      split
      · rename_i h0; subst h0; simp
      · rw [if_pos (by omega), List.drop_zero]

theorem slAt_shape {S : AS} {e : TypeId} {v : Value} {ls : List (List Value)} (h : SlAt S e v ls) : ∃ a n c, v = .slice a n c := by
  rcases h with ⟨h, _⟩ | ⟨p, ex, h, _⟩ <;> exact ⟨_, _, _, h⟩

/-- one string more -/
theorem app_str {S : AS} {v : Value} {cs : List Value} {s : List UInt8} {fr : Nat} (h : SlAt S 9 v (sing cs)) (hl : cs.length ≤ 1000000) (hfr : fr + 1 < S.next) (hfo : fr + 1 ∉ ownsOf v) (hc : S.get fr = some (.row [str s] 9 true true)) :
    ∃ S' v', appV S (fr + 1) 9 1 16 v (.slice (some ⟨fr, 0, none⟩) 1 1) = some (v', S') ∧ SlAt S' 9 v' (sing (cs ++ [str s])) ∧ Same S S' ((fr + 1) :: ownsOf v) ∧ S'.next = S.next ∧ ∀ x ∈ ownsOf v', x ∈ ownsOf v ∨ x = fr + 1 :=
  appV_cells (ds := [str s]) h (by simp [srcCells, hc]) (by simp) (by simp; omega) (by omega) hfr hfo

theorem texts_ok {S : AS} {v : Value} {R : List (List UInt8)} (h : Cs S v (R.map str)) (hl : R.length ≤ 100000) {Q : En → AS → Prop}
    (hq : ∀ S' lv, SlAt S' 9 lv (sing (R.map str)) → Same S S' [] → (∀ x ∈ ownsOf lv, S.next ≤ x) → Q (.ret lv) S') : Call G 51 [v] S Q := by
  refine call_run' (G := G) rfl (ext_none (by decide)) ?_
  obtain ⟨a, c, rfl⟩ := h.shape
  simp
  refine run_loop (fun k a' S2 => ∃ i lv, R.length - i = k ∧ i ≤ R.length ∧ SlAt S2 9 lv (sing ((R.take i).map str)) ∧ Same S S2 [] ∧ (∀ x ∈ ownsOf lv, S.next ≤ x) ∧ Has a' 19 [(0, .slice a R.length c), (3, lv), (4, .int .i64 i)]) _ ⟨0, .slice none 0 0, rfl, by omega, .inl ⟨rfl, rfl⟩, .refl _ _, by simp [ownsOf], ⟨rfl, rfl, by simp⟩⟩ ?_
  rintro _ W hW _ S2 ⟨i, lv, rfl, hi, hlv, hs2, hlo, ha⟩
  obtain ⟨z, rfl⟩ := ha.lit
  by_cases hlt : i < R.length
  · have hw1 : IntKind.i64.wrap ((i : Int) + 1) = ((i + 1 : Nat) : Int) := by rw [wrap64 (by omega) (by omega)]; rfl
    obtain ⟨p, o, cells, e, wr, ex, e1, e2, e3, e4, e5⟩ := (h.stays hs2 (by simp)).idx (i := i) (j := .i64) (S' := S2) (by simpa using hlt)
    simp only [List.length_map, List.getElem_map] at e1 e5
    have e1' := idxE_any (S' := S2.bump 2) e1
    have hget : R[i]? = some R[i] := List.getElem?_eq_getElem hlt
    generalize R[i] = s at e5 hget
    have htk : R.take (i + 1) = R.take i ++ [s] := by rw [List.take_add_one, hget]; rfl
    have hlo2 := hlv.owns_lt
    simp [fillF, pickL, hlt, e1', e2, e5, placeIn, splice]
    have hsT : Same S2 ((S2.bump 2).put S2.next (AObj.row [str s] 9 true true)) [] := ⟨by simp, fun x hx _ => by
      have : x ≠ S2.next := by omega
      simp [this]⟩
    refine runT_ex (app_str (s := s) (hlv.stays hsT (by simp)) (by simp; omega) (by simp) (fun hh => by have := hlo2 _ hh; omega) (by simp)) fun lv' S3 ⟨g1, g2, g3, g4⟩ => ?_
    simp [hw1]
    have hs3 : Same S S3 [] := (hs2.trans hsT (by simp)).trans g2 fun x hx hl => by
      have := hs2.1
      rcases List.mem_cons.1 hx with rfl | hx
      · omega
      · have := hlo x hx; omega
    refine hW _ _ _ (by omega) ⟨i + 1, lv', rfl, by omega, by rw [htk]; simpa using g1, hs3, fun x hx => ?_, ⟨rfl, rfl, by simp⟩⟩
    rcases g4 x hx with h1 | h1
    · exact hlo x h1
    · have := hs2.1; omega
  · obtain rfl : i = R.length := by omega
    rw [List.take_length] at hlv
    simp [fillF, pickL]
    exact hq S2 lv hlv hs2 hlo

/-- the model in memory -/
structure MAt (S : AS) (m : Nat) (rv : Value) (Rs : List (List UInt8)) (safe : Nat) (failed : Bool) (perhaps : List UInt8) : Prop where
  obj : S.get m = some (.row [rv, .int .i64 safe, .bool failed, str perhaps] 61 true true)
  recs : SlAt S 9 rv (sing (Rs.map str))
  apart : m ∉ ownsOf rv
  lt : m < S.next

theorem MAt.stays {S S' : AS} {m : Nat} {rv : Value} {Rs : List (List UInt8)} {safe : Nat} {failed : Bool} {perhaps : List UInt8} (h : MAt S m rv Rs safe failed perhaps) {fp : List Nat} (hs : Same S S' fp) (hd : ∀ x ∈ m :: ownsOf rv, x ∉ fp) : MAt S' m rv Rs safe failed perhaps :=
  ⟨(hs.2 m h.lt (hd m (by simp))).trans h.obj, h.recs.stays hs fun x hx => hd x (by simp [hx]), h.apart, Nat.lt_of_lt_of_le h.lt hs.1⟩

theorem MAt.fp_lt {S : AS} {m : Nat} {rv : Value} {Rs : List (List UInt8)} {safe : Nat} {failed : Bool} {perhaps : List UInt8} (h : MAt S m rv Rs safe failed perhaps) : ∀ x ∈ m :: ownsOf rv, x < S.next := fun x hx => by
  rcases List.mem_cons.1 hx with rfl | hx
  · exact h.lt
  · exact h.recs.owns_lt x hx

theorem openedM_ok {S : AS} {m : Nat} {rv v : Value} {Rs R : List (List UInt8)} {safe : Nat} {failed : Bool} {perhaps : List UInt8} (h : MAt S m rv Rs safe failed perhaps) (hv : Cs S v (R.map str)) (hl : R.length ≤ 100000) {Q : En → AS → Prop}
    (hq : ∀ S' rv', MAt S' m rv' R R.length false [] → Same S S' [m] → (∀ x ∈ ownsOf rv', S.next ≤ x) → Q (.ret (.tuple #[])) S') : Call G 43 [ptr m, v] S Q := by
  refine call_run' (G := G) rfl (ext_none (by decide)) ?_
  obtain ⟨a, c, rfl⟩ := hv.shape
  rw [List.length_map] at hv
  simp
  refine texts_ok hv hl fun S1 lv h1 hs1 hlo => ?_
  obtain ⟨la, ln, lc, rfl⟩ := slAt_shape h1
  have ho := (hs1.2 m h.lt (by simp)).trans h.obj
  have hml := h.lt
  simp [ho, rowStore, splice]
  have hsm : ∀ o1 o2 o3 o4 : AObj, Same S1 ((((S1.put m o1).put m o2).put m o3).put m o4) [m] := fun o1 o2 o3 o4 => ⟨Nat.le_refl _, fun x _ hx => by
    have hx' : x ≠ m := by simpa using hx
    rw [AS.get_put_ne _ _ hx', AS.get_put_ne _ _ hx', AS.get_put_ne _ _ hx', AS.get_put_ne _ _ hx']⟩
  have hne : ∀ x ∈ ownsOf (.slice la ln lc), x ∉ [m] := fun x hx hh => by
    have := hlo x hx
    simp at hh; omega
  refine hq _ _ ⟨?_, h1.stays (hsm _ _ _ _) hne, fun hh => hne m hh (by simp), Nat.lt_of_lt_of_le hml hs1.1⟩ ((hs1.mono (by simp)).trans (hsm _ _ _ _) (by simp)) hlo
  simp

theorem costR_ok {S : AS} {n : Nat} (h : n ≤ 1000000000) {Q : En → AS → Prop} (hq : Q (.ret (.int .i64 (1 + n / 32 : Nat))) S) : Call G 45 [.int .i64 n] S Q := by
  refine call_run' (G := G) rfl (ext_none (by decide)) ?_
  have h1 : IntKind.i64.wrap ((n : Int) / 32) = (n : Int) / 32 := wrap64 (by omega) (by omega)
  have h2 : IntKind.i64.wrap (1 + (n : Int) / 32) = 1 + (n : Int) / 32 := wrap64 (by omega) (by omega)
  simp [h1, h2]
  simpa using hq

def cost2 (R : List (List UInt8)) : Nat := (R.map fun s => 1 + s.length / 32).sum
theorem cost2_app (l : List (List UInt8)) (s : List UInt8) : cost2 (l ++ [s]) = cost2 l + (1 + s.length / 32) := by simp [cost2]
theorem cost2_enc : ∀ (l : List (List UInt8)), (encAll l).length ≤ cost2 l
  | [] => by simp [encAll, cost2]
  | s :: l => by
    have ih := cost2_enc l
    have := many_cost s.length
    rw [encAll_cons, List.length_append, enc_len]
    simp only [cost2, List.map_cons, List.sum_cons] at ih ⊢
    omega
theorem cost2_le : ∀ (l : List (List UInt8)), (∀ s ∈ l, s.length ≤ 20000) → cost2 l ≤ l.length * 626
  | [], _ => by simp [cost2]
  | s :: l, h => by
    have ih := cost2_le l fun x hx => h x (by simp [hx])
    have := h s (by simp)
    simp only [cost2, List.map_cons, List.sum_cons, List.length_cons] at ih ⊢
    omega

theorem cost_ok {S : AS} {m : Nat} {rv : Value} {Rs : List (List UInt8)} {safe : Nat} {failed : Bool} {perhaps : List UInt8} (h : MAt S m rv Rs safe failed perhaps) (hl : Rs.length ≤ 100000) (hs : ∀ s ∈ Rs, s.length ≤ 20000) {Q : En → AS → Prop} (hq : Q (.ret (.int .i64 (cost2 Rs))) S) : Call G 27 [ptr m] S Q := by
  refine call_run' (G := G) rfl (ext_none (by decide)) ?_
  have ho := h.obj
  have hln := h.recs.ln (S' := S)
  rw [sing_len, List.length_map] at hln
  simp
  refine run_loop (fun k a' S2 => ∃ i, Rs.length - i = k ∧ i ≤ Rs.length ∧ S2 = S ∧ Has a' 26 [(0, ptr m), (3, .int .i64 (cost2 (Rs.take i))), (4, .int .i64 i)]) _ ⟨0, rfl, by omega, rfl, ⟨rfl, rfl, by simp [cost2]⟩⟩ ?_
  rintro _ W hW _ S2 ⟨i, rfl, hi, rfl, ha⟩
  obtain ⟨z, rfl⟩ := ha.lit
  by_cases hlt : i < Rs.length
  · have hw1 : IntKind.i64.wrap ((i : Int) + 1) = ((i + 1 : Nat) : Int) := by rw [wrap64 (by omega) (by omega)]; rfl
    obtain ⟨p, o, cells, e, wr, ex, e1, e2, e3, e4, e5⟩ := (slAt_cs h.recs).idx (i := i) (j := .i64) (S' := S2) (by simpa using hlt)
    simp only [List.length_map, List.getElem_map] at e1 e5
    have hget : Rs[i]? = some Rs[i] := List.getElem?_eq_getElem hlt
    have hsl := hs Rs[i] (by simp)
    generalize Rs[i] = s at e5 hget hsl
    have htk : Rs.take (i + 1) = Rs.take i ++ [s] := by rw [List.take_add_one, hget]; rfl
    have hc := cost2_app (Rs.take i) s
    rw [← htk] at hc
    have hcl := cost2_le (Rs.take (i + 1)) fun x hx => hs x (List.mem_of_mem_take hx)
    have hlen : (Rs.take (i + 1)).length ≤ 100000 := by simp; omega
    have hcl2 : cost2 (Rs.take (i + 1)) ≤ 100000 * 626 := Nat.le_trans hcl (Nat.mul_le_mul_right _ hlen)
    simp [fillF, pickL, ho, hln, hlt, e1, e2, e5]
    refine costR_ok (n := s.length) (by omega) ?_
    have hw2 : IntKind.i64.wrap ((cost2 (Rs.take i) : Int) + ((1 + s.length / 32 : Nat) : Int)) = (cost2 (Rs.take (i + 1)) : Int) := by rw [wrap64 (by omega) (by omega)]; omega
    generalize 1 + s.length / 32 = c at hw2
    simp [hw1, hw2]
    exact hW _ _ _ (by omega) ⟨i + 1, rfl, by omega, rfl, ⟨rfl, rfl, by simp⟩⟩
  · obtain rfl : i = Rs.length := by omega
    simp [fillF, pickL, ho, hln]
    exact hq

theorem mappend_ok {S : AS} {m : Nat} {rv : Value} {Rs : List (List UInt8)} {safe : Nat} {failed : Bool} {perhaps s : List UInt8} (h : MAt S m rv Rs safe failed perhaps) (hl : Rs.length ≤ 100000) {Q : En → AS → Prop}
    (hq : ∀ S' rv', MAt S' m rv' (Rs ++ [s]) safe failed perhaps → Same S S' (m :: ownsOf rv) → (∀ x ∈ ownsOf rv', x ∈ ownsOf rv ∨ S.next ≤ x) → Q (.ret (.tuple #[])) S') : Call G 44 [ptr m, str s, .int .i64 0] S Q := by
  refine call_run' (G := G) rfl (ext_none (by decide)) ?_
  have ho := h.obj
  have hml := h.lt
  have hlo := h.recs.owns_lt
  simp [ho, placeIn, splice]
  have hsT : Same S ((S.bump 2).put S.next (AObj.row [str s] 9 true true)) [] := ⟨by simp, fun x hx _ => by
    have : x ≠ S.next := by omega
    simp [this]⟩
  have hmn : m ≠ S.next := by omega
  have hmT : ((S.bump 2).put S.next (AObj.row [str s] 9 true true)).get m = some (.row [rv, .int .i64 safe, .bool failed, str perhaps] 61 true true) := by simp [hmn, ho]
  refine runT_ex (app_str (s := s) (h.recs.stays hsT (by simp)) (by simp; omega) (by simp) (fun hh => by have := hlo _ hh; omega) (by simp)) fun rv' S3 ⟨g1, g2, g3, g4⟩ => ?_
  obtain ⟨la, ln, lc, rfl⟩ := slAt_shape g1
  have hm3 : S3.get m = some (.row [rv, .int .i64 safe, .bool failed, str perhaps] 61 true true) := by
    rw [g2.2 m (by simp; omega) (by simp; exact ⟨by omega, h.apart⟩)]
    exact hmT
  simp [hm3, rowStore, splice]
  have hne : ∀ x ∈ ownsOf (.slice la ln lc), x ∉ [m] := fun x hx hh => by
    simp at hh; subst hh
    rcases g4 x hx with h1 | h1
    · exact h.apart h1
    · omega
  simp at g3
  refine hq _ _ ⟨by simp, by simpa using g1.stays (same_put _ _ _) hne, fun hh => hne m hh (by simp), by simp only [AS.next_put]; omega⟩ ((hsT.mono (by simp)).trans g2 (fun x hx hl => ?_) |>.trans (same_put _ _ _) (by simp)) fun x hx => ?_
  · rcases List.mem_cons.1 hx with rfl | hx
    · omega
    · simp [hx]
  · rcases g4 x hx with h1 | h1
    · exact .inl h1
    · exact .inr (by omega)

theorem mfail_ok {S : AS} {m : Nat} {rv : Value} {Rs : List (List UInt8)} {safe : Nat} {failed : Bool} {perhaps s : List UInt8} (h : MAt S m rv Rs safe failed perhaps) {Q : En → AS → Prop}
    (hq : ∀ S' f' p', MAt S' m rv Rs safe f' p' → Same S S' [m] → Q (.ret (.tuple #[])) S') : Call G 44 [ptr m, str s, .int .i64 80] S Q := by
  refine call_run' (G := G) rfl (ext_none (by decide)) ?_
  have ho := h.obj
  cases failed with
  | true =>
    simp [ho]
    exact hq S _ _ h (.refl _ _)
  | false =>
    simp [ho, rowStore, splice]
    have hsm : ∀ o1 o2 : AObj, Same S ((S.put m o1).put m o2) [m] := fun o1 o2 => ⟨Nat.le_refl _, fun x _ hx => by
      have hx' : x ≠ m := by simpa using hx
      rw [AS.get_put_ne _ _ hx', AS.get_put_ne _ _ hx']⟩
    refine hq _ true s ⟨?_, h.recs.stays (hsm _ _) fun x hx hh => h.apart (by simp at hh; subst hh; exact hx), h.apart, h.lt⟩ (hsm _ _)
    simp

theorem may_plain {S : AS} {m : Nat} {rv v : Value} {Rs : List (List UInt8)} {safe : Nat} {failed : Bool} {perhaps : List UInt8} (h : MAt S m rv Rs safe failed perhaps) (hv : Cs S v (Rs.map str)) (hl : Rs.length ≤ 100000) {Q : En → AS → Prop} (hq : Q (.ret (.bool true)) S) : Call G 42 [ptr m, v, .bool false] S Q := by
  refine call_run' (G := G) rfl (ext_none (by decide)) ?_
  simp [h.obj]
  refine same_ok hv (slAt_cs h.recs) (by omega) ?_
  simp
  exact hq

set_option maxHeartbeats 1000000 in
set_option maxRecDepth 8000 in
theorem may_crash {S : AS} {m : Nat} {rv v : Value} {Rs : List (List UInt8)} {safe k : Nat} {failed : Bool} {perhaps : List UInt8} (h : MAt S m rv Rs safe failed perhaps) (hv : SlAt S 9 v (sing ((Rs.take k).map str))) (hk : k ≤ Rs.length) (hsk : safe ≤ k) (hl : Rs.length ≤ 100000) {Q : En → AS → Prop} (hq : Q (.ret (.bool true)) S) : Call G 42 [ptr m, v, .bool true] S Q := by
  refine call_run' (G := G) rfl (ext_none (by decide)) ?_
  have ho := h.obj
  have hlen : (Rs.take k).length = k := by simp; omega
  have hln1 : ∀ S' : AS, lnE S' v = .ret (.int .i64 k, S') := fun S' => by
    have := hv.ln (S' := S')
    rw [sing_len, List.length_map, hlen] at this
    exact this
  have hln2 : ∀ S' : AS, lnE S' rv = .ret (.int .i64 Rs.length, S') := fun S' => by
    have := h.recs.ln (S' := S')
    rw [sing_len, List.length_map] at this
    exact this
  have q1 : ¬ (k : Int) < (safe : Int) := by omega
  have q1' : ¬ k < safe := by omega
  have hw : IntKind.i64.wrap ((Rs.length : Int) + 1) = (Rs.length : Int) + 1 := wrap64 (by omega) (by omega)
  have q2 : ¬ (Rs.length : Int) + 1 < (k : Int) := by omega
  have q3 : ¬ (k : Int) = (Rs.length : Int) + 1 := by omega
  have hmn : min (k : Int) (Rs.length : Int) = (k : Int) := by omega
  obtain ⟨v1, t1, t2⟩ := slAt_slc (k := k) hv (by rw [List.length_map, hlen]; exact Nat.le_refl _)
  obtain ⟨v2, t3, t4⟩ := slAt_slc (k := k) h.recs (by rw [List.length_map]; exact hk)
  have t1' := t1 _ rfl
  have t3' := t3 _ rfl
  rw [← List.map_take, List.take_take, Nat.min_self] at t2
  rw [← List.map_take] at t4
  simp [-run_draw]
  refine run_calm rfl ?_
  simp [ho, hln1, hln2, q1, q1', hw, q2, q3, -run_draw]
  simp [undef, ho, hln1, hln2, foldV, hmn, t1', t3']
  refine same_ok t2 t4 (by omega) ?_
  simp
  exact hq
end Go.Gx.Y

/-
  PostJournal: the helpers.
-/
namespace Go.Gx.Y
open Go.Gx
set_option linter.all false

/-- an operation on a journal -/
structure JOp where
  kind : Int
  data : List UInt8
  n : Int
  kv : Value
  keep : List Int
def JOp.cells (o : JOp) : List Value := [.int .u8 o.kind, str o.data, .int .i64 o.n, o.kv]
structure JOp.OK (S : AS) (o : JOp) : Prop where
  keep : Cs S o.kv (o.keep.map (.int .i64 ·))
  kind : 0 ≤ o.kind ∧ o.kind ≤ 255
  n : -9223372036854775808 ≤ o.n ∧ o.n ≤ 9223372036854775807
theorem JOp.OK.stays {S S' : AS} {o : JOp} (h : o.OK S) (hs : Same S S' []) : o.OK S' := ⟨h.keep.stays hs (by simp), h.kind, h.n⟩

theorem light_ok {S : AS} {v : Value} {ops : List JOp} (h : Ps S 4 v (ops.map JOp.cells)) (ho : ∀ o ∈ ops, o.OK S) {Q : En → AS → Prop} (hq : ∀ b, Q (.ret (.bool b)) S) : Call G 24 [v] S Q := by
  refine call_run' (G := G) rfl (ext_none (by decide)) ?_
  obtain ⟨a, cap, rfl⟩ := h.shape
  rw [List.length_map] at h
  rw [List.length_map]
  simp
  refine cut_block (fun a' S' => ∃ n : Int, S' = S ∧ Has a' 46 [(0, .slice a ops.length cap), (3, .int .i64 n)]) (fun M hM => ?_) ?_
  · refine run_loop (fun k a' S' => ∃ (i : Nat) (n : Int), ops.length - i = k ∧ i ≤ ops.length ∧ i ≤ 201 ∧ S' = S ∧ Has a' 46 [(0, .slice a ops.length cap), (3, .int .i64 n), (4, .int .i64 i)]) _ ⟨0, 0, rfl, by omega, by omega, rfl, ⟨rfl, rfl, by simp⟩⟩ ?_
    rintro _ R hR _ S' ⟨i, n, rfl, hi, hi2, rfl, ha⟩
    obtain ⟨z, rfl⟩ := ha.lit
    by_cases hlt : i < ops.length
    · by_cases h200 : i ≤ 200
      · have h200' : (i : Int) ≤ 200 := by omega
        have hw : IntKind.i64.wrap ((i : Int) + 1) = ((i + 1 : Nat) : Int) := by rw [wrap64 (by omega) (by omega)]; rfl
        have hc : ops[i]? = some ops[i] := List.getElem?_eq_getElem hlt
        have hoo := ho ops[i] (by simp)
        generalize ops[i] = o at hc hoo
        obtain ⟨p, off, cells, e, wr, ex, e1, e2, e3, e4, e5, e6⟩ := h.idx (by omega) (i := i) (j := .i64) (S' := S') (l := o.cells) (by rw [List.getElem?_map, hc]; rfl)
        have g1 : cells[off + 1]? = some (str o.data) := e5 1 (by omega)
        have g3 : cells[off + 3]? = some o.kv := e5 3 (by omega)
        obtain ⟨ka, kc, hk⟩ := hoo.keep.shape
        rw [List.length_map] at hk
        by_cases hd2 : 21000 < o.data.length
        · have hd3 : (21000 : Int) < o.data.length := by omega
          simp [fillF, pickL, hlt, h200, h200', e1, e2, g1, hd2, hd3]
          exact hq false
        · have hd3 : ¬ (21000 : Int) < o.data.length := by omega
          by_cases hk2 : 200 < o.keep.length
          · have hk3 : (200 : Int) < o.keep.length := by omega
            simp [fillF, pickL, hlt, h200, h200', e1, e2, g1, g3, hd2, hd3, hk, hk2, hk3]
            exact hq false
          · have hk3 : ¬ (200 : Int) < o.keep.length := by omega
            simp [fillF, pickL, hlt, h200, h200', e1, e2, g1, g3, hd2, hd3, hk, hk2, hk3, hw]
            exact hR _ _ _ (by omega) ⟨i + 1, IntKind.i64.wrap (n + o.data.length), rfl, by omega, by omega, rfl, ⟨rfl, rfl, by simp⟩⟩
      · have h200' : ¬ (i : Int) ≤ 200 := by omega
        simp [fillF, pickL, hlt, h200, h200']
        exact hM _ _ ⟨n, rfl, ⟨rfl, rfl, by simp⟩⟩
    · simp [fillF, pickL, hlt]
      exact hM _ _ ⟨n, rfl, ⟨rfl, rfl, by simp⟩⟩
  rintro _ S' ⟨n, rfl, ha⟩
  obtain ⟨z, rfl⟩ := ha.lit
  by_cases h1 : ops.length ≤ 200
  · have h1' : (ops.length : Int) ≤ 200 := by omega
    simp [fillF, pickL, h1, h1']
    exact hq _
  · have h1' : ¬ (ops.length : Int) ≤ 200 := by omega
    simp [fillF, pickL, h1, h1']
    exact hq _

/-- opening, and comparing with the model -/
theorem opened_ok {S0 S : AS} {d l n m : Nat} {pv rv : Value} {D : Dk} {R Rs : List (List UInt8)} {safe : Nat} {failed crashed : Bool} {perhaps : List UInt8} (h : Dsk S0 S d l n pv D) (hr : Reads D.now R (encAll R).length) (hm : (encAll R).length ≤ D.now.length) (hpl : D.pend.length ≤ 65536) (hd : D.down = false)
    (hw : (D.wipe (D.now.length - (encAll R).length) (encAll R).length).1 = 0 ∨ ((D.wipe (D.now.length - (encAll R).length) (encAll R).length).1 = 80 ∧ (D.wipe (D.now.length - (encAll R).length) (encAll R).length).2.down = true))
    (hM : MAt S m rv Rs safe failed perhaps) (hnew : ∀ x ∈ m :: ownsOf rv, S0.next ≤ x) (hsep : ∀ x ∈ m :: ownsOf rv, x ∉ fpOf d l n pv) (hlR : Rs.length ≤ 65536)
    (hmay : (crashed = false ∧ R = Rs) ∨ (crashed = true ∧ ∃ k, safe ≤ k ∧ k ≤ Rs.length ∧ R = Rs.take k)) {Q : En → AS → Prop}
    (hbad : ∀ S' pv', (D.wipe (D.now.length - (encAll R).length) (encAll R).length).1 = 80 → Dsk S0 S' d l n pv' (D.wipe (D.now.length - (encAll R).length) (encAll R).length).2 → MAt S' m rv Rs safe failed perhaps → Same S S' (fpOf d l n pv) → (∀ x ∈ fpOf d l n pv', x ∈ fpOf d l n pv ∨ S.next ≤ x) → Q (.ret (.tuple #[.pointer none, .bool true])) S')
    (hok : ∀ S' pv' rv' j, (D.wipe (D.now.length - (encAll R).length) (encAll R).length).1 = 0 → Jn S0 S' d l n pv' j (D.wipe (D.now.length - (encAll R).length) (encAll R).length).2 R → S.next ≤ j → MAt S' m rv' R R.length false [] → Same S S' (m :: fpOf d l n pv) → (∀ x ∈ fpOf d l n pv', x ∈ fpOf d l n pv ∨ S.next ≤ x) → (∀ x ∈ ownsOf rv', S.next ≤ x ∧ x ∉ j :: fpOf d l n pv') → Q (.ret (.tuple #[ptr j, .bool true])) S') : Call G 25 [ptr d, ptr m, .bool crashed] S Q := by
  refine call_run' (G := G) rfl (ext_none (by decide)) ?_
  simp
  have hmS := hM.fp_lt
  have hRl : R.length ≤ 100000 := by
    rcases hmay with ⟨_, rfl⟩ | ⟨_, k, _, _, rfl⟩
    · omega
    · simp; omega
  refine open_dsk h hr hm hpl hd (fun S1 pv1 h1 h2 h3 h4 => ?_) (fun S1 pv1 lv j h1 h2 h3 h4 h5 h6 h7 => ?_)
  · rcases hw with hw | ⟨hw, hdn⟩
    · exact absurd hw h1
    · simp [hw]
      refine down_ok h2.at_ ?_
      rw [hdn]
      simp
      exact hbad S1 pv1 hw h2 (hM.stays h3 hsep) h3 h4
  · have hM1 := hM.stays h6 hsep
    have hlen := slAt_cs h4
    obtain ⟨la, ln, lc, rfl⟩ := slAt_shape h4
    have hsh := hlen.shape
    obtain ⟨a', c', hsh⟩ := hsh
    simp only [Value.slice.injEq, List.length_map] at hsh
    obtain ⟨rfl, rfl, rfl⟩ := hsh
    simp
    refine len_ok h2.jr ?_
    simp
    have hop : ∀ (Q' : En → AS → Prop), (∀ S' rv', MAt S' m rv' R R.length false [] → Same S1 S' [m] → (∀ x ∈ ownsOf rv', S1.next ≤ x) → Q' (.ret (.tuple #[])) S') → Call G 43 [ptr m, .slice la R.length lc] S1 Q' := fun Q' hQ' => openedM_ok hM1 hlen hRl hQ'
    have hend : ∀ S' rv', MAt S' m rv' R R.length false [] → Same S1 S' [m] → (∀ x ∈ ownsOf rv', S1.next ≤ x) → Q (.ret (.tuple #[ptr j, .bool true])) S' := fun S' rv' g1 g2 g3 => by
      have hfl := h2.dk.at_.fp_lt
      have hmf : m ∉ j :: fpOf d l n pv1 := fun hh => by
        have hmn := hmS m (by simp)
        rcases List.mem_cons.1 hh with h8 | h8
        · omega
        · rcases h7 m h8 with h9 | h9
          · exact hsep m (by simp) h9
          · omega
      have hj : Jn S0 S' d l n pv1 j _ R := ⟨⟨h2.dk.at_.stays g2 fun x hx hh => hmf (by simp at hh; subst hh; simp [hx]), h2.dk.same.trans g2 fun x hx hl => by
          simp at hx; subst hx
          have := hnew x (by simp); omega, h2.dk.new⟩, (g2.2 j h2.lt (by simp; intro hh; exact hmf (by simp [hh]))).trans h2.jr, h2.new, Nat.lt_of_lt_of_le h2.lt g2.1, h2.apart⟩
      refine hok S' pv1 rv' j h1 hj h3 g1 ((h6.mono fun x hx _ => by simp [hx]).trans g2 (by simp)) h7 fun x hx => ⟨Nat.le_trans h6.1 (g3 x hx), fun hh => ?_⟩
      have := g3 x hx
      rcases List.mem_cons.1 hh with rfl | hh
      · have := h2.lt; omega
      · have := hfl x hh; omega
    rcases hmay with ⟨rfl, rfl⟩ | ⟨rfl, k, hk1, hk2, hRk⟩
    · refine may_plain hM1 hlen (by omega) ?_
      simp
      refine hop _ fun S' rv' g1 g2 g3 => ?_
      simp
      exact hend S' rv' g1 g2 g3
    · refine may_crash hM1 (by rw [← hRk]; exact h4) hk2 hk1 (by omega) ?_
      simp
      refine hop _ fun S' rv' g1 g2 g3 => ?_
      simp
      exact hend S' rv' g1 g2 g3
end Go.Gx.Y

/-
  PostJournal: a journal and its model.
-/
namespace Go.Gx.Y
open Go.Gx
set_option linter.all false

structure PJ (S0 S : AS) (d l n : Nat) (pv : Value) (j : Nat) (D : Dk) (Rs : List (List UInt8)) (m : Nat) (rv : Value) (Rm : List (List UInt8)) (safe : Nat) : Prop where
  jn : Jn S0 S d l n pv j D Rs
  ma : ∃ f p, MAt S m rv Rm safe f p
  new : ∀ x ∈ m :: ownsOf rv, S0.next ≤ x
  sep : ∀ x ∈ m :: ownsOf rv, x ∉ j :: fpOf d l n pv

def fpj (d l n : Nat) (pv : Value) (j m : Nat) (rv : Value) : List Nat := (j :: fpOf d l n pv) ++ (m :: ownsOf rv)

theorem pj_disk {S0 S S' : AS} {d l n j m safe : Nat} {pv pv' rv : Value} {D D' : Dk} {Rs Rs' Rm : List (List UInt8)} (h : PJ S0 S d l n pv j D Rs m rv Rm safe) (hj : Jn S0 S' d l n pv' j D' Rs') (hs : Same S S' (j :: fpOf d l n pv)) (hf : ∀ x ∈ fpOf d l n pv', x ∈ fpOf d l n pv ∨ S.next ≤ x) :
    PJ S0 S' d l n pv' j D' Rs' m rv Rm safe ∧ Same S S' (fpj d l n pv j m rv) ∧ ∀ x ∈ fpj d l n pv' j m rv, x ∈ fpj d l n pv j m rv ∨ S.next ≤ x := by
  obtain ⟨f, p, hM⟩ := h.ma
  have hlt := hM.fp_lt
  refine ⟨⟨hj, ⟨f, p, hM.stays hs h.sep⟩, h.new, fun x hx hh => ?_⟩, hs.mono fun x hx _ => List.mem_append_left _ hx, fun x hx => ?_⟩
  · rcases List.mem_cons.1 hh with rfl | hh
    · exact h.sep _ hx (by simp)
    · rcases hf x hh with h1 | h1
      · exact h.sep x hx (by simp [h1])
      · have := hlt x hx; omega
  · unfold fpj at hx ⊢
    rcases List.mem_append.1 hx with hx | hx
    · rcases List.mem_cons.1 hx with rfl | hx
      · left; simp
      · rcases hf x hx with h1 | h1
        · left; simp [h1]
        · exact .inr h1
    · left; exact List.mem_append_right _ hx

theorem jn_model {S0 S S' : AS} {d l n j : Nat} {pv : Value} {D : Dk} {Rs : List (List UInt8)} {fp : List Nat} (h : Jn S0 S d l n pv j D Rs) (hs : Same S S' fp) (hd : ∀ x ∈ fp, x ∉ j :: fpOf d l n pv) (hn : ∀ x ∈ fp, S0.next ≤ x) : Jn S0 S' d l n pv j D Rs :=
  ⟨⟨h.dk.at_.stays hs fun x hx hh => hd x hh (by simp [hx]), h.dk.same.trans hs fun x hx hl => absurd (hn x hx) (by omega), h.dk.new⟩, (hs.2 j h.lt fun hh => hd j hh (by simp)).trans h.jr, h.new, Nat.lt_of_lt_of_le h.lt hs.1, h.apart⟩

theorem pj_model {S0 S S' : AS} {d l n j m safe safe' : Nat} {pv rv rv' : Value} {D : Dk} {Rs Rm Rm' : List (List UInt8)} {f : Bool} {p : List UInt8} (h : PJ S0 S d l n pv j D Rs m rv Rm safe) (hm : MAt S' m rv' Rm' safe' f p) (hs : Same S S' (m :: ownsOf rv)) (hv : ∀ x ∈ ownsOf rv', x ∈ ownsOf rv ∨ S.next ≤ x) :
    PJ S0 S' d l n pv j D Rs m rv' Rm' safe' ∧ Same S S' (fpj d l n pv j m rv) ∧ ∀ x ∈ fpj d l n pv j m rv', x ∈ fpj d l n pv j m rv ∨ S.next ≤ x := by
  have hfl := h.jn.dk.at_.fp_lt
  have hjl := h.jn.lt
  have hS := h.jn.dk.same.1
  refine ⟨⟨jn_model h.jn hs h.sep h.new, ⟨f, p, hm⟩, fun x hx => ?_, fun x hx hh => ?_⟩, hs.mono fun x hx _ => List.mem_append_right _ hx, fun x hx => ?_⟩
  · rcases List.mem_cons.1 hx with rfl | hx
    · exact h.new _ (by simp)
    · rcases hv x hx with h1 | h1
      · exact h.new x (by simp [h1])
      · omega
  · rcases List.mem_cons.1 hx with rfl | hx
    · exact h.sep _ (by simp) hh
    · rcases hv x hx with h1 | h1
      · exact h.sep x (by simp [h1]) hh
      · rcases List.mem_cons.1 hh with rfl | hh
        · omega
        · have := hfl x hh; omega
  · unfold fpj at hx ⊢
    rcases List.mem_append.1 hx with hx | hx
    · left; exact List.mem_append_left _ hx
    · rcases List.mem_cons.1 hx with rfl | hx
      · left; simp
      · rcases hv x hx with h1 | h1
        · left; simp [h1]
        · exact .inr h1

theorem fp_trans {S U : AS} {A B C : List Nat} (hn : S.next ≤ U.next) (h1 : ∀ x ∈ B, x ∈ A ∨ S.next ≤ x) (h2 : ∀ x ∈ C, x ∈ B ∨ U.next ≤ x) : ∀ x ∈ C, x ∈ A ∨ S.next ≤ x := fun x hx => by
  rcases h2 x hx with h | h
  · exact h1 x h
  · exact .inr (by omega)
theorem same_trans {S U V : AS} {A B : List Nat} (h1 : Same S U A) (h2 : Same U V B) (hB : ∀ x ∈ B, x ∈ A ∨ S.next ≤ x) : Same S V A := h1.trans h2 fun x hx hl => by
  rcases hB x hx with h | h
  · exact h
  · omega

set_option maxHeartbeats 1000000 in
theorem append2_ok {S0 S : AS} {d l n j m safe half : Nat} {pv rv : Value} {D : Dk} {Rs : List (List UInt8)} {P : List Sec} {s : List UInt8} (h : PJ S0 S d l n pv j D Rs m rv Rs safe) (hL : Live D Rs safe P) (hh : half ≤ D.last.length) {Q : En → AS → Prop}
    (hq : ∀ S' pv' D' Rs' rv' P', PJ S0 S' d l n pv' j D' Rs' m rv' Rs' safe → Live D' Rs' safe P' → D'.last.length = D.last.length → Same S S' (fpj d l n pv j m rv) → (∀ x ∈ fpj d l n pv' j m rv', x ∈ fpj d l n pv j m rv ∨ S.next ≤ x) → Q (.ret (.bool true)) S') :
    Call G 26 [ptr d, ptr j, ptr m, str s, .int .i64 (cost2 Rs), .int .i64 half] S Q := by
  refine call_run' (G := G) rfl (ext_none (by decide)) ?_
  obtain ⟨b1, b2, b3⟩ := live_pend h.jn.dk.at_ hL
  have hbig := h.jn.dk.at_.big
  simp
  refine down_ok h.jn.dk.at_ ?_
  simp
  by_cases h20 : 20000 < s.length
  · have h20' : (20000 : Int) < s.length := by omega
    have e : D.append (encAll Rs).length s = (2, D) := by unfold Dk.append; rw [if_pos h20]
    refine append_ok h.jn.jr h.jn.dk.at_ h.jn.apart h.jn.lt b3 (by omega) (by omega) (fun S1 pv1 h1 h2 h3 h4 h5 => ?_) (fun S1 pv1 h1 => by rw [e] at h1; simp at h1)
    rw [e] at h3 ⊢
    have hS := h.jn.dk.same.1
    have hfp1 : ∀ x ∈ j :: fpOf d l n pv, S0.next ≤ x := fun x hx => by
      rcases List.mem_cons.1 hx with rfl | hx
      · exact h.jn.new
      · exact h.jn.dk.new x hx
    have hj1 : Jn S0 S1 d l n pv1 j D Rs := ⟨⟨h3, h.jn.dk.same.trans h4 fun x hx hl => absurd (hfp1 x hx) (by omega), fun x hx => by
      rcases h5 x hx with h6 | h6
      · exact h.jn.dk.new x h6
      · omega⟩, h2, h.jn.new, Nat.lt_of_lt_of_le h.jn.lt h4.1, fun hh2 => by
      rcases h5 j hh2 with h6 | h6
      · exact h.jn.apart h6
      · have := h.jn.lt; omega⟩
    obtain ⟨g1, g2, g3⟩ := pj_disk h hj1 h4 h5
    simp [h20']
    exact hq S1 pv1 D Rs rv P g1 hL rfl g2 g3
  · have h20' : ¬ (20000 : Int) < s.length := by omega
    by_cases hd : D.down = true
    · have e : D.append (encAll Rs).length s = (80, D) := by unfold Dk.append Dk.put; rw [if_neg h20, if_pos hd]
      refine append_ok h.jn.jr h.jn.dk.at_ h.jn.apart h.jn.lt b3 (by omega) (by omega) (fun S1 pv1 h1 h2 h3 h4 h5 => ?_) (fun S1 pv1 h1 => by rw [e] at h1; simp at h1)
      rw [e] at h3 ⊢
      have hS := h.jn.dk.same.1
      have hfp1 : ∀ x ∈ j :: fpOf d l n pv, S0.next ≤ x := fun x hx => by
        rcases List.mem_cons.1 hx with rfl | hx
        · exact h.jn.new
        · exact h.jn.dk.new x hx
      have hj1 : Jn S0 S1 d l n pv1 j D Rs := ⟨⟨h3, h.jn.dk.same.trans h4 fun x hx hl => absurd (hfp1 x hx) (by omega), fun x hx => by
        rcases h5 x hx with h6 | h6
        · exact h.jn.dk.new x h6
        · omega⟩, h2, h.jn.new, Nat.lt_of_lt_of_le h.jn.lt h4.1, fun hh2 => by
        rcases h5 j hh2 with h6 | h6
        · exact h.jn.apart h6
        · have := h.jn.lt; omega⟩
      obtain ⟨g1, g2, g3⟩ := pj_disk h hj1 h4 h5
      obtain ⟨f, p, hM⟩ := g1.ma
      simp [h20', hd]
      refine mfail_ok hM fun S2 f' p' hM2 hs2 => ?_
      obtain ⟨k1, k2, k3⟩ := pj_model g1 hM2 (hs2.mono (by simp)) fun x hx => .inl hx
      simp
      refine down_ok k1.jn.dk.at_ ?_
      simp [hd]
      exact hq S2 pv1 D Rs rv P k1 hL rfl (same_trans g2 k2 g3) (fp_trans g2.1 g3 k3)
    · rw [Bool.not_eq_true] at hd
      have hP := hL.whole hd
      subst hP
      refine append_jn h.jn hL hd (by omega) (fun S1 pv1 D1 H1 L1 hd1 hl1 _ hs1 hf1 => ?_) (fun _ S1 pv1 D1 P1 H1 L1 hd1 hl1 hs1 hf1 => ?_) (fun hfu S1 pv1 H1 hs1 hf1 => ?_)
      · obtain ⟨g1, g2, g3⟩ := pj_disk h H1 hs1 hf1
        obtain ⟨f, p, hM⟩ := g1.ma
        simp [h20', hd]
        refine mappend_ok hM (by omega) fun S2 rv2 hM2 hs2 hv2 => ?_
        obtain ⟨k1, k2, k3⟩ := pj_model g1 hM2 hs2 hv2
        simp
        exact hq S2 pv1 D1 (Rs ++ [s]) rv2 [] k1 L1 hl1 (same_trans g2 k2 g3) (fp_trans g2.1 g3 k3)
      · obtain ⟨g1, g2, g3⟩ := pj_disk h H1 hs1 hf1
        obtain ⟨f, p, hM⟩ := g1.ma
        simp [h20', hd]
        refine mfail_ok hM fun S2 f' p' hM2 hs2 => ?_
        obtain ⟨k1, k2, k3⟩ := pj_model g1 hM2 (hs2.mono (by simp)) fun x hx => .inl hx
        simp
        refine down_ok k1.jn.dk.at_ ?_
        simp [hd1]
        exact hq S2 pv1 D1 Rs rv P1 k1 L1 hl1 (same_trans g2 k2 g3) (fp_trans g2.1 g3 k3)
      · obtain ⟨g1, g2, g3⟩ := pj_disk h H1 hs1 hf1
        have hce := cost2_enc Rs
        have hcl := cost2_le Rs hL.small
        have hc := many_cost s.length
        have hcl2 : cost2 Rs ≤ 65536 * 626 := Nat.le_trans hcl (Nat.mul_le_mul_right _ b2)
        simp [h20', hd]
        refine costR_ok (n := s.length) (by omega) ?_
        have hw2 : IntKind.i64.wrap ((cost2 Rs : Int) + ((1 + s.length / 32 : Nat) : Int)) = ((cost2 Rs + (1 + s.length / 32) : Nat) : Int) := by rw [wrap64 (by omega) (by omega)]; omega
        have hgt : half < cost2 Rs + (1 + s.length / 32) := by omega
        generalize 1 + s.length / 32 = c at hw2 hgt
        have hgt' : (half : Int) < (cost2 Rs : Int) + (c : Int) := by omega
        simp [hw2, hgt, hgt']
        exact hq S1 pv1 D Rs rv [] g1 hL rfl g2 g3
end Go.Gx.Y

/-
  PostJournal: the walk.
-/
namespace Go.Gx
theorem cut_ifb {G : Tab} {st : List Fr} {a : Act} {S : AS} {Q : Post} {v : Value} {x y rest : C} {id : Nat} (I : Act → AS → Prop) (h1 : ∀ M : Act → AS → Prop, (∀ a S, I a S → M a S) → RunIf G v x y [.block id] a S (RoundR M (unwind G st Q))) (h2 : ∀ a S, I a S → Run G rest st a S Q) : RunIf G v x y (.block id :: .seq rest :: st) a S Q := by
  have h := h1 I fun _ _ h => h
  have hm : ∀ e a S, unwind G [.block id] (RoundR I (unwind G st Q)) e a S → unwind G (.block id :: .seq rest :: st) Q e a S := fun e a S hh => by
    have := unwind_mono (G := G) [.block id] (R := unwind G (.seq rest :: st) Q) (cut_post h2) e a S hh
    rw [← unwind_app] at this
    exact this
  unfold RunIf at h ⊢
  split at h
  · exact h.mono hm
  · exact h.mono hm
  · exact h.elim
end Go.Gx
namespace Go.Gx.Y
open Go.Gx
set_option linter.all false

/-- a crashed disk, and the model of its journal -/
structure CJ (S0 S : AS) (d l n : Nat) (pv : Value) (D : Dk) (R : List (List UInt8)) (m : Nat) (rv : Value) (Rm : List (List UInt8)) (safe : Nat) : Prop where
  dk : Dsk S0 S d l n pv D
  cr : Crashed D R
  ma : ∃ f p, MAt S m rv Rm safe f p
  new : ∀ x ∈ m :: ownsOf rv, S0.next ≤ x
  sep : ∀ x ∈ m :: ownsOf rv, x ∉ fpOf d l n pv
  pre : ∃ k, safe ≤ k ∧ k ≤ Rm.length ∧ R = Rm.take k
  many : Rm.length ≤ 65536

/-- opening after a crash -/
theorem opened_cj {S0 S : AS} {d l n m safe : Nat} {pv rv : Value} {D : Dk} {R Rm : List (List UInt8)} (h : CJ S0 S d l n pv D R m rv Rm safe) {Q : En → AS → Prop}
    (hbad : ¬ D.fuse < 0 → ∀ S' pv' D', Dsk S0 S' d l n pv' D' → Half D' R → D'.last.length = D.last.length → (∃ f p, MAt S' m rv Rm safe f p) → Same S S' (fpOf d l n pv) → (∀ x ∈ fpOf d l n pv', x ∈ fpOf d l n pv ∨ S.next ≤ x) → Q (.ret (.tuple #[.pointer none, .bool true])) S')
    (hok : ∀ S' pv' rv' j D', PJ S0 S' d l n pv' j D' R m rv' R R.length → Live D' R R.length [] → D'.last.length = D.last.length → S.next ≤ j → Same S S' (m :: fpOf d l n pv) → (∀ x ∈ fpj d l n pv' j m rv', x ∈ m :: fpOf d l n pv ∨ S.next ≤ x) → Q (.ret (.tuple #[ptr j, .bool true])) S') : Call G 25 [ptr d, ptr m, .bool true] S Q := by
  obtain ⟨f, p, hM⟩ := h.ma
  obtain ⟨r1, r2⟩ := crashed_reads h.cr
  obtain ⟨e, D', w1, w2, w3, w4⟩ := crashed_open h.cr
  have hmlt := hM.fp_lt
  refine opened_ok h.dk r1 r2 (by rw [h.cr.pend]; simp) h.cr.up ?_ hM h.new h.sep h.many (.inr ⟨rfl, h.pre⟩) (fun S' pv' g1 g2 g3 g4 g5 => ?_) (fun S' pv' rv' j g1 g2 g3 g4 g5 g6 g7 => ?_)
  · rw [w1]
    rcases w4 with ⟨rfl, _⟩ | ⟨rfl, hh⟩
    · exact .inl rfl
    · exact .inr ⟨rfl, hh.down⟩
  · rw [w1] at g1 g2
    simp only [] at g1
    subst g1
    rcases w4 with ⟨h5, _⟩ | ⟨_, hh⟩
    · cases h5
    · exact hbad (fun hf => by have := (w3 hf).1; cases this) S' pv' D' g2 hh w2 ⟨f, p, g3⟩ g4 g5
  · rw [w1] at g1 g2
    simp only [] at g1
    subst g1
    rcases w4 with ⟨_, hl, _⟩ | ⟨h5, _⟩
    · refine hok S' pv' rv' j D' ⟨g2, ⟨_, _, g4⟩, fun x hx => ?_, fun x hx => ?_⟩ hl w2 g3 g5 fun x hx => ?_
      · rcases List.mem_cons.1 hx with rfl | hx
        · exact h.new _ (by simp)
        · exact Nat.le_trans h.dk.same.1 (g7 x hx).1
      · rcases List.mem_cons.1 hx with rfl | hx
        · intro hh
          have hml := hmlt x (by simp)
          rcases List.mem_cons.1 hh with rfl | hh
          · omega
          · rcases g6 x hh with h1 | h1
            · exact h.sep x (by simp) h1
            · omega
        · exact (g7 x hx).2
      · unfold fpj at hx
        rcases List.mem_append.1 hx with hx | hx
        · rcases List.mem_cons.1 hx with rfl | hx
          · exact .inr g3
          · rcases g6 x hx with h1 | h1
            · left; simp [h1]
            · exact .inr h1
        · rcases List.mem_cons.1 hx with rfl | hx
          · left; simp
          · exact .inr (g7 x hx).1
    · cases h5

theorem pj_same {S0 S S' : AS} {d l n j m safe : Nat} {pv rv : Value} {D : Dk} {Rs Rm : List (List UInt8)} (h : PJ S0 S d l n pv j D Rs m rv Rm safe) (hs : Same S S' []) : PJ S0 S' d l n pv j D Rs m rv Rm safe := by
  obtain ⟨f, p, hM⟩ := h.ma
  exact ⟨jn_model h.jn hs (by simp) (by simp), ⟨f, p, hM.stays hs (by simp)⟩, h.new, h.sep⟩

theorem pj_lt {S0 S : AS} {d l n j m safe : Nat} {pv rv : Value} {D : Dk} {Rs Rm : List (List UInt8)} (h : PJ S0 S d l n pv j D Rs m rv Rm safe) : ∀ x ∈ fpj d l n pv j m rv, x < S.next := fun x hx => by
  obtain ⟨f, p, hM⟩ := h.ma
  unfold fpj at hx
  rcases List.mem_append.1 hx with hx | hx
  · rcases List.mem_cons.1 hx with rfl | hx
    · exact h.jn.lt
    · exact h.jn.dk.at_.fp_lt x hx
  · exact hM.fp_lt x hx

/-- a crash of the disk under a journal -/
theorem crash_pj {S0 S : AS} {d l n j m safe : Nat} {pv rv kv : Value} {D : Dk} {Rs : List (List UInt8)} {P : List Sec} {keep : List Int} (h : PJ S0 S d l n pv j D Rs m rv Rs safe) (hL : Live D Rs safe P) (hk : Cs S0 kv (keep.map (.int .i64 ·))) {Q : En → AS → Prop}
    (hq : ∀ S' pv' R v, CJ S0 S' d l n pv' (D.crash keep) R m rv Rs safe → (D.crash keep).last.length = D.last.length → Same S S' (fpOf d l n pv) → (∀ x ∈ fpOf d l n pv', x ∈ fpOf d l n pv) → Q (.ret v) S') : Call G 12 [ptr d, kv] S Q := by
  obtain ⟨f, p, hM⟩ := h.ma
  obtain ⟨b1, b2, b3⟩ := live_pend h.jn.dk.at_ hL
  obtain ⟨k, g1, g2, g3, g4⟩ := crash_live hL (fun x hx => (h.jn.dk.at_.u3 x hx).1) keep
  have hsep : ∀ x ∈ m :: ownsOf rv, x ∉ fpOf d l n pv := fun x hx hh => h.sep x hx (by simp [hh])
  exact crash_dsk2 h.jn.dk (h.jn.dk.old hk) (h.jn.dk.sep hk) (by omega) fun S' pv' v h1 h2 h3 => hq S' pv' _ v ⟨h1, g3, ⟨f, p, hM.stays h2 hsep⟩, h.new, fun x hx hh => hsep x hx (h3 x hh), ⟨k, g1, g2, rfl⟩, b2⟩ g4 h2 h3

/-- a crash of a disk that went down while it was wiped -/
theorem crash_half {S0 S S1 : AS} {d l n m safe : Nat} {pv pv1 rv kv : Value} {D D1 : Dk} {R Rm : List (List UInt8)} {keep : List Int} (h : CJ S0 S d l n pv D R m rv Rm safe) (h1 : Dsk S0 S1 d l n pv1 D1) (hh : Half D1 R) (hM : ∃ f p, MAt S1 m rv Rm safe f p) (hf : ∀ x ∈ fpOf d l n pv1, x ∈ fpOf d l n pv ∨ S.next ≤ x) (hk : Cs S0 kv (keep.map (.int .i64 ·))) (hpl : D1.pend.length ≤ 1000000000) {Q : En → AS → Prop}
    (hq : ∀ S' pv' v, CJ S0 S' d l n pv' (D1.crash keep) R m rv Rm safe → (D1.crash keep).last.length = D1.last.length → Same S1 S' (fpOf d l n pv1) → (∀ x ∈ fpOf d l n pv', x ∈ fpOf d l n pv1) → Q (.ret v) S') : Call G 12 [ptr d, kv] S1 Q := by
  obtain ⟨f0, p0, hM0⟩ := h.ma
  obtain ⟨f, p, hM⟩ := hM
  have hlt := hM0.fp_lt
  have hsep : ∀ x ∈ m :: ownsOf rv, x ∉ fpOf d l n pv1 := fun x hx hh => by
    rcases hf x hh with h2 | h2
    · exact h.sep x hx h2
    · have := hlt x hx; omega
  obtain ⟨g1, g2⟩ := half_crash hh (fun c hc => (h1.at_.u3 c hc).2) keep
  exact crash_dsk2 h1 (h1.old hk) (h1.sep hk) hpl fun S' pv' v h2 h3 h4 => hq S' pv' v ⟨h2, g1, ⟨f, p, hM.stays h3 hsep⟩, h.new, fun x hx hh => hsep x hx (h4 x hh), h.pre, h.many⟩ g2 h3 h4

set_option maxHeartbeats 8000000 in
set_option maxRecDepth 8000 in
theorem journal_walk {S : AS} {sectors : Int} {v : Value} {ops : List JOp} (hv : Ps S 4 v (ops.map JOp.cells)) (ho : ∀ o ∈ ops, o.OK S) (hlen : ops.length ≤ 9223372036854775807) :
    Call G 7 [.int .i64 sectors, v] S fun e _ => e = .ret (.bool true) := by
  refine call_run' (G := G) rfl (ext_none (by decide)) ?_
  obtain ⟨va, vc, rfl⟩ := hv.shape
  obtain ⟨k, hk, hkk⟩ := umod2000 sectors
  have hw : IntKind.i64.wrap (16 + (k : Int)) = 16 + (k : Int) := wrap64 (by omega) (by omega)
  have hcast : (16 + (k : Int)) = ((16 + k : Nat) : Int) := by omega
  simp
  refine light_ok (by simpa using hv) ho fun b => ?_
  rw [List.length_map] at hv
  cases b with
  | false =>
    simp
    refine journals_true ?_
    simp
  | true =>
    simp [hkk, hw]
    rw [hcast]
    refine newDisk_dsk (S0 := S) (k := 16 + k) (.refl _ _) (by omega) (by omega) fun S1 d l n H1 _ => ?_
    simp [placeIn]
    have hsT : Same S1 ((S1.bump 1).put S1.next (AObj.row [.slice none 0 0, .int .i64 0, .bool false, str []] 61 true true)) [] := ⟨by simp, fun x hx _ => by
      have : x ≠ S1.next := by omega
      simp [this]⟩
    have hM1 : MAt ((S1.bump 1).put S1.next (AObj.row [.slice none 0 0, .int .i64 0, .bool false, str []] 61 true true)) S1.next (.slice none 0 0) [] 0 false [] := ⟨by simp, .inl ⟨rfl, rfl⟩, by simp [ownsOf], by simp⟩
    have H1' := H1.stays hsT
    generalize ((S1.bump 1).put S1.next (AObj.row [.slice none 0 0, .int .i64 0, .bool false, str []] 61 true true)) = T1 at hsT hM1 H1' ⊢
    generalize hm : S1.next = m at hM1 ⊢
    have hmf : m ∉ fpOf d l n (.slice none 0 0) := fun hh => by have := H1.at_.fp_lt m hh; omega
    have hc := new_crashed (16 + k)
    obtain ⟨r1, r2⟩ := crashed_reads hc
    obtain ⟨e0, D1, w1, w2, w3, w4⟩ := crashed_open hc
    obtain ⟨he, hf⟩ := w3 (by simp)
    subst he
    refine opened_ok (R := []) H1' r1 r2 (by simp) rfl (.inl (by rw [w1])) hM1 (by simp [ownsOf]; have := H1.same.1; omega) (by simpa [ownsOf] using hmf) (by simp) (.inl ⟨rfl, rfl⟩) (fun S2 pv2 g1 => by rw [w1] at g1; simp at g1) (fun S2 pv2 rv2 j2 g1 g2 g3 g4 g5 g6 g7 => ?_)
    rw [w1] at g2
    rcases w4 with ⟨_, L2, hd2⟩ | ⟨h5, _⟩
    · have hl2 : D1.last.length = 16 + k := by rw [w2]; simp
      have P2 : PJ S S2 d l n pv2 j2 D1 [] m rv2 [] 0 := ⟨g2, ⟨_, _, g4⟩, fun x hx => by
        rcases List.mem_cons.1 hx with rfl | hx
        · have := H1.same.1; omega
        · have := (g7 x hx).1; have := H1'.same.1; omega, fun x hx => by
        rcases List.mem_cons.1 hx with rfl | hx
        · intro hh
          have hml := hM1.lt
          rcases List.mem_cons.1 hh with rfl | hh
          · omega
          · rcases g6 x hh with h1 | h1
            · exact hmf h1
            · omega
        · exact (g7 x hx).2⟩
      simp
      refine run_loop (fun kk a' S3 => ∃ i pv D Rs rv safe P j, ops.length - i = kk ∧ i ≤ ops.length ∧ PJ S S3 d l n pv j D Rs m rv Rs safe ∧ Live D Rs safe P ∧ D.last.length = 16 + k ∧
        Has a' 170 [(1, .slice va ops.length vc), (5, .int .i64 (16 + (k : Int))), (6, ptr d), (8, ptr m), (9, ptr j), (11, .int .i64 (i : Nat))]) _ ⟨0, pv2, D1, [], rv2, 0, [], j2, rfl, by omega, P2, L2, hl2, ⟨rfl, rfl, by simp⟩⟩ ?_
      rintro _ W hW _ S3 ⟨i, pv, D, Rs, rv, safe, P, j, rfl, hi, PJ3, L3, hl3, ha⟩
      obtain ⟨z, rfl⟩ := ha.lit
      by_cases hlt : i < ops.length
      · have hw1 : IntKind.i64.wrap ((i : Int) + 1) = ((i + 1 : Nat) : Int) := by rw [wrap64 (by omega) (by omega)]; rfl
        have hc : ops[i]? = some ops[i] := List.getElem?_eq_getElem hlt
        have hoo := ho ops[i] (by simp)
        generalize ops[i] = o at hc hoo
        obtain ⟨p, off, cells, e, wr, ex, e1, e2, e3, e4, e5, e6⟩ := hv.idx (by omega) (i := i) (j := .i64) (S' := S3) (l := o.cells) (by rw [List.getElem?_map, hc]; rfl)
        have e1' := idxE_any (S' := S3.bump 1) e1
        have e7 := (PJ3.jn.dk.same.2 p e3 (by simp)).trans e2
        obtain ⟨kind, data, nn, kv, keep⟩ := o
        have hnn := hoo.n
        have hke := hoo.keep
        simp only [JOp.cells] at e6 hnn hke
        obtain ⟨ka, kc, rfl⟩ := hke.shape
        rw [List.length_map] at hke e6
        have hne : p ≠ S3.next := by have := PJ3.jn.dk.same.1; omega
        simp [fillF, pickL, hlt, e1', e7, e6, rowStore, splice, hne]
        obtain ⟨f, pp, hM3⟩ := PJ3.ma
        have hfl3 := PJ3.jn.dk.at_.fp_lt
        have hml3 := hM3.fp_lt
        have hjl3 := PJ3.jn.lt
        have hsT3 : Same S3 (((S3.bump 1).put S3.next (AObj.row [.int .u8 0, str [], .int .i64 0, .slice none 0 0] 65 true true)).put S3.next (AObj.row [.int .u8 kind, str data, .int .i64 nn, .slice ka keep.length kc] 65 true true)) [] := ⟨by simp, fun x hx _ => by
          have : x ≠ S3.next := by omega
          simp [this]⟩
        have hb : (((S3.bump 1).put S3.next (AObj.row [.int .u8 0, str [], .int .i64 0, .slice none 0 0] 65 true true)).put S3.next (AObj.row [.int .u8 kind, str data, .int .i64 nn, .slice ka keep.length kc] 65 true true)).get S3.next = some (AObj.row [.int .u8 kind, str data, .int .i64 nn, .slice ka keep.length kc] 65 true true) := by simp
        have hbn : S3.next < (((S3.bump 1).put S3.next (AObj.row [.int .u8 0, str [], .int .i64 0, .slice none 0 0] 65 true true)).put S3.next (AObj.row [.int .u8 kind, str data, .int .i64 nn, .slice ka keep.length kc] 65 true true)).next := by simp
        refine cut_ifb (fun a' S4 => ∃ pv D Rs rv safe P j, PJ S S4 d l n pv j D Rs m rv Rs safe ∧ Live D Rs safe P ∧ D.last.length = 16 + k ∧
          Has a' 170 [(1, .slice va ops.length vc), (5, .int .i64 (16 + (k : Int))), (6, ptr d), (8, ptr m), (9, ptr j), (11, .int .i64 (i : Nat))]) (fun M hM' => ?_) ?_
        · have PJT := pj_same PJ3 hsT3
          have hbx : S3.next ∉ fpj d l n pv j m rv := fun hh => by have := pj_lt PJ3 _ hh; omega
          generalize (((S3.bump 1).put S3.next (AObj.row [.int .u8 0, str [], .int .i64 0, .slice none 0 0] 65 true true)).put S3.next (AObj.row [.int .u8 kind, str data, .int .i64 nn, .slice ka keep.length kc] 65 true true)) = T at hsT3 hb hbn PJT ⊢
          generalize S3.next = bx at hb hbn hbx ⊢
          obtain ⟨f, pp, hMT⟩ := PJT.ma
          by_cases k0 : kind.tmod 5 = 0
          · have htd : IntKind.i64.wrap ((16 + (k : Int)).tdiv 2) = (((16 + k) / 2 : Nat) : Int) := by
              rw [Int.tdiv_eq_ediv_of_nonneg (by omega), wrap64 (by omega) (by omega)]; omega
            obtain ⟨b1, b2, b3⟩ := live_pend PJT.jn.dk.at_ L3
            simp [k0, hb, htd]
            refine cost_ok hMT (by omega) L3.small ?_
            simp [hb]
            refine append2_ok (half := (16 + k) / 2) PJT L3 (by omega) fun S4 pv4 D4 Rs4 rv4 P4 PJ4 L4 hl4 hs4 hf4 => ?_
            simp
            exact hM' _ _ ⟨pv4, D4, Rs4, rv4, safe, P4, j, PJ4, L4, by omega, ⟨rfl, rfl, by simp⟩⟩
          by_cases k1 : kind.tmod 5 = 1
          · simp [k0, k1]
            refine sync_jn PJT.jn L3 (fun _ S4 pv4 D4 H4 L4 hd4 hl4 _ hs4 hf4 => ?_) (fun _ S4 pv4 D4 H4 L4 hd4 hl4 hs4 hf4 => ?_)
            · obtain ⟨g1, g2, g3⟩ := pj_disk PJT H4 (hs4.mono fun x hx _ => by simp [hx]) (fun x hx => .inl (hf4 x hx))
              obtain ⟨f4, p4, hM4⟩ := g1.ma
              have hln : ∀ S' : AS, lnE S' rv = .ret (.int .i64 Rs.length, S') := fun S' => by
                have := hM4.recs.ln (S' := S')
                rw [sing_len, List.length_map] at this
                exact this
              simp [undef, hM4.obj, hln, rowStore, splice]
              have hM5 : MAt (S4.put m (AObj.row [rv, .int .i64 Rs.length, .bool f4, str p4] 61 true true)) m rv Rs Rs.length f4 p4 := ⟨by simp, hM4.recs.stays (same_put _ _ _) fun x hx hh => hM4.apart (by simp at hh; subst hh; exact hx), hM4.apart, hM4.lt⟩
              obtain ⟨q1, q2, q3⟩ := pj_model g1 hM5 ((same_put _ _ _).mono (by simp)) fun x hx => .inl hx
              exact hM' _ _ ⟨pv4, D4, Rs, rv, Rs.length, [], j, q1, L4, by omega, ⟨rfl, rfl, by simp⟩⟩
            · obtain ⟨g1, g2, g3⟩ := pj_disk PJT H4 (hs4.mono fun x hx _ => by simp [hx]) (fun x hx => .inl (hf4 x hx))
              simp
              refine down_ok g1.jn.dk.at_ ?_
              simp [hd4]
              exact hM' _ _ ⟨pv4, D4, Rs, rv, safe, P, j, g1, L4, by omega, ⟨rfl, rfl, by simp⟩⟩
          by_cases k2 : kind.tmod 5 = 2
          · simp [k0, k1, k2, hb]
            refine stop_jn PJT.jn hnn fun S4 H4 hs4 => ?_
            obtain ⟨l1, l2, l3⟩ := live_stop L3 nn
            obtain ⟨g1, g2, g3⟩ := pj_disk PJT H4 (hs4.mono fun x hx _ => by simp [hx]) (fun x hx => .inl hx)
            simp
            exact hM' _ _ ⟨pv, _, Rs, rv, safe, P, j, g1, l1, l3.trans hl3, ⟨rfl, rfl, by simp⟩⟩
          by_cases k3 : kind.tmod 5 = 3
          · simp [k0, k1, k2, k3, hb]
            refine crash_pj PJT L3 hke fun S4 pv4 R4 cv4 C4 hl4 hs4 hf4 => ?_
            have hbf : bx ∉ fpOf d l n pv := fun hh => hbx (by simp [fpj, hh])
            have hbm : bx ∉ m :: ownsOf rv := fun hh => hbx (List.mem_append_right _ hh)
            have hb4 := (hs4.2 bx hbn hbf).trans hb
            have hbn4 : bx < S4.next := Nat.lt_of_lt_of_le hbn hs4.1
            simp [hb4]
            refine cut_if (fun a' S5 => ∃ pv D R rv Rm safe, CJ S S5 d l n pv D R m rv Rm safe ∧ D.fuse < 0 ∧ D.last.length = 16 + k ∧
              Has a' 170 [(1, .slice va ops.length vc), (5, .int .i64 (16 + (k : Int))), (6, ptr d), (8, ptr m), (11, .int .i64 (i : Nat))]) (fun N hN => ?_) ?_
            · by_cases hn0 : 0 < nn
              · have hw5 : IntKind.i64.wrap (nn - 1) = nn - 1 := wrap64 (by omega) (by omega)
                simp [hn0, hb4, hw5]
                refine stop_ok C4.dk.at_ (k := nn - 1) (by omega) fun S5 H5 hs5 => ?_
                obtain ⟨l1, l2⟩ := crashed_stop C4.cr (nn - 1)
                obtain ⟨f4, p4, hM4⟩ := C4.ma
                have hs5' : Same S4 S5 (fpOf d l n pv4) := hs5.mono (by simp [fpOf])
                have C5 : CJ S S5 d l n pv4 ((D.crash keep).stop (nn - 1)).2 R4 m rv Rs safe := ⟨C4.dk.next H5 hs5' fun x hx => .inl hx, l1, ⟨f4, p4, hM4.stays hs5' C4.sep⟩, C4.new, C4.sep, C4.pre, C4.many⟩
                have hbf4 : bx ∉ fpOf d l n pv4 := fun hh => hbf (hf4 bx hh)
                have hb5 := (hs5'.2 bx hbn4 hbf4).trans hb4
                have hbn5 : bx < S5.next := Nat.lt_of_lt_of_le hbn4 hs5.1
                simp
                refine opened_cj C5 (fun _ S6 pv6 D6 H6 hh6 hl6 hM6 hs6 hf6 => ?_) (fun S6 pv6 rv6 j6 D6 P6 L6 hl6 hj6 hs6 hf6 => ?_)
                · have hb6 := (hs6.2 bx hbn5 hbf4).trans hb5
                  have hbig6 := H6.at_.big
                  simp [hb6]
                  refine crash_half C5 H6 hh6 hM6 hf6 hke ?_ fun S7 pv7 v7 C7 hl7 hs7 hf7 => ?_
                  · have := hh6.few; omega
                  simp
                  exact hN _ _ ⟨pv7, _, R4, rv, Rs, safe, C7, by simp [Dk.crash], by omega, ⟨rfl, rfl, by simp⟩⟩
                · have hb6 := (hs6.2 bx hbn5 (by simp; exact ⟨fun hh => hbm (by simp [hh]), hbf4⟩)).trans hb5
                  simp [hb6]
                  refine crash_pj P6 L6 hke fun S7 pv7 R7 v7 C7 hl7 hs7 hf7 => ?_
                  simp
                  exact hN _ _ ⟨pv7, _, R7, rv6, R4, R4.length, C7, by simp [Dk.crash], by omega, ⟨rfl, rfl, by simp⟩⟩
              · simp [hn0]
                exact hN _ _ ⟨pv4, _, R4, rv, Rs, safe, C4, by simp [Dk.crash], by omega, ⟨rfl, rfl, by simp⟩⟩
            · rintro _ S5 ⟨pv5, D5, R5, rv5, Rm5, safe5, C5, hf5, hl5, ha5⟩
              obtain ⟨y, rfl⟩ := ha5.lit
              simp [fillF, pickL]
              refine opened_cj C5 (fun hh => absurd hf5 hh) (fun S6 pv6 rv6 j6 D6 P6 L6 hl6 hj6 hs6 hf6 => ?_)
              simp
              exact hM' _ _ ⟨pv6, D6, R5, rv6, R5.length, [], j6, P6, L6, by omega, ⟨rfl, rfl, by simp⟩⟩
          · simp [k0, k1, k2, k3]
            refine down_ok PJT.jn.dk.at_ ?_
            by_cases hd : D.down = true
            · simp [hd]
              exact hM' _ _ ⟨pv, D, Rs, rv, safe, P, j, PJT, L3, hl3, ⟨rfl, rfl, by simp⟩⟩
            · rw [Bool.not_eq_true] at hd
              have hP := L3.whole hd
              subst hP
              obtain ⟨b1, b2, b3⟩ := live_pend PJT.jn.dk.at_ L3
              obtain ⟨r3, r4⟩ := live_reads L3
              obtain ⟨e5, D5, x1, x2, x3, x4⟩ := live_flush L3
              simp [hd]
              refine opened_ok PJT.jn.dk r3 b3 b1 hd (by
                rw [r4, x1]
                rcases x4 with ⟨rfl, _⟩ | ⟨rfl, _, hdd⟩
                · exact .inl rfl
                · exact .inr ⟨rfl, hdd⟩) hMT PJT.new (fun x hx hh => PJT.sep x hx (by simp [hh])) b2 (.inl ⟨rfl, rfl⟩) (fun S4 pv4 g1 g2 g3 g4 g5 => ?_) (fun S4 pv4 rv4 j4 g1 g2 g3 g4 g5 g6 g7 => ?_)
              · rw [r4, x1] at g1 g2
                simp only [] at g1
                subst g1
                rcases x4 with ⟨h5, _⟩ | ⟨_, hl5, hdd⟩
                · cases h5
                · have hJ4 : Jn S S4 d l n pv4 j D5 Rs := ⟨g2, (g4.2 j PJT.jn.lt PJT.jn.apart).trans PJT.jn.jr, PJT.jn.new, Nat.lt_of_lt_of_le PJT.jn.lt g4.1, fun hh => by
                    rcases g5 j hh with h6 | h6
                    · exact PJT.jn.apart h6
                    · have := PJT.jn.lt; omega⟩
                  obtain ⟨q1, q2, q3⟩ := pj_disk PJT hJ4 (g4.mono fun x hx _ => by simp [hx]) g5
                  simp
                  exact hM' _ _ ⟨pv4, D5, Rs, rv, safe, [], j, q1, hl5, by omega, ⟨rfl, rfl, by simp⟩⟩
              · rw [r4, x1] at g1 g2
                simp only [] at g1
                subst g1
                rcases x4 with ⟨_, _, hl5, hdd⟩ | ⟨h5, _⟩
                · have q1 : PJ S S4 d l n pv4 j4 D5 Rs m rv4 Rs Rs.length := ⟨g2, ⟨_, _, g4⟩, fun x hx => by
                    rcases List.mem_cons.1 hx with rfl | hx
                    · exact PJT.new _ (by simp)
                    · have := (g7 x hx).1; have := PJT.jn.dk.same.1; omega, fun x hx => by
                    rcases List.mem_cons.1 hx with rfl | hx
                    · intro hh
                      have hml := hMT.lt
                      rcases List.mem_cons.1 hh with rfl | hh
                      · omega
                      · rcases g6 x hh with h1 | h1
                        · exact PJT.sep x (by simp) (by simp [h1])
                        · omega
                    · exact (g7 x hx).2⟩
                  simp
                  exact hM' _ _ ⟨pv4, D5, Rs, rv4, Rs.length, [], j4, q1, hl5, by omega, ⟨rfl, rfl, by simp⟩⟩
                · cases h5
        · rintro _ S4 ⟨pv4, D4, Rs4, rv4, safe4, P4, j4, PJ4, L4, hl4, ha4⟩
          obtain ⟨y, rfl⟩ := ha4.lit
          obtain ⟨f4, p4, hM4⟩ := PJ4.ma
          have hln : ∀ S' : AS, lnE S' rv4 = .ret (.int .i64 Rs4.length, S') := fun S' => by
            have := hM4.recs.ln (S' := S')
            rw [sing_len, List.length_map] at this
            exact this
          simp [fillF, pickL, hM4.obj, hln]
          refine len_ok PJ4.jn.jr ?_
          simp [hM4.obj, hw1]
          exact hW _ _ _ (by omega) ⟨i + 1, pv4, D4, Rs4, rv4, safe4, P4, j4, rfl, by omega, PJ4, L4, hl4, ⟨rfl, rfl, by simp⟩⟩
      · obtain rfl : i = ops.length := by omega
        simp [fillF, pickL]
        refine journals_true ?_
        simp
    · cases h5
end Go.Gx.Y

/-
  PostJournal: the row.
-/
namespace Go.Proofs.Ytegjacoooihpgaa
open Go.Gx Go.Gx.Y Go.Proofs
open Go.ChangeShapes Go.WideShapes Go.ChangeAt Go.RowKit
set_option maxRecDepth 100000
set_option linter.all false

theorem u57 : Try.prog.underlying 57 = some (.slice 65) := by kernel_rfl
theorem u9 : Try.prog.underlying 9 = some .string := by kernel_rfl
theorem n9 : Try.prog.cellsOf 9 = 1 := by kernel_rfl
theorem u32 : Try.prog.underlying 32 = some (.slice 3) := by kernel_rfl
theorem n3 : Try.prog.cellsOf 3 = 1 := by kernel_rfl
theorem n32 : Try.prog.cellsOf 32 = 1 := by kernel_rfl
theorem n65 : Try.prog.cellsOf 65 = 4 := by kernel_rfl
theorem fields65 : fieldsAt Try.prog 65 = [(5, 0), (9, 1), (3, 2), (32, 3)] := by kernel_rfl

theorem ty_ints {S : AS} {d : Nat} {v : Value} (hS : S.Valid) (h : Ty Try.prog S (d + 2) 32 [v]) : ∃ ks : List Int, Cs S v (ks.map (.int .i64 ·)) ∧ ∀ k ∈ ks, -9223372036854775808 ≤ k ∧ k ≤ 9223372036854775807 := by
  obtain ⟨cs, g1, g2, g3⟩ := ty_slice1 u32 n3 hS h
  obtain ⟨ks, rfl, hks⟩ := ints_of fun c hc => ty_int u3 (g3 c hc)
  exact ⟨ks, g1, hks⟩

theorem ty_jop {S : AS} {d : Nat} {cs : List Value} (hS : S.Valid) (h : Ty Try.prog S (d + 3) 65 cs) : ∃ o : JOp, cs = o.cells ∧ o.OK S := by
  obtain ⟨hl, hf⟩ := ty_struct fields65 (by simp) h
  rw [n65] at hl
  match cs, hl with
  | [c0, c1, c2, c3], _ =>
    have f0 := hf (5, 0) (by simp)
    have f1 := hf (9, 1) (by simp)
    have f2 := hf (3, 2) (by simp)
    have f3 := hf (32, 3) (by simp)
    simp only [n5, n9, n3, n32] at f0 f1 f2 f3
    obtain ⟨kind, rfl, hk⟩ := ty_int u5 f0
    obtain ⟨data, rfl, hd⟩ := ty_str u9 f1
    obtain ⟨n, rfl, hn⟩ := ty_int u3 f2
    obtain ⟨keep, hke, _⟩ := ty_ints hS f3
    exact ⟨⟨kind, data, n, c3, keep⟩, rfl, hke, wf_u8 hk, wf_i64 hn⟩

theorem journal_law (S : AS) (vs : List Value) (hS : S.Valid) (h : TyArgs Try.prog S 5 [3, 57] vs) : Gx.Call G 7 vs S fun e _ => e = .ret (.bool true) := by
  obtain ⟨v0, _, rfl, h0, h⟩ := tyArgs_cons h
  obtain ⟨v1, _, rfl, h1, h⟩ := tyArgs_cons h
  obtain rfl := tyArgs_nil h
  obtain ⟨n0, rfl, _⟩ := ty_int u3 (tyV_int u3 h0)
  obtain ⟨ls, hp, hml, hls⟩ := ty_slice u57 n65 (by omega) hS (tyV_slice u57 h1)
  obtain ⟨ops, rfl, hops⟩ := map_of fun l hl => ty_jop hS (hls l hl)
  exact journal_walk hp hops (by rw [List.length_map] at hml; exact hml)

theorem journal_lifted (os : Os) (started : os.Started) (H : Type) (enc : TypeId × Value → H) :
    ReturnsInHanded {} Try.checked os 7 .any (Rows.postJournalSpec.pre6 enc Try.prog Try.f7 Rows.postJournalRow.domain false) (Rows.postJournalSpec.post enc Try.prog Try.f7 false true false false) :=
  law_returns (C := Try.checked) (G := G) (d := 5) (ts := [3, 57]) (tb := 4) tabOK extOK mixed started own (by kernel_rfl) Try.func7
    (ChangeSpec.witness6 (enc := enc) (C := Try.checked) false ⟨#[], #[.int .i64 0, .slice none 0 0], []⟩ 8 (by kernel_rfl) (by kernel_rfl) (by kernel_rfl) (by kernel_rfl))
    laidOut rfl (by kernel_rfl) ub3 (by kernel_rfl) (by
      intro t ht
      simp only [List.mem_cons, List.not_mem_nil, or_false] at ht
      rcases ht with rfl | rfl <;> exact ⟨by kernel_rfl, of_decide_eq_true (by kernel_rfl), by kernel_rfl⟩)
    (by
      intro ds hl
      match ds, hl with
      | [_, _], _ => exact ⟨rfl, rfl, rfl⟩)
    journal_law

theorem journal_holds : Rows.PostJournalSaid :=
  OpenClaim.holds_of_wide 7 Try.f7 rfl rfl rfl rfl rfl rfl rfl ⟨rfl, rfl, rfl, rfl, rfl⟩ rfl rfl rfl rfl rfl (by kernel_rfl) Try.func7 (by kernel_rfl)
    (of_decide_eq_true (by kernel_rfl)) (by unfold Func.isWrapper; first | (rw [if_pos (by decide +kernel)]; kernel_rfl) | (rw [if_neg (by decide +kernel)]; exact ⟨rfl, rfl⟩))
    (fun os started H enc _ => journal_lifted os started H enc)
#print axioms journal_holds
end Go.Proofs.Ytegjacoooihpgaa
