/-
  PostPrefix returns true for every list of records, every two numbers and every two lists of kept bytes, and its arguments read as before. No condition.
-/
import Derived.Test.YtegjacoooihpgaaPf
import Derived.Test.YtegjacoooihpgaaPc
import Derived.Test.YtegjacoooihpgaaGg
import Derived.Test.YtegjacoooihpgaaPb

set_option linter.all false
set_option linter.deprecated false
set_option linter.unusedSimpArgs false
set_option linter.unusedVariables false

/-
  PostRoom: the walk.
-/
namespace Go.Gx.Y
open Go.Gx
set_option linter.all false

theorem journals_true {S : AS} {Q : En → AS → Prop} (hq : Q (.ret (.bool true)) S) : Call G 21 [] S Q := call_ext (show G.ext 21 [] = some (.bool true) from extOf_some (k := 21) (ks := [8, 21]) (by decide)) hq

theorem umod2000 (n : Int) : ∃ k : Nat, k < 2000 ∧ IntKind.i64.wrap ((IntKind.u64.wrap n).tmod 2000) = (k : Int) := by
  have h : 0 ≤ IntKind.u64.wrap n := by
    simp only [IntKind.wrap, IntKind.bits, IntKind.signed]
    simp
    omega
  refine ⟨((IntKind.u64.wrap n).tmod 2000).toNat, ?_, ?_⟩
  · rw [Int.tmod_eq_emod_of_nonneg h]; omega
  · rw [Int.tmod_eq_emod_of_nonneg h, wrap64 (by omega) (by omega)]; omega

def D0 (k : Nat) : Dk := ⟨List.replicate k zero64, List.replicate k zero64, [], false, -1⟩

/-- a new disk is opened -/
theorem open_new {S0 S : AS} {d l n k : Nat} {pv : Value} (h : Dsk S0 S d l n pv (D0 k)) {Q : En → AS → Prop}
    (hok : ∀ S' pv' lv j D, Jn S0 S' d l n pv' j D [] → Live D [] 0 [] → D.down = false → D.fuse = -1 → D.last.length = k → SlAt S' 9 lv (sing ([].map str)) → S.next ≤ j → Same S S' (fpOf d l n pv) → Q (.ret (.tuple #[ptr j, lv, .int .i64 0])) S') : Call G 18 [ptr d] S Q := by
  have hc := new_crashed k
  obtain ⟨r1, r2⟩ := crashed_reads hc
  obtain ⟨e, D', k1, k2, k3, k4⟩ := crashed_open hc
  obtain ⟨he, hf⟩ := k3 (by simp)
  subst he
  have hlen : D'.last.length = k := by rw [k2]; simp
  refine open_dsk (R := []) h r1 r2 (by simp [D0]) rfl (fun S' pv' h1 => ?_) (fun S' pv' lv j h1 h2 h3 h4 h5 h6 h7 => ?_)
  · exact absurd (by show (Dk.wipe _ _ (D0 k)).1 = 0; rw [show D0 k = ⟨List.replicate k zero64, List.replicate k zero64, [], false, -1⟩ from rfl, k1]) h1
  · have e2 : (Dk.wipe ((D0 k).now.length - (encAll []).length) (encAll []).length (D0 k)).2 = D' := by
      rw [show D0 k = ⟨List.replicate k zero64, List.replicate k zero64, [], false, -1⟩ from rfl, k1]
    rw [e2] at h2
    rcases k4 with ⟨_, hl, hd⟩ | ⟨h8, _⟩
    · exact hok S' pv' lv j D' h2 hl hd hf hlen h4 h3 h6
    · cases h8

theorem many_cost (n : Nat) : manyOf n ≤ 1 + n / 32 := by unfold manyOf; omega

set_option maxHeartbeats 2000000 in
set_option maxRecDepth 8000 in
theorem room_walk {S : AS} {sectors : Int} {v : Value} {data : List (List UInt8)} (hv : Cs S v (data.map str)) (hdl : ∀ s ∈ data, s.length ≤ 9223372036854775807) (hdn : data.length ≤ 9223372036854775807) : Call G 5 [.int .i64 sectors, v] S fun e _ => e = .ret (.bool true) := by
  refine call_run' (G := G) rfl (ext_none (by decide)) ?_
  obtain ⟨k, hk, hkk⟩ := umod2000 sectors
  have hw : IntKind.i64.wrap (16 + (k : Int)) = 16 + (k : Int) := wrap64 (by omega) (by omega)
  obtain ⟨va, vc, rfl⟩ := hv.shape
  simp [hkk, hw]
  have hcast : (16 + (k : Int)) = ((16 + k : Nat) : Int) := by omega
  rw [hcast]
  refine newDisk_dsk (S0 := S) (k := 16 + k) (.refl _ _) (by omega) (by omega) fun S1 d l n H1 _ => ?_
  simp
  refine open_new (k := 16 + k) H1 fun S2 pv2 lv2 j D2 H2 L2 hd2 hf2 hl2 _ _ _ => ?_
  have htd : IntKind.i64.wrap ((16 + (k : Int)).tdiv 2) = (((16 + k) / 2 : Nat) : Int) := by
    rw [Int.tdiv_eq_ediv_of_nonneg (by omega), wrap64 (by omega) (by omega)]; omega
  simp [htd]
  refine cut_block (fun a' S3 => ∃ Rs wv pv D, Jn S S3 d l n pv j D Rs ∧ Live D Rs 0 [] ∧ D.down = false ∧ D.fuse = -1 ∧ SlAt S3 9 wv (sing (Rs.map str)) ∧ (∀ x ∈ ownsOf wv, S.next ≤ x ∧ x ∉ fpOf d l n pv ∧ x ≠ j) ∧ Has a' 122 [(6, ptr d), (8, ptr j), (12, wv)]) (fun M hM => ?_) ?_
  refine run_loop (fun kk a' S3 => ∃ i left Rs wv pv D, data.length - i = kk ∧ i ≤ data.length ∧ i ≤ 2000 ∧ Jn S S3 d l n pv j D Rs ∧ Live D Rs 0 [] ∧ D.down = false ∧ D.fuse = -1 ∧ D.last.length = 16 + k ∧ (encAll Rs).length + left ≤ (16 + k) / 2 ∧ SlAt S3 9 wv (sing (Rs.map str)) ∧ (∀ x ∈ ownsOf wv, S.next ≤ x ∧ x ∉ fpOf d l n pv ∧ x ≠ j) ∧
    Has a' 122 [(1, .slice va data.length vc), (6, ptr d), (8, ptr j), (11, .int .i64 left), (12, wv), (13, .int .i64 i)]) _
    ⟨0, (16 + k) / 2, [], .slice none 0 0, pv2, D2, rfl, by omega, by omega, H2, L2, hd2, hf2, hl2, by simp [encAll], .inl ⟨rfl, rfl⟩, by simp [ownsOf], ⟨rfl, rfl, by simp⟩⟩ ?_
  rintro _ R hR _ S3 ⟨i, left, Rs, wv, pv, D, rfl, hi, hi2, H, L, hd, hf, hl, hcost, hwv, hwo, ha⟩
  obtain ⟨z, rfl⟩ := ha.lit
  have hv3 := H.dk.old hv
  obtain ⟨b1, b2, b3⟩ := live_pend H.dk.at_ L
  by_cases hlt : i < data.length ∧ i < 2000
  · obtain ⟨hlt, hlt2⟩ := hlt
    have hlt2' : (i : Int) < 2000 := by omega
    have hw1 : IntKind.i64.wrap ((i : Int) + 1) = ((i + 1 : Nat) : Int) := by rw [wrap64 (by omega) (by omega)]; rfl
    obtain ⟨p, o, cells, e, wr, ex, e1, e2, e3, e4, e5⟩ := hv3.idx (i := i) (j := .i64) (S' := S3) (by simpa using hlt)
    simp only [List.length_map, List.getElem_map] at e1 e5
    have hsl := hdl data[i] (by simp)
    generalize data[i] = s at e5 hsl
    by_cases h20 : 20000 < s.length
    · have h20' : (20000 : Int) < s.length := by omega
      simp [fillF, pickL, hlt, hlt2, hlt2', e1, e2, e5, h20, h20', hw1]
      exact hR _ _ _ (by omega) ⟨i + 1, left, Rs, wv, pv, D, rfl, by omega, by omega, H, L, hd, hf, hl, hcost, hwv, hwo, ⟨rfl, rfl, by simp⟩⟩
    · have h20' : ¬ (20000 : Int) < s.length := by omega
      have hq1 : IntKind.i64.wrap ((s.length : Int) / 32) = ((s.length / 32 : Nat) : Int) := by
        rw [wrap64 (by omega) (by omega)]; omega
      have hq2 : IntKind.i64.wrap (1 + ((s.length / 32 : Nat) : Int)) = ((1 + s.length / 32 : Nat) : Int) := by
        rw [wrap64 (by omega) (by omega)]; omega
      generalize hcs : s.length / 32 = c at hq1 hq2
      have hcl : manyOf s.length ≤ 1 + c := by rw [← hcs]; exact many_cost _
      by_cases hleft : left < 1 + c
      · have hleft' : (left : Int) < 1 + (c : Int) := by omega
        simp [fillF, pickL, hlt, hlt2, hlt2', e1, e2, e5, h20, h20', hq1, hq2, hleft, hleft', hw1]
        exact hR _ _ _ (by omega) ⟨i + 1, left, Rs, wv, pv, D, rfl, by omega, by omega, H, L, hd, hf, hl, hcost, hwv, hwo, ⟨rfl, rfl, by simp⟩⟩
      · have hleft' : ¬ (left : Int) < 1 + (c : Int) := by omega
        have hq3 : IntKind.i64.wrap ((left : Int) - 1) = (left : Int) - 1 := wrap64 (by omega) (by omega)
        have hq4 : IntKind.i64.wrap ((left : Int) - 1 - (c : Int)) = ((left - 1 - c : Nat) : Int) := by
          rw [wrap64 (by omega) (by omega)]; omega
        simp [fillF, pickL, hlt, hlt2, hlt2', e1, e2, e5, h20, h20', hq1, hq2, hq3, hq4, hleft, hleft']
        refine append_jn H L hd (by omega) (fun S4 pv4 D4 H4 L4 hd4 hl4 hf4 hs4 hfp4 => ?_) (fun hh => absurd (by rw [hf]; decide) hh) (fun hh => absurd hh (by omega))
        have hn34 := hs4.1
        have hwlt := hwv.owns_lt
        have hwv4 := hwv.stays hs4 fun x hx hh => by
          rcases List.mem_cons.1 hh with h1 | h1
          · exact (hwo x hx).2.2 h1
          · exact (hwo x hx).2.1 h1
        have hwo4 : ∀ x ∈ ownsOf wv, S.next ≤ x ∧ x ∉ fpOf d l n pv4 ∧ x ≠ j := fun x hx => ⟨(hwo x hx).1, fun hh => by
          rcases hfp4 x hh with h1 | h1
          · exact (hwo x hx).2.1 h1
          · have := hwlt x hx; omega, (hwo x hx).2.2⟩
        have e24 := (H4.dk.same.2 p (by have := hv.lt p e4; omega) (by simp)).trans ((H.dk.same.2 p (hv.lt p e4) (by simp)).symm.trans e2)
        have e1' := idxE_any (S' := S4.bump 2) e1
        simp [e1', e24, e5, placeIn, splice]
        have hnn : S4.next ≠ p := by have := hv.lt p e4; have := H4.dk.same.1; omega
        have hsT : Same S4 ((S4.bump 2).put S4.next (AObj.row [str s] 9 true true)) [] := ⟨by simp, fun x hx _ => by
          have : x ≠ S4.next := by omega
          simp [this]⟩
        have hTc : ((S4.bump 2).put S4.next (AObj.row [str s] 9 true true)).get S4.next = some (AObj.row [str s] 9 true true) := by simp
        have hTn : ((S4.bump 2).put S4.next (AObj.row [str s] 9 true true)).next = S4.next + 2 := by simp
        generalize ((S4.bump 2).put S4.next (AObj.row [str s] 9 true true)) = T at hsT hTc hTn ⊢
        have hwlt4 := hwv4.owns_lt
        refine runT_ex (appV_cells (ds := [str s]) (cs := Rs.map str) (hwv4.stays hsT (by simp)) (by simp [srcCells, hTc]) (by simp) (by simp; omega) (by omega) (by omega) (fun hh => by have := hwlt4 _ hh; omega)) fun wv5 S5 ⟨g1, g2, g3, g4⟩ => ?_
        simp [hw1]
        have hS5 : Same S4 S5 (ownsOf wv) := hsT.mono (by simp) |>.trans g2 fun x hx hl => by
          rcases List.mem_cons.1 hx with rfl | hx
          · omega
          · exact hx
        have hfl4 := H4.dk.at_.fp_lt
        have hH5 : Jn S S5 d l n pv4 j D4 (Rs ++ [s]) := by
          have h1 : ∀ m ∈ fpOf d l n pv4, m ∉ ownsOf wv := fun m hm hh => (hwo4 m hh).2.1 hm
          refine ⟨⟨H4.dk.at_.stays hS5 h1, H4.dk.same.trans hS5 fun m hm hl => absurd (hwo m hm).1 (by omega), H4.dk.new⟩, (hS5.2 j H4.lt fun hh => (hwo j hh).2.2 rfl).trans H4.jr, H4.new, Nat.lt_of_lt_of_le H4.lt hS5.1, H4.apart⟩
        have hal : encAll (Rs ++ [s]) = encAll Rs ++ enc s := by rw [encAll_app]; simp [encAll]
        refine hR _ _ _ (by omega) ⟨i + 1, left - 1 - c, Rs ++ [s], wv5, pv4, D4, rfl, by omega, by omega, hH5, L4, hd4, by rw [hf4 (by omega), hf], by omega, by rw [hal, List.length_append, enc_len]; omega, by simpa using g1, fun x hx => ?_, ⟨rfl, rfl, by simp⟩⟩
        rcases g4 x hx with h1 | h1
        · exact hwo4 x h1
        · subst h1
          refine ⟨by have := H4.dk.same.1; omega, fun hh => by have := hfl4 _ hh; omega, fun hh => by have := H4.lt; omega⟩
  · have hfin : ∀ a', Has a' 122 [(6, ptr d), (8, ptr j), (12, wv)] → M a' S3 := fun a' ha' => hM _ _ ⟨Rs, wv, pv, D, H, L, hd, hf, hwv, hwo, ha'⟩
    by_cases h1 : i < data.length
    · have h2 : ¬ i < 2000 := fun hh => hlt ⟨h1, hh⟩
      have h2' : ¬ (i : Int) < 2000 := by omega
      simp [fillF, pickL, h1, h2, h2']
      exact hfin _ ⟨rfl, rfl, by simp⟩
    · simp [fillF, pickL, h1]
      exact hfin _ ⟨rfl, rfl, by simp⟩
  rintro _ S3 ⟨Rs, wv, pv, D, H, L, hd, hf, hwv, hwo, ha⟩
  obtain ⟨z, rfl⟩ := ha.lit
  simp [fillF, pickL]
  refine sync_jn H L (fun _ S4 pv4 D4 H4 L4 hd4 hl4 hf4 hs4 hfp4 => ?_) (fun hh => absurd ⟨hd, by rw [hf]; decide⟩ hh)
  have hwv4 := hwv.stays hs4 fun x hx hh => (hwo x hx).2.1 hh
  simp
  obtain ⟨b1, b2, b3⟩ := live_pend H4.dk.at_ L4
  refine crash_dsk2 (keep := []) H4.dk ⟨⟨none, 0, rfl⟩, rfl, by simp [ownsOf]⟩ (by simp [ownsOf]) (by omega) fun S5 pv5 cv H5 hs5 hfp5 => ?_
  obtain ⟨k5, hk1, hk2, hC, hCl⟩ := crash_live L4 (fun x hx => (H4.dk.at_.u3 x hx).1) []
  obtain rfl : k5 = Rs.length := by omega
  rw [List.take_length] at hC
  have hwv5 := hwv4.stays hs5 fun x hx hh => (hwo x hx).2.1 (hfp4 x hh)
  simp
  obtain ⟨r1, r2⟩ := crashed_reads hC
  obtain ⟨e, D6, c1, c2, c3, c4⟩ := crashed_open hC
  obtain ⟨he, _⟩ := c3 (by simp [Dk.crash])
  subst he
  refine open_dsk H5 r1 r2 (by simp [Dk.crash]) rfl (fun S6 pv6 h1 => absurd (by rw [c1]) h1) (fun S6 pv6 lv j6 h1 H6 hj6 hlv6 hlo6 hs6 hfp6 => ?_)
  simp
  refine journals_true ?_
  have hwv6 := hwv5.stays hs6 fun x hx hh => (hwo x hx).2.1 (hfp4 x (hfp5 x hh))
  simp
  refine same_ok (slAt_cs hlv6) (slAt_cs hwv6) (by omega) ?_
  simp
end Go.Gx.Y

/-
  PostPrefix: slices of arguments, stopping.
-/
namespace Go.Gx
/-- a slice that may be sliced anew -/
structure Ws (S : AS) (v : Value) (cs : List Value) : Prop where
  read : Cs S v cs
  cap : ∃ a cap, v = .slice a cs.length cap ∧ cs.length ≤ cap
  ex : ∀ b ∈ ownsOf v, ∃ cells e wr, S.get b = some (.row cells e wr true)

theorem Ws.stays {S S' : AS} {v : Value} {cs : List Value} (h : Ws S v cs) {fp : List Nat} (hs : Same S S' fp) (hd : ∀ m ∈ ownsOf v, m ∉ fp) : Ws S' v cs :=
  ⟨h.read.stays hs hd, h.cap, fun b hb => by
    obtain ⟨cells, e, wr, h1⟩ := h.ex b hb
    exact ⟨cells, e, wr, (hs.2 b (h.read.lt b hb) (hd b hb)).trans h1⟩⟩

theorem Ws.take {S : AS} {v : Value} {cs : List Value} (h : Ws S v cs) {elem : TypeId} {k : Nat} (hk : k ≤ cs.length) : ∃ v', slcE S elem 1 none (some (.int .i64 k)) none v = .ret (v', S) ∧ Cs S v' (cs.take k) := by
  obtain ⟨a, cap, rfl, hcap⟩ := h.cap
  have hl : (cs.take k).length = k := by simp; omega
  have hb : bndsV cs.length cap none (some (.int .i64 (k : Int))) none = some (0, k, cap) := by
    unfold bndsV
    have : bndV (.int .i64 (k : Int)) cap = some k := by
      unfold bndV
      simp only []
      rw [if_pos ⟨by omega, by omega⟩]
      rfl
    simp [this]
  have hc := h.read.cells
  match a, hc with
  | none, hc =>
    simp [srcCells] at hc
    have h0 : cs = [] := hc.2
    subst h0
    simp at hk
    subst hk
    refine ⟨.slice none 0 cap, ?_, ⟨⟨none, cap, rfl⟩, rfl, by simp [ownsOf]⟩⟩
    simp at hb
    simp [hb]
  | some ⟨b, o, some s⟩, hc =>
    simp only [srcCells] at hc
    split at hc
    · rename_i h0
      have h0' : cs = [] := List.length_eq_zero_iff.1 h0
      subst h0'
      simp at hk
      subst hk
      refine ⟨.slice (some ⟨b, o, some s⟩) 0 0, ?_, ⟨⟨_, 0, rfl⟩, by simp [srcCells], by simp [ownsOf]⟩⟩
      simp at hb
      simp [hb]
    · simp at hc
  | some ⟨b, o, none⟩, hc =>
    obtain ⟨cells, e, wr, h1⟩ := h.ex b (by simp [ownsOf])
    refine ⟨.slice (some ⟨b, o, none⟩) k cap, by simp [hb, h1], ⟨⟨some ⟨b, o, none⟩, cap, by rw [hl]⟩, ?_, fun x hx => h.read.lt x (by simpa [ownsOf] using hx)⟩⟩
    rw [hl]
    simp only [srcCells, Nat.mul_one, h1] at hc ⊢
    split
    · rename_i h0; subst h0; simp
    · rename_i h0
      rw [if_neg (by omega)] at hc
      split at hc
      · rename_i hle
        simp only [Option.some.injEq, Prod.mk.injEq, true_and] at hc
        rw [if_pos (by omega)]
        simp only [Option.some.injEq, Prod.mk.injEq, true_and]
        conv => rhs; rw [← hc]
        rw [List.take_take, Nat.min_eq_left hk]
      · simp at hc

theorem ty_ws {P : Program} {S : AS} {d : Nat} {t e : TypeId} {v : Value} (hu : P.underlying t = some (.slice e)) (h1 : P.cellsOf e = 1) (hv : S.Valid) (h : Ty P S (d + 1) t [v]) :
    ∃ cs, Ws S v cs ∧ cs.length ≤ maxLen ∧ (∀ c ∈ cs, Ty P S d e [c]) := by
  have h0 := h
  obtain ⟨cs, g1, g2, g3⟩ := ty_slice1 hu h1 hv h
  refine ⟨cs, ⟨g1, ?_, ?_⟩, g2, g3⟩
  · obtain ⟨a, cap, rfl⟩ := g1.shape
    unfold Ty at h0
    rw [hu] at h0
    simp only [List.cons.injEq, and_true] at h0
    refine ⟨a, cap, rfl, ?_⟩
    rcases h0 with h0 | h0 | ⟨n, len, cap', cells, et, h0, _, h3, _⟩
    · simp only [Value.slice.injEq] at h0; omega
    · simp only [zsl, Value.slice.injEq] at h0; omega
    · simp only [Value.slice.injEq] at h0; omega
  · intro b hb
    unfold Ty at h0
    rw [hu] at h0
    simp only [List.cons.injEq, and_true] at h0
    rcases h0 with rfl | rfl | ⟨n, len, cap', cells, et, rfl, h2, _⟩
    · simp [ownsOf] at hb
    · simp [ownsOf, zsl] at hb
    · simp [ownsOf] at hb
      subst hb
      exact ⟨cells, et, false, h2⟩
end Go.Gx

namespace Go.Gx.Y
open Go.Gx
set_option linter.all false

theorem stop_jn {S0 S : AS} {d l n j : Nat} {pv : Value} {D : Dk} {Rs : List (List UInt8)} (h : Jn S0 S d l n pv j D Rs) {k : Int} (hk : -9223372036854775808 ≤ k ∧ k ≤ 9223372036854775807) {Q : En → AS → Prop}
    (hq : ∀ S', Jn S0 S' d l n pv j (D.stop k).2 Rs → Same S S' (fpOf d l n pv) → Q (.ret (.int .i64 (D.stop k).1)) S') : Call G 23 [ptr d, .int .i64 k] S Q :=
  stop_ok h.dk.at_ hk fun S' h1 h2 => by
    have h2' : Same S S' (fpOf d l n pv) := h2.mono (by simp [fpOf])
    exact hq S' ⟨h.dk.next h1 h2' fun x hx => .inl hx, (h2'.2 j h.lt h.apart).trans h.jr, h.new, Nat.lt_of_lt_of_le h.lt h2.1, h.apart⟩ h2'

def cost1 (l : List (List UInt8)) : Nat := (l.map fun s => 32 + s.length).sum
theorem cost1_app (l : List (List UInt8)) (s : List UInt8) : cost1 (l ++ [s]) = cost1 l + 32 + s.length := by simp [cost1]; omega
theorem cost1_enc : ∀ (l : List (List UInt8)), 32 * (encAll l).length ≤ cost1 l
  | [] => by simp [encAll, cost1]
  | s :: l => by
    have ih := cost1_enc l
    have := many_cost s.length
    rw [encAll_cons, List.length_append, enc_len]
    simp only [cost1, List.map_cons, List.sum_cons] at ih ⊢
    omega
theorem cost1_take : ∀ (l : List (List UInt8)) (i : Nat), cost1 (l.take i) ≤ cost1 l
  | [], i => by simp [cost1]
  | s :: l, 0 => by simp [cost1]
  | s :: l, i + 1 => by
    have := cost1_take l i
    simp only [cost1, List.take_succ_cons, List.map_cons, List.sum_cons] at this ⊢
    omega

theorem umod300 (n : Int) : ∃ k : Nat, k < 300 ∧ IntKind.i64.wrap ((IntKind.u64.wrap n).tmod 300) = (k : Int) := by
  have h : 0 ≤ IntKind.u64.wrap n := by
    simp only [IntKind.wrap, IntKind.bits, IntKind.signed]
    simp
    omega
  refine ⟨((IntKind.u64.wrap n).tmod 300).toNat, ?_, ?_⟩
  · rw [Int.tmod_eq_emod_of_nonneg h]; omega
  · rw [Int.tmod_eq_emod_of_nonneg h, wrap64 (by omega) (by omega)]; omega
end Go.Gx.Y

/-
  PostPrefix: the walk.
-/
namespace Go.Gx.Y
open Go.Gx
set_option linter.all false

set_option maxHeartbeats 4000000 in
set_option maxRecDepth 8000 in
theorem prefix_walk {S : AS} {synced stop : Int} {v v1 v2 : Value} {data : List (List UInt8)} {one two : List Int} (hv : Ws S v (data.map str)) (h1 : Cs S v1 (one.map (.int .i64 ·))) (h2 : Cs S v2 (two.map (.int .i64 ·))) :
    Call G 6 [v, .int .i64 synced, .int .i64 stop, v1, v2] S fun e _ => e = .ret (.bool true) := by
  refine call_run' (G := G) rfl (ext_none (by decide)) ?_
  obtain ⟨va, vc, rfl⟩ := hv.read.shape
  obtain ⟨a1, c1, rfl⟩ := h1.shape
  obtain ⟨a2, c2, rfl⟩ := h2.shape
  simp
  rw [List.length_map] at h1 h2
  refine cut_block (fun a' S' => ∃ n, S' = S ∧ (data.length ≤ 200 → (∀ s ∈ data, s.length ≤ 20000) ∧ n = cost1 data) ∧ Has a' 188 [(0, .slice va data.length vc), (1, .int .i64 synced), (2, .int .i64 stop), (3, .slice a1 one.length c1), (4, .slice a2 two.length c2), (11, .int .i64 (n : Nat))]) (fun M hM => ?_) ?_
  · refine run_loop (fun k a' S' => ∃ i, data.length - i = k ∧ i ≤ data.length ∧ i ≤ 201 ∧ S' = S ∧ (∀ s ∈ data.take i, s.length ≤ 20000) ∧ cost1 (data.take i) ≤ i * 20032 ∧ Has a' 188 [(0, .slice va data.length vc), (1, .int .i64 synced), (2, .int .i64 stop), (3, .slice a1 one.length c1), (4, .slice a2 two.length c2), (11, .int .i64 (cost1 (data.take i))), (12, .int .i64 i)]) _
      ⟨0, rfl, by omega, by omega, rfl, by simp, by simp [cost1], ⟨rfl, rfl, by simp [cost1]⟩⟩ ?_
    rintro _ R hR _ S' ⟨i, rfl, hi, hi2, rfl, hsm, hcb, ha⟩
    obtain ⟨z, rfl⟩ := ha.lit
    by_cases hlt : i < data.length
    · by_cases h200 : i ≤ 200
      · have h200' : (i : Int) ≤ 200 := by omega
        have hw1 : IntKind.i64.wrap ((i : Int) + 1) = ((i + 1 : Nat) : Int) := by rw [wrap64 (by omega) (by omega)]; rfl
        obtain ⟨p, o, cells, e, wr, ex, e1, e2, e3, e4, e5⟩ := hv.read.idx (i := i) (j := .i64) (S' := S') (by simpa using hlt)
        simp only [List.length_map, List.getElem_map] at e1 e5
        have hget : data[i]? = some data[i] := List.getElem?_eq_getElem hlt
        generalize data[i] = s at e5 hget
        by_cases h20 : 20000 < s.length
        · have h20' : (20000 : Int) < s.length := by omega
          simp [fillF, pickL, hlt, h200, h200', e1, e2, e5, h20, h20']
          refine journals_true ?_
          simp
        · have h20' : ¬ (20000 : Int) < s.length := by omega
          have htk : data.take (i + 1) = data.take i ++ [s] := by rw [List.take_add_one, hget]; rfl
          have hc1 := cost1_app (data.take i) s
          rw [← htk] at hc1
          have hq1 : IntKind.i64.wrap ((cost1 (data.take i) : Int) + 32) = (cost1 (data.take i) : Int) + 32 := wrap64 (by omega) (by omega)
          have hq2 : IntKind.i64.wrap ((cost1 (data.take i) : Int) + 32 + (s.length : Int)) = (cost1 (data.take (i + 1)) : Int) := by rw [wrap64 (by omega) (by omega)]; omega
          simp [fillF, pickL, hlt, h200, h200', e1, e2, e5, h20, h20', hq1, hq2, hw1]
          refine hR _ _ _ (by omega) ⟨i + 1, rfl, by omega, by omega, rfl, fun x hx => ?_, by omega, ⟨rfl, rfl, by simp⟩⟩
          rw [htk] at hx
          rcases List.mem_append.1 hx with hx | hx
          · exact hsm x hx
          · simp at hx; subst hx; omega
      · have h200' : ¬ (i : Int) ≤ 200 := by omega
        simp [fillF, pickL, hlt, h200, h200']
        exact hM _ _ ⟨cost1 (data.take i), rfl, fun hh => by omega, ⟨rfl, rfl, by simp⟩⟩
    · obtain rfl : i = data.length := by omega
      rw [List.take_length] at hsm
      simp [fillF, pickL]
      exact hM _ _ ⟨cost1 data, rfl, fun _ => ⟨hsm, rfl⟩, ⟨rfl, rfl, by simp⟩⟩
  rintro _ S' ⟨n, rfl, hn, ha⟩
  obtain ⟨z, rfl⟩ := ha.lit
  by_cases hd2 : 200 < data.length
  · have hd2' : (200 : Int) < data.length := by omega
    simp [fillF, pickL, hd2, hd2']
    refine journals_true ?_
    simp
  have hd2' : ¬ (200 : Int) < data.length := by omega
  obtain ⟨hsm, rfl⟩ := hn (by omega)
  by_cases hn2 : 100000 < cost1 data
  · have hn2' : (100000 : Int) < cost1 data := by omega
    simp [fillF, pickL, hd2, hd2', hn2, hn2']
    refine journals_true ?_
    simp
  have hn2' : ¬ (100000 : Int) < cost1 data := by omega
  by_cases ho2 : 200 < one.length
  · have ho2' : (200 : Int) < one.length := by omega
    simp [fillF, pickL, hd2, hd2', hn2, hn2', ho2, ho2']
    refine journals_true ?_
    simp
  have ho2' : ¬ (200 : Int) < one.length := by omega
  by_cases ht2 : 200 < two.length
  · have ht2' : (200 : Int) < two.length := by omega
    simp [fillF, pickL, hd2, hd2', hn2, hn2', ho2, ho2', ht2, ht2']
    refine journals_true ?_
    simp
  have ht2' : ¬ (200 : Int) < two.length := by omega
  simp [fillF, pickL, hd2, hd2', hn2, hn2', ho2, ho2', ht2, ht2']
  refine newDisk_dsk (S0 := S') (k := 8000) (.refl _ _) (by omega) (by omega) fun S1 d l n H1 _ => ?_
  simp
  refine open_new (k := 8000) H1 fun S2 pv2 lv2 j D2 H2 L2 hdd2 hf2 hl2 _ _ _ => ?_
  simp
  refine cut_block (fun a' S3 => ∃ i safeL P pv D, i ≤ data.length ∧ safeL ≤ i ∧ Jn S' S3 d l n pv j D (data.take i) ∧ Live D (data.take i) safeL P ∧ D.last.length = 8000 ∧
    Has a' 188 [(0, .slice va data.length vc), (3, .slice a1 one.length c1), (4, .slice a2 two.length c2), (13, ptr d), (18, .int .i64 (safeL : Nat)), (19, .int .i64 (i : Nat))]) (fun M hM => ?_) ?_
  · refine run_loop (fun k a' S3 => ∃ i safeL pv D, data.length - i = k ∧ i ≤ data.length ∧ safeL ≤ i ∧ Jn S' S3 d l n pv j D (data.take i) ∧ Live D (data.take i) safeL [] ∧ D.down = false ∧ ((i : Int) ≤ synced → D.fuse = -1) ∧ D.last.length = 8000 ∧
      Has a' 188 [(0, .slice va data.length vc), (1, .int .i64 synced), (2, .int .i64 stop), (3, .slice a1 one.length c1), (4, .slice a2 two.length c2), (13, ptr d), (15, ptr j), (18, .int .i64 (safeL : Nat)), (19, .int .i64 (i : Nat)), (20, .int .i64 (i : Nat))]) _
      ⟨0, 0, pv2, D2, rfl, by omega, by omega, by simpa using H2, by simpa using L2, hdd2, fun _ => hf2, hl2, ⟨rfl, rfl, by simp⟩⟩ ?_
    rintro _ R hR _ S3 ⟨i, safeL, pv, D, rfl, hi, hsl, H, L, hd, hf, hl, ha⟩
    obtain ⟨y, rfl⟩ := ha.lit
    by_cases hlt : i < data.length
    · have hw1 : IntKind.i64.wrap ((i : Int) + 1) = ((i + 1 : Nat) : Int) := by rw [wrap64 (by omega) (by omega)]; rfl
      simp [fillF, pickL, hlt]
      refine cut_if (fun a' S4 => ∃ D1, Jn S' S4 d l n pv j D1 (data.take i) ∧ Live D1 (data.take i) safeL [] ∧ D1.down = false ∧ ((i : Int) < synced → D1.fuse = -1) ∧ D1.last.length = 8000 ∧
        Has a' 188 [(0, .slice va data.length vc), (1, .int .i64 synced), (2, .int .i64 stop), (3, .slice a1 one.length c1), (4, .slice a2 two.length c2), (13, ptr d), (15, ptr j), (18, .int .i64 (safeL : Nat)), (19, .int .i64 (i : Nat)), (20, .int .i64 (i : Nat))]) (fun N hN => ?_) ?_
      · by_cases hs : (i : Int) = synced
        · obtain ⟨k0, hk0, hk00⟩ := umod300 stop
          simp [hs, hk00]
          refine stop_jn H (k := (k0 : Int)) (by omega) fun S4 H4 hs4 => ?_
          obtain ⟨l1, l2, l3⟩ := live_stop L (k0 : Int)
          simp
          exact hN _ _ ⟨_, H4, l1, l2.trans hd, fun hh => by omega, l3.trans hl, ⟨rfl, rfl, by simp [hs]⟩⟩
        · simp [hs]
          exact hN _ _ ⟨D, H, L, hd, fun hh => hf (by omega), hl, ⟨rfl, rfl, by simp⟩⟩
      rintro _ S4 ⟨D1, H4, L4, hd4, hf4, hl4, ha4⟩
      obtain ⟨x, rfl⟩ := ha4.lit
      have hv4 := H4.dk.old hv.read
      obtain ⟨p, o, cells, e, wr, ex, e1, e2, e3, e4, e5⟩ := hv4.idx (i := i) (j := .i64) (S' := S4) (by simpa using hlt)
      simp only [List.length_map, List.getElem_map] at e1 e5
      have hget : data[i]? = some data[i] := List.getElem?_eq_getElem hlt
      have hs20 := hsm data[i] (by simp)
      generalize data[i] = s at e5 hget hs20
      have htk : data.take (i + 1) = data.take i ++ [s] := by rw [List.take_add_one, hget]; rfl
      have hce := cost1_enc (data.take (i + 1))
      have hct := cost1_take data (i + 1)
      have hel : (encAll (data.take (i + 1))).length = (encAll (data.take i)).length + manyOf s.length := by
        rw [htk, encAll_app, List.length_append]
        simp [encAll, enc_len]
      simp [fillF, pickL, e1, e2, e5]
      refine append_jn H4 L4 hd4 hs20 (fun S5 pv5 D5 H5 L5 hd5 hl5 hf5 hs5 hfp5 => ?_) (fun hfu S5 pv5 D5 P H5 L5 hd5 hl5 hs5 hfp5 => ?_) (fun hh => absurd hh (by omega))
      · rw [← htk] at H5 L5
        by_cases hsy : (i : Int) < synced
        · have hfe : D5.fuse = -1 := by rw [hf5 (by rw [hf4 hsy]; decide), hf4 hsy]
          simp [hw1, hsy]
          refine sync_jn H5 L5 (fun _ S6 pv6 D6 H6 L6 hd6 hl6 hf6 hs6 hfp6 => ?_) (fun hh => absurd ⟨hd5, by rw [hfe]; decide⟩ hh)
          have hlen : (data.take (i + 1)).length = i + 1 := by simp; omega
          rw [hlen] at L6
          simp [hw1]
          exact hR _ _ _ (by omega) ⟨i + 1, i + 1, pv6, D6, rfl, by omega, by omega, H6, L6, hd6, fun _ => by rw [hf6 (by rw [hfe]; decide), hfe], by omega, ⟨rfl, rfl, by simp⟩⟩
        · simp [hw1, hsy]
          exact hR _ _ _ (by omega) ⟨i + 1, safeL, pv5, D5, rfl, by omega, by omega, H5, L5, hd5, fun hh => by omega, by omega, ⟨rfl, rfl, by simp⟩⟩
      · have hsy : ¬ (i : Int) < synced := fun hh => hfu (by rw [hf4 hh]; decide)
        simp [hsy]
        exact hM _ _ ⟨i, safeL, P, pv5, D5, by omega, by omega, H5, L5, by omega, ⟨rfl, rfl, by simp⟩⟩
    · obtain rfl : i = data.length := by omega
      simp [fillF, pickL]
      exact hM _ _ ⟨data.length, safeL, [], pv, D, by omega, by omega, H, L, by omega, ⟨rfl, rfl, by simp⟩⟩
  rintro _ S3 ⟨i, safeL, P, pv, D, hi, hsl, H, L, hl, ha⟩
  obtain ⟨y, rfl⟩ := ha.lit
  simp [fillF, pickL]
  obtain ⟨b1, b2, b3⟩ := live_pend H.dk.at_ L
  refine crash_dsk2 (keep := one) H.dk (H.dk.old h1) (H.dk.sep h1) (by omega) fun S5 pv5 cv H5 hs5 hfp5 => ?_
  obtain ⟨k, hk1, hk2, hC, hCl⟩ := crash_live L (fun x hx => (H.dk.at_.u3 x hx).1) one
  have hkl : k ≤ i := by simp at hk2; omega
  have htk : (data.take i).take k = data.take k := by rw [List.take_take, Nat.min_eq_left hkl]
  rw [htk] at hC
  obtain ⟨r1, r2⟩ := crashed_reads hC
  obtain ⟨e, D6, w1, w2, w3, w4⟩ := crashed_open hC
  obtain ⟨he, hf6⟩ := w3 (by simp [Dk.crash])
  subst he
  simp
  refine open_dsk H5 r1 r2 (by simp [Dk.crash]) rfl (fun S6 pv6 g1 => absurd (by rw [w1]) g1) (fun S6 pv6 lv j6 g1 H6 hj6 hlv6 hlo6 hs6 hfp6 => ?_)
  rw [w1] at H6
  rcases w4 with ⟨_, L6, hd6⟩ | ⟨g2, _⟩
  · obtain ⟨b4, b5, b6⟩ := live_pend H6.dk.at_ L6
    simp
    refine crash_dsk2 (keep := two) H6.dk (H6.dk.old h2) (H6.dk.sep h2) (by omega) fun S7 pv7 cv7 H7 hs7 hfp7 => ?_
    obtain ⟨k7, hk3, hk4, hC7, hCl7⟩ := crash_live L6 (fun x hx => (H6.dk.at_.u3 x hx).1) two
    have hk7 : k7 = (data.take k).length := by omega
    rw [hk7, List.take_length] at hC7
    obtain ⟨r3, r4⟩ := crashed_reads hC7
    obtain ⟨e8, D8, x1, x2, x3, x4⟩ := crashed_open hC7
    obtain ⟨he8, _⟩ := x3 (by simp [Dk.crash])
    subst he8
    have hlv7 := hlv6.stays hs7 fun x hx hh => (hlo6 x hx).2.1 hh
    simp
    refine open_dsk H7 r3 r4 (by simp [Dk.crash]) rfl (fun S8 pv8 g3 => absurd (by rw [x1]) g3) (fun S8 pv8 lv8 j8 g3 H8 hj8 hlv8 hlo8 hs8 hfp8 => ?_)
    have hlv9 := hlv7.stays hs8 fun x hx hh => (hlo6 x hx).2.1 (hfp7 x hh)
    have hkd : (data.take k).length = k := by simp; omega
    have hln : ∀ S' : AS, lnE S' lv = .ret (.int .i64 k, S') := fun S' => by
      have := hlv9.ln (S' := S')
      rw [sing_len, List.length_map, hkd] at this
      exact this
    have hw1 : IntKind.i64.wrap ((i : Int) + 1) = (i : Int) + 1 := wrap64 (by omega) (by omega)
    have q1 : ¬ (k : Int) < (safeL : Int) := by omega
    have q2 : ¬ (i : Int) + 1 < (k : Int) := by omega
    have q3 : ¬ (data.length : Int) < (k : Int) := by omega
    have q1' : ¬ k < safeL := by omega
    have q2' : ¬ i + 1 < k := by omega
    have q3' : ¬ data.length < k := by omega
    obtain ⟨v', t1, t2⟩ := (hv.stays H8.dk.same (by simp)).take (elem := 9) (k := k) (by simp; omega)
    rw [List.length_map] at t1
    simp [hln, hw1, q1, q2, q3, q1', q2', q3']
    refine journals_true ?_
    simp [hln, t1]
    refine same_ok (slAt_cs hlv9) (R2 := data.take k) (by rw [← List.map_take] at t2; exact t2) (by omega) ?_
    simp
    refine same_ok (slAt_cs hlv8) (slAt_cs hlv9) (by omega) ?_
    simp
  · cases g2
end Go.Gx.Y

/-
  PostPrefix: the row.
-/
namespace Go.Proofs.Ytegjacoooihpgaa
open Go.Gx Go.Gx.Y Go.Proofs
open Go.ChangeShapes Go.WideShapes Go.ChangeAt Go.RowKit
set_option maxRecDepth 100000
set_option linter.all false

theorem u44 : Try.prog.underlying 44 = some (.slice 9) := by kernel_rfl
theorem u9 : Try.prog.underlying 9 = some .string := by kernel_rfl
theorem n9 : Try.prog.cellsOf 9 = 1 := by kernel_rfl
theorem u32 : Try.prog.underlying 32 = some (.slice 3) := by kernel_rfl
theorem n3 : Try.prog.cellsOf 3 = 1 := by kernel_rfl

theorem ty_ints {S : AS} {d : Nat} {v : Value} (hS : S.Valid) (h : Ty Try.prog S (d + 2) 32 [v]) : ∃ ks : List Int, Cs S v (ks.map (.int .i64 ·)) ∧ ∀ k ∈ ks, -9223372036854775808 ≤ k ∧ k ≤ 9223372036854775807 := by
  obtain ⟨cs, g1, g2, g3⟩ := ty_slice1 u32 n3 hS h
  obtain ⟨ks, rfl, hks⟩ := ints_of fun c hc => ty_int u3 (g3 c hc)
  exact ⟨ks, g1, hks⟩
theorem ty_wstrs {S : AS} {d : Nat} {v : Value} (hS : S.Valid) (h : Ty Try.prog S (d + 2) 44 [v]) : ∃ ks : List (List UInt8), Ws S v (ks.map str) := by
  obtain ⟨cs, g1, g2, g3⟩ := ty_ws u44 n9 hS h
  obtain ⟨ks, rfl, hks⟩ := strs_of fun c hc => ty_str u9 (g3 c hc)
  exact ⟨ks, g1⟩

theorem prefix_law (S : AS) (vs : List Value) (hS : S.Valid) (h : TyArgs Try.prog S 4 [44, 3, 3, 32, 32] vs) : Gx.Call G 6 vs S fun e _ => e = .ret (.bool true) := by
  obtain ⟨v0, _, rfl, h0, h⟩ := tyArgs_cons h
  obtain ⟨v1, _, rfl, h1, h⟩ := tyArgs_cons h
  obtain ⟨v2, _, rfl, h2, h⟩ := tyArgs_cons h
  obtain ⟨v3, _, rfl, h3, h⟩ := tyArgs_cons h
  obtain ⟨v4, _, rfl, h4, h⟩ := tyArgs_cons h
  obtain rfl := tyArgs_nil h
  obtain ⟨data, hd⟩ := ty_wstrs hS (tyV_slice u44 h0)
  obtain ⟨n1, rfl, _⟩ := ty_int u3 (tyV_int u3 h1)
  obtain ⟨n2, rfl, _⟩ := ty_int u3 (tyV_int u3 h2)
  obtain ⟨one, ho, _⟩ := ty_ints hS (tyV_slice u32 h3)
  obtain ⟨two, ht, _⟩ := ty_ints hS (tyV_slice u32 h4)
  exact prefix_walk hd ho ht

theorem prefix_lifted (os : Os) (started : os.Started) (H : Type) (enc : TypeId × Value → H) :
    ReturnsInHanded {} Try.checked os 6 .any (Rows.postPrefixSpec.pre6 enc Try.prog Try.f6 Rows.postPrefixRow.domain false) (Rows.postPrefixSpec.post enc Try.prog Try.f6 false true false false) :=
  law_returns (C := Try.checked) (G := G) (d := 4) (ts := [44, 3, 3, 32, 32]) (tb := 4) tabOK extOK mixed started own (by kernel_rfl) Try.func6
    (ChangeSpec.witness6 (enc := enc) (C := Try.checked) false ⟨#[], #[.slice none 0 0, .int .i64 0, .int .i64 0, .slice none 0 0, .slice none 0 0], []⟩ 8 (by kernel_rfl) (by kernel_rfl) (by kernel_rfl) (by kernel_rfl))
    laidOut rfl (by kernel_rfl) ub3 (by kernel_rfl) (by
      intro t ht
      simp only [List.mem_cons, List.not_mem_nil, or_false] at ht
      rcases ht with rfl | rfl | rfl | rfl | rfl <;> exact ⟨by kernel_rfl, of_decide_eq_true (by kernel_rfl), by kernel_rfl⟩)
    (by
      intro ds hl
      match ds, hl with
      | [_, _, _, _, _], _ => exact ⟨rfl, rfl, rfl⟩)
    prefix_law

theorem prefix_holds : Rows.PostPrefixSaid :=
  OpenClaim.holds_of_wide 6 Try.f6 rfl rfl rfl rfl rfl rfl rfl ⟨rfl, rfl, rfl, rfl, rfl⟩ rfl rfl rfl rfl rfl (by kernel_rfl) Try.func6 (by kernel_rfl)
    (of_decide_eq_true (by kernel_rfl)) (by unfold Func.isWrapper; first | (rw [if_pos (by decide +kernel)]; kernel_rfl) | (rw [if_neg (by decide +kernel)]; exact ⟨rfl, rfl⟩))
    (fun os started H enc _ => prefix_lifted os started H enc)
#print axioms prefix_holds
end Go.Proofs.Ytegjacoooihpgaa
