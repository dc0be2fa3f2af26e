/-
  PostRoom returns true for every number of sectors and every list of records, and its arguments read as before. No condition.
-/
import Derived.Test.YtegjacoooihpgaaPf
import Derived.Test.YtegjacoooihpgaaPc
import Derived.Test.YtegjacoooihpgaaPb
import Derived.Test.YtegjacoooihpgaaGg

set_option linter.all false
set_option linter.deprecated false
set_option linter.unusedSimpArgs false
set_option linter.unusedVariables false

/-
  PostRoom: the walk.
-/
namespace Go.Gx.Y
open Go.Gx
set_option linter.all false

theorem journals_true {S : AS} {Q : En → AS → Prop} (hq : Q (.ret (.bool true)) S) : Call G 21 [] S Q := call_ext (show G.ext 21 [] = some (.bool true) from extOf_some (k := 21) (ks := [8, 21]) (by decide)) hq

theorem umod2000 (n : Int) : ∃ k : Nat, k < 2000 ∧ IntKind.i64.wrap ((IntKind.u64.wrap n).tmod 2000) = (k : Int) := by
  have h : 0 ≤ IntKind.u64.wrap n := by
    simp only [IntKind.wrap, IntKind.bits, IntKind.signed]
    simp
    omega
  refine ⟨((IntKind.u64.wrap n).tmod 2000).toNat, ?_, ?_⟩
  · rw [Int.tmod_eq_emod_of_nonneg h]; omega
  · rw [Int.tmod_eq_emod_of_nonneg h, wrap64 (by omega) (by omega)]; omega

def D0 (k : Nat) : Dk := ⟨List.replicate k zero64, List.replicate k zero64, [], false, -1⟩

/-- a new disk is opened -/
theorem open_new {S0 S : AS} {d l n k : Nat} {pv : Value} (h : Dsk S0 S d l n pv (D0 k)) {Q : En → AS → Prop}
    (hok : ∀ S' pv' lv j D, Jn S0 S' d l n pv' j D [] → Live D [] 0 [] → D.down = false → D.fuse = -1 → D.last.length = k → SlAt S' 9 lv (sing ([].map str)) → S.next ≤ j → Same S S' (fpOf d l n pv) → Q (.ret (.tuple #[ptr j, lv, .int .i64 0])) S') : Call G 18 [ptr d] S Q := by
  have hc := new_crashed k
  obtain ⟨r1, r2⟩ := crashed_reads hc
  obtain ⟨e, D', k1, k2, k3, k4⟩ := crashed_open hc
  obtain ⟨he, hf⟩ := k3 (by simp)
  subst he
  have hlen : D'.last.length = k := by rw [k2]; simp
  refine open_dsk (R := []) h r1 r2 (by simp [D0]) rfl (fun S' pv' h1 => ?_) (fun S' pv' lv j h1 h2 h3 h4 h5 h6 h7 => ?_)
  · exact absurd (by show (Dk.wipe _ _ (D0 k)).1 = 0; rw [show D0 k = ⟨List.replicate k zero64, List.replicate k zero64, [], false, -1⟩ from rfl, k1]) h1
  · have e2 : (Dk.wipe ((D0 k).now.length - (encAll []).length) (encAll []).length (D0 k)).2 = D' := by
      rw [show D0 k = ⟨List.replicate k zero64, List.replicate k zero64, [], false, -1⟩ from rfl, k1]
    rw [e2] at h2
    rcases k4 with ⟨_, hl, hd⟩ | ⟨h8, _⟩
    · exact hok S' pv' lv j D' h2 hl hd hf hlen h4 h3 h6
    · cases h8

theorem many_cost (n : Nat) : manyOf n ≤ 1 + n / 32 := by unfold manyOf; omega

set_option maxHeartbeats 2000000 in
set_option maxRecDepth 8000 in
theorem room_walk {S : AS} {sectors : Int} {v : Value} {data : List (List UInt8)} (hv : Cs S v (data.map str)) (hdl : ∀ s ∈ data, s.length ≤ 9223372036854775807) (hdn : data.length ≤ 9223372036854775807) : Call G 5 [.int .i64 sectors, v] S fun e _ => e = .ret (.bool true) := by
  refine call_run' (G := G) rfl (ext_none (by decide)) ?_
  obtain ⟨k, hk, hkk⟩ := umod2000 sectors
  have hw : IntKind.i64.wrap (16 + (k : Int)) = 16 + (k : Int) := wrap64 (by omega) (by omega)
  obtain ⟨va, vc, rfl⟩ := hv.shape
  simp [hkk, hw]
  have hcast : (16 + (k : Int)) = ((16 + k : Nat) : Int) := by omega
  rw [hcast]
  refine newDisk_dsk (S0 := S) (k := 16 + k) (.refl _ _) (by omega) (by omega) fun S1 d l n H1 _ => ?_
  simp
  refine open_new (k := 16 + k) H1 fun S2 pv2 lv2 j D2 H2 L2 hd2 hf2 hl2 _ _ _ => ?_
  have htd : IntKind.i64.wrap ((16 + (k : Int)).tdiv 2) = (((16 + k) / 2 : Nat) : Int) := by
    rw [Int.tdiv_eq_ediv_of_nonneg (by omega), wrap64 (by omega) (by omega)]; omega
  simp [htd]
  refine cut_block (fun a' S3 => ∃ Rs wv pv D, Jn S S3 d l n pv j D Rs ∧ Live D Rs 0 [] ∧ D.down = false ∧ D.fuse = -1 ∧ SlAt S3 9 wv (sing (Rs.map str)) ∧ (∀ x ∈ ownsOf wv, S.next ≤ x ∧ x ∉ fpOf d l n pv ∧ x ≠ j) ∧ Has a' 122 [(6, ptr d), (8, ptr j), (12, wv)]) (fun M hM => ?_) ?_
  refine run_loop (fun kk a' S3 => ∃ i left Rs wv pv D, data.length - i = kk ∧ i ≤ data.length ∧ i ≤ 2000 ∧ Jn S S3 d l n pv j D Rs ∧ Live D Rs 0 [] ∧ D.down = false ∧ D.fuse = -1 ∧ D.last.length = 16 + k ∧ (encAll Rs).length + left ≤ (16 + k) / 2 ∧ SlAt S3 9 wv (sing (Rs.map str)) ∧ (∀ x ∈ ownsOf wv, S.next ≤ x ∧ x ∉ fpOf d l n pv ∧ x ≠ j) ∧
    Has a' 122 [(1, .slice va data.length vc), (6, ptr d), (8, ptr j), (11, .int .i64 left), (12, wv), (13, .int .i64 i)]) _
    ⟨0, (16 + k) / 2, [], .slice none 0 0, pv2, D2, rfl, by omega, by omega, H2, L2, hd2, hf2, hl2, by simp [encAll], .inl ⟨rfl, rfl⟩, by simp [ownsOf], ⟨rfl, rfl, by simp⟩⟩ ?_
  rintro _ R hR _ S3 ⟨i, left, Rs, wv, pv, D, rfl, hi, hi2, H, L, hd, hf, hl, hcost, hwv, hwo, ha⟩
  obtain ⟨z, rfl⟩ := ha.lit
  have hv3 := H.dk.old hv
  obtain ⟨b1, b2, b3⟩ := live_pend H.dk.at_ L
  by_cases hlt : i < data.length ∧ i < 2000
  · obtain ⟨hlt, hlt2⟩ := hlt
    have hlt2' : (i : Int) < 2000 := by omega
    have hw1 : IntKind.i64.wrap ((i : Int) + 1) = ((i + 1 : Nat) : Int) := by rw [wrap64 (by omega) (by omega)]; rfl
    obtain ⟨p, o, cells, e, wr, ex, e1, e2, e3, e4, e5⟩ := hv3.idx (i := i) (j := .i64) (S' := S3) (by simpa using hlt)
    simp only [List.length_map, List.getElem_map] at e1 e5
    have hsl := hdl data[i] (by simp)
    generalize data[i] = s at e5 hsl
    by_cases h20 : 20000 < s.length
    · have h20' : (20000 : Int) < s.length := by omega
      simp [fillF, pickL, hlt, hlt2, hlt2', e1, e2, e5, h20, h20', hw1]
      exact hR _ _ _ (by omega) ⟨i + 1, left, Rs, wv, pv, D, rfl, by omega, by omega, H, L, hd, hf, hl, hcost, hwv, hwo, ⟨rfl, rfl, by simp⟩⟩
    · have h20' : ¬ (20000 : Int) < s.length := by omega
      have hq1 : IntKind.i64.wrap ((s.length : Int) / 32) = ((s.length / 32 : Nat) : Int) := by
        rw [wrap64 (by omega) (by omega)]; omega
      have hq2 : IntKind.i64.wrap (1 + ((s.length / 32 : Nat) : Int)) = ((1 + s.length / 32 : Nat) : Int) := by
        rw [wrap64 (by omega) (by omega)]; omega
      generalize hcs : s.length / 32 = c at hq1 hq2
      have hcl : manyOf s.length ≤ 1 + c := by rw [← hcs]; exact many_cost _
      by_cases hleft : left < 1 + c
      · have hleft' : (left : Int) < 1 + (c : Int) := by omega
        simp [fillF, pickL, hlt, hlt2, hlt2', e1, e2, e5, h20, h20', hq1, hq2, hleft, hleft', hw1]
        exact hR _ _ _ (by omega) ⟨i + 1, left, Rs, wv, pv, D, rfl, by omega, by omega, H, L, hd, hf, hl, hcost, hwv, hwo, ⟨rfl, rfl, by simp⟩⟩
      · have hleft' : ¬ (left : Int) < 1 + (c : Int) := by omega
        have hq3 : IntKind.i64.wrap ((left : Int) - 1) = (left : Int) - 1 := wrap64 (by omega) (by omega)
        have hq4 : IntKind.i64.wrap ((left : Int) - 1 - (c : Int)) = ((left - 1 - c : Nat) : Int) := by
          rw [wrap64 (by omega) (by omega)]; omega
        simp [fillF, pickL, hlt, hlt2, hlt2', e1, e2, e5, h20, h20', hq1, hq2, hq3, hq4, hleft, hleft']
        refine append_jn H L hd (by omega) (fun S4 pv4 D4 H4 L4 hd4 hl4 hf4 hs4 hfp4 => ?_) (fun hh => absurd (by rw [hf]; decide) hh) (fun hh => absurd hh (by omega))
        have hn34 := hs4.1
        have hwlt := hwv.owns_lt
        have hwv4 := hwv.stays hs4 fun x hx hh => by
          rcases List.mem_cons.1 hh with h1 | h1
          · exact (hwo x hx).2.2 h1
          · exact (hwo x hx).2.1 h1
        have hwo4 : ∀ x ∈ ownsOf wv, S.next ≤ x ∧ x ∉ fpOf d l n pv4 ∧ x ≠ j := fun x hx => ⟨(hwo x hx).1, fun hh => by
          rcases hfp4 x hh with h1 | h1
          · exact (hwo x hx).2.1 h1
          · have := hwlt x hx; omega, (hwo x hx).2.2⟩
        have e24 := (H4.dk.same.2 p (by have := hv.lt p e4; omega) (by simp)).trans ((H.dk.same.2 p (hv.lt p e4) (by simp)).symm.trans e2)
        have e1' := idxE_any (S' := S4.bump 2) e1
        simp [e1', e24, e5, placeIn, splice]
        have hnn : S4.next ≠ p := by have := hv.lt p e4; have := H4.dk.same.1; omega
        have hsT : Same S4 ((S4.bump 2).put S4.next (AObj.row [str s] 9 true true)) [] := ⟨by simp, fun x hx _ => by
          have : x ≠ S4.next := by omega
          simp [this]⟩
        have hTc : ((S4.bump 2).put S4.next (AObj.row [str s] 9 true true)).get S4.next = some (AObj.row [str s] 9 true true) := by simp
        have hTn : ((S4.bump 2).put S4.next (AObj.row [str s] 9 true true)).next = S4.next + 2 := by simp
        generalize ((S4.bump 2).put S4.next (AObj.row [str s] 9 true true)) = T at hsT hTc hTn ⊢
        have hwlt4 := hwv4.owns_lt
        refine runT_ex (appV_cells (ds := [str s]) (cs := Rs.map str) (hwv4.stays hsT (by simp)) (by simp [srcCells, hTc]) (by simp) (by simp; omega) (by omega) (by omega) (fun hh => by have := hwlt4 _ hh; omega)) fun wv5 S5 ⟨g1, g2, g3, g4⟩ => ?_
        simp [hw1]
        have hS5 : Same S4 S5 (ownsOf wv) := hsT.mono (by simp) |>.trans g2 fun x hx hl => by
          rcases List.mem_cons.1 hx with rfl | hx
          · omega
          · exact hx
        have hfl4 := H4.dk.at_.fp_lt
        have hH5 : Jn S S5 d l n pv4 j D4 (Rs ++ [s]) := by
          have h1 : ∀ m ∈ fpOf d l n pv4, m ∉ ownsOf wv := fun m hm hh => (hwo4 m hh).2.1 hm
          refine ⟨⟨H4.dk.at_.stays hS5 h1, H4.dk.same.trans hS5 fun m hm hl => absurd (hwo m hm).1 (by omega), H4.dk.new⟩, (hS5.2 j H4.lt fun hh => (hwo j hh).2.2 rfl).trans H4.jr, H4.new, Nat.lt_of_lt_of_le H4.lt hS5.1, H4.apart⟩
        have hal : encAll (Rs ++ [s]) = encAll Rs ++ enc s := by rw [encAll_app]; simp [encAll]
        refine hR _ _ _ (by omega) ⟨i + 1, left - 1 - c, Rs ++ [s], wv5, pv4, D4, rfl, by omega, by omega, hH5, L4, hd4, by rw [hf4 (by omega), hf], by omega, by rw [hal, List.length_append, enc_len]; omega, by simpa using g1, fun x hx => ?_, ⟨rfl, rfl, by simp⟩⟩
        rcases g4 x hx with h1 | h1
        · exact hwo4 x h1
        · subst h1
          refine ⟨by have := H4.dk.same.1; omega, fun hh => by have := hfl4 _ hh; omega, fun hh => by have := H4.lt; omega⟩
  · have hfin : ∀ a', Has a' 122 [(6, ptr d), (8, ptr j), (12, wv)] → M a' S3 := fun a' ha' => hM _ _ ⟨Rs, wv, pv, D, H, L, hd, hf, hwv, hwo, ha'⟩
    by_cases h1 : i < data.length
    · have h2 : ¬ i < 2000 := fun hh => hlt ⟨h1, hh⟩
      have h2' : ¬ (i : Int) < 2000 := by omega
      simp [fillF, pickL, h1, h2, h2']
      exact hfin _ ⟨rfl, rfl, by simp⟩
    · simp [fillF, pickL, h1]
      exact hfin _ ⟨rfl, rfl, by simp⟩
  rintro _ S3 ⟨Rs, wv, pv, D, H, L, hd, hf, hwv, hwo, ha⟩
  obtain ⟨z, rfl⟩ := ha.lit
  simp [fillF, pickL]
  refine sync_jn H L (fun _ S4 pv4 D4 H4 L4 hd4 hl4 hf4 hs4 hfp4 => ?_) (fun hh => absurd ⟨hd, by rw [hf]; decide⟩ hh)
  have hwv4 := hwv.stays hs4 fun x hx hh => (hwo x hx).2.1 hh
  simp
  obtain ⟨b1, b2, b3⟩ := live_pend H4.dk.at_ L4
  refine crash_dsk2 (keep := []) H4.dk ⟨⟨none, 0, rfl⟩, rfl, by simp [ownsOf]⟩ (by simp [ownsOf]) (by omega) fun S5 pv5 cv H5 hs5 hfp5 => ?_
  obtain ⟨k5, hk1, hk2, hC, hCl⟩ := crash_live L4 (fun x hx => (H4.dk.at_.u3 x hx).1) []
  obtain rfl : k5 = Rs.length := by omega
  rw [List.take_length] at hC
  have hwv5 := hwv4.stays hs5 fun x hx hh => (hwo x hx).2.1 (hfp4 x hh)
  simp
  obtain ⟨r1, r2⟩ := crashed_reads hC
  obtain ⟨e, D6, c1, c2, c3, c4⟩ := crashed_open hC
  obtain ⟨he, _⟩ := c3 (by simp [Dk.crash])
  subst he
  refine open_dsk H5 r1 r2 (by simp [Dk.crash]) rfl (fun S6 pv6 h1 => absurd (by rw [c1]) h1) (fun S6 pv6 lv j6 h1 H6 hj6 hlv6 hlo6 hs6 hfp6 => ?_)
  simp
  refine journals_true ?_
  have hwv6 := hwv5.stays hs6 fun x hx hh => (hwo x hx).2.1 (hfp4 x (hfp5 x hh))
  simp
  refine same_ok (slAt_cs hlv6) (slAt_cs hwv6) (by omega) ?_
  simp
end Go.Gx.Y

/-
  PostRoom: the row.
-/
namespace Go.Proofs.Ytegjacoooihpgaa
open Go.Gx Go.Gx.Y Go.Proofs
open Go.ChangeShapes Go.WideShapes Go.ChangeAt Go.RowKit
set_option maxRecDepth 100000
set_option linter.all false

theorem u44 : Try.prog.underlying 44 = some (.slice 9) := by kernel_rfl
theorem u9 : Try.prog.underlying 9 = some .string := by kernel_rfl
theorem n9 : Try.prog.cellsOf 9 = 1 := by kernel_rfl

theorem ty_strs {S : AS} {d : Nat} {v : Value} (hS : S.Valid) (h : Ty Try.prog S (d + 2) 44 [v]) : ∃ ks : List (List UInt8), Cs S v (ks.map str) ∧ ks.length ≤ 9223372036854775807 ∧ ∀ k ∈ ks, k.length ≤ 9223372036854775807 := by
  obtain ⟨cs, g1, g2, g3⟩ := ty_slice1 u44 n9 hS h
  obtain ⟨ks, rfl, hks⟩ := strs_of fun c hc => ty_str u9 (g3 c hc)
  exact ⟨ks, g1, by rw [List.length_map] at g2; exact g2, hks⟩

theorem room_law (S : AS) (vs : List Value) (hS : S.Valid) (h : TyArgs Try.prog S 4 [3, 44] vs) : Gx.Call G 5 vs S fun e _ => e = .ret (.bool true) := by
  obtain ⟨v0, _, rfl, h0, h⟩ := tyArgs_cons h
  obtain ⟨v1, _, rfl, h1, h⟩ := tyArgs_cons h
  obtain rfl := tyArgs_nil h
  obtain ⟨n0, rfl, _⟩ := ty_int u3 (tyV_int u3 h0)
  obtain ⟨data, h2, h3, h4⟩ := ty_strs hS (tyV_slice u44 h1)
  exact room_walk h2 h4 h3

theorem room_lifted (os : Os) (started : os.Started) (H : Type) (enc : TypeId × Value → H) :
    ReturnsInHanded {} Try.checked os 5 .any (Rows.postRoomSpec.pre6 enc Try.prog Try.f5 Rows.postRoomRow.domain false) (Rows.postRoomSpec.post enc Try.prog Try.f5 false true false false) :=
  law_returns (C := Try.checked) (G := G) (d := 4) (ts := [3, 44]) (tb := 4) tabOK extOK mixed started own (by kernel_rfl) Try.func5
    (ChangeSpec.witness6 (enc := enc) (C := Try.checked) false ⟨#[], #[.int .i64 0, .slice none 0 0], []⟩ 8 (by kernel_rfl) (by kernel_rfl) (by kernel_rfl) (by kernel_rfl))
    laidOut rfl (by kernel_rfl) ub3 (by kernel_rfl) (by
      intro t ht
      simp only [List.mem_cons, List.not_mem_nil, or_false] at ht
      rcases ht with rfl | rfl <;> exact ⟨by kernel_rfl, of_decide_eq_true (by kernel_rfl), by kernel_rfl⟩)
    (by
      intro ds hl
      match ds, hl with
      | [_, _], _ => exact ⟨rfl, rfl, rfl⟩)
    room_law

theorem room_holds : Rows.PostRoomSaid :=
  OpenClaim.holds_of_wide 5 Try.f5 rfl rfl rfl rfl rfl rfl rfl ⟨rfl, rfl, rfl, rfl, rfl⟩ rfl rfl rfl rfl rfl (by kernel_rfl) Try.func5 (by kernel_rfl)
    (of_decide_eq_true (by kernel_rfl)) (by unfold Func.isWrapper; first | (rw [if_pos (by decide +kernel)]; kernel_rfl) | (rw [if_neg (by decide +kernel)]; exact ⟨rfl, rfl⟩))
    (fun os started H enc _ => room_lifted os started H enc)
#print axioms room_holds
end Go.Proofs.Ytegjacoooihpgaa
