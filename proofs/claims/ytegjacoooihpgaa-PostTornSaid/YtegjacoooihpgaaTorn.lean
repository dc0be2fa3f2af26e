/-
  PostTorn returns true for every sector, every two byte strings and every number of kept bytes, and its arguments read as before. No condition.
-/
import Derived.Test.YtegjacoooihpgaaPc
import Derived.Test.YtegjacoooihpgaaGg
import Derived.Test.YtegjacoooihpgaaPb

set_option linter.all false
set_option linter.deprecated false
set_option linter.unusedSimpArgs false
set_option linter.unusedVariables false

/-
  PostTorn: the walk.
-/
namespace Go.Gx.Y
open Go.Gx
set_option linter.all false

theorem u64mod (n : Int) : ∃ k : Nat, k < 16 ∧ IntKind.i64.wrap ((IntKind.u64.wrap n).tmod 16) = (k : Int) := by
  have h : 0 ≤ IntKind.u64.wrap n := by
    simp only [IntKind.wrap, IntKind.bits, IntKind.signed]
    simp
    omega
  refine ⟨((IntKind.u64.wrap n).tmod 16).toNat, ?_, ?_⟩
  · rw [Int.tmod_eq_emod_of_nonneg h]; omega
  · rw [Int.tmod_eq_emod_of_nonneg h, wrap64 (by omega) (by omega)]; omega

theorem disks_true {S : AS} {Q : En → AS → Prop} (hq : Q (.ret (.bool true)) S) : Call G 8 [] S Q := call_ext (show G.ext 8 [] = some (.bool true) from extOf_some (k := 8) (ks := [8, 21]) (by decide)) hq

def byteAt (l : List UInt8) (i : Nat) : UInt8 := l.getD i 0
theorem pad_get {l : List UInt8} {i : Nat} (h : l.length ≤ 64) (hi : i < 64) : (pad l)[i]? = some (byteAt l i) := by
  unfold pad byteAt
  rw [List.getD_eq_getElem?_getD]
  by_cases hl : i < l.length
  · rw [List.getElem?_append_left hl]; simp [hl]
  · rw [List.getElem?_append_right (by omega), List.getElem?_replicate, if_pos (by omega), List.getElem?_eq_none (by omega)]
    rfl
theorem tear_get {a b : List UInt8} {keep : Int} {i : Nat} (ha : a.length ≤ 64) (hb : b.length ≤ 64) (hi : i < 64) : (tear (pad a) (pad b) (max 0 (min keep 64)).toNat)[i]? = some (if (i : Int) < keep then byteAt b i else byteAt a i) := by
  unfold tear
  have hpb := pad_len hb
  by_cases hk : (i : Int) < keep
  · rw [if_pos hk, List.getElem?_append_left (by rw [List.length_take, hpb]; omega), List.getElem?_take, if_pos (by omega), pad_get hb hi]
  · rw [if_neg hk, List.getElem?_append_right (by rw [List.length_take, hpb]; omega), List.length_take, hpb, List.getElem?_drop]
    rw [show (max 0 (min keep 64)).toNat + (i - min (max 0 (min keep 64)).toNat 64) = i by omega, pad_get ha hi]

set_option maxHeartbeats 2000000 in
set_option maxRecDepth 8000 in
theorem torn_walk {S : AS} {sector keep : Int} {v1 v2 : Value} {a b : List UInt8} (h1 : Cs S v1 (bv a)) (h2 : Cs S v2 (bv b)) :
    Call G 3 [.int .i64 sector, v1, v2, .int .i64 keep] S fun e _ => e = .ret (.bool true) := by
  refine call_run' (G := G) rfl (ext_none (by decide)) ?_
  obtain ⟨a1, c1, e1⟩ := h1.shape
  obtain ⟨a2, c2, e2⟩ := h2.shape
  rw [bv_len] at e1 e2
  subst e1 e2
  simp [bv_len]
  by_cases hla : 64 < a.length
  · have : (64 : Int) < a.length := by omega
    simp [hla, this]
    refine disks_true ?_
    simp
  by_cases hlb : 64 < b.length
  · have : (64 : Int) < b.length := by omega
    have : ¬ (64 : Int) < a.length := by omega
    simp [hla, hlb, *]
    refine disks_true ?_
    simp
  have i1 : ¬ (64 : Int) < a.length := by omega
  have i2 : ¬ (64 : Int) < b.length := by omega
  obtain ⟨k, hk, hkk⟩ := u64mod sector
  simp [hla, hlb, i1, i2, hkk]
  refine newDisk_dsk (S0 := S) (k := 16) (.refl _ _) (by omega) (by omega) fun S1 d l n D1 _ => ?_
  simp
  have hk16 : ¬ ((k : Int) < 0 ∨ ((List.replicate 16 zero64).length : Int) ≤ k) := by simp; omega
  have w1 : (Dk.mk (List.replicate 16 zero64) (List.replicate 16 zero64) [] false (-1)).write k a = (0, ⟨List.replicate 16 zero64, (List.replicate 16 zero64).set k (pad a), [(k, pad a)], false, -1⟩) := by
    unfold Dk.write
    rw [if_neg (by simp), if_neg hk16, if_neg hla, if_pos (by simp [Dk.power])]
    simp [Dk.power]
  refine write_dsk D1 (D1.old h1) (fun b hb => D1.sep h1 b hb) (by simp) fun S2 pv2 D2 _ => ?_
  rw [w1] at D2 ⊢
  simp
  have w2 : (Dk.mk (List.replicate 16 zero64) ((List.replicate 16 zero64).set k (pad a)) [(k, pad a)] false (-1)).flush = (0, ⟨(List.replicate 16 zero64).set k (pad a), (List.replicate 16 zero64).set k (pad a), [], false, -1⟩) := by
    unfold Dk.flush
    rw [if_neg (by simp), if_pos (by simp [Dk.power])]
    simp [Dk.power, Dk.flushed]
  refine flush_dsk D2 (by simp) fun S3 pv3 D3 _ => ?_
  rw [w2] at D3 ⊢
  simp
  have hk16' : ¬ ((k : Int) < 0 ∨ (((List.replicate 16 zero64).set k (pad a)).length : Int) ≤ k) := by simp; omega
  have w3 : (Dk.mk ((List.replicate 16 zero64).set k (pad a)) ((List.replicate 16 zero64).set k (pad a)) [] false (-1)).write k b = (0, ⟨(List.replicate 16 zero64).set k (pad a), ((List.replicate 16 zero64).set k (pad a)).set k (pad b), [(k, pad b)], false, -1⟩) := by
    unfold Dk.write
    rw [if_neg (by simp), if_neg hk16', if_neg hlb, if_pos (by simp [Dk.power])]
    simp [Dk.power]
  refine write_dsk D3 (D3.old h2) (fun b hb => D3.sep h2 b hb) (by simp) fun S4 pv4 D4 _ => ?_
  rw [w3] at D4 ⊢
  simp [placeIn_all]
  have hS5 : Same S4 ((S4.bump 1).put S4.next (AObj.row [Value.int IntKind.i64 keep] 3 true true)) [] := ⟨by simp, fun m hm _ => by
    have : m ≠ S4.next := by omega
    simp [this]⟩
  have D5 := D4.stays hS5
  refine crash_dsk (keep := [keep]) D5 ⟨⟨_, 1, rfl⟩, by simp [srcCells], by simp [ownsOf]⟩ (fun b hb hm => by
    simp [ownsOf] at hb
    have := D4.at_.fp_lt b hm
    omega) (by simp) fun S6 pv6 cv D6 _ => ?_
  have w6 : (Dk.mk ((List.replicate 16 zero64).set k (pad a)) (((List.replicate 16 zero64).set k (pad a)).set k (pad b)) [(k, pad b)] false (-1)).crash [keep] = ⟨(List.replicate 16 zero64).set k (tear (pad a) (pad b) (max 0 (min keep 64)).toNat), (List.replicate 16 zero64).set k (tear (pad a) (pad b) (max 0 (min keep 64)).toNat), [], false, -1⟩ := by
    have : (Dk.mk ((List.replicate 16 zero64).set k (pad a)) (((List.replicate 16 zero64).set k (pad a)).set k (pad b)) [(k, pad b)] false (-1)).torn [keep] 1 = (List.replicate 16 zero64).set k (tear (pad a) (pad b) (max 0 (min keep 64)).toNat) := by
      simp [Dk.torn, keepOf, hk]
    unfold Dk.crash
    rw [show [(k, pad b)].length = 1 from rfl, this]
  rw [w6] at D6
  simp
  have hrd : (Dk.mk ((List.replicate 16 zero64).set k (tear (pad a) (pad b) (max 0 (min keep 64)).toNat)) ((List.replicate 16 zero64).set k (tear (pad a) (pad b) (max 0 (min keep 64)).toNat)) [] false (-1)).read k = 0 := by
    unfold Dk.read
    rw [if_neg (by simp), if_neg (by simp; omega)]
  refine read_dsk D6 (fun h => absurd hrd h) fun k' x S7 hkk' _ hx hxl g1 g2 g3 D7 => ?_
  obtain rfl : k = k' := by omega
  have hxx : x = tear (pad a) (pad b) (max 0 (min keep 64)).toNat := by
    simp [hk] at hx
    exact hx.symm
  simp
  refine down_ok D7.at_ ?_
  simp
  have hc1 := D7.old h1
  have hc2 := D7.old h2
  refine run_loop (fun j a' S' => ∃ i, j = 64 - i ∧ i ≤ 64 ∧ S' = S7 ∧ Has a' 122 [(1, .slice a1 a.length c1), (2, .slice a2 b.length c2), (3, .int .i64 keep), (15, .slice (some ⟨S6.next + 1, 0, none⟩) 64 64), (17, .int .i64 i)]) _ ⟨0, rfl, by omega, rfl, ⟨rfl, rfl, by simp⟩⟩ ?_
  rintro _ _ S8 ⟨i, rfl, hi, rfl, ha⟩
  obtain ⟨y, rfl⟩ := ha.lit
  by_cases hlt : i < 64
  · have hi64 : (i : Int) < 64 := by omega
    have hw : IntKind.i64.wrap ((i : Int) + 1) = ((i + 1 : Nat) : Int) := by rw [wrap64 (by omega) (by omega)]; rfl
    have hxi : (bv x)[i]? = some (.int .u8 ((if (i : Int) < keep then byteAt b i else byteAt a i).toNat)) := by
      rw [bv_get, hxx, tear_get (by omega) (by omega) hlt]; rfl
    have hbx : i < (bv x).length := by rw [bv_len, hxl]; exact hlt
    by_cases hkp : (i : Int) < keep
    · have hkp2 : ¬ keep ≤ (i : Int) := by omega
      rw [if_pos hkp] at hxi
      by_cases hb : i < b.length
      · have hb' : byteAt b i = b[i] := by unfold byteAt; rw [List.getD_eq_getElem?_getD]; simp [hb]
        obtain ⟨q, o, cells, e, wr, ex, f1, f2, f3, f4, f5⟩ := hc2.idx (i := i) (j := .i64) (S' := S8) (by rw [bv_len]; exact hb)
        have f6 : (bv b)[i]'(by rw [bv_len]; exact hb) = .int .u8 (byteAt b i).toNat := by simp [bv, hb']
        rw [f6] at f5
        simp [fillF, pickL, hlt, hi64, hkp, hkp2, hb, f1, f2, f5, g1, hxi, hw]
        exact ⟨_, by omega, i + 1, rfl, by omega, ⟨rfl, rfl, by simp⟩⟩
      · have hb' : byteAt b i = 0 := by unfold byteAt; rw [List.getD_eq_getElem?_getD]; simp [hb]
        rw [hb'] at hxi
        simp [fillF, pickL, hlt, hi64, hkp, hkp2, hb, g1, hxi, hw]
        exact ⟨_, by omega, i + 1, rfl, by omega, ⟨rfl, rfl, by simp⟩⟩
    · have hkp2 : keep ≤ (i : Int) := by omega
      rw [if_neg hkp] at hxi
      by_cases hb : i < a.length
      · have hb' : byteAt a i = a[i] := by unfold byteAt; rw [List.getD_eq_getElem?_getD]; simp [hb]
        obtain ⟨q, o, cells, e, wr, ex, f1, f2, f3, f4, f5⟩ := hc1.idx (i := i) (j := .i64) (S' := S8) (by rw [bv_len]; exact hb)
        have f6 : (bv a)[i]'(by rw [bv_len]; exact hb) = .int .u8 (byteAt a i).toNat := by simp [bv, hb']
        rw [f6] at f5
        simp [fillF, pickL, hlt, hi64, hkp, hkp2, hb, f1, f2, f5, g1, hxi, hw]
        exact ⟨_, by omega, i + 1, rfl, by omega, ⟨rfl, rfl, by simp⟩⟩
      · have hb' : byteAt a i = 0 := by unfold byteAt; rw [List.getD_eq_getElem?_getD]; simp [hb]
        rw [hb'] at hxi
        simp [fillF, pickL, hlt, hi64, hkp, hkp2, hb, g1, hxi, hw]
        exact ⟨_, by omega, i + 1, rfl, by omega, ⟨rfl, rfl, by simp⟩⟩
  · have : ¬ (i : Int) < 64 := by omega
    simp [fillF, pickL, hlt, this]
    refine disks_true ?_
    simp
end Go.Gx.Y

/-
  PostTorn: the row.
-/
namespace Go.Proofs.Ytegjacoooihpgaa
open Go.Gx Go.Gx.Y Go.Proofs
open Go.ChangeShapes Go.WideShapes Go.ChangeAt Go.RowKit
set_option maxRecDepth 100000
set_option linter.all false

theorem torn_law (S : AS) (vs : List Value) (hS : S.Valid) (h : TyArgs Try.prog S 3 [3, 22, 22, 3] vs) : Gx.Call G 3 vs S fun e _ => e = .ret (.bool true) := by
  obtain ⟨v0, _, rfl, h0, h⟩ := tyArgs_cons h
  obtain ⟨v1, _, rfl, h1, h⟩ := tyArgs_cons h
  obtain ⟨v2, _, rfl, h2, h⟩ := tyArgs_cons h
  obtain ⟨v3, _, rfl, h3, h⟩ := tyArgs_cons h
  obtain rfl := tyArgs_nil h
  obtain ⟨n0, rfl, _⟩ := ty_int u3 (tyV_int u3 h0)
  obtain ⟨n3, rfl, _⟩ := ty_int u3 (tyV_int u3 h3)
  obtain ⟨a, ha, _⟩ := ty_bytes u22 n5 u5 hS (tyV_slice u22 h1)
  obtain ⟨b, hb, _⟩ := ty_bytes u22 n5 u5 hS (tyV_slice u22 h2)
  exact torn_walk ha hb

theorem torn_lifted (os : Os) (started : os.Started) (H : Type) (enc : TypeId × Value → H) :
    ReturnsInHanded {} Try.checked os 3 .any (Rows.postTornSpec.pre6 enc Try.prog Try.f3 Rows.postTornRow.domain false) (Rows.postTornSpec.post enc Try.prog Try.f3 false true false false) :=
  law_returns (C := Try.checked) (G := G) (d := 3) (ts := [3, 22, 22, 3]) (tb := 4) tabOK extOK mixed started own (by kernel_rfl) Try.func3
    (ChangeSpec.witness6 (enc := enc) (C := Try.checked) false ⟨#[], #[.int .i64 0, .slice none 0 0, .slice none 0 0, .int .i64 0], []⟩ 8 (by kernel_rfl) (by kernel_rfl) (by kernel_rfl) (by kernel_rfl))
    laidOut rfl (by kernel_rfl) ub3 (by kernel_rfl) (by
      intro t ht
      simp only [List.mem_cons, List.not_mem_nil, or_false] at ht
      rcases ht with rfl | rfl | rfl | rfl <;> exact ⟨by kernel_rfl, of_decide_eq_true (by kernel_rfl), by kernel_rfl⟩)
    (by
      intro ds hl
      match ds, hl with
      | [_, _, _, _], _ => exact ⟨rfl, rfl, rfl⟩)
    torn_law

theorem torn_holds : Rows.PostTornSaid :=
  OpenClaim.holds_of_wide 3 Try.f3 rfl rfl rfl rfl rfl rfl rfl ⟨rfl, rfl, rfl, rfl, rfl⟩ rfl rfl rfl rfl rfl (by kernel_rfl) Try.func3 (by kernel_rfl)
    (of_decide_eq_true (by kernel_rfl)) (by unfold Func.isWrapper; first | (rw [if_pos (by decide +kernel)]; kernel_rfl) | (rw [if_neg (by decide +kernel)]; exact ⟨rfl, rfl⟩))
    (fun os started H enc _ => torn_lifted os started H enc)
#print axioms torn_holds
end Go.Proofs.Ytegjacoooihpgaa
