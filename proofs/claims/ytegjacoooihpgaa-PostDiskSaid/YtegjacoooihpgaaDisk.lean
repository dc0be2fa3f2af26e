/-
  PostDisk returns true for every number of sectors and every script of operations, and its arguments read as before. No condition.
-/
import Derived.Test.YtegjacoooihpgaaPd
import Derived.Test.YtegjacoooihpgaaPc
import Derived.Test.YtegjacoooihpgaaPb

set_option linter.all false
set_option linter.deprecated false
set_option linter.unusedSimpArgs false
set_option linter.unusedVariables false

/-
  PostDisk: the walk.
-/
namespace Go.Gx.Y
open Go.Gx
set_option linter.all false

theorem newDisk_bad {S : AS} {k : Int} (h : k < 16 ∨ 65536 < k) {Q : En → AS → Prop} (hq : Q (.ret (.tuple #[.pointer none, .int .i64 1])) S) : Call G 9 [.int .i64 k] S Q := by
  refine call_run' (G := G) rfl (ext_none (by decide)) ?_
  by_cases h1 : k < 16
  · simp [h1]; exact hq
  · have h2 : 65536 < k := by omega
    simp [h1, h2]; exact hq

theorem DOp.OK.stays {S S' : AS} {o : DOp} (h : o.OK S) (hs : Same S S' []) : o.OK S' := ⟨h.data.stays hs (by simp), h.keep.stays hs (by simp), h.kind, h.n⟩

set_option maxHeartbeats 1000000 in
theorem disk_walk {S : AS} {sectors : Int} {v : Value} {ops : List DOp} (h : Ps S 5 v (ops.map DOp.cells)) (ho : ∀ o ∈ ops, o.OK S) : Call G 4 [.int .i64 sectors, v] S fun e _ => e = .ret (.bool true) := by
  refine call_run' (G := G) rfl (ext_none (by decide)) ?_
  simp
  refine small_ok h ho (fun _ => ?_) fun hl _ => ?_
  · simp
    refine disks_true ?_
    simp
  obtain ⟨a, cap, rfl⟩ := h.shape
  rw [List.length_map] at h ⊢
  simp
  refine cut_w (fun a' S' => S' = S ∧ Has a' 80 [(0, .int .i64 sectors), (1, .slice a ops.length cap)]) (fun M hM => ?_) ?_
  · by_cases h1 : sectors < 16
    · simp [h1]
      refine newDisk_bad (.inl h1) ?_
      simp
      exact hM _ _ ⟨rfl, rfl, rfl, by simp⟩
    · by_cases h2 : 65536 < sectors
      · simp [h1, h2]
        refine newDisk_bad (.inr h2) ?_
        simp
        exact hM _ _ ⟨rfl, rfl, rfl, by simp⟩
      · simp [h1, h2]
        exact hM _ _ ⟨rfl, rfl, rfl, by simp⟩
  rintro _ S' ⟨rfl, ha⟩
  obtain ⟨z, rfl⟩ := ha.lit
  simp [fillF, pickL]
  refine disk_ok fun S1 d l n m sv k hk1 hk2 hB => ?_
  simp
  refine run_loop (fun j a' S2 => ∃ i pv rv D, j = ops.length - i ∧ i ≤ ops.length ∧ Both S' S2 d l n pv m sv rv D ∧ D.pend.length ≤ i ∧ Has a' 80 [(1, .slice a ops.length cap), (7, ptr d), (8, ptr m), (10, .int .i64 i)]) _ ⟨0, _, _, _, rfl, by omega, hB, by simp, ⟨rfl, rfl, by simp⟩⟩ ?_
  rintro _ R hR _ S2 ⟨i, pv, rv, D, rfl, hi, hB, hpn, ha⟩
  obtain ⟨z, rfl⟩ := ha.lit
  by_cases hlt : i < ops.length
  · have hw : IntKind.i64.wrap ((i : Int) + 1) = ((i + 1 : Nat) : Int) := by rw [wrap64 (by omega) (by omega)]; rfl
    have hc : ops[i]? = some ops[i] := List.getElem?_eq_getElem hlt
    have hoo := ho ops[i] (by simp)
    generalize ops[i] = o at hc hoo
    obtain ⟨p, off, cells, e, wr, ex, e1, e2, e3, e4, e5, e6⟩ := h.idx (by omega) (i := i) (j := .i64) (S' := S2) (l := o.cells) (by rw [List.getElem?_map, hc]; rfl)
    have e7 := (hB.dk.same.2 p e3 (by simp)).trans e2
    simp [fillF, pickL, hlt, e1, e7, e6]
    refine step_ok hB hoo (by omega) fun S3 pv' rv' D' hs1 hs2 hB' => ?_
    have e8 := (hB'.dk.same.2 p e3 (by simp)).trans e2
    have hm := hB'.rf.obj
    simp [e8, e6, hm]
    refine down_ok hB'.dk.at_ ?_
    simp [e8, e6, hm, hw]
    exact hR _ _ _ (by omega) ⟨i + 1, pv', rv', D', rfl, by omega, hB', by omega, ⟨rfl, rfl, by simp⟩⟩
  · obtain rfl : i = ops.length := by omega
    simp [fillF, pickL]
    refine run_loop (fun j a' S3 => ∃ i pv' rv' D', j = D.last.length - i ∧ i ≤ D.last.length ∧ D'.last.length = D.last.length ∧ Both S' S3 d l n pv' m sv rv' D' ∧ D'.pend.length ≤ ops.length + i ∧ Has a' 80 [(7, ptr d), (8, ptr m), (11, .int .i64 i)]) _ ⟨0, pv, rv, D, rfl, by omega, rfl, hB, by omega, ⟨rfl, rfl, by simp⟩⟩ ?_
    rintro _ R hR _ S3 ⟨i, pv', rv', D', rfl, hi, hln, hB', hpn', ha⟩
    obtain ⟨y, rfl⟩ := ha.lit
    have hbg := hB.dk.at_.big
    have hm := hB'.rf.obj
    have hll := hB'.rf.last.ln (S' := S3)
    simp only [List.length_map, hln] at hll
    by_cases hlt : i < D.last.length
    · have hw : IntKind.i64.wrap ((i : Int) + 1) = ((i + 1 : Nat) : Int) := by rw [wrap64 (by omega) (by omega)]; rfl
      simp [fillF, pickL, hlt, hm, hll, placeIn, splice]
      refine step_ok (o := ⟨0, i, .slice none 0 0, [], 0, .slice none 0 0, []⟩) hB' ⟨⟨⟨none, 0, rfl⟩, rfl, by simp [ownsOf]⟩, ⟨⟨none, 0, rfl⟩, rfl, by simp [ownsOf]⟩, by simp, by simp⟩ (by omega) fun S4 pv4 rv4 D4 hs1 hs2 hB4 => ?_
      simp [hw]
      exact hR _ _ _ (by omega) ⟨i + 1, pv4, rv4, D4, rfl, by omega, hs2.trans hln, hB4, by omega, ⟨rfl, rfl, by simp⟩⟩
    · obtain rfl : i = D.last.length := by omega
      simp [fillF, pickL, hm, hll]
      refine disks_true ?_
      simp
end Go.Gx.Y

/-
  PostDisk: the row.
-/
namespace Go.Proofs.Ytegjacoooihpgaa
open Go.Gx Go.Gx.Y Go.Proofs
open Go.ChangeShapes Go.WideShapes Go.ChangeAt Go.RowKit
set_option maxRecDepth 100000
set_option linter.all false

theorem u36 : Try.prog.underlying 36 = some (.slice 43) := by kernel_rfl
theorem u32 : Try.prog.underlying 32 = some (.slice 3) := by kernel_rfl
theorem n43 : Try.prog.cellsOf 43 = 5 := by kernel_rfl
theorem n3 : Try.prog.cellsOf 3 = 1 := by kernel_rfl
theorem n22 : Try.prog.cellsOf 22 = 1 := by kernel_rfl
theorem n32 : Try.prog.cellsOf 32 = 1 := by kernel_rfl
theorem fields43 : fieldsAt Try.prog 43 = [(5, 0), (3, 1), (22, 2), (3, 3), (32, 4)] := by kernel_rfl

theorem ty_ints {S : AS} {d : Nat} {v : Value} (hS : S.Valid) (h : Ty Try.prog S (d + 2) 32 [v]) : ∃ ks : List Int, Cs S v (ks.map (.int .i64 ·)) ∧ ∀ k ∈ ks, -9223372036854775808 ≤ k ∧ k ≤ 9223372036854775807 := by
  obtain ⟨cs, g1, g2, g3⟩ := ty_slice1 u32 n3 hS h
  obtain ⟨ks, rfl, hks⟩ := ints_of fun c hc => ty_int u3 (g3 c hc)
  exact ⟨ks, g1, hks⟩

theorem ty_op {S : AS} {d : Nat} {cs : List Value} (hS : S.Valid) (h : Ty Try.prog S (d + 3) 43 cs) : ∃ o : DOp, cs = o.cells ∧ o.OK S := by
  obtain ⟨hl, hf⟩ := ty_struct fields43 (by simp) h
  rw [n43] at hl
  match cs, hl with
  | [c0, c1, c2, c3, c4], _ =>
    have f0 := hf (5, 0) (by simp)
    have f1 := hf (3, 1) (by simp)
    have f2 := hf (22, 2) (by simp)
    have f3 := hf (3, 3) (by simp)
    have f4 := hf (32, 4) (by simp)
    simp only [n5, n3, n22, n32] at f0 f1 f2 f3 f4
    obtain ⟨kind, rfl, hk⟩ := ty_int u5 f0
    obtain ⟨sector, rfl, hs⟩ := ty_int u3 f1
    obtain ⟨data, hd, _⟩ := ty_bytes u22 n5 u5 hS f2
    obtain ⟨n, rfl, hn⟩ := ty_int u3 f3
    obtain ⟨keep, hke, _⟩ := ty_ints hS f4
    exact ⟨⟨kind, sector, c2, data, n, c4, keep⟩, rfl, hd, hke, wf_u8 hk, wf_i64 hn⟩

theorem disk_law (S : AS) (vs : List Value) (hS : S.Valid) (h : TyArgs Try.prog S 5 [3, 36] vs) : Gx.Call G 4 vs S fun e _ => e = .ret (.bool true) := by
  obtain ⟨v0, _, rfl, h0, h⟩ := tyArgs_cons h
  obtain ⟨v1, _, rfl, h1, h⟩ := tyArgs_cons h
  obtain rfl := tyArgs_nil h
  obtain ⟨n0, rfl, _⟩ := ty_int u3 (tyV_int u3 h0)
  obtain ⟨ls, hp, _, hls⟩ := ty_slice u36 n43 (by omega) hS (tyV_slice u36 h1)
  obtain ⟨ops, rfl, hops⟩ := map_of fun l hl => ty_op hS (hls l hl)
  exact disk_walk hp hops

theorem disk_lifted (os : Os) (started : os.Started) (H : Type) (enc : TypeId × Value → H) :
    ReturnsInHanded {} Try.checked os 4 .any (Rows.postDiskSpec.pre6 enc Try.prog Try.f4 Rows.postDiskRow.domain false) (Rows.postDiskSpec.post enc Try.prog Try.f4 false true false false) :=
  law_returns (C := Try.checked) (G := G) (d := 5) (ts := [3, 36]) (tb := 4) tabOK extOK mixed started own (by kernel_rfl) Try.func4
    (ChangeSpec.witness6 (enc := enc) (C := Try.checked) false ⟨#[], #[.int .i64 0, .slice none 0 0], []⟩ 8 (by kernel_rfl) (by kernel_rfl) (by kernel_rfl) (by kernel_rfl))
    laidOut rfl (by kernel_rfl) ub3 (by kernel_rfl) (by
      intro t ht
      simp only [List.mem_cons, List.not_mem_nil, or_false] at ht
      rcases ht with rfl | rfl <;> exact ⟨by kernel_rfl, of_decide_eq_true (by kernel_rfl), by kernel_rfl⟩)
    (by
      intro ds hl
      match ds, hl with
      | [_, _], _ => exact ⟨rfl, rfl, rfl⟩)
    disk_law

theorem disk_holds : Rows.PostDiskSaid :=
  OpenClaim.holds_of_wide 4 Try.f4 rfl rfl rfl rfl rfl rfl rfl ⟨rfl, rfl, rfl, rfl, rfl⟩ rfl rfl rfl rfl rfl (by kernel_rfl) Try.func4 (by kernel_rfl)
    (of_decide_eq_true (by kernel_rfl)) (by unfold Func.isWrapper; first | (rw [if_pos (by decide +kernel)]; kernel_rfl) | (rw [if_neg (by decide +kernel)]; exact ⟨rfl, rfl⟩))
    (fun os started H enc _ => disk_lifted os started H enc)
#print axioms disk_holds
end Go.Proofs.Ytegjacoooihpgaa
