/-
  What this seat's rows know: the package's variables, the arguments.
-/
import Derived.Test.YtljbmlnddeacfaaGreatDoorFe
import Derived.Lib.LaidTab
import Derived.OpenShut

set_option linter.all false
set_option linter.deprecated false

namespace Go.Gx.B
open Go Go.Gx Go.Proofs Go.Lib
open Go.Proofs.YtljbmlnddeacfaaGreatDoor
set_option maxRecDepth 100000
set_option linter.all false

theorem iface_cs {P : Program} {W : World} {t : TypeId} {ms : Array (String × TypeId)} {cs : List Value} {base fuel : Nat} {sp : Nat → Bool} {name : String} {d : DataW Unit} {p : List MemPlace} (hu : P.underlying t = some (.interface ms))
    (h : DataW.trod (fun _ => ()) P W base sp false fuel t cs = some (.iface name d, p)) : ∃ u v, cs = [.iface u v] := by
  cases fuel with
  | zero => simp [DataW.trod] at h
  | succ fuel =>
    rcases cs with _ | ⟨c, _ | ⟨c2, r⟩⟩
    · simp [DataW.trod, hu] at h
    · cases c <;> simp [DataW.trod, hu] at h ⊢
    · simp [DataW.trod, hu] at h
abbrev laid5 : List (String × DataW Unit) := [("math/bits.deBruijn32tab", Rows.laid_math_bits_deBruijn32tab), ("math/bits.deBruijn64tab", Rows.laid_math_bits_deBruijn64tab), ("internal/strconv.uint64pow10", Rows.laid_internal_strconv_uint64pow10), ("strconv.ErrRange", Rows.laid_strconv_ErrRange), ("strconv.ErrSyntax", Rows.laid_strconv_ErrSyntax)]
theorem gPow : Tryz.prog.globalNamed "internal/strconv.uint64pow10" = some 1 := by kernel_rfl
theorem gSyn : Tryz.prog.globalNamed "strconv.ErrSyntax" = some 2 := by kernel_rfl
theorem gRng : Tryz.prog.globalNamed "strconv.ErrRange" = some 3 := by kernel_rfl
theorem tPow : (Tryz.prog.globals[1]?).map (·.type) = some 258 := by kernel_rfl
theorem tSyn : (Tryz.prog.globals[2]?).map (·.type) = some 205 := by kernel_rfl
theorem tRng : (Tryz.prog.globals[3]?).map (·.type) = some 205 := by kernel_rfl
theorem u258 : Tryz.prog.underlying 258 = some (.array 20 229) := by kernel_rfl
theorem u229 : Tryz.prog.underlying 229 = some (.int .u64) := by kernel_rfl
theorem n229 : Tryz.prog.cellsOf 229 = 1 := by kernel_rfl
theorem n258 : Tryz.prog.cellsOf 258 = 20 := by kernel_rfl
theorem u205 : ∃ ms, Tryz.prog.underlying 205 = some (.interface ms) := ⟨_, Tryz.underlying205⟩
theorem laid_LW (W : World) (h : laidMetH Tryz.prog laid5 W) : LW W := by
  rw [MakeChecks.laidMetH_plain _ _ _ (by kernel_rfl)] at h
  obtain ⟨ps, ⟨_, _, _, _, _, _, _, _, _, _, ⟨_, _, _, _, _, _, _, _, _, _, ⟨g, t, cs, f, p, q, hg, ht, hv, hd, ⟨g2, t2, cs2, f2, p2, q2, hg2, ht2, hv2, hd2, ⟨g3, t3, cs3, f3, p3, q3, hg3, ht3, hv3, hd3, _⟩, _⟩, _⟩, _⟩, _⟩, _⟩ := h
  obtain rfl := Option.some.inj (gPow.symm.trans hg)
  obtain rfl := Option.some.inj (gRng.symm.trans hg2)
  obtain rfl := Option.some.inj (gSyn.symm.trans hg3)
  obtain rfl := Option.some.inj (tPow.symm.trans ht)
  obtain rfl := Option.some.inj (tRng.symm.trans ht2)
  obtain rfl := Option.some.inj (tSyn.symm.trans ht3)
  obtain ⟨ms, hu⟩ := u205
  obtain ⟨a1, b1, e1⟩ := iface_cs hu hd2
  obtain ⟨a2, b2, e2⟩ := iface_cs hu hd3
  refine ⟨?_, ⟨a2, b2, ?_⟩, a1, b1, ?_⟩
  · have e : (Rows.laid_internal_strconv_uint64pow10 : DataW Unit) = Lib.tabData .u64 Lib.pow10Tab := by rfl
    rw [e] at hd
    unfold Lib.TabIs
    rw [hv, ← Lib.cells_of_tab u258 u229 n229 n258 hd]
  · rw [hv3]
    congr 1
    obtain ⟨l⟩ := cs3
    simp only at e2
    rw [e2]
  · rw [hv2]
    congr 1
    obtain ⟨l⟩ := cs2
    simp only at e1
    rw [e1]

theorem u3 : Tryz.prog.underlying 3 = some (.int .i64) := by kernel_rfl
theorem u4 : Tryz.prog.underlying 4 = some .bool := by kernel_rfl
theorem u9 : Tryz.prog.underlying 9 = some .string := by kernel_rfl
theorem u23 : Tryz.prog.underlying 23 = some (.slice 104) := by kernel_rfl
theorem n3 : Tryz.prog.cellsOf 3 = 1 := by kernel_rfl
theorem n9 : Tryz.prog.cellsOf 9 = 1 := by kernel_rfl
theorem n104 : Tryz.prog.cellsOf 104 = 4 := by kernel_rfl
theorem fa104 : fieldsAt Tryz.prog 104 = [(3, 0), (3, 1), (3, 2), (9, 3)] := by kernel_rfl
/-- an argument that is a slice of notes -/
theorem notes_of {S : AS} {d : Nat} {v : Value} (hv : S.Valid) (h : Ty Tryz.prog S (d + 3) 23 [v]) : ∃ l : List Nt, Ns S v l := by
  obtain ⟨ls, h1, h2, h3⟩ := ty_slice u23 n104 (by omega) hv h
  have : ∃ l : List Nt, ls = l.map Nt.cells ∧ ∀ x ∈ l, x.text.length ≤ maxLen := by
    clear h1 h2
    induction ls with
    | nil => exact ⟨[], rfl, by simp⟩
    | cons x xs ih =>
      obtain ⟨l, rfl, hl⟩ := ih fun y hy => h3 y (by simp [hy])
      obtain ⟨g1, g2⟩ := ty_struct fa104 (by simp) (h3 x (by simp))
      rw [n104] at g1
      match x, g1 with
      | [a, b, c, e], _ =>
        have ga := g2 (3, 0) (by simp)
        have gb := g2 (3, 1) (by simp)
        have gc := g2 (3, 2) (by simp)
        have gd := g2 (9, 3) (by simp)
        simp only [n3, n9] at ga gb gc gd
        obtain ⟨n0, rfl, _⟩ := ty_int u3 ga
        obtain ⟨n1, rfl, _⟩ := ty_int u3 gb
        obtain ⟨n2, rfl, _⟩ := ty_int u3 gc
        obtain ⟨t, rfl, ht⟩ := ty_str u9 gd
        exact ⟨⟨n0, n1, n2, t⟩ :: l, rfl, fun y hy => by
          rcases List.mem_cons.1 hy with rfl | hy
          · exact ht
          · exact hl y hy⟩
  obtain ⟨l, rfl, htx⟩ := this
  rw [List.length_map] at h2
  refine ⟨l, h2, htx, ?_⟩
  have hc := h1.cells
  obtain ⟨a0, c0, hsh⟩ := h1.shape
  rw [List.length_map] at hsh hc
  unfold Ty at h
  rw [u23] at h
  simp only [List.cons.injEq, and_true] at h
  rcases h with rfl | rfl | ⟨n, len, cap, cells, et, rfl, h2, h3, h4, h5, h6, h7⟩
  · have hl0 : l.length = 0 := by injection hsh with _ h _; exact h.symm
    exact .inl ⟨List.length_eq_zero_iff.1 hl0, .inl rfl⟩
  · have hl0 : l.length = 0 := by injection hsh with _ h _; exact h.symm
    exact .inl ⟨List.length_eq_zero_iff.1 hl0, .inr ⟨_, _, _, rfl⟩⟩
  · have hl0 : l.length = len := by injection hsh with _ h _; exact h.symm
    subst hl0
    rw [n104] at h6
    refine .inr ⟨n, 0, cap, cells, et, false, true, rfl, h3, h2, hv _ _ h2 (by simp), .inl rfl, by omega, ?_⟩
    simp only [srcCells, h2] at hc
    split at hc
    · rename_i h0
      have : l = [] := List.length_eq_zero_iff.1 (by omega)
      subst this; simp [flatC]
    · rw [if_pos (by omega)] at hc
      simp only [Option.some.injEq, Prod.mk.injEq, true_and] at hc
      exact hc
end Go.Gx.B
