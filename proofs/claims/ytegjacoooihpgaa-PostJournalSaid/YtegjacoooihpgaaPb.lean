/-
  They are the program's.
-/
import Derived.Test.YtegjacoooihpgaaPa
import Derived.Test.YtegjacoooihpgaaGd
import Derived.Test.YtegjacoooihpgaaRows
import Derived.KernelRfl
import Derived.Test.YtegjacoooihpgaaGf
import Derived.Test.YtegjacoooihpgaaGg

set_option linter.all false
set_option linter.deprecated false
set_option linter.unusedSimpArgs false
set_option linter.unusedVariables false

namespace Go.Gx.Y
open Go.Gx Go.Proofs
set_option maxRecDepth 100000
theorem c3 : compF Try.prog Try.f3 = some f3 := by kernel_rfl
theorem c4 : compF Try.prog Try.f4 = some f4 := by kernel_rfl
theorem c5 : compF Try.prog Try.f5 = some f5 := by kernel_rfl
theorem c6 : compF Try.prog Try.f6 = some f6 := by kernel_rfl
theorem c7 : compF Try.prog Try.f7 = some f7 := by kernel_rfl
theorem c8 : compF Try.prog Try.f8 = some f8 := by kernel_rfl
theorem c9 : compF Try.prog Try.f9 = some f9 := by kernel_rfl
theorem c10 : compF Try.prog Try.f10 = some f10 := by kernel_rfl
theorem c11 : compF Try.prog Try.f11 = some f11 := by kernel_rfl
theorem c12 : compF Try.prog Try.f12 = some f12 := by kernel_rfl
theorem c13 : compF Try.prog Try.f13 = some f13 := by kernel_rfl
theorem c14 : compF Try.prog Try.f14 = some f14 := by kernel_rfl
theorem c15 : compF Try.prog Try.f15 = some f15 := by kernel_rfl
theorem c16 : compF Try.prog Try.f16 = some f16 := by kernel_rfl
theorem c17 : compF Try.prog Try.f17 = some f17 := by kernel_rfl
theorem c18 : compF Try.prog Try.f18 = some f18 := by kernel_rfl
theorem c19 : compF Try.prog Try.f19 = some f19 := by kernel_rfl
theorem c20 : compF Try.prog Try.f20 = some f20 := by kernel_rfl
theorem c21 : compF Try.prog Try.f21 = some f21 := by kernel_rfl
theorem c22 : compF Try.prog Try.f22 = some f22 := by kernel_rfl
theorem c23 : compF Try.prog Try.f23 = some f23 := by kernel_rfl
theorem c24 : compF Try.prog Try.f24 = some f24 := by kernel_rfl
theorem c25 : compF Try.prog Try.f25 = some f25 := by kernel_rfl
theorem c26 : compF Try.prog Try.f26 = some f26 := by kernel_rfl
theorem c27 : compF Try.prog Try.f27 = some f27 := by kernel_rfl
theorem c28 : compF Try.prog Try.f28 = some f28 := by kernel_rfl
theorem c29 : compF Try.prog Try.f29 = some f29 := by kernel_rfl
theorem c30 : compF Try.prog Try.f30 = some f30 := by kernel_rfl
theorem c31 : compF Try.prog Try.f31 = some f31 := by kernel_rfl
theorem c32 : compF Try.prog Try.f32 = some f32 := by kernel_rfl
theorem c33 : compF Try.prog Try.f33 = some f33 := by kernel_rfl
theorem c34 : compF Try.prog Try.f34 = some f34 := by kernel_rfl
theorem c35 : compF Try.prog Try.f35 = some f35 := by kernel_rfl
theorem c36 : compF Try.prog Try.f36 = some f36 := by kernel_rfl
theorem c37 : compF Try.prog Try.f37 = some f37 := by kernel_rfl
theorem c38 : compF Try.prog Try.f38 = some f38 := by kernel_rfl
theorem c39 : compF Try.prog Try.f39 = some f39 := by kernel_rfl
theorem c40 : compF Try.prog Try.f40 = some f40 := by kernel_rfl
theorem c41 : compF Try.prog Try.f41 = some f41 := by kernel_rfl
theorem c42 : compF Try.prog Try.f42 = some f42 := by kernel_rfl
theorem c43 : compF Try.prog Try.f43 = some f43 := by kernel_rfl
theorem c44 : compF Try.prog Try.f44 = some f44 := by kernel_rfl
theorem c45 : compF Try.prog Try.f45 = some f45 := by kernel_rfl
theorem c46 : compF Try.prog Try.f46 = some f46 := by kernel_rfl
theorem c47 : compF Try.prog Try.f47 = some f47 := by kernel_rfl
theorem c48 : compF Try.prog Try.f48 = some f48 := by kernel_rfl
theorem c49 : compF Try.prog Try.f49 = some f49 := by kernel_rfl
theorem c50 : compF Try.prog Try.f50 = some f50 := by kernel_rfl
theorem c51 : compF Try.prog Try.f51 = some f51 := by kernel_rfl
theorem tabOK : TableOK Try.prog tab := by
  intro k ifn h
  unfold tab at h
  split at h
  · cases h; exact ⟨_, Try.func3, c3⟩
  · cases h; exact ⟨_, Try.func4, c4⟩
  · cases h; exact ⟨_, Try.func5, c5⟩
  · cases h; exact ⟨_, Try.func6, c6⟩
  · cases h; exact ⟨_, Try.func7, c7⟩
  · cases h; exact ⟨_, Try.func8, c8⟩
  · cases h; exact ⟨_, Try.func9, c9⟩
  · cases h; exact ⟨_, Try.func10, c10⟩
  · cases h; exact ⟨_, Try.func11, c11⟩
  · cases h; exact ⟨_, Try.func12, c12⟩
  · cases h; exact ⟨_, Try.func13, c13⟩
  · cases h; exact ⟨_, Try.func14, c14⟩
  · cases h; exact ⟨_, Try.func15, c15⟩
  · cases h; exact ⟨_, Try.func16, c16⟩
  · cases h; exact ⟨_, Try.func17, c17⟩
  · cases h; exact ⟨_, Try.func18, c18⟩
  · cases h; exact ⟨_, Try.func19, c19⟩
  · cases h; exact ⟨_, Try.func20, c20⟩
  · cases h; exact ⟨_, Try.func21, c21⟩
  · cases h; exact ⟨_, Try.func22, c22⟩
  · cases h; exact ⟨_, Try.func23, c23⟩
  · cases h; exact ⟨_, Try.func24, c24⟩
  · cases h; exact ⟨_, Try.func25, c25⟩
  · cases h; exact ⟨_, Try.func26, c26⟩
  · cases h; exact ⟨_, Try.func27, c27⟩
  · cases h; exact ⟨_, Try.func28, c28⟩
  · cases h; exact ⟨_, Try.func29, c29⟩
  · cases h; exact ⟨_, Try.func30, c30⟩
  · cases h; exact ⟨_, Try.func31, c31⟩
  · cases h; exact ⟨_, Try.func32, c32⟩
  · cases h; exact ⟨_, Try.func33, c33⟩
  · cases h; exact ⟨_, Try.func34, c34⟩
  · cases h; exact ⟨_, Try.func35, c35⟩
  · cases h; exact ⟨_, Try.func36, c36⟩
  · cases h; exact ⟨_, Try.func37, c37⟩
  · cases h; exact ⟨_, Try.func38, c38⟩
  · cases h; exact ⟨_, Try.func39, c39⟩
  · cases h; exact ⟨_, Try.func40, c40⟩
  · cases h; exact ⟨_, Try.func41, c41⟩
  · cases h; exact ⟨_, Try.func42, c42⟩
  · cases h; exact ⟨_, Try.func43, c43⟩
  · cases h; exact ⟨_, Try.func44, c44⟩
  · cases h; exact ⟨_, Try.func45, c45⟩
  · cases h; exact ⟨_, Try.func46, c46⟩
  · cases h; exact ⟨_, Try.func47, c47⟩
  · cases h; exact ⟨_, Try.func48, c48⟩
  · cases h; exact ⟨_, Try.func49, c49⟩
  · cases h; exact ⟨_, Try.func50, c50⟩
  · cases h; exact ⟨_, Try.func51, c51⟩
  · cases h
end Go.Gx.Y

/-
  The closed checks, run by the kernel.
-/
namespace Go.Gx.Y
set_option maxRecDepth 100000
theorem disks_run : (callFn tab (fun _ _ => none) (exec tab (fun _ _ => none) 400) 8 [] AS.empty).isTrue = true := by kernel_rfl
theorem journals_run : (callFn tab (fun _ _ => none) (exec tab (fun _ _ => none) 400) 21 [] AS.empty).isTrue = true := by kernel_rfl
end Go.Gx.Y

/-
  The disk: what its functions do.
-/
namespace Go.Gx.Y
open Go.Gx

def G : Tab := ⟨tab, extOf [8, 21]⟩

abbrev ptr (d : Nat) : Value := .pointer (some ⟨d, 0, none⟩)

theorem ext_none {k : Nat} {args : List Value} (h : k ∉ [8, 21]) : G.ext k args = none := extOf_none (.inr h)

theorem state_ok {S : AS} {d : Nat} {c0 c1 c2 c4 : Value} {down : Bool} {e : TypeId} (hd : S.get d = some (.row [c0, c1, c2, .bool down, c4] e true true)) {Q : En → AS → Prop}
    (hq : Q (.ret (.int .i64 (if down then 80 else 0))) S) : Call G 31 [ptr d] S Q := by
  refine call_run' (G := G) rfl (ext_none (by decide)) ?_
  simp [hd, rowLoad]
  cases down <;> simp_all

theorem place_ok {S : AS} {d n len : Nat} {c0 c2 c4 : Value} {down : Bool} {e : TypeId} {at_ : Int}
    (hd : S.get d = some (.row [c0, .slice (some ⟨n, 0, none⟩) len len, c2, .bool down, c4] e true true)) {Q : En → AS → Prop}
    (hq : Q (.ret (.int .i64 (if down then 80 else if at_ < 0 ∨ (len : Int) ≤ at_ then 1 else 0))) S) : Call G 29 [ptr d, .int .i64 at_] S Q := by
  refine call_run' (G := G) rfl (ext_none (by decide)) ?_
  simp
  refine state_ok hd ?_
  cases down
  · simp [hd, rowLoad] at hq ⊢
    by_cases h : at_ < 0
    · simp [hd, rowLoad, h] at hq ⊢
      exact hq
    · by_cases h2 : (len : Int) ≤ at_
      · simp [hd, rowLoad, h, h2] at hq ⊢
        exact hq
      · simp [hd, rowLoad, h, h2] at hq ⊢
        exact hq
  · simp at hq ⊢
    exact hq

theorem power_ok {S : AS} {d : Nat} {c0 c1 c2 : Value} {fuse : Int} {e : TypeId} (hd : S.get d = some (.row [c0, c1, c2, .bool false, .int .i64 fuse] e true true)) {Q : En → AS → Prop}
    (h1 : fuse = 0 → Q (.ret (.bool false)) (S.put d (.row [c0, c1, c2, .bool true, .int .i64 0] e true true)))
    (h2 : 0 < fuse → Q (.ret (.bool true)) (S.put d (.row [c0, c1, c2, .bool false, .int .i64 (IntKind.i64.wrap (fuse - 1))] e true true))) (h3 : fuse < 0 → Q (.ret (.bool true)) S) : Call G 30 [ptr d] S Q := by
  refine call_run' (G := G) rfl (ext_none (by decide)) ?_
  simp [hd, rowLoad]
  by_cases h : fuse = 0
  · subst h
    simp [hd, rowLoad, rowStore, splice] at h1 ⊢
    exact h1
  · by_cases h4 : 0 < fuse
    · simp [hd, rowLoad, rowStore, splice, h4, h] at h2 ⊢
      exact h2
    · simp [hd, rowLoad, h4, h]
      exact h3 (by omega)
end Go.Gx.Y

/-
  What all rows of the disk and the journal want.
-/
namespace Go.Gx.Y
open Go.Gx Go.Proofs
set_option maxRecDepth 100000
set_option linter.all false
theorem mixed : Try.prog.follows .mixedOrders = true := by kernel_rfl
theorem own : ownKnob Try.prog.godebug = none := by kernel_rfl
theorem laidOut : laidOutB Try.prog = true := by kernel_rfl
theorem u3 : Try.prog.underlying 3 = some (.int .i64) := by kernel_rfl
theorem u5 : Try.prog.underlying 5 = some (.int .u8) := by kernel_rfl
theorem u22 : Try.prog.underlying 22 = some (.slice 5) := by kernel_rfl
theorem n5 : Try.prog.cellsOf 5 = 1 := by kernel_rfl
theorem extOK : ExtOK Try.prog G.ext := extOf_ok (P := Try.prog) (ks := [8, 21]) fun k hk => by
  simp only [List.mem_cons, List.not_mem_nil, or_false] at hk
  rcases hk with rfl | rfl
  · exact ⟨⟨Try.f8, Try.func8, by kernel_rfl, by kernel_rfl⟩, closed_run tabOK extNone mixed disks_run⟩
  · exact ⟨⟨Try.f21, Try.func21, by kernel_rfl, by kernel_rfl⟩, closed_run tabOK extNone mixed journals_run⟩
theorem ub3 : Try.prog.underlying 4 = some .bool := by kernel_rfl
end Go.Gx.Y
