/-
  The library's functions are these steps.
-/
import Derived.Test.YtljbmlnddeacfaaGreatDoorFc
import Derived.Test.YtljbmlnddeacfaaGreatDoorFb
import Derived.Shelf.Strconv.Itoa3
import Derived.Shelf.Strconv.AtoiAll
import Derived.Shelf.Strconv.ErrVarAll
import Derived.Shelf.Small.Strs
import Derived.Shelf.Small.Wraps
import Derived.Shelf.Strings.Search2
import Derived.Lib.AppendIntMem
import Derived.Lib.AtoiErrMem
import Derived.Shelf.SlSortCmp.NoneTotal
import Derived.Shelf.SlicesG.Cmp
import Derived.StillTailTactics

set_option linter.all false
set_option linter.deprecated false

namespace Go.Gx.B
open Go Go.Gx Go.Proofs Go.Shelf Go.RowKit Go.Lib
set_option maxRecDepth 100000
set_option linter.all false
/-- what the package's variables hold -/
def LW (w : World) : Prop := Lib.TabIs Tryz.prog w "internal/strconv.uint64pow10" .u64 Lib.pow10Tab ∧ (∃ tp p, w.var? Tryz.prog "strconv.ErrSyntax" = some #[.iface tp p]) ∧ ∃ tp p, w.var? Tryz.prog "strconv.ErrRange" = some #[.iface tp p]
theorem var_stays {w0 w : World} (hs : ∀ b, b < w0.heap.size → w.heap[b]? = w0.heap[b]?) {n : String} {c : Array Value} (h : w0.var? Tryz.prog n = some c) : w.var? Tryz.prog n = some c := by
  unfold World.var? at h ⊢
  rw [Option.bind_eq_some_iff] at h ⊢
  obtain ⟨g, h1, h2⟩ := h
  refine ⟨g, h1, ?_⟩
  have hg : g < w0.heap.size := by
    by_cases hg : g < w0.heap.size
    · exact hg
    · rw [Array.getElem?_eq_none (by omega)] at h2; cases h2
  rw [hs g hg]
  exact h2
theorem LW_stab : Stab LW := by
  rintro w0 w ⟨h1, ⟨a, b, h2⟩, c, d, h3⟩ _ hs
  exact ⟨var_stays hs h1, ⟨a, b, var_stays hs h2⟩, c, d, var_stays hs h3⟩
theorem itoaX_ok : ExtOK Tryz.prog LW itoaX := by
  refine pureX_ok LW_stab ⟨Tryz.f125, Tryz.func125, by kernel_rfl, by kernel_rfl⟩ ?_
  intro args v hs hf
  unfold itoaF at hf
  split at hf
  case h_2 => cases hf
  rename_i n
  split at hf
  case isFalse => cases hf
  rename_i hn
  cases hf
  refine ⟨rfl, fun w hL => ?_⟩
  refine (Any.strconv_Itoa l171 n hn.1 hn.2 w hL.1).mono ?_
  rintro e w' ⟨rfl, k, os, rfl⟩
  exact ⟨by rw [itoaK_eq hn.1 hn.2], below_grow _ _ (Nat.le_refl _) _ _⟩
theorem prefX_ok : ExtOK Tryz.prog LW prefX := by
  refine pureX_ok LW_stab ⟨Tryz.f128, Tryz.func128, by kernel_rfl, by kernel_rfl⟩ ?_
  intro args v hs hf
  unfold prefF at hf
  split at hf
  case h_2 => cases hf
  cases hf
  refine ⟨rfl, fun w hL => ?_⟩
  refine (Any.strings_CutPrefix l103 _ _ w).mono ?_
  rintro e w' ⟨rfl, rfl⟩
  exact ⟨rfl, Below.refl _ _⟩
theorem byteX_ok : ExtOK Tryz.prog LW byteX := by
  refine pureX_ok LW_stab ⟨Tryz.f151, Tryz.func151, by kernel_rfl, by kernel_rfl⟩ ?_
  intro args v hs hf
  unfold byteF at hf
  split at hf
  case h_2 => cases hf
  cases hf
  refine ⟨rfl, fun w hL => ?_⟩
  refine (Any.strings_IndexByte l137 _ _ w).mono ?_
  rintro e w' ⟨rfl, rfl⟩
  exact ⟨by rw [idxA_zero], Below.refl _ _⟩
theorem oneX_ok : ExtOK Tryz.prog LW oneX := by
  refine pureX_ok LW_stab ⟨Tryz.f170, Tryz.func170, by kernel_rfl, by kernel_rfl⟩ ?_
  intro args v hs hf
  unfold oneF at hf
  split at hf
  case h_2 => cases hf
  cases hf
  refine ⟨rfl, fun w hL => ?_⟩
  refine (Any.stringslite_Index_one l219 _ _ w).mono ?_
  rintro e w' ⟨rfl, rfl⟩
  exact ⟨by rw [idxA_zero], Below.refl _ _⟩
theorem atoiX_ok : ExtOK Tryz.prog LW atoiX := by
  refine numX_ok LW_stab ⟨Tryz.f152, Tryz.func152, by kernel_rfl, by kernel_rfl⟩ ?_ ?_
  · intro s v hf w hL
    unfold atoiF at hf
    split at hf
    case isFalse => cases hf
    rename_i hlim
    split at hf
    · rename_i u hu
      cases hf
      refine (Any.strconv_Atoi_ok l172 s (by omega) v hu w).mono ?_
      rintro e w' ⟨rfl, hw⟩
      refine ⟨rfl, ?_⟩
      rcases hw with rfl | ⟨t, rfl⟩
      · exact Below.refl _ _
      · exact Lib.bytesWorld_below _ _ _
    · cases hf
    · cases hf
  · intro s v hf w hL
    unfold atoiF at hf
    split at hf
    case isFalse => cases hf
    rename_i hlim
    split at hf
    · cases hf
    · rename_i hu
      cases hf
      obtain ⟨_, ⟨tp, p, hv⟩, _⟩ := hL
      refine (Any.strconv_Atoi_syntax_var l172 s hlim hu tp p w hv).mono ?_
      rintro e w' ⟨N, rfl, _, _, hb⟩
      exact ⟨N, rfl, hb⟩
    · rename_i hu
      cases hf
      obtain ⟨_, _, tp, p, hv⟩ := hL
      refine (Any.strconv_Atoi_range_var l172 s hlim hu tp p w hv).mono ?_
      rintro e w' ⟨N, rfl, _, _, hb⟩
      exact ⟨N, rfl, hb⟩
theorem cpyX_ok : ExtOK Tryz.prog LW cpyX := by
  refine copyX_ok ⟨Tryz.f159, Tryz.func159, by kernel_rfl, by kernel_rfl⟩ ?_ ?_
  · intro b w h
    exact Any.Builder_copyCheck_used l240 xB b w h
  · intro b w h1 h2 h3
    exact Any.Builder_copyCheck_fresh l240 xB b w h1 h2 h3
theorem bstX_ok : ExtOK Tryz.prog LW bstX := by
  refine strX_ok ⟨Tryz.f139, Tryz.func139, by kernel_rfl, by kernel_rfl⟩ ?_
  intro b g o cap cells p l fz w h1 h2 h3 h4 h5 h6 h7
  exact builder_string l169 xE b g o cap cells p l w h1 h2 h3 h4 h5 h6 h7
end Go.Gx.B

/-
  The sort of notes as this seat has it.
-/
namespace Go.Gx.B
open Go Go.Gx Go.Proofs Go.Shelf Go.Sort Go.RowKit
set_option maxRecDepth 100000
set_option linter.all false
def cf2 (x y : Int × Int) : Int := if Lib.compareInt x.1 y.1 ≠ 0 then Lib.compareInt x.1 y.1 else Lib.compareInt x.2 y.2
theorem two1 (W : World) (a b : Array Value) (t : TypeId) (o : Nat) : ((W.alloc (.cells a t)).alloc (.cells b t)).drew.cell? ⟨W.heap.size, o, none⟩ = a[o]? :=
  cell_of (w := ((W.alloc (.cells a t)).alloc (.cells b t)).drew) (c := a) (e := t) (fz := (0, 0)) (by
    show ((W.alloc (.cells a t)).alloc (.cells b t)).heap[W.heap.size]? = _
    rw [alloc_lt (by rw [World.size_alloc]; omega)]
    exact alloc_new W _)
theorem two2 (W : World) (a b : Array Value) (t : TypeId) (o : Nat) : ((W.alloc (.cells a t)).alloc (.cells b t)).drew.cell? ⟨W.heap.size + 1, o, none⟩ = b[o]? :=
  cell_of (w := ((W.alloc (.cells a t)).alloc (.cells b t)).drew) (c := b) (e := t) (fz := (0, 0)) (by
    show ((W.alloc (.cells a t)).alloc (.cells b t)).heap[W.heap.size + 1]? = _
    have := alloc_new (W.alloc (.cells a t)) (.cells b t)
    rw [World.size_alloc] at this
    exact this)
set_option maxHeartbeats 2000000 in
theorem cmpOr (r1 r2 : Int) (b : Nat) (W : World) (h1 : W.cell? ⟨b, 0, none⟩ = some (.int .i64 r1)) (h2 : W.cell? ⟨b, 1, none⟩ = some (.int .i64 r2)) :
    Calls Tryz.prog 131 #[.slice (some ⟨b, 0, none⟩) 2 2] W fun e w' => e = .returned (.int .i64 (if r1 ≠ 0 then r1 else r2)) ∧ ∃ q, w' = W.drewN q := by
  go_enter Tryz.func131, Tryz.ntmps131
  go_wp2
  refine wp_loop_rounds 3 ?_
  rw [rounds_succ]
  by_cases c1 : r1 = 0
  · subst c1
    go_wp2
    rw [rounds_succ]
    by_cases c2 : r2 = 0
    · subst c2
      go_wp2
      rw [rounds_succ]
      go_wp2
      go_ret
      exact ⟨by simp, 0, rfl⟩
    · go_wp2
      go_ret
      exact ⟨by simp, 0, rfl⟩
  · go_wp2
    go_ret
    exact ⟨by simp [c1], 0, rfl⟩
theorem lt2 (x y : Int × Int) : ltOf cf2 x y = decide (x.1 < y.1 ∨ x.1 = y.1 ∧ x.2 < y.2) := by
  unfold ltOf cf2 Lib.compareInt
  by_cases h1 : x.1 < y.1
  · simp [h1]
  · by_cases h2 : y.1 < x.1
    · have h3 : ¬ x.1 = y.1 := by omega
      simp [h1, h2, h3]
    · have h3 : x.1 = y.1 := by omega
      by_cases h4 : x.2 < y.2
      · simp [h3, h4]
      · by_cases h5 : y.2 < x.2 <;> simp [h3, h4, h5]
theorem swo2 : SWO (ltOf cf2) where
  irrefl x := by rw [lt2]; simp
  trans x y z h1 h2 := by rw [lt2] at *; simp at *; omega
  ntrans x y z h1 h2 := by rw [lt2] at *; simp at *; omega
theorem nle2 (x y : Int × Int) : (!(ltOf cf2) y x) = le2 x y := by
  rw [lt2]
  unfold le2
  rw [← decide_not]
  exact decide_eq_decide.2 (by omega)
theorem tot2 (x y : Int × Int) (h : (ltOf cf2) x y = false) (k : (ltOf cf2) y x = false) : x = y := by
  rw [lt2, decide_eq_false_iff_not] at h k
  obtain ⟨x1, x2⟩ := x
  obtain ⟨y1, y2⟩ := y
  simp only at h k
  have h1 : x1 = y1 := by omega
  have h2 : x2 = y2 := by omega
  rw [h1, h2]
set_option maxHeartbeats 2000000 in
theorem closure119 (f : Int × Int → Int) (h : Int × Int → ByteArray) (x y : Int × Int) (W : World) : Calls Tryz.prog 119 #[.agg #[.int .i64 x.1, .int .i64 x.2, .int .i64 (f x), .string (h x)], .agg #[.int .i64 y.1, .int .i64 y.2, .int .i64 (f y), .string (h y)]] W fun e w' => e = .returned (.int .i64 (cf2 x y)) ∧ ∃ q os', w' = grow (W.drewN q) os' := by
  have hcon := fun a b W' => AnyG.cmp_Compare_int laysC a b W'
  change ∀ a b W', Calls Tryz.prog 132 _ _ _ at hcon
  go_enter Tryz.func119, Tryz.ntmps119
  go_wp2_with (go_at_call 132; refine (hcon _ _ _).mono ?_; rintro e w' ⟨rfl, rfl⟩)
  generalize hW1 : (W.alloc (Obj.cells #[Value.int IntKind.i64 x.1, Value.int IntKind.i64 x.2, Value.int IntKind.i64 (f x), Value.string (h x)] 104)).alloc (Obj.cells #[Value.int IntKind.i64 y.1, Value.int IntKind.i64 y.2, Value.int IntKind.i64 (f y), Value.string (h y)] 104) = W1
  refine wp_region_still_tail 10 (by kernel_rfl) (by kernel_rfl) ?_
  change wpStill _ _ W1.drew _ _ _
  have h1 : W1.drew.cell? ⟨W.heap.size, 0, none⟩ = some (.int .i64 x.1) := by rw [← hW1]; exact two1 W _ _ _ 0
  have h2 : W1.drew.cell? ⟨W.heap.size, 1, none⟩ = some (.int .i64 x.2) := by rw [← hW1]; exact two1 W _ _ _ 1
  have h3 : W1.drew.cell? ⟨W.heap.size + 1, 0, none⟩ = some (.int .i64 y.1) := by rw [← hW1]; exact two2 W _ _ _ 0
  have h4 : W1.drew.cell? ⟨W.heap.size + 1, 1, none⟩ = some (.int .i64 y.2) := by rw [← hW1]; exact two2 W _ _ _ 1
  generalize hW2 : W1.drew = W2 at *
  simp only [List.take_succ_cons, List.take_zero, List.drop_succ_cons, List.drop_zero]
  repeat still_step
  still_call (hcon _ _ _)
  repeat still_step
  still_call (hcon _ _ _)
  refine wpStill_nil ?_
  have hor := cmpOr (Lib.compareInt x.1 y.1) (Lib.compareInt x.2 y.2) W2.heap.size (W2.alloc (.cells #[Value.int IntKind.i64 (Lib.compareInt x.1 y.1), Value.int IntKind.i64 (Lib.compareInt x.2 y.2)] 3))
    (cell_of (c := #[Value.int IntKind.i64 (Lib.compareInt x.1 y.1), Value.int IntKind.i64 (Lib.compareInt x.2 y.2)]) (e := 3) (fz := (0, 0)) (alloc_new _ _))
    (cell_of (c := #[Value.int IntKind.i64 (Lib.compareInt x.1 y.1), Value.int IntKind.i64 (Lib.compareInt x.2 y.2)]) (e := 3) (fz := (0, 0)) (alloc_new _ _))
  change Calls Tryz.prog 131 _ _ (fun e w' => e = .returned (.int .i64 (cf2 x y)) ∧ _) at hor
  generalize hrr : cf2 x y = rr at hor
  go_wp2_with (go_at_call 131; refine hor.mono ?_; rintro e w' ⟨rfl, q, rfl⟩)
  go_ret
  refine ⟨?_, 1 + q, #[.cells #[Value.int IntKind.i64 x.1, Value.int IntKind.i64 x.2, Value.int IntKind.i64 (f x), Value.string (h x)] 104, .cells #[Value.int IntKind.i64 y.1, Value.int IntKind.i64 y.2, Value.int IntKind.i64 (f y), Value.string (h y)] 104, .cells #[Value.int IntKind.i64 (Lib.compareInt x.1 y.1), Value.int IntKind.i64 (Lib.compareInt x.2 y.2)] 3], ?_⟩
  · rw [hrr]; rfl
  subst hW2
  subst hW1
  simp only [World.alloc, World.drew, World.drewN, grow, Nat.add_assoc, Array.push_eq_append, Array.append_assoc]
  rfl
theorem agg104 : ∀ w, (isAgg (renN.t 24)).run Tryz.prog w = .ok true w := fun w => by kernel_rfl
theorem size104 : ∀ w, (Go.sizeOf (renN.t 24)).run Tryz.prog w = .ok 4 w := fun w => by kernel_rfl
theorem enters119 : ∀ args w, (callFunc 119 args).run Tryz.prog w = .ok (.enter 119 args) w := enters_of Tryz.func119 (by kernel_rfl) rfl
theorem nsortC : NSortC Tryz.prog 118 119 where
  fn := ⟨Tryz.f118, Tryz.func118, by kernel_rfl, by kernel_rfl⟩
  none p cap fv w := AnyF.slices_SortFunc_none laysN p cap fv w
  all f h blk off cap d w hH hblk hsz := by
    have hs := AnyQ.slices_SortFunc_total laysN 4 agg104 size104 (encNQ f h) (fun _ => rfl) (fun x v hv => by simp [encNQ, encN] at hv; rcases hv with rfl | rfl | rfl | rfl <;> rfl) cf2 swo2 119 #[] blk off cap d w enters119 (fun m os dk _ x y => closure119 f h x y _) hH hblk hsz tot2
    change Calls Tryz.prog 118 _ _ _ at hs
    refine hs.mono ?_
    rintro e w' ⟨rfl, n, os, rfl⟩
    refine ⟨rfl, n, os, ?_⟩
    unfold sortWorldK
    have : (fun x y => !(ltOf cf2) y x) = le2 := by funext x y; exact nle2 x y
    rw [this]
theorem notX_ok : ExtOK Tryz.prog LW notX := nsortV_ok 104 nsortC
theorem libX_ok : ExtOK Tryz.prog LW libX := extOr_ok itoaX_ok (extOr_ok prefX_ok (extOr_ok byteX_ok (extOr_ok oneX_ok (extOr_ok atoiX_ok (extOr_ok cpyX_ok (extOr_ok bstX_ok notX_ok))))))
end Go.Gx.B
