/-
  slices.SortFunc at pairs as this seat has it.
-/
import Derived.Test.YtamljcdnphjgaaaFd
import Derived.Shelf.SlLaysF0
import Derived.Shelf.SlicesG.Cmp
import Derived.StillTailTactics
import Derived.Shelf.SlSortCmp.NoneTotal
set_option linter.all false
set_option linter.deprecated false
set_option linter.unusedSimpArgs false
set_option linter.unusedVariables false
namespace Go.Gx.A
open Go.Gx Go.Proofs Go.Shelf
set_option maxRecDepth 100000
def renS : Ren:=⟨fun k=>(([(6,119),(14,149),(15,150),(20,164),(21,165),(22,166),(23,167),(24,168),(25,169),(26,170),(27,171),(28,172),(29,173),(46,187),(47,188),(48,189),(49,190),(50,191),(57,197)] : List (Nat × Nat)).lookup k).getD k,fun t=>(([(22,62),(24,81),(25,168),(39,200),(45,210),(46,211),(50,184),(53,217),(55,219),(66,233),(70,237),(76,242),(77,243)] : List (Nat × Nat)).lookup t).getD t,fun g=>g⟩
theorem laysS : SlLaysF0.n6 Try.prog renS where
 mixed:=by kernel_rfl
 f6 := ⟨"slices.SortFunc[[]sennet/api.Pair,sennet/api.Pair]", by kernel_rfl, by kernel_rfl⟩
 f14 := ⟨"slices.pdqsortCmpFunc[sennet/api.Pair]", by kernel_rfl, by kernel_rfl⟩
 f15:=by kernel_rfl
 f20 := ⟨"slices.insertionSortCmpFunc[sennet/api.Pair]", by kernel_rfl, by kernel_rfl⟩
 f21 := ⟨"slices.heapSortCmpFunc[sennet/api.Pair]", by kernel_rfl, by kernel_rfl⟩
 f22 := ⟨"slices.breakPatternsCmpFunc[sennet/api.Pair]", by kernel_rfl, by kernel_rfl⟩
 f23 := ⟨"slices.choosePivotCmpFunc[sennet/api.Pair]", by kernel_rfl, by kernel_rfl⟩
 f24 := ⟨"slices.reverseRangeCmpFunc[sennet/api.Pair]", by kernel_rfl, by kernel_rfl⟩
 f25 := ⟨"slices.partialInsertionSortCmpFunc[sennet/api.Pair]", by kernel_rfl, by kernel_rfl⟩
 f26 := ⟨"slices.partitionEqualCmpFunc[sennet/api.Pair]", by kernel_rfl, by kernel_rfl⟩
 f27 := ⟨"slices.partitionCmpFunc[sennet/api.Pair]", by kernel_rfl, by kernel_rfl⟩
 f28:=by kernel_rfl
 f29:=by kernel_rfl
 f46 := ⟨"slices.siftDownCmpFunc[sennet/api.Pair]", by kernel_rfl, by kernel_rfl⟩
 f47:=by kernel_rfl
 f48:=by kernel_rfl
 f49 := ⟨"slices.medianAdjacentCmpFunc[sennet/api.Pair]", by kernel_rfl, by kernel_rfl⟩
 f50 := ⟨"slices.medianCmpFunc[sennet/api.Pair]", by kernel_rfl, by kernel_rfl⟩
 f57 := ⟨"slices.order2CmpFunc[sennet/api.Pair]", by kernel_rfl, by kernel_rfl⟩
 t0:=by kernel_rfl
 a0:=fun w=>by kernel_rfl
 z0:=fun w=>by kernel_rfl
 v0:=fun w=>by kernel_rfl
 t3:=by kernel_rfl
 a3:=fun w=>by kernel_rfl
 z3:=fun w=>by kernel_rfl
 v3:=fun w=>by kernel_rfl
 t4:=by kernel_rfl
 a4:=fun w=>by kernel_rfl
 z4:=fun w=>by kernel_rfl
 v4:=fun w=>by kernel_rfl
 t5:=by kernel_rfl
 a5:=fun w=>by kernel_rfl
 z5:=fun w=>by kernel_rfl
 v5:=fun w=>by kernel_rfl
 t9:=by kernel_rfl
 a9:=fun w=>by kernel_rfl
 z9:=fun w=>by kernel_rfl
 v9:=fun w=>by kernel_rfl
 t22:=by kernel_rfl
 a22:=fun w=>by kernel_rfl
 z22:=fun w=>by kernel_rfl
 v22:=fun w=>by kernel_rfl
 t25:=by kernel_rfl
 a25:=fun w=>by kernel_rfl
 z25:=fun w=>by kernel_rfl
 v25:=fun w=>by kernel_rfl
 t39:=by kernel_rfl
 a39:=fun w=>by kernel_rfl
 z39:=fun w=>by kernel_rfl
 v39:=fun w=>by kernel_rfl
 t45:=by kernel_rfl
 a45:=fun w=>by kernel_rfl
 z45:=fun w=>by kernel_rfl
 v45:=fun w=>by kernel_rfl
 t46:=by kernel_rfl
 a46:=fun w=>by kernel_rfl
 z46:=fun w=>by kernel_rfl
 v46:=fun w=>by kernel_rfl
 t50:=by kernel_rfl
 a50:=fun w=>by kernel_rfl
 z50:=fun w=>by kernel_rfl
 v50:=fun w=>by kernel_rfl
 t53:=by kernel_rfl
 a53:=fun w=>by kernel_rfl
 z53:=fun w=>by kernel_rfl
 v53:=fun w=>by kernel_rfl
 t55:=by kernel_rfl
 a55:=fun w=>by kernel_rfl
 z55:=fun w=>by kernel_rfl
 v55:=fun w=>by kernel_rfl
 t66:=by kernel_rfl
 a66:=fun w=>by kernel_rfl
 z66:=fun w=>by kernel_rfl
 v66:=fun w=>by kernel_rfl
 t70:=by kernel_rfl
 a70:=fun w=>by kernel_rfl
 z70:=fun w=>by kernel_rfl
 v70:=fun w=>by kernel_rfl
 t76:=by kernel_rfl
 a76:=fun w=>by kernel_rfl
 z76:=fun w=>by kernel_rfl
 v76:=fun w=>by kernel_rfl
 t77:=by kernel_rfl
 a77:=fun w=>by kernel_rfl
 z77:=fun w=>by kernel_rfl
 v77:=fun w=>by kernel_rfl

open Go Go.Gx Go.Proofs Go.Shelf Go.Sort
def renC : Ren:=⟨fun k=>if k=5 then 122 else if k=7 then 151 else k,fun t=>if t=22 then 3 else t,fun g=>g⟩
theorem laysC : SlLaysC2.n5 Try.prog renC where
 mixed:=by kernel_rfl
 f5 := ⟨"cmp.Compare[int]", by kernel_rfl, by kernel_rfl⟩
 f7 := ⟨"cmp.isNaN[int]", by kernel_rfl, by kernel_rfl⟩
 t3:=by kernel_rfl
 a3:=fun w=>by kernel_rfl
 z3:=fun w=>by kernel_rfl
 v3:=fun w=>by kernel_rfl
 t4:=by kernel_rfl
 a4:=fun w=>by kernel_rfl
 z4:=fun w=>by kernel_rfl
 v4:=fun w=>by kernel_rfl
 t22:=by kernel_rfl
 a22:=fun w=>by kernel_rfl
 z22:=fun w=>by kernel_rfl
 v22:=fun w=>by kernel_rfl
def cf2 (x y : Int × Int) : Int:=if Lib.compareInt x.1 y.1≠0 then Lib.compareInt x.1 y.1 else Lib.compareInt x.2 y.2
theorem two1 (W : World) (a b : Array Value) (t : TypeId) (o : Nat) : ((W.alloc (.cells a t)).alloc (.cells b t)).drew.cell? ⟨W.heap.size,o,none⟩=a[o]?:=
 cell_of (w:=((W.alloc (.cells a t)).alloc (.cells b t)).drew) (c:=a) (e:=t) (fz:=(0,0)) (by
  show ((W.alloc (.cells a t)).alloc (.cells b t)).heap[W.heap.size]?=_
  rw [alloc_lt (by rw [World.size_alloc]; omega)]
  exact alloc_new W _)
theorem two2 (W : World) (a b : Array Value) (t : TypeId) (o : Nat) : ((W.alloc (.cells a t)).alloc (.cells b t)).drew.cell? ⟨W.heap.size + 1,o,none⟩=b[o]?:=
 cell_of (w:=((W.alloc (.cells a t)).alloc (.cells b t)).drew) (c:=b) (e:=t) (fz:=(0,0)) (by
  show ((W.alloc (.cells a t)).alloc (.cells b t)).heap[W.heap.size + 1]?=_
  have:=alloc_new (W.alloc (.cells a t)) (.cells b t)
  rw [World.size_alloc] at this
  exact this)
set_option maxHeartbeats 2000000 in
theorem cmpOr (r1 r2 : Int) (b : Nat) (W : World) (h1 : W.cell? ⟨b,0,none⟩=some (.int .i64 r1)) (h2 : W.cell? ⟨b,1,none⟩=some (.int .i64 r2)) :
  Calls Try.prog 121 #[.slice (some ⟨b,0,none⟩) 2 2] W fun e w'=>e=.returned (.int .i64 (if r1≠0 then r1 else r2))∧∃ q,w'=W.drewN q:=by
 go_enter Try.func121,Try.ntmps121
 go_wp2
 refine wp_loop_rounds 3 ?_
 rw [rounds_succ]
 by_cases c1 : r1=0
 ·subst c1
  go_wp2
  rw [rounds_succ]
  by_cases c2 : r2=0
  ·subst c2
   go_wp2
   rw [rounds_succ]
   go_wp2
   go_ret
   exact ⟨by simp,0,rfl⟩
  ·go_wp2
   go_ret
   exact ⟨by simp,0,rfl⟩
 ·go_wp2
  go_ret
  exact ⟨by simp [c1],0,rfl⟩
set_option maxHeartbeats 2000000 in
theorem closure120 (x y : Int × Int) (W : World) : Calls Try.prog 120 #[.agg #[.int .i64 x.1,.int .i64 x.2],.agg #[.int .i64 y.1,.int .i64 y.2]] W fun e w'=>e=.returned (.int .i64 (cf2 x y))∧∃ q os',w'=grow (W.drewN q) os':=by
 have hcon:=fun a b W'=>AnyG.cmp_Compare_int laysC a b W'
 change ∀ a b W',Calls Try.prog 122 _ _ _ at hcon
 go_enter Try.func120,Try.ntmps120
 go_wp2_with (go_at_call 122; refine (hcon _ _ _).mono ?_; rintro e w' ⟨rfl,rfl⟩)
 generalize hW1 : (W.alloc (Obj.cells #[Value.int IntKind.i64 x.1,Value.int IntKind.i64 x.2] 81)).alloc (Obj.cells #[Value.int IntKind.i64 y.1,Value.int IntKind.i64 y.2] 81)=W1
 refine wp_region_still_tail 10 (by kernel_rfl) (by kernel_rfl) ?_
 change wpStill _ _ W1.drew _ _ _
 have h1 : W1.drew.cell? ⟨W.heap.size,0,none⟩=some (.int .i64 x.1):=by rw [← hW1]; exact two1 W _ _ _ 0
 have h2 : W1.drew.cell? ⟨W.heap.size,1,none⟩=some (.int .i64 x.2):=by rw [← hW1]; exact two1 W _ _ _ 1
 have h3 : W1.drew.cell? ⟨W.heap.size + 1,0,none⟩=some (.int .i64 y.1):=by rw [← hW1]; exact two2 W _ _ _ 0
 have h4 : W1.drew.cell? ⟨W.heap.size + 1,1,none⟩=some (.int .i64 y.2):=by rw [← hW1]; exact two2 W _ _ _ 1
 generalize hW2 : W1.drew=W2 at *
 simp only [List.take_succ_cons,List.take_zero,List.drop_succ_cons,List.drop_zero]
 repeat still_step
 still_call (hcon _ _ _)
 repeat still_step
 still_call (hcon _ _ _)
 refine wpStill_nil ?_
 have hor:=cmpOr (Lib.compareInt x.1 y.1) (Lib.compareInt x.2 y.2) W2.heap.size (W2.alloc (.cells #[Value.int IntKind.i64 (Lib.compareInt x.1 y.1),Value.int IntKind.i64 (Lib.compareInt x.2 y.2)] 3))
  (cell_of (c:=#[Value.int IntKind.i64 (Lib.compareInt x.1 y.1),Value.int IntKind.i64 (Lib.compareInt x.2 y.2)]) (e:=3) (fz:=(0,0)) (alloc_new _ _))
  (cell_of (c:=#[Value.int IntKind.i64 (Lib.compareInt x.1 y.1),Value.int IntKind.i64 (Lib.compareInt x.2 y.2)]) (e:=3) (fz:=(0,0)) (alloc_new _ _))
 change Calls Try.prog 121 _ _ (fun e w'=>e=.returned (.int .i64 (cf2 x y))∧_) at hor
 generalize hrr : cf2 x y=rr at hor
 go_wp2_with (go_at_call 121; refine hor.mono ?_; rintro e w' ⟨rfl,q,rfl⟩)
 go_ret
 refine ⟨?_,1 + q,#[.cells #[Value.int IntKind.i64 x.1,Value.int IntKind.i64 x.2] 81,.cells #[Value.int IntKind.i64 y.1,Value.int IntKind.i64 y.2] 81,.cells #[Value.int IntKind.i64 (Lib.compareInt x.1 y.1),Value.int IntKind.i64 (Lib.compareInt x.2 y.2)] 3],?_⟩
 ·rw [hrr]; rfl
 subst hW2
 subst hW1
 simp only [World.alloc,World.drew,World.drewN,grow,Nat.add_assoc,Array.push_eq_append,Array.append_assoc]
 rfl

theorem lt2 (x y : Int × Int) : ltOf cf2 x y=decide (x.1 < y.1∨x.1=y.1∧x.2 < y.2):=by
 unfold ltOf cf2 Lib.compareInt
 by_cases h1 : x.1 < y.1
 ·simp [h1]
 ·by_cases h2 : y.1 < x.1
  ·have h3 : ¬ x.1=y.1:=by omega
   simp [h1,h2,h3]
  ·have h3 : x.1=y.1:=by omega
   by_cases h4 : x.2 < y.2
   ·simp [h3,h4]
   ·by_cases h5 : y.2 < x.2 <;> simp [h3,h4,h5]
theorem swo2 : SWO (ltOf cf2) where
 irrefl x:=by rw [lt2]; simp
 trans x y z h1 h2:=by rw [lt2] at *; simp at *; omega
 ntrans x y z h1 h2:=by rw [lt2] at *; simp at *; omega
theorem nle2 (x y : Int × Int) : (!(ltOf cf2) y x)=le2 x y:=by
 rw [lt2]
 unfold le2
 rw [← decide_not]
 exact decide_eq_decide.2 (by omega)
theorem tot2 (x y : Int × Int) (h : (ltOf cf2) x y=false) (k : (ltOf cf2) y x=false) : x=y:=by
 rw [lt2,decide_eq_false_iff_not] at h k
 obtain ⟨x1,x2⟩:=x
 obtain ⟨y1,y2⟩:=y
 simp only at h k
 have h1 : x1=y1:=by omega
 have h2 : x2=y2:=by omega
 rw [h1,h2]
theorem agg81 : ∀ w,(isAgg (renS.t 24)).run Try.prog w=.ok true w:=fun w=>by kernel_rfl
theorem size81 : ∀ w,(Go.sizeOf (renS.t 24)).run Try.prog w=.ok 2 w:=fun w=>by kernel_rfl
theorem enters120 : ∀ args w,(callFunc 120 args).run Try.prog w=.ok (.enter 120 args) w:=enters_of Try.func120 (by kernel_rfl) rfl
theorem sortC : SortC Try.prog 119 120 where
 fn:=⟨Try.f119,Try.func119,by kernel_rfl,by kernel_rfl⟩
 none p cap fv w:=AnyF.slices_SortFunc_none laysS p cap fv w
 all blk off cap d cb w hH hblk hsz hcb:=by
  subst hcb
  have h:=AnyQ.slices_SortFunc_total laysS 2 agg81 size81 enc2 (fun _=>rfl) (fun x v hv=>by simp [enc2] at hv; rcases hv with rfl | rfl <;> rfl) cf2 swo2 120 #[] blk off cap d w enters120 (fun m os dk _ x y=>closure120 x y _) hH hblk hsz tot2
  change Calls Try.prog 119 _ _ _ at h
  refine h.mono ?_
  rintro e w' ⟨rfl,n,os,rfl⟩
  refine ⟨rfl,n,os,?_⟩
  unfold sortWorldK
  have : (fun x y=>!(ltOf cf2) y x)=le2:=by funext x y; exact nle2 x y
  rw [this]
theorem sortX_ok : ExtOK Try.prog sortX:=sortV_ok 81 sortC

open Go Go.Gx Go.Proofs Go.Shelf Go.Sort Go.RowKit
def renT : Ren:=⟨fun k=>(([(6,125),(14,154),(15,150),(20,174),(21,175),(22,176),(23,177),(24,178),(25,179),(26,180),(27,181),(28,172),(29,173),(46,192),(47,188),(48,189),(49,193),(50,194),(57,198)] : List (Nat × Nat)).lookup k).getD k,fun t=>(([(22,82),(24,86),(25,172),(39,200),(45,210),(46,211),(50,184),(53,217),(55,219),(66,233),(70,237),(76,242),(77,243)] : List (Nat × Nat)).lookup t).getD t,fun g=>g⟩
theorem laysT : SlLaysF0.n6 Try.prog renT where
 mixed:=by kernel_rfl
 f6 := ⟨"slices.SortFunc[[]sennet/api.Shift,sennet/api.Shift]", by kernel_rfl, by kernel_rfl⟩
 f14 := ⟨"slices.pdqsortCmpFunc[sennet/api.Shift]", by kernel_rfl, by kernel_rfl⟩
 f15:=by kernel_rfl
 f20 := ⟨"slices.insertionSortCmpFunc[sennet/api.Shift]", by kernel_rfl, by kernel_rfl⟩
 f21 := ⟨"slices.heapSortCmpFunc[sennet/api.Shift]", by kernel_rfl, by kernel_rfl⟩
 f22 := ⟨"slices.breakPatternsCmpFunc[sennet/api.Shift]", by kernel_rfl, by kernel_rfl⟩
 f23 := ⟨"slices.choosePivotCmpFunc[sennet/api.Shift]", by kernel_rfl, by kernel_rfl⟩
 f24 := ⟨"slices.reverseRangeCmpFunc[sennet/api.Shift]", by kernel_rfl, by kernel_rfl⟩
 f25 := ⟨"slices.partialInsertionSortCmpFunc[sennet/api.Shift]", by kernel_rfl, by kernel_rfl⟩
 f26 := ⟨"slices.partitionEqualCmpFunc[sennet/api.Shift]", by kernel_rfl, by kernel_rfl⟩
 f27 := ⟨"slices.partitionCmpFunc[sennet/api.Shift]", by kernel_rfl, by kernel_rfl⟩
 f28:=by kernel_rfl
 f29:=by kernel_rfl
 f46 := ⟨"slices.siftDownCmpFunc[sennet/api.Shift]", by kernel_rfl, by kernel_rfl⟩
 f47:=by kernel_rfl
 f48:=by kernel_rfl
 f49 := ⟨"slices.medianAdjacentCmpFunc[sennet/api.Shift]", by kernel_rfl, by kernel_rfl⟩
 f50 := ⟨"slices.medianCmpFunc[sennet/api.Shift]", by kernel_rfl, by kernel_rfl⟩
 f57 := ⟨"slices.order2CmpFunc[sennet/api.Shift]", by kernel_rfl, by kernel_rfl⟩
 t0:=by kernel_rfl
 a0:=fun w=>by kernel_rfl
 z0:=fun w=>by kernel_rfl
 v0:=fun w=>by kernel_rfl
 t3:=by kernel_rfl
 a3:=fun w=>by kernel_rfl
 z3:=fun w=>by kernel_rfl
 v3:=fun w=>by kernel_rfl
 t4:=by kernel_rfl
 a4:=fun w=>by kernel_rfl
 z4:=fun w=>by kernel_rfl
 v4:=fun w=>by kernel_rfl
 t5:=by kernel_rfl
 a5:=fun w=>by kernel_rfl
 z5:=fun w=>by kernel_rfl
 v5:=fun w=>by kernel_rfl
 t9:=by kernel_rfl
 a9:=fun w=>by kernel_rfl
 z9:=fun w=>by kernel_rfl
 v9:=fun w=>by kernel_rfl
 t22:=by kernel_rfl
 a22:=fun w=>by kernel_rfl
 z22:=fun w=>by kernel_rfl
 v22:=fun w=>by kernel_rfl
 t25:=by kernel_rfl
 a25:=fun w=>by kernel_rfl
 z25:=fun w=>by kernel_rfl
 v25:=fun w=>by kernel_rfl
 t39:=by kernel_rfl
 a39:=fun w=>by kernel_rfl
 z39:=fun w=>by kernel_rfl
 v39:=fun w=>by kernel_rfl
 t45:=by kernel_rfl
 a45:=fun w=>by kernel_rfl
 z45:=fun w=>by kernel_rfl
 v45:=fun w=>by kernel_rfl
 t46:=by kernel_rfl
 a46:=fun w=>by kernel_rfl
 z46:=fun w=>by kernel_rfl
 v46:=fun w=>by kernel_rfl
 t50:=by kernel_rfl
 a50:=fun w=>by kernel_rfl
 z50:=fun w=>by kernel_rfl
 v50:=fun w=>by kernel_rfl
 t53:=by kernel_rfl
 a53:=fun w=>by kernel_rfl
 z53:=fun w=>by kernel_rfl
 v53:=fun w=>by kernel_rfl
 t55:=by kernel_rfl
 a55:=fun w=>by kernel_rfl
 z55:=fun w=>by kernel_rfl
 v55:=fun w=>by kernel_rfl
 t66:=by kernel_rfl
 a66:=fun w=>by kernel_rfl
 z66:=fun w=>by kernel_rfl
 v66:=fun w=>by kernel_rfl
 t70:=by kernel_rfl
 a70:=fun w=>by kernel_rfl
 z70:=fun w=>by kernel_rfl
 v70:=fun w=>by kernel_rfl
 t76:=by kernel_rfl
 a76:=fun w=>by kernel_rfl
 z76:=fun w=>by kernel_rfl
 v76:=fun w=>by kernel_rfl
 t77:=by kernel_rfl
 a77:=fun w=>by kernel_rfl
 z77:=fun w=>by kernel_rfl
 v77:=fun w=>by kernel_rfl
theorem lt1 (x y : Int) : ltOf Lib.compareInt x y=decide (x < y):=by
 unfold ltOf Lib.compareInt
 by_cases h1 : x < y
 ·simp [h1]
 ·by_cases h2 : y < x <;> simp [h1,h2]
theorem swo1 : SWO (ltOf Lib.compareInt) where
 irrefl x:=by rw [lt1]; simp
 trans x y z h1 h2:=by rw [lt1] at *; simp at *; omega
 ntrans x y z h1 h2:=by rw [lt1] at *; simp at *; omega
theorem nle1 (x y : Int) : (!(ltOf Lib.compareInt) y x)=le1 x y:=by
 rw [lt1]
 unfold le1
 rw [← decide_not]
 exact decide_eq_decide.2 (by omega)
theorem tot1 (x y : Int) (h : (ltOf Lib.compareInt) x y=false) (k : (ltOf Lib.compareInt) y x=false) : x=y:=by
 rw [lt1,decide_eq_false_iff_not] at h k
 omega
set_option maxHeartbeats 2000000 in
theorem closure126 (f h : Int→Int) (x y : Int) (W : World) : Calls Try.prog 126 #[.agg #[.int .i64 x,.int .i64 (f x),.int .i64 (h x)],.agg #[.int .i64 y,.int .i64 (f y),.int .i64 (h y)]] W fun e w'=>e=.returned (.int .i64 (Lib.compareInt x y))∧∃ q os',w'=grow (W.drewN q) os':=by
 have hcon:=fun a b W'=>AnyG.cmp_Compare_int laysC a b W'
 change ∀ a b W',Calls Try.prog 122 _ _ _ at hcon
 generalize hrr : Lib.compareInt x y=rr
 go_enter Try.func126,Try.ntmps126
 go_wp2_with (go_at_call 122; refine (hcon _ _ _).mono ?_; rintro e w' ⟨rfl,rfl⟩)
 go_ret
 refine ⟨rfl,0,#[.cells #[.int .i64 x,.int .i64 (f x),.int .i64 (h x)] 86,.cells #[.int .i64 y,.int .i64 (f y),.int .i64 (h y)] 86],?_⟩
 simp only [World.alloc,World.drewN,grow,Nat.add_assoc,Array.push_eq_append,Array.append_assoc]
 rfl
theorem agg86 : ∀ w,(isAgg (renT.t 24)).run Try.prog w=.ok true w:=fun w=>by kernel_rfl
theorem size86 : ∀ w,(Go.sizeOf (renT.t 24)).run Try.prog w=.ok 3 w:=fun w=>by kernel_rfl
theorem enters126 : ∀ args w,(callFunc 126 args).run Try.prog w=.ok (.enter 126 args) w:=enters_of Try.func126 (by kernel_rfl) rfl
theorem tsortC : TSortC Try.prog 125 126 where
 fn:=⟨Try.f125,Try.func125,by kernel_rfl,by kernel_rfl⟩
 none p cap fv w:=AnyF.slices_SortFunc_none laysT p cap fv w
 all f h blk off cap d w hH hblk hsz:=by
  have hs:=AnyQ.slices_SortFunc_total laysT 3 agg86 size86 (encF f h) (fun _=>rfl) (fun x v hv=>by simp [encF,enc3] at hv; rcases hv with rfl | rfl | rfl <;> rfl) Lib.compareInt swo1 126 #[] blk off cap d w enters126 (fun m os dk _ x y=>closure126 f h x y _) hH hblk hsz tot1
  change Calls Try.prog 125 _ _ _ at hs
  refine hs.mono ?_
  rintro e w' ⟨rfl,n,os,rfl⟩
  refine ⟨rfl,n,os,?_⟩
  unfold sortWorldK
  have : (fun x y=>!(ltOf Lib.compareInt) y x)=le1:=by funext x y; exact nle1 x y
  rw [this]
theorem shiftX_ok : ExtOK Try.prog shiftX:=tsortV_ok 86 tsortC
def renW : Ren:=⟨fun k=>if k=4 then 152 else k,fun t=>if t=22 then 25 else if t=25 then 3 else t,fun g=>g⟩
theorem laysW : Lays8.n4 Try.prog renW where
 mixed:=by kernel_rfl
 f4 := ⟨"slices.Grow[[]int,int]", by kernel_rfl, by kernel_rfl⟩
 t0:=by kernel_rfl
 a0:=fun w=>by kernel_rfl
 z0:=fun w=>by kernel_rfl
 v0:=fun w=>by kernel_rfl
 t3:=by kernel_rfl
 a3:=fun w=>by kernel_rfl
 z3:=fun w=>by kernel_rfl
 v3:=fun w=>by kernel_rfl
 t4:=by kernel_rfl
 a4:=fun w=>by kernel_rfl
 z4:=fun w=>by kernel_rfl
 v4:=fun w=>by kernel_rfl
 t9:=by kernel_rfl
 a9:=fun w=>by kernel_rfl
 z9:=fun w=>by kernel_rfl
 v9:=fun w=>by kernel_rfl
 t20:=by kernel_rfl
 a20:=fun w=>by kernel_rfl
 z20:=fun w=>by kernel_rfl
 v20:=fun w=>by kernel_rfl
 t22:=by kernel_rfl
 a22:=fun w=>by kernel_rfl
 z22:=fun w=>by kernel_rfl
 v22:=fun w=>by kernel_rfl
theorem i3 : (Try.prog.info? 3).map (fun i=>(i.zero,i.size,i.bytes))=some (some (Value.int IntKind.i64 0),1,8):=by kernel_rfl
theorem growX_ok : ExtOK Try.prog growX:=by
 obtain ⟨i0,hi0,hz0,hzs,hzb⟩:=info_parts i3
 have hce : Try.prog.cellsOf 3=1:=by simp [Program.cellsOf,hi0,hzs]
 exact growV_ok laysW ⟨Try.f152,Try.func152,by kernel_rfl,by kernel_rfl⟩ hi0 hz0 hzs hzb hce

def renA : Ren:=⟨fun k=>(([(6,195),(14,199),(15,150),(20,200),(21,201),(22,202),(23,203),(24,204),(25,205),(26,206),(27,207),(28,172),(29,173),(46,208),(47,188),(48,189),(49,209),(50,210),(57,211)] : List (Nat × Nat)).lookup k).getD k,fun t=>(([(22,22),(24,181),(25,183),(39,200),(45,210),(46,211),(50,184),(53,217),(55,219),(66,233),(70,237),(76,242),(77,243)] : List (Nat × Nat)).lookup t).getD t,fun g=>g⟩
theorem laysA : SlLaysF0.n6 Try.prog renA where
 mixed:=by kernel_rfl
 f6 := ⟨"slices.SortFunc[[]sennet/api.Arrow,sennet/api.Arrow]", by kernel_rfl, by kernel_rfl⟩
 f14 := ⟨"slices.pdqsortCmpFunc[sennet/api.Arrow]", by kernel_rfl, by kernel_rfl⟩
 f15:=by kernel_rfl
 f20 := ⟨"slices.insertionSortCmpFunc[sennet/api.Arrow]", by kernel_rfl, by kernel_rfl⟩
 f21 := ⟨"slices.heapSortCmpFunc[sennet/api.Arrow]", by kernel_rfl, by kernel_rfl⟩
 f22 := ⟨"slices.breakPatternsCmpFunc[sennet/api.Arrow]", by kernel_rfl, by kernel_rfl⟩
 f23 := ⟨"slices.choosePivotCmpFunc[sennet/api.Arrow]", by kernel_rfl, by kernel_rfl⟩
 f24 := ⟨"slices.reverseRangeCmpFunc[sennet/api.Arrow]", by kernel_rfl, by kernel_rfl⟩
 f25 := ⟨"slices.partialInsertionSortCmpFunc[sennet/api.Arrow]", by kernel_rfl, by kernel_rfl⟩
 f26 := ⟨"slices.partitionEqualCmpFunc[sennet/api.Arrow]", by kernel_rfl, by kernel_rfl⟩
 f27 := ⟨"slices.partitionCmpFunc[sennet/api.Arrow]", by kernel_rfl, by kernel_rfl⟩
 f28:=by kernel_rfl
 f29:=by kernel_rfl
 f46 := ⟨"slices.siftDownCmpFunc[sennet/api.Arrow]", by kernel_rfl, by kernel_rfl⟩
 f47:=by kernel_rfl
 f48:=by kernel_rfl
 f49 := ⟨"slices.medianAdjacentCmpFunc[sennet/api.Arrow]", by kernel_rfl, by kernel_rfl⟩
 f50 := ⟨"slices.medianCmpFunc[sennet/api.Arrow]", by kernel_rfl, by kernel_rfl⟩
 f57 := ⟨"slices.order2CmpFunc[sennet/api.Arrow]", by kernel_rfl, by kernel_rfl⟩
 t0:=by kernel_rfl
 a0:=fun w=>by kernel_rfl
 z0:=fun w=>by kernel_rfl
 v0:=fun w=>by kernel_rfl
 t3:=by kernel_rfl
 a3:=fun w=>by kernel_rfl
 z3:=fun w=>by kernel_rfl
 v3:=fun w=>by kernel_rfl
 t4:=by kernel_rfl
 a4:=fun w=>by kernel_rfl
 z4:=fun w=>by kernel_rfl
 v4:=fun w=>by kernel_rfl
 t5:=by kernel_rfl
 a5:=fun w=>by kernel_rfl
 z5:=fun w=>by kernel_rfl
 v5:=fun w=>by kernel_rfl
 t9:=by kernel_rfl
 a9:=fun w=>by kernel_rfl
 z9:=fun w=>by kernel_rfl
 v9:=fun w=>by kernel_rfl
 t22:=by kernel_rfl
 a22:=fun w=>by kernel_rfl
 z22:=fun w=>by kernel_rfl
 v22:=fun w=>by kernel_rfl
 t25:=by kernel_rfl
 a25:=fun w=>by kernel_rfl
 z25:=fun w=>by kernel_rfl
 v25:=fun w=>by kernel_rfl
 t39:=by kernel_rfl
 a39:=fun w=>by kernel_rfl
 z39:=fun w=>by kernel_rfl
 v39:=fun w=>by kernel_rfl
 t45:=by kernel_rfl
 a45:=fun w=>by kernel_rfl
 z45:=fun w=>by kernel_rfl
 v45:=fun w=>by kernel_rfl
 t46:=by kernel_rfl
 a46:=fun w=>by kernel_rfl
 z46:=fun w=>by kernel_rfl
 v46:=fun w=>by kernel_rfl
 t50:=by kernel_rfl
 a50:=fun w=>by kernel_rfl
 z50:=fun w=>by kernel_rfl
 v50:=fun w=>by kernel_rfl
 t53:=by kernel_rfl
 a53:=fun w=>by kernel_rfl
 z53:=fun w=>by kernel_rfl
 v53:=fun w=>by kernel_rfl
 t55:=by kernel_rfl
 a55:=fun w=>by kernel_rfl
 z55:=fun w=>by kernel_rfl
 v55:=fun w=>by kernel_rfl
 t66:=by kernel_rfl
 a66:=fun w=>by kernel_rfl
 z66:=fun w=>by kernel_rfl
 v66:=fun w=>by kernel_rfl
 t70:=by kernel_rfl
 a70:=fun w=>by kernel_rfl
 z70:=fun w=>by kernel_rfl
 v70:=fun w=>by kernel_rfl
 t76:=by kernel_rfl
 a76:=fun w=>by kernel_rfl
 z76:=fun w=>by kernel_rfl
 v76:=fun w=>by kernel_rfl
 t77:=by kernel_rfl
 a77:=fun w=>by kernel_rfl
 z77:=fun w=>by kernel_rfl
 v77:=fun w=>by kernel_rfl
set_option maxHeartbeats 2000000 in
theorem closure135 (f h : Int × Int→Int) (x y : Int × Int) (W : World) : Calls Try.prog 135 #[.agg #[.int .i64 x.1,.int .i64 x.2,.int .i64 (f x),.int .i64 (h x)],.agg #[.int .i64 y.1,.int .i64 y.2,.int .i64 (f y),.int .i64 (h y)]] W fun e w'=>e=.returned (.int .i64 (cf2 x y))∧∃ q os',w'=grow (W.drewN q) os':=by
 have hcon:=fun a b W'=>AnyG.cmp_Compare_int laysC a b W'
 change ∀ a b W',Calls Try.prog 122 _ _ _ at hcon
 go_enter Try.func135,Try.ntmps135
 go_wp2_with (go_at_call 122; refine (hcon _ _ _).mono ?_; rintro e w' ⟨rfl,rfl⟩)
 generalize hW1 : (W.alloc (Obj.cells #[Value.int IntKind.i64 x.1,Value.int IntKind.i64 x.2,Value.int IntKind.i64 (f x),Value.int IntKind.i64 (h x)] 181)).alloc (Obj.cells #[Value.int IntKind.i64 y.1,Value.int IntKind.i64 y.2,Value.int IntKind.i64 (f y),Value.int IntKind.i64 (h y)] 181)=W1
 refine wp_region_still_tail 10 (by kernel_rfl) (by kernel_rfl) ?_
 change wpStill _ _ W1.drew _ _ _
 have h1 : W1.drew.cell? ⟨W.heap.size,0,none⟩=some (.int .i64 x.1):=by rw [← hW1]; exact two1 W _ _ _ 0
 have h2 : W1.drew.cell? ⟨W.heap.size,1,none⟩=some (.int .i64 x.2):=by rw [← hW1]; exact two1 W _ _ _ 1
 have h3 : W1.drew.cell? ⟨W.heap.size + 1,0,none⟩=some (.int .i64 y.1):=by rw [← hW1]; exact two2 W _ _ _ 0
 have h4 : W1.drew.cell? ⟨W.heap.size + 1,1,none⟩=some (.int .i64 y.2):=by rw [← hW1]; exact two2 W _ _ _ 1
 generalize hW2 : W1.drew=W2 at *
 simp only [List.take_succ_cons,List.take_zero,List.drop_succ_cons,List.drop_zero]
 repeat still_step
 still_call (hcon _ _ _)
 repeat still_step
 still_call (hcon _ _ _)
 refine wpStill_nil ?_
 have hor:=cmpOr (Lib.compareInt x.1 y.1) (Lib.compareInt x.2 y.2) W2.heap.size (W2.alloc (.cells #[Value.int IntKind.i64 (Lib.compareInt x.1 y.1),Value.int IntKind.i64 (Lib.compareInt x.2 y.2)] 3))
  (cell_of (c:=#[Value.int IntKind.i64 (Lib.compareInt x.1 y.1),Value.int IntKind.i64 (Lib.compareInt x.2 y.2)]) (e:=3) (fz:=(0,0)) (alloc_new _ _))
  (cell_of (c:=#[Value.int IntKind.i64 (Lib.compareInt x.1 y.1),Value.int IntKind.i64 (Lib.compareInt x.2 y.2)]) (e:=3) (fz:=(0,0)) (alloc_new _ _))
 change Calls Try.prog 121 _ _ (fun e w'=>e=.returned (.int .i64 (cf2 x y))∧_) at hor
 generalize hrr : cf2 x y=rr at hor
 go_wp2_with (go_at_call 121; refine hor.mono ?_; rintro e w' ⟨rfl,q,rfl⟩)
 go_ret
 refine ⟨?_,1 + q,#[.cells #[Value.int IntKind.i64 x.1,Value.int IntKind.i64 x.2,Value.int IntKind.i64 (f x),Value.int IntKind.i64 (h x)] 181,.cells #[Value.int IntKind.i64 y.1,Value.int IntKind.i64 y.2,Value.int IntKind.i64 (f y),Value.int IntKind.i64 (h y)] 181,.cells #[Value.int IntKind.i64 (Lib.compareInt x.1 y.1),Value.int IntKind.i64 (Lib.compareInt x.2 y.2)] 3],?_⟩
 ·rw [hrr]; rfl
 subst hW2
 subst hW1
 simp only [World.alloc,World.drew,World.drewN,grow,Nat.add_assoc,Array.push_eq_append,Array.append_assoc]
 rfl
theorem agg181 : ∀ w,(isAgg (renA.t 24)).run Try.prog w=.ok true w:=fun w=>by kernel_rfl
theorem size181 : ∀ w,(Go.sizeOf (renA.t 24)).run Try.prog w=.ok 4 w:=fun w=>by kernel_rfl
theorem enters135 : ∀ args w,(callFunc 135 args).run Try.prog w=.ok (.enter 135 args) w:=enters_of Try.func135 (by kernel_rfl) rfl
theorem asortC : ASortC Try.prog 195 135 where
 fn:=⟨Try.f195,Try.func195,by kernel_rfl,by kernel_rfl⟩
 none p cap fv w:=AnyF.slices_SortFunc_none laysA p cap fv w
 all f h blk off cap d w hH hblk hsz:=by
  have hs:=AnyQ.slices_SortFunc_total laysA 4 agg181 size181 (encQ f h) (fun _=>rfl) (fun x v hv=>by simp [encQ,enc4] at hv; rcases hv with rfl | rfl | rfl | rfl <;> rfl) cf2 swo2 135 #[] blk off cap d w enters135 (fun m os dk _ x y=>closure135 f h x y _) hH hblk hsz tot2
  change Calls Try.prog 195 _ _ _ at hs
  refine hs.mono ?_
  rintro e w' ⟨rfl,n,os,rfl⟩
  refine ⟨rfl,n,os,?_⟩
  unfold sortWorldK
  have : (fun x y=>!(ltOf cf2) y x)=le2:=by funext x y; exact nle2 x y
  rw [this]
theorem arrX_ok : ExtOK Try.prog arrX:=asortV_ok 181 asortC
end Go.Gx.A
