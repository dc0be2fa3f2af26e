/-
  slices.SortFunc at arrows as this seat has it.
-/
import Derived.Test.YtnhaainnhmmbfaaGreatFd
import Derived.Shelf.SlLaysF0
import Derived.Shelf.SlicesG.Cmp
import Derived.StillTailTactics
import Derived.Shelf.SlSortCmp.NoneTotal
set_option linter.all false
set_option linter.deprecated false
namespace Go.Gx.Z
open Go Go.Gx Go.Proofs Go.Shelf Go.Sort Go.RowKit
set_option maxRecDepth 100000
def renC : Ren:=⟨fun k=>if k=5 then 96 else if k=7 then 102 else k,fun t=>if t=22 then 3 else t,fun g=>g⟩
theorem laysC : SlLaysC2.n5 Tryz.prog renC where
 mixed:=by kernel_rfl
 f5 := ⟨"cmp.Compare[int]", by kernel_rfl, by kernel_rfl⟩
 f7 := ⟨"cmp.isNaN[int]", by kernel_rfl, by kernel_rfl⟩
 t3:=by kernel_rfl
 a3:=fun w=>by kernel_rfl
 z3:=fun w=>by kernel_rfl
 v3:=fun w=>by kernel_rfl
 t4:=by kernel_rfl
 a4:=fun w=>by kernel_rfl
 z4:=fun w=>by kernel_rfl
 v4:=fun w=>by kernel_rfl
 t22:=by kernel_rfl
 a22:=fun w=>by kernel_rfl
 z22:=fun w=>by kernel_rfl
 v22:=fun w=>by kernel_rfl
def cf2 (x y : Int × Int) : Int:=if Lib.compareInt x.1 y.1≠0 then Lib.compareInt x.1 y.1 else Lib.compareInt x.2 y.2
theorem two1 (W : World) (a b : Array Value) (t : TypeId) (o : Nat) : ((W.alloc (.cells a t)).alloc (.cells b t)).drew.cell? ⟨W.heap.size,o,none⟩=a[o]?:=
 cell_of (w:=((W.alloc (.cells a t)).alloc (.cells b t)).drew) (c:=a) (e:=t) (fz:=(0,0)) (by
  show ((W.alloc (.cells a t)).alloc (.cells b t)).heap[W.heap.size]?=_
  rw [alloc_lt (by rw [World.size_alloc]; omega)]
  exact alloc_new W _)
theorem two2 (W : World) (a b : Array Value) (t : TypeId) (o : Nat) : ((W.alloc (.cells a t)).alloc (.cells b t)).drew.cell? ⟨W.heap.size + 1,o,none⟩=b[o]?:=
 cell_of (w:=((W.alloc (.cells a t)).alloc (.cells b t)).drew) (c:=b) (e:=t) (fz:=(0,0)) (by
  show ((W.alloc (.cells a t)).alloc (.cells b t)).heap[W.heap.size + 1]?=_
  have:=alloc_new (W.alloc (.cells a t)) (.cells b t)
  rw [World.size_alloc] at this
  exact this)
set_option maxHeartbeats 2000000 in
theorem cmpOr (r1 r2 : Int) (b : Nat) (W : World) (h1 : W.cell? ⟨b,0,none⟩=some (.int .i64 r1)) (h2 : W.cell? ⟨b,1,none⟩=some (.int .i64 r2)) :
  Calls Tryz.prog 95 #[.slice (some ⟨b,0,none⟩) 2 2] W fun e w'=>e=.returned (.int .i64 (if r1≠0 then r1 else r2))∧∃ q,w'=W.drewN q:=by
 go_enter Tryz.func95,Tryz.ntmps95
 go_wp2
 refine wp_loop_rounds 3 ?_
 rw [rounds_succ]
 by_cases c1 : r1=0
 ·subst c1
  go_wp2
  rw [rounds_succ]
  by_cases c2 : r2=0
  ·subst c2
   go_wp2
   rw [rounds_succ]
   go_wp2
   go_ret
   exact ⟨by simp,0,rfl⟩
  ·go_wp2
   go_ret
   exact ⟨by simp,0,rfl⟩
 ·go_wp2
  go_ret
  exact ⟨by simp [c1],0,rfl⟩
theorem lt2 (x y : Int × Int) : ltOf cf2 x y=decide (x.1 < y.1∨x.1=y.1∧x.2 < y.2):=by
 unfold ltOf cf2 Lib.compareInt
 by_cases h1 : x.1 < y.1
 ·simp [h1]
 ·by_cases h2 : y.1 < x.1
  ·have h3 : ¬ x.1=y.1:=by omega
   simp [h1,h2,h3]
  ·have h3 : x.1=y.1:=by omega
   by_cases h4 : x.2 < y.2
   ·simp [h3,h4]
   ·by_cases h5 : y.2 < x.2 <;> simp [h3,h4,h5]
theorem swo2 : SWO (ltOf cf2) where
 irrefl x:=by rw [lt2]; simp
 trans x y z h1 h2:=by rw [lt2] at *; simp at *; omega
 ntrans x y z h1 h2:=by rw [lt2] at *; simp at *; omega
theorem nle2 (x y : Int × Int) : (!(ltOf cf2) y x)=le2 x y:=by
 rw [lt2]
 unfold le2
 rw [← decide_not]
 exact decide_eq_decide.2 (by omega)
theorem tot2 (x y : Int × Int) (h : (ltOf cf2) x y=false) (k : (ltOf cf2) y x=false) : x=y:=by
 rw [lt2,decide_eq_false_iff_not] at h k
 obtain ⟨x1,x2⟩:=x
 obtain ⟨y1,y2⟩:=y
 simp only at h k
 have h1 : x1=y1:=by omega
 have h2 : x2=y2:=by omega
 rw [h1,h2]
def renA : Ren:=⟨fun k=>(([(6,97),(14,103),(15,104),(20,107),(21,108),(22,109),(23,110),(24,111),(25,112),(26,113),(27,114),(28,115),(29,116),(46,117),(47,118),(48,119),(49,120),(50,121),(57,122)] : List (Nat × Nat)).lookup k).getD k,fun t=>(([(22,22),(24,86),(25,140),(39,162),(45,165),(46,166),(50,133),(53,172),(55,174),(66,175),(70,179),(76,181),(77,182)] : List (Nat × Nat)).lookup t).getD t,fun g=>g⟩
theorem laysA : SlLaysF0.n6 Tryz.prog renA where
 mixed:=by kernel_rfl
 f6 := ⟨"slices.SortFunc[[]sennet/api.Arrow,sennet/api.Arrow]", by kernel_rfl, by kernel_rfl⟩
 f14 := ⟨"slices.pdqsortCmpFunc[sennet/api.Arrow]", by kernel_rfl, by kernel_rfl⟩
 f15:=by kernel_rfl
 f20 := ⟨"slices.insertionSortCmpFunc[sennet/api.Arrow]", by kernel_rfl, by kernel_rfl⟩
 f21 := ⟨"slices.heapSortCmpFunc[sennet/api.Arrow]", by kernel_rfl, by kernel_rfl⟩
 f22 := ⟨"slices.breakPatternsCmpFunc[sennet/api.Arrow]", by kernel_rfl, by kernel_rfl⟩
 f23 := ⟨"slices.choosePivotCmpFunc[sennet/api.Arrow]", by kernel_rfl, by kernel_rfl⟩
 f24 := ⟨"slices.reverseRangeCmpFunc[sennet/api.Arrow]", by kernel_rfl, by kernel_rfl⟩
 f25 := ⟨"slices.partialInsertionSortCmpFunc[sennet/api.Arrow]", by kernel_rfl, by kernel_rfl⟩
 f26 := ⟨"slices.partitionEqualCmpFunc[sennet/api.Arrow]", by kernel_rfl, by kernel_rfl⟩
 f27 := ⟨"slices.partitionCmpFunc[sennet/api.Arrow]", by kernel_rfl, by kernel_rfl⟩
 f28:=by kernel_rfl
 f29:=by kernel_rfl
 f46 := ⟨"slices.siftDownCmpFunc[sennet/api.Arrow]", by kernel_rfl, by kernel_rfl⟩
 f47:=by kernel_rfl
 f48:=by kernel_rfl
 f49 := ⟨"slices.medianAdjacentCmpFunc[sennet/api.Arrow]", by kernel_rfl, by kernel_rfl⟩
 f50 := ⟨"slices.medianCmpFunc[sennet/api.Arrow]", by kernel_rfl, by kernel_rfl⟩
 f57 := ⟨"slices.order2CmpFunc[sennet/api.Arrow]", by kernel_rfl, by kernel_rfl⟩
 t0:=by kernel_rfl
 a0:=fun w=>by kernel_rfl
 z0:=fun w=>by kernel_rfl
 v0:=fun w=>by kernel_rfl
 t3:=by kernel_rfl
 a3:=fun w=>by kernel_rfl
 z3:=fun w=>by kernel_rfl
 v3:=fun w=>by kernel_rfl
 t4:=by kernel_rfl
 a4:=fun w=>by kernel_rfl
 z4:=fun w=>by kernel_rfl
 v4:=fun w=>by kernel_rfl
 t5:=by kernel_rfl
 a5:=fun w=>by kernel_rfl
 z5:=fun w=>by kernel_rfl
 v5:=fun w=>by kernel_rfl
 t9:=by kernel_rfl
 a9:=fun w=>by kernel_rfl
 z9:=fun w=>by kernel_rfl
 v9:=fun w=>by kernel_rfl
 t22:=by kernel_rfl
 a22:=fun w=>by kernel_rfl
 z22:=fun w=>by kernel_rfl
 v22:=fun w=>by kernel_rfl
 t25:=by kernel_rfl
 a25:=fun w=>by kernel_rfl
 z25:=fun w=>by kernel_rfl
 v25:=fun w=>by kernel_rfl
 t39:=by kernel_rfl
 a39:=fun w=>by kernel_rfl
 z39:=fun w=>by kernel_rfl
 v39:=fun w=>by kernel_rfl
 t45:=by kernel_rfl
 a45:=fun w=>by kernel_rfl
 z45:=fun w=>by kernel_rfl
 v45:=fun w=>by kernel_rfl
 t46:=by kernel_rfl
 a46:=fun w=>by kernel_rfl
 z46:=fun w=>by kernel_rfl
 v46:=fun w=>by kernel_rfl
 t50:=by kernel_rfl
 a50:=fun w=>by kernel_rfl
 z50:=fun w=>by kernel_rfl
 v50:=fun w=>by kernel_rfl
 t53:=by kernel_rfl
 a53:=fun w=>by kernel_rfl
 z53:=fun w=>by kernel_rfl
 v53:=fun w=>by kernel_rfl
 t55:=by kernel_rfl
 a55:=fun w=>by kernel_rfl
 z55:=fun w=>by kernel_rfl
 v55:=fun w=>by kernel_rfl
 t66:=by kernel_rfl
 a66:=fun w=>by kernel_rfl
 z66:=fun w=>by kernel_rfl
 v66:=fun w=>by kernel_rfl
 t70:=by kernel_rfl
 a70:=fun w=>by kernel_rfl
 z70:=fun w=>by kernel_rfl
 v70:=fun w=>by kernel_rfl
 t76:=by kernel_rfl
 a76:=fun w=>by kernel_rfl
 z76:=fun w=>by kernel_rfl
 v76:=fun w=>by kernel_rfl
 t77:=by kernel_rfl
 a77:=fun w=>by kernel_rfl
 z77:=fun w=>by kernel_rfl
 v77:=fun w=>by kernel_rfl
set_option maxHeartbeats 2000000 in
theorem closure135 (f h : Int × Int→Int) (x y : Int × Int) (W : World) : Calls Tryz.prog 80 #[.agg #[.int .i64 x.1,.int .i64 x.2,.int .i64 (f x),.int .i64 (h x)],.agg #[.int .i64 y.1,.int .i64 y.2,.int .i64 (f y),.int .i64 (h y)]] W fun e w'=>e=.returned (.int .i64 (cf2 x y))∧∃ q os',w'=grow (W.drewN q) os':=by
 have hcon:=fun a b W'=>AnyG.cmp_Compare_int laysC a b W'
 change ∀ a b W',Calls Tryz.prog 96 _ _ _ at hcon
 go_enter Tryz.func80,Tryz.ntmps80
 go_wp2_with (go_at_call 96; refine (hcon _ _ _).mono ?_; rintro e w' ⟨rfl,rfl⟩)
 generalize hW1 : (W.alloc (Obj.cells #[Value.int IntKind.i64 x.1,Value.int IntKind.i64 x.2,Value.int IntKind.i64 (f x),Value.int IntKind.i64 (h x)] 86)).alloc (Obj.cells #[Value.int IntKind.i64 y.1,Value.int IntKind.i64 y.2,Value.int IntKind.i64 (f y),Value.int IntKind.i64 (h y)] 86)=W1
 refine wp_region_still_tail 10 (by kernel_rfl) (by kernel_rfl) ?_
 change wpStill _ _ W1.drew _ _ _
 have h1 : W1.drew.cell? ⟨W.heap.size,0,none⟩=some (.int .i64 x.1):=by rw [← hW1]; exact two1 W _ _ _ 0
 have h2 : W1.drew.cell? ⟨W.heap.size,1,none⟩=some (.int .i64 x.2):=by rw [← hW1]; exact two1 W _ _ _ 1
 have h3 : W1.drew.cell? ⟨W.heap.size + 1,0,none⟩=some (.int .i64 y.1):=by rw [← hW1]; exact two2 W _ _ _ 0
 have h4 : W1.drew.cell? ⟨W.heap.size + 1,1,none⟩=some (.int .i64 y.2):=by rw [← hW1]; exact two2 W _ _ _ 1
 generalize hW2 : W1.drew=W2 at *
 simp only [List.take_succ_cons,List.take_zero,List.drop_succ_cons,List.drop_zero]
 repeat still_step
 still_call (hcon _ _ _)
 repeat still_step
 still_call (hcon _ _ _)
 refine wpStill_nil ?_
 have hor:=cmpOr (Lib.compareInt x.1 y.1) (Lib.compareInt x.2 y.2) W2.heap.size (W2.alloc (.cells #[Value.int IntKind.i64 (Lib.compareInt x.1 y.1),Value.int IntKind.i64 (Lib.compareInt x.2 y.2)] 3))
  (cell_of (c:=#[Value.int IntKind.i64 (Lib.compareInt x.1 y.1),Value.int IntKind.i64 (Lib.compareInt x.2 y.2)]) (e:=3) (fz:=(0,0)) (alloc_new _ _))
  (cell_of (c:=#[Value.int IntKind.i64 (Lib.compareInt x.1 y.1),Value.int IntKind.i64 (Lib.compareInt x.2 y.2)]) (e:=3) (fz:=(0,0)) (alloc_new _ _))
 change Calls Tryz.prog 95 _ _ (fun e w'=>e=.returned (.int .i64 (cf2 x y))∧_) at hor
 generalize hrr : cf2 x y=rr at hor
 go_wp2_with (go_at_call 95; refine hor.mono ?_; rintro e w' ⟨rfl,q,rfl⟩)
 go_ret
 refine ⟨?_,1 + q,#[.cells #[Value.int IntKind.i64 x.1,Value.int IntKind.i64 x.2,Value.int IntKind.i64 (f x),Value.int IntKind.i64 (h x)] 86,.cells #[Value.int IntKind.i64 y.1,Value.int IntKind.i64 y.2,Value.int IntKind.i64 (f y),Value.int IntKind.i64 (h y)] 86,.cells #[Value.int IntKind.i64 (Lib.compareInt x.1 y.1),Value.int IntKind.i64 (Lib.compareInt x.2 y.2)] 3],?_⟩
 ·rw [hrr]; rfl
 subst hW2
 subst hW1
 simp only [World.alloc,World.drew,World.drewN,grow,Nat.add_assoc,Array.push_eq_append,Array.append_assoc]
 rfl
theorem agg181 : ∀ w,(isAgg (renA.t 24)).run Tryz.prog w=.ok true w:=fun w=>by kernel_rfl
theorem size181 : ∀ w,(Go.sizeOf (renA.t 24)).run Tryz.prog w=.ok 4 w:=fun w=>by kernel_rfl
theorem enters135 : ∀ args w,(callFunc 80 args).run Tryz.prog w=.ok (.enter 80 args) w:=enters_of Tryz.func80 (by kernel_rfl) rfl
theorem asortC : ASortC Tryz.prog 97 80 where
 fn:=⟨Tryz.f97,Tryz.func97,by kernel_rfl,by kernel_rfl⟩
 none p cap fv w:=AnyF.slices_SortFunc_none laysA p cap fv w
 all f h blk off cap d w hH hblk hsz:=by
  have hs:=AnyQ.slices_SortFunc_total laysA 4 agg181 size181 (encQ f h) (fun _=>rfl) (fun x v hv=>by simp [encQ,enc4] at hv; rcases hv with rfl | rfl | rfl | rfl <;> rfl) cf2 swo2 80 #[] blk off cap d w enters135 (fun m os dk _ x y=>closure135 f h x y _) hH hblk hsz tot2
  change Calls Tryz.prog 97 _ _ _ at hs
  refine hs.mono ?_
  rintro e w' ⟨rfl,n,os,rfl⟩
  refine ⟨rfl,n,os,?_⟩
  unfold sortWorldK
  have : (fun x y=>!(ltOf cf2) y x)=le2:=by funext x y; exact nle2 x y
  rw [this]
theorem arrX_ok : ExtOK Tryz.prog arrX:=asortV_ok 86 asortC
end Go.Gx.Z
