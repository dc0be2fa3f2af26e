/-
  slices.Insert at []int, by the kit's contracts, as one step of the abstract machine.
-/
import Derived.Shelf.Spec.SlicesInsert
import Derived.Shelf.Spec.SlicesInsertGrow
import Derived.Test.YtnhaainnhmmbfaaGreatGg
set_option linter.all false
set_option linter.deprecated false
namespace Go.Gx
open Go.Shelf Go.Proofs Go.RowKit Go.Lib
def insV (e : TypeId) (args : List Value) (S : AS) : Option (Value × AS):=
 match args with
 | [.slice base n cap,.int .i64 i,.slice (some ⟨vb,vo,none⟩) m _]=>
  match S.get vb with
  | some (.row vc ve true _)=>
   if ve=e∧0 < m∧vo + m≤vc.length∧0≤i∧i≤n∧n≤cap∧cap≤9223372036854775807∧(n + m) * 8≤140737488355328∧((vc.drop vo).take m).all okc=true then
    match base with
    | some ⟨b,o,none⟩=>
     match S.get b with
     | some (.row cs e' true _)=>
      if b≠vb∧e'=e∧o + cap≤cs.length∧((cs.drop o).take n).all okc=true then
       some (vs S.next 0 (n + m) (n + m),(((S.bump 1).put b .dead).put S.next (.row (((cs.drop o).take n).take i.toNat ++ (vc.drop vo).take m ++ ((cs.drop o).take n).drop i.toNat) e true false)))
      else none
     | _=>none
    | _=>if n=0 then some (vs S.next 0 m m,(S.bump 1).put S.next (.row ((vc.drop vo).take m) e true false)) else none
   else none
  | _=>none
 | _=>none
theorem splice_get {c vs : List Value} {o : Nat} (h : o + vs.length≤c.length) (k : Nat) : (splice c o vs)[k]?=if k < o then c[k]? else if k < o + vs.length then vs[k - o]? else c[k]?:=by
 unfold splice
 have ht : (c.take o).length=o:=by simp; omega
 split
 ·rename_i h1
  rw [List.getElem?_append_left (by simp; omega),List.getElem?_append_left (by omega),List.getElem?_take_of_lt h1]
 ·rename_i h1
  split
  ·rename_i h2
   rw [List.getElem?_append_left (by simp; omega),List.getElem?_append_right (by omega),ht]
  ·rename_i h2
   rw [List.getElem?_append_right (by simp; omega),List.getElem?_drop]
   simp only [List.length_append,ht]
   congr 1; omega
section
variable {P : Program} {prot : Nat→Option Obj} {w0 : World} {r : Rho} {S : AS} {w : World}
theorem okc_one (v : Value) : v.oneCell'=okc v:=by cases v <;> rfl
theorem setCells_upd {b o : Nat} {c : Array Value} {e : TypeId} {fz : Nat × Nat} {vs : List Value} (P : Program) (hb : w.heap[b]?=some (.cells c e fz)) (hle : o + vs.length≤c.size) (hf : fz.1=fz.2∨c.size≤fz.1) (hv : vs.all okc=true) :
  w.setCells b o vs=w.upd b (.cells (splice c.toList o vs).toArray e fz):=by
 have h1:=run_storeCells (P:=P) (x:=o) vs 0 w c hb (by omega) hf hv
 have h2:=run_storeCells_cells (P:=P) b o vs 0 w (fun j hj=>by rw [cell_of hb]; simp; omega) (fun j hj=>by
  rw [frozen_of hb]
  rcases hf with h | h
  ·rw [h]
   by_cases h3 : fz.2≤o + 0 + j
   ·simp [Nat.not_lt.2 h3]
   ·simp [h3]
  ·have : ¬ (fz.1≤o + j):=by omega
   simp [this]) (fun v hm=>by rw [okc_one]; exact List.all_eq_true.1 hv v hm)
 rw [h1] at h2
 simp only [Nat.add_zero] at h2
 injection h2 with _ h3
 exact h3.symm
theorem alloc_upd (w : World) (o o' : Obj) : (w.alloc o).upd w.heap.size o'=w.alloc o':=by
 have : (w.heap.push o).setIfInBounds w.heap.size o'=w.heap.push o':=by
  apply Array.ext'
  simp
 unfold World.upd World.alloc
 simp only [this]
theorem ins_new {e : TypeId} {cs cs' : List Value} {k cap' : Nat} {A : Array Value} (hR : Rel P prot w0 r S w) (hce : P.cellsOf e=1) (hi64 : P.underlying e=some (.int .i64)) {n0 : Nat} (hn0 : n0=S.next)
  (hl : LR P r cs cs') (hk : cs.length=k) (hA : A.toList.take k=cs') (hcap : A.size=cap') (hkc : k≤cap') (hmx : cap'≤9223372036854775807) :
  ∃ r',VR P r' (vs n0 0 k k) (.slice (some ⟨w.heap.size,0,none⟩) k cap')∧Ext r r' S.next∧Rel P prot w0 r' ((S.bump 1).put n0 (.row cs e true false)) (w.alloc (.cells A e)):=by
 subst hn0
 have hn : r S.next=none:=hR.fresh _ (Nat.le_refl _)
 have hle:=Rho.le_add (r:=r) (n:=S.next) ⟨w.heap.size,0,k,cap',e⟩ hn
 have hnew:=(hR.bump 1).new (n:=S.next) (o:=.row cs e true false) (obj:=.cells A e) (L:=⟨w.heap.size,0,k,cap',e⟩) hn (by simp) rfl
  (rowR _ rfl hk.symm hcap.symm rfl (by rw [hk,hA]; exact hl.mono hle) (by omega) (fun h=>by cases h))
 refine ⟨_,.slice _ _ _ _ _ _ _ (Rho.add_self _ _ _) (.inr ⟨?_,?_,⟨hkc,.inr hmx⟩,?_⟩) (Nat.le_refl _) (.inl rfl),⟨hle,fun m hm h=>by rw [Rho.add_ne _ _ (by omega)]; exact h⟩,hnew⟩
 ·show 0 + k * P.cellsOf e=k; rw [hce]; omega
 ·show 0 + 0 + cap' * P.cellsOf e=cap'; rw [hce]; omega
 ·show 0 < P.cellsOf e; omega
theorem zeroCells_size1 {v : Value} (hv : v.cells.size=1) (k : Nat) : (Builtin.zeroCells v.cells k).size=k:=by
 simp [Builtin.zeroCells,hv]
theorem insV_ok {ρ : Ren} (L21 : Lays2.n21 P ρ) : ExtOK P (fun k args S=>if k=ρ.f 21 then insV (ρ.t 3) args S else none):=by
 intro k args S x h
 simp only at h
 split at h
 case isFalse=>cases h
 rename_i hk
 subst hk
 refine ⟨⟨_,L21.f21,rfl,rfl⟩,?_⟩
 intro prot w0 r w args' hR hl
 obtain ⟨i0,hi0,hz0,hzs,hzb⟩:=info_parts L21.i3
 have hce : P.cellsOf (ρ.t 3)=1:=by simp [Program.cellsOf,hi0,hzs]
 have hnu : P.underlying (ρ.t 3)≠some (.int .u8):=by rw [L21.t3]; simp
 unfold insV at h
 split at h
 case h_2=>cases h
 rename_i base n cap i vb vo m mc
 split at h
 case h_2=>cases h
 rename_i vc ve vex hgv
 split at h
 case isFalse=>cases h
 rename_i hcond
 obtain ⟨rfl,hm,hvl,hi0',hin,hncap,hcapmx,hbig,hvok⟩:=hcond
 obtain ⟨j,rfl⟩ : ∃ j : Nat,i=(j : Int):=⟨i.toNat,by omega⟩
 simp only [Int.toNat_natCast] at h
 have hjn : j≤n:=by omega
 obtain ⟨a',l1,rfl,ha,hl1⟩:=hl.cons_inv
 obtain ⟨b',l2,rfl,hb,hl2⟩:=hl1.cons_inv
 obtain ⟨c',l3,rfl,hc,hl3⟩:=hl2.cons_inv
 have:=hl3.nil_inv; subst this
 have:=hb.int_inv; subst this
 obtain ⟨M,mc',vx,hM,rfl,hmcap,hmle,hvx⟩:=hc.slice_inv
 obtain ⟨vcc,vfz,hvb,v1,v2,v3,v4,v5,v6,hvw⟩:=hR.row hgv hM
 have hvx' : vx=M.base + vo:=by
  rcases hvx with h | h
  ·exact h
  ·omega
 subst hvx'
 have hvsl:=window (o:=vo) (k:=m) hvw v2 hvl
 have hvslen : ((vcc.toList.drop (M.base + vo)).take m).length=m:=by simp; omega
 obtain ⟨VS,hVS⟩ : ∃ VS,VS=(vcc.toList.drop (M.base + vo)).take m:=⟨_,rfl⟩
 rw [← hVS] at hvsl hvslen
 have hVSok : VS.all okc=true:=hvsl.okc hvok
 have h1v : ∀ v∈VS,v.oneCell'=true:=fun v hv=>by rw [okc_one]; exact List.all_eq_true.1 hVSok v hv
 have hvs : ∀ q v,VS[q]?=some v→w.cell? ⟨M.b,M.base + vo + q,none⟩=some v:=fun q v hq=>by
  rw [cell_of hvb]
  rw [hVS,List.getElem?_take] at hq
  split at hq
  ·rw [List.getElem?_drop] at hq; simpa using hq
  ·cases hq
 have empty : ∀ (base' : Option Addr),n=0→a'=.slice base' 0 0→x=(vs S.next 0 m m,(S.bump 1).put S.next (.row ((vc.drop vo).take m) (ρ.t 3) true false)) →
   Calls P (ρ.f 21) [a',.int .i64 (j : Int),.slice (some ⟨M.b,M.base + vo,none⟩) m mc'].toArray w fun e w'=>
    ∃ r' v',e=.returned v'∧VR P r' x.1 v'∧Ext r r' S.next∧S.next≤x.2.next∧Rel P prot w0 r' x.2 w':=by
  rintro base' hn0 rfl rfl
  have hj0 : j=0:=by omega
  subst hj0
  have hcall:=Any2.slices_Insert_int_end_grow L21 base' 0 0 M.b (M.base + vo) m mc' [] VS w hm (Nat.le_refl _) (by omega) (by omega) rfl hvslen (fun _=>rfl) (fun _ _ q v hq=>by simp at hq) hvs h1v
  refine hcall.mono ?_
  rintro e w' ⟨rfl,rfl⟩
  have hG : m≤grownCap w (0 + m) 0 (ρ.t 3):=by have:=grownCap_ge w (0 + m) 0 (ρ.t 3); omega
  have hG2 : grownCap w (0 + m) 0 (ρ.t 3)≤9223372036854775807:=grownCap_le_maxLen w _ _ _ (by unfold maxLen; omega)
  obtain ⟨r',k1,k2,k3⟩:=ins_new (A:=([] ++ VS).toArray ++ Builtin.zeroCells (Value.int .i64 0).cells (grownCap w (0 + m) 0 (ρ.t 3) - (0 + m))) hR.drew hce L21.t3 rfl hvsl (by have:=hvsl.1; omega)
   (by simp [← hvslen]) (by simp only [Array.size_append,zeroCells_size1 (v:=Value.int .i64 0) (by rfl),List.size_toArray,List.nil_append,hvslen]; omega) hG hG2
  refine ⟨r',_,rfl,?_,k2,by simp,k3⟩
  have e0 : 0 + m=m:=by omega
  rw [e0] at k1 ⊢
  exact k1
 split at h
 ·-- a slice of a row
  rename_i b o
  split at h
  case h_2=>cases h
  rename_i cs e' ex hgb
  split at h
  case isFalse=>cases h
  rename_i hcond2
  obtain ⟨hbv,rfl,hol,hcok⟩:=hcond2
  cases h
  obtain ⟨L,cap',x',hL,rfl,hcap,hle,hx'⟩:=ha.slice_inv
  obtain ⟨cc,fz,hblk,r1,r2,r3,r4,r5,r6,hw⟩:=hR.row hgb hL
  have hLM : L.b≠M.b:=hR.uniq b vb _ _ L M hgb hgv rfl (by simp) hbv hL hM
  have hcc:=hcap.le
  have hcap'mx : cap'≤9223372036854775807:=by
   rcases hcap with h | ⟨_,_,h3,_⟩
   ·omega
   ·rcases h3.2 with h | h
    ·rw [r1] at h; exact absurd h hnu
    ·exact h
  have hn1 : r S.next=none:=hR.fresh _ (Nat.le_refl _)
  by_cases hn0 : cap'=0
  ·-- no cells at all
   have hcap0 : cap=0:=by omega
   have hnz : n=0:=by omega
   subst hn0; subst hcap0; subst hnz
   have hj0 : j=0:=by omega
   subst hj0
   have hcall:=Any2.slices_Insert_int_end_grow L21 (some ⟨L.b,x',none⟩) 0 0 M.b (M.base + vo) m mc' [] VS w hm (Nat.le_refl _) (by omega) (by omega) rfl hvslen (fun _=>rfl) (fun _ _ q v hq=>by simp at hq) hvs h1v
   refine hcall.mono ?_
   rintro e w' ⟨rfl,rfl⟩
   have hG : m≤grownCap w (0 + m) 0 (ρ.t 3):=by have:=grownCap_ge w (0 + m) 0 (ρ.t 3); omega
   have hG2 : grownCap w (0 + m) 0 (ρ.t 3)≤9223372036854775807:=grownCap_le_maxLen w _ _ _ (by unfold maxLen; omega)
   obtain ⟨r',k1,k2,k3⟩:=ins_new (S:=S.put b .dead) (n0:=S.next) (A:=([] ++ VS).toArray ++ Builtin.zeroCells (Value.int .i64 0).cells (grownCap w (0 + m) 0 (ρ.t 3) - (0 + m))) (hR.drew.kill b) hce L21.t3 rfl hvsl (by have:=hvsl.1; omega)
    (by simp [← hvslen]) (by simp only [Array.size_append,zeroCells_size1 (v:=Value.int .i64 0) (by rfl),List.size_toArray,List.nil_append,hvslen]; omega) hG hG2
   refine ⟨r',_,rfl,?_,k2,by simp,?_⟩
   ·have e0 : 0 + m=m:=by omega
    simp only [e0] at k1 ⊢
    exact k1
   ·simp only [List.take_zero,List.drop_nil,List.nil_append,List.append_nil]
    exact k3
  ·have hxx : x'=L.base + o:=by
    rcases hx' with h | h
    ·exact h
    ·omega
   subst hxx
   have hroomc : L.base + o + cap'≤cc.size:=by
    rcases hcap with h | ⟨_,h2,_,_⟩
    ·omega
    ·rw [r1,hce] at h2; omega
   have hsl:=window (o:=o) (k:=n) hw r2 (by omega)
   obtain ⟨CS,hCS⟩ : ∃ CS,CS=(cc.toList.drop (L.base + o)).take n:=⟨_,rfl⟩
   rw [← hCS] at hsl
   have hCSlen : CS.length=n:=by rw [hCS]; simp; omega
   have hCSok : CS.all okc=true:=hsl.okc hcok
   have h1c : ∀ v∈CS,v.oneCell'=true:=fun v hv=>by rw [okc_one]; exact List.all_eq_true.1 hCSok v hv
   have hCSget : ∀ q,q < n→CS[q]?=cc.toList[L.base + o + q]?:=fun q hq=>by
    rw [hCS,List.getElem?_take_of_lt hq,List.getElem?_drop]
   have hcs : ∀ q v,CS[q]?=some v→w.cell? ⟨L.b,L.base + o + q,none⟩=some v:=fun q v hq=>by
    have hqn : q < n:=by have:=(List.getElem?_eq_some_iff.1 hq).1; omega
    rw [cell_of hblk]; rw [hCSget q hqn] at hq; simpa using hq
   have hsp : ∀ q,q < cap'→(w.cell? ⟨L.b,L.base + o + q,none⟩).isSome=true:=fun q hq=>by
    rw [cell_of hblk]; simp; omega
   have hfz : ∀ q,q < cap'→w.frozen? ⟨L.b,L.base + o + q,none⟩=false:=fun q hq=>by
    rw [frozen_of hblk]
    rcases (r6 rfl).ok with h | h
    ·rw [h]
     by_cases h3 : fz.2≤L.base + o + q
     ·simp [Nat.not_lt.2 h3]
     ·simp [h3]
    ·have : ¬ (fz.1≤L.base + o + q):=by omega
     simp [this]
   have hacs : ((cs.drop o).take n).length=n:=by simp; omega
   have havs : ((vc.drop vo).take m).length=m:=by simp; omega
   have hdropok : (CS.drop j).all okc=true:=List.all_eq_true.2 fun v hv=>List.all_eq_true.1 hCSok v (List.mem_of_mem_drop hv)
   have hdl : (CS.drop j).length=n - j:=by rw [List.length_drop,hCSlen]
   have hout : LR P r (((cs.drop o).take n).take j ++ (vc.drop vo).take m ++ ((cs.drop o).take n).drop j) (CS.take j ++ VS ++ CS.drop j):=
    ((hsl.take j).append hvsl).append (hsl.drop j)
   have houtlen : (((cs.drop o).take n).take j ++ (vc.drop vo).take m ++ ((cs.drop o).take n).drop j).length=n + m:=by
    simp only [List.length_append,List.length_take,List.length_drop]; omega
   have hOutget : ∀ q v,(CS.take j ++ VS ++ CS.drop j)[q]?=some v→(q < j∧cc.toList[L.base + o + q]?=some v)∨(j≤q∧q < j + m∧VS[q - j]?=some v)∨(j + m≤q∧q < n + m∧(CS.drop j)[q - (j + m)]?=some v):=by
    intro q v hq
    have hlt : q < n + m:=by
     have:=(List.getElem?_eq_some_iff.1 hq).1
     simp only [List.length_append,List.length_take,hdl,hCSlen,hvslen] at this
     omega
    have htl : (CS.take j).length=j:=by rw [List.length_take,hCSlen]; omega
    by_cases c1 : q < j
    ·rw [List.getElem?_append_left (by simp; omega),List.getElem?_append_left (by omega),List.getElem?_take_of_lt c1,hCSget q (by omega)] at hq
     exact .inl ⟨c1,hq⟩
    ·by_cases c2 : q < j + m
     ·rw [List.getElem?_append_left (by simp; omega),List.getElem?_append_right (by omega),htl] at hq
      exact .inr (.inl ⟨by omega,c2,hq⟩)
     ·rw [List.getElem?_append_right (by simp; omega)] at hq
      have : (CS.take j ++ VS).length=j + m:=by simp; omega
      rw [this] at hq
      exact .inr (.inr ⟨by omega,hlt,hq⟩)
   have inplace : ∀ (w1 : World) (A : List Value),Rel P prot w0 r S w1→n + m≤cap'→A.length=cc.size→(∀ q v,(CS.take j ++ VS ++ CS.drop j)[q]?=some v→A[L.base + o + q]?=some v) →
     ∃ r' v',Ending.returned (.slice (some ⟨L.b,L.base + o,none⟩) (n + m) cap')=.returned v'∧VR P r' (vs S.next 0 (n + m) (n + m)) v'∧Ext r r' S.next ∧
      S.next≤(((S.bump 1).put b .dead).put S.next (.row (((cs.drop o).take n).take j ++ (vc.drop vo).take m ++ ((cs.drop o).take n).drop j) (ρ.t 3) true false)).next ∧
      Rel P prot w0 r' (((S.bump 1).put b .dead).put S.next (.row (((cs.drop o).take n).take j ++ (vc.drop vo).take m ++ ((cs.drop o).take n).drop j) (ρ.t 3) true false)) (w1.upd L.b (.cells A.toArray (ρ.t 3) fz)):=by
    intro w1 A hR1 hin2 hAl hAg
    have hle2:=Rho.le_add (r:=r) (n:=S.next) ⟨L.b,L.base + o,n + m,L.base + o + cap',ρ.t 3⟩ hn1
    have hret:=(hR1.bump 1).retake (fr:=S.next) (b:=b) (o:=.row cs (ρ.t 3) true ex) (new:=.row (((cs.drop o).take n).take j ++ (vc.drop vo).take m ++ ((cs.drop o).take n).drop j) (ρ.t 3) true false) (L:=L)
     (L':=⟨L.b,L.base + o,n + m,L.base + o + cap',ρ.t 3⟩) (obj':=.cells A.toArray (ρ.t 3) fz) hgb rfl hL ⟨hn1,by simp⟩ rfl (by
      simp only [ObjR]
      refine ⟨trivial,trivial,houtlen,by omega,by simp only [List.size_toArray,hAl]; omega,(fun h=>by cases h),(fun _=>by simp only [List.size_toArray,hAl]; exact r6 rfl),fun q u hq=>?_⟩
      obtain ⟨u',e1,e2⟩:=(hout.mono hle2).get? hq
      exact ⟨u',by simpa using hAg q u' e1,e2⟩)
    refine ⟨_,_,rfl,?_,⟨hle2,fun q hq h=>by rw [Rho.add_ne _ _ (by omega)]; exact h⟩,by simp,hret⟩
    refine .slice _ _ ⟨L.b,L.base + o,n + m,L.base + o + cap',ρ.t 3⟩ _ _ _ _ (Rho.add_self _ _ _) (.inr ⟨?_,?_,⟨hin2,.inr hcap'mx⟩,?_⟩) (Nat.le_refl _) (.inl (by simp))
    ·show 0 + (n + m) * P.cellsOf (ρ.t 3)=n + m; rw [hce]; omega
    ·show L.base + o + 0 + cap' * P.cellsOf (ρ.t 3)=L.base + o + cap'; rw [hce]; omega
    ·show 0 < P.cellsOf (ρ.t 3); omega
   have newrow : ∀ (w1 : World) (A : Array Value) (G : Nat),Rel P prot w0 r S w1→w1.heap.size=w.heap.size→A.size=G→n + m≤G→G≤9223372036854775807→A.toList.take (n + m)=CS.take j ++ VS ++ CS.drop j →
     ∃ r' v',Ending.returned (.slice (some ⟨w.heap.size,0,none⟩) (n + m) G)=.returned v'∧VR P r' (vs S.next 0 (n + m) (n + m)) v'∧Ext r r' S.next ∧
      S.next≤(((S.bump 1).put b .dead).put S.next (.row (((cs.drop o).take n).take j ++ (vc.drop vo).take m ++ ((cs.drop o).take n).drop j) (ρ.t 3) true false)).next ∧
      Rel P prot w0 r' (((S.bump 1).put b .dead).put S.next (.row (((cs.drop o).take n).take j ++ (vc.drop vo).take m ++ ((cs.drop o).take n).drop j) (ρ.t 3) true false)) (w1.alloc (.cells A (ρ.t 3))):=by
    intro w1 A G hR1 hsz hAs hG1 hG2 hA
    obtain ⟨r',k1,k2,k3⟩:=ins_new (S:=S.put b .dead) (n0:=S.next) (A:=A) (hR1.kill b) hce L21.t3 rfl hout houtlen hA hAs hG1 hG2
    rw [hsz] at k1
    exact ⟨r',_,rfl,k1,k2,by simp,k3⟩
   by_cases hroom : n + m≤cap'
   ·by_cases hjlt : j < n
    ·-- shifted up
     have hcall:=Any2.slices_Insert_int_shift L21 L.b (L.base + o) n cap' j M.b (M.base + vo) m mc' CS VS w hjlt hm hroom hcap'mx (Ne.symm hLM) hCSlen hvslen hcs (fun q hq=>hsp q (by omega)) (fun q hq=>hfz q (by omega)) hvs h1c h1v
      _ _ _ _ (shape_of hvb) (shape_of hblk) (by omega) (by
       rw [frozen_of hvb]
       rcases (v6 rfl).ok with h | h
       ·rw [h]
        by_cases h3 : vfz.2≤M.base + vo
        ·simp [Nat.not_lt.2 h3]
        ·simp [h3]
       ·have : ¬ (vfz.1≤M.base + vo):=by omega
        simp [this]) (by
       rw [frozen_of hvb]
       rcases v6 rfl with h | ⟨h,_⟩
       ·rw [h]
        by_cases h3 : vfz.2≤vcc.size
        ·simp [Nat.not_lt.2 h3]
        ·simp [h3]
       ·exact absurd h hnu)
     refine hcall.mono ?_
     rintro e w' ⟨rfl,rfl⟩
     have hs1 : w.drew.setCells L.b (L.base + o + (j + m)) (CS.drop j)=w.drew.upd L.b (.cells (splice cc.toList (L.base + o + (j + m)) (CS.drop j)).toArray (ρ.t 3) fz):=
      setCells_upd P (w:=w.drew) hblk (by rw [hdl]; omega) (r6 rfl).ok hdropok
     have hl1 : (splice cc.toList (L.base + o + (j + m)) (CS.drop j)).length=cc.size:=by rw [splice_len _ _ _ (by rw [hdl]; simp; omega)]; simp
     have hs2:=setCells_upd P (w:=w.drew.upd L.b (.cells (splice cc.toList (L.base + o + (j + m)) (CS.drop j)).toArray (ρ.t 3) fz)) (b:=L.b) (o:=L.base + o + j) (vs:=VS)
      (upd_same (w:=w.drew) (lt_of_get hblk)) (by rw [List.size_toArray,hl1,hvslen]; omega) (by rw [List.size_toArray,hl1]; exact (r6 rfl).ok) hVSok
     rw [hs1,hs2,upd_upd]
     refine inplace w.drew _ hR.drew hroom (by rw [splice_len _ _ _ (by simp only [hl1,hvslen]; omega)]; exact hl1) ?_
     intro q v hq
     rw [splice_get (by simp only [hl1,hvslen]; omega)]
     simp only [hvslen]
     rcases hOutget q v hq with ⟨q1,q2⟩ | ⟨q1,q2,q3⟩ | ⟨q1,q2,q3⟩
     ·rw [if_pos (by omega),splice_get (by rw [hdl]; simp; omega),if_pos (by omega)]
      exact q2
     ·rw [if_neg (by omega),if_pos (by omega)]
      rw [show L.base + o + q - (L.base + o + j)=q - j by omega]
      exact q3
     ·rw [if_neg (by omega),if_neg (by omega),splice_get (by rw [hdl]; simp; omega),if_neg (by omega),if_pos (by rw [hdl]; omega)]
      rw [show L.base + o + q - (L.base + o + (j + m))=q - (j + m) by omega]
      exact q3
    ·-- at the end
     have hjn' : j=n:=by omega
     subst hjn'
     have hcall:=Any2.slices_Insert_int_end_room L21 L.b (L.base + o) j cap' M.b (M.base + vo) m mc' VS w hm hroom hcap'mx hvslen (fun q hq=>by rw [Nat.add_assoc]; exact hsp _ (by omega)) (fun q hq=>by rw [Nat.add_assoc]; exact hfz _ (by omega)) hvs h1v
     refine hcall.mono ?_
     rintro e w' ⟨rfl,rfl⟩
     rw [setCells_upd P hblk (by rw [hvslen]; omega) (r6 rfl).ok hVSok]
     refine inplace w _ hR hroom (by rw [splice_len _ _ _ (by rw [hvslen]; simp; omega)]; simp) ?_
     intro q v hq
     rw [splice_get (by rw [hvslen]; simp; omega)]
     simp only [hvslen]
     rcases hOutget q v hq with ⟨q1,q2⟩ | ⟨q1,q2,q3⟩ | ⟨q1,q2,q3⟩
     ·rw [if_pos (by omega)]; exact q2
     ·rw [if_neg (by omega),if_pos (by omega)]
      rw [show L.base + o + q - (L.base + o + j)=q - j by omega]
      exact q3
     ·omega
   ·have hG : n + m≤grownCap w (n + m) cap' (ρ.t 3):=grownCap_ge w _ _ _
    have hG2 : grownCap w (n + m) cap' (ρ.t 3)≤9223372036854775807:=grownCap_le_maxLen w _ _ _ (by unfold maxLen; omega)
    by_cases hjlt : j < n
    ·have hcall:=Any2.slices_Insert_int_grow L21 L.b (L.base + o) n cap' j M.b (M.base + vo) m mc' CS VS w hjlt hm (by omega) (by omega) hbig hCSlen hvslen hcs hvs h1c h1v
     refine hcall.mono ?_
     rintro e w' ⟨rfl,rfl⟩
     generalize grownCap w (n + m) cap' (ρ.t 3)=G at hG hG2
     have hA0 : ((CS.take j).toArray ++ Builtin.zeroCells (Value.int .i64 0).cells (n + m - j) ++ Builtin.zeroCells (Value.int .i64 0).cells (G - (n + m))).size=G:=by
      simp only [Array.size_append,zeroCells_size1 (v:=Value.int .i64 0) (by rfl),List.size_toArray,List.length_take,hCSlen]; omega
     generalize hAA : ((CS.take j).toArray ++ Builtin.zeroCells (Value.int .i64 0).cells (n + m - j) ++ Builtin.zeroCells (Value.int .i64 0).cells (G - (n + m)))=A0 at hA0
     have hA0t : ∀ q v,q < j→(CS.take j ++ VS ++ CS.drop j)[q]?=some v→A0.toList[q]?=some v:=by
      intro q v hq hv
      have htl : (CS.take j).length=j:=by rw [List.length_take,hCSlen]; omega
      rw [List.getElem?_append_left (by simp; omega),List.getElem?_append_left (by omega)] at hv
      rw [← hAA]
      simp only [Array.toList_append]
      rw [List.getElem?_append_left (by simp; omega),List.getElem?_append_left (by simp; omega)]
      exact hv
     have hs1 : ((w.alloc (.cells A0 (ρ.t 3))).drew).setCells w.heap.size j VS=(w.drew.alloc (.cells (splice A0.toList j VS).toArray (ρ.t 3))):=by
      rw [setCells_upd P (w:=(w.alloc (.cells A0 (ρ.t 3))).drew) (b:=w.heap.size) (alloc_new w.drew _) (by rw [hvslen,hA0]; omega) (.inl rfl) hVSok]
      exact alloc_upd w.drew _ _
     have hl1 : (splice A0.toList j VS).length=G:=by rw [splice_len _ _ _ (by rw [hvslen]; simp [hA0]; omega)]; simpa using hA0
     have hs2 : ((w.drew.alloc (.cells (splice A0.toList j VS).toArray (ρ.t 3))).drew).setCells w.heap.size (j + m) (CS.drop j)=(w.drew.drew.alloc (.cells (splice (splice A0.toList j VS) (j + m) (CS.drop j)).toArray (ρ.t 3))):=by
      rw [setCells_upd P (w:=(w.drew.alloc (.cells (splice A0.toList j VS).toArray (ρ.t 3))).drew) (b:=w.heap.size) (alloc_new w.drew.drew _) (by rw [List.size_toArray,hl1,hdl]; omega) (.inl rfl) hdropok]
      exact alloc_upd w.drew.drew _ _
     rw [hs1,hs2]
     refine newrow w.drew.drew _ G hR.drew.drew rfl (by rw [List.size_toArray,splice_len _ _ _ (by rw [hl1,hdl]; omega)]; exact hl1) hG hG2 ?_
     simp only []
     apply List.ext_getElem?
     intro q
     have hol2 : (CS.take j ++ VS ++ CS.drop j).length=n + m:=by simp only [List.length_append,List.length_take,hdl,hCSlen,hvslen]; omega
     by_cases hq : q < n + m
     ·rw [List.getElem?_take_of_lt hq]
      obtain ⟨v,hv⟩ : ∃ v,(CS.take j ++ VS ++ CS.drop j)[q]?=some v:=⟨_,List.getElem?_eq_getElem (by omega)⟩
      rw [hv,splice_get (by rw [hl1,hdl]; omega),splice_get (by rw [hvslen]; simp [hA0]; omega)]
      simp only [hvslen,hdl]
      rcases hOutget q v hv with ⟨q1,q2⟩ | ⟨q1,q2,q3⟩ | ⟨q1,q2,q3⟩
      ·rw [if_pos (by omega),if_pos q1]; exact hA0t q v q1 hv
      ·rw [if_pos (by omega),if_neg (by omega),if_pos (by omega)]; exact q3
      ·rw [if_neg (by omega),if_pos (by omega)]; exact q3
     ·rw [List.getElem?_eq_none (by rw [List.length_take]; omega),List.getElem?_eq_none (by omega)]
    ·have hjn' : j=n:=by omega
     subst hjn'
     have hcall:=Any2.slices_Insert_int_end_grow L21 (some ⟨L.b,L.base + o,none⟩) j cap' M.b (M.base + vo) m mc' CS VS w hm (by omega) (by omega) hbig hCSlen hvslen (fun h=>by cases h)
      (fun ad hd q v hq=>by cases hd; rw [Addr.add_lit]; exact hcs q v hq) hvs h1v
     refine hcall.mono ?_
     rintro e w' ⟨rfl,rfl⟩
     refine newrow w.drew _ _ hR.drew rfl (by simp only [Array.size_append,zeroCells_size1 (v:=Value.int .i64 0) (by rfl),List.size_toArray,List.length_append,hCSlen,hvslen]; omega) hG hG2 ?_
     simp only [Array.toList_append]
     rw [List.take_append_of_le_length (by simp [hCSlen,hvslen]),List.take_of_length_le (by simp [hCSlen,hvslen])]
     rw [List.take_of_length_le (by omega),List.drop_eq_nil_of_le (by omega)]
     simp
 ·split at h
  case isFalse=>cases h
  rename_i hne hnz
  cases h
  subst hnz
  cases base with
  | none=>
   obtain ⟨e1,_,rfl⟩:=ha.sliceNil_inv
   exact empty none rfl e1 (by simp)
  | some ad=>
   obtain ⟨ab,ao,asp⟩:=ad
   cases asp with
   | none=>exact absurd rfl (hne ab ao)
   | some sp=>
    obtain ⟨_,_,a2,e1⟩:=ha.slice0_inv rfl
    exact empty (some a2) rfl e1 (by simp)
end

section
variable {G : Tab} {st : List Fr} {a : Act} {Q : Post}
end
section
variable {ks : List K} {agg : Bool} {α : Type} [DecidableEq α] {key : α→Value}
def lkp (l : List (α × Value)) (a : α) : Option Value:=(l.find? fun p=>decide (p.1=a)).map (·.2)
theorem lkp_cons (p : α × Value) (l : List (α × Value)) (a : α) : lkp (p :: l) a=if p.1=a then some p.2 else lkp l a:=by
 unfold lkp
 rw [List.find?_cons]
 by_cases h : p.1=a <;> simp [h]
def aset (l : List (α × Value)) (a : α) (v : Value) : List (α × Value):=
 match l with
 | []=>[(a,v)]
 | p :: r=>if p.1=a then (a,v) :: r else p :: aset r a v
structure Ents (key : α→Value) (es : List MapEntry) (c : Nat) (l : List (α × Value)) : Prop where
 kv : es.map (fun e=>(e.key,e.val))=l.map fun p=>(key p.1,p.2)
 nd : (l.map (·.1)).Nodup
 bn : (es.map (·.born)).Nodup
 lt : ∀ e∈es,e.born < c
def MapL (S : AS) (n : Nat) (key : α→Value) (l : List (α × Value)) : Prop:=∃ es c,S.get n=some (.map es c)∧Ents key es c l
theorem findK_ents (hk : KeyEnc ks agg key) (a : α) : ∀ (es : List MapEntry) (l : List (α × Value)) (i : Nat),es.map (fun e=>(e.key,e.val))=l.map (fun p=>(key p.1,p.2)) →
  ∃ r,findK ks agg (key a) es i=some r∧r.map (·.2)=lkp l a∧∀ j u,r=some (j,u)→∃ j',j=i + j'∧∀ v,(es.modify j' fun e=>{ e with val:=v }).map (fun e=>(e.key,e.val))=(aset l a v).map fun p=>(key p.1,p.2)
 | [],l,i,h=>by
  have : l=[]:=by simpa using h.symm
  subst this
  exact ⟨none,rfl,rfl,by simp⟩
 | e :: es,[],i,h=>by simp at h
 | e :: es,p :: l,i,h=>by
  simp only [List.map_cons,List.cons.injEq,Prod.mk.injEq] at h
  obtain ⟨⟨h1,h2⟩,h3⟩:=h
  simp only [findK,h1,hk.eq,lkp_cons]
  by_cases hp : a=p.1
  ·have hp' : p.1=a:=hp.symm
   simp only [hp,decide_true,if_true]
   refine ⟨some (i,e.val),rfl,by simp [h2],fun j u hj=>?_⟩
   simp only [Option.some.injEq,Prod.mk.injEq] at hj
   refine ⟨0,by omega,fun v=>?_⟩
   simp [aset,h1,h3]
  ·have hp' : ¬ p.1=a:=fun e=>hp e.symm
   simp only [hp,hp',decide_false,if_false]
   obtain ⟨r,g1,g2,g3⟩:=findK_ents hk a es l (i + 1) h3
   refine ⟨r,g1,g2,fun j u hj=>?_⟩
   obtain ⟨j',e1,e2⟩:=g3 j u hj
   refine ⟨j' + 1,by omega,fun v=>?_⟩
   simp [aset,hp',h1,h2,e2 v]
theorem Ents.fnd (hk : KeyEnc ks agg key) {es : List MapEntry} {c : Nat} {l : List (α × Value)} (h : Ents key es c l) : Fnd ks agg key es (lkp l):=by
 refine ⟨fun e he=>?_,fun a=>?_⟩
 ·have : (e.key,e.val)∈l.map (fun p=>(key p.1,p.2)):=by rw [← h.kv]; exact List.mem_map.2 ⟨e,he,rfl⟩
  obtain ⟨p,_,hp⟩:=List.mem_map.1 this
  exact ⟨p.1,by rw [Prod.mk.injEq] at hp; exact hp.1.symm⟩
 ·obtain ⟨r,g1,g2,_⟩:=findK_ents hk a es l 0 h.kv
  exact ⟨r,g1,g2⟩
theorem MapL.at (hk : KeyEnc ks agg key) {S : AS} {n : Nat} {l : List (α × Value)} (h : MapL S n key l) : MapAt S n ks agg key (lkp l):=by
 obtain ⟨es,c,h1,h2⟩:=h
 exact ⟨es,c,h1,h2.fnd hk⟩
structure ItEnts (key : α→Value) (es : List MapEntry) (c : Nat) (seen : List Nat) (rem : List (α × Value)) : Prop where
 kv : (es.filter fun e=>!seen.contains e.born).map (fun e=>(e.key,e.val))=rem.map fun p=>(key p.1,p.2)
 bn : (es.map (·.born)).Nodup
 lt : ∀ e∈es,e.born < c
def ItAt (S : AS) (r n : Nat) (key : α→Value) (rem : List (α × Value)) : Prop:=∃ es c seen,S.get n=some (.map es c)∧S.get r=some (.miter (some n) c seen c)∧ItEnts key es c seen rem
theorem MapL.it {S : AS} {r n : Nat} {l : List (α × Value)} (h : MapL S n key l) (hr : r≠n) (es : List MapEntry) (c : Nat) (hn : S.get n=some (.map es c)) : ItAt (S.put r (.miter (some n) c [] c)) r n key l:=by
 obtain ⟨es',c',h1,h2⟩:=h
 rw [hn] at h1
 simp only [Option.some.injEq,AObj.map.injEq] at h1
 obtain ⟨rfl,rfl⟩:=h1
 refine ⟨es,c,[],by rw [AS.get_put_ne _ _ (Ne.symm hr)]; exact hn,AS.get_put_self _ _ _,?_,h2.bn,h2.lt⟩
 rw [← h2.kv]
 congr 1
 rw [List.filter_eq_self]; simp
end
end Go.Gx
