/-
  Tasks in memory; costs.
-/
import Derived.Test.YtnhaainnhmmbfaaGreatPm
set_option linter.all false
set_option linter.deprecated false
namespace Go.Gx.Z
open Go.Gx Go.Proofs
set_option maxRecDepth 100000
set_option maxHeartbeats 1000000
abbrev cV (c : Cost) : Value:=.agg #[.int .i64 c.1,.int .i64 c.2]
abbrev sV (s : St) : Value:=.agg #[.int .i64 s.1,.int .i64 s.2]
abbrev spV (x : Sp) : Value:=.agg #[.int .i64 x.1,.int .i64 x.2.1.1,.int .i64 x.2.1.2,.int .i64 x.2.2.1,.int .i64 x.2.2.2]
def Bd (c : Cost) : Prop:=-1000000000000≤c.1∧c.1≤1000000000000∧-1000000000000≤c.2∧c.2≤1000000000000
theorem add_ok {S : AS} {c d : Cost} (hc : Bd c) (hd : Bd d) {Q : En→AS→Prop} (hq : ∀ S',Same S S' []→Q (.ret (cV (cadd c d))) S') : Call G 43 [cV c,cV d] S Q:=by
 obtain ⟨c1,c2⟩:=c
 obtain ⟨d1,d2⟩:=d
 unfold Bd at hc hd
 simp only at hc hd
 have w1 : IntKind.i64.wrap (c1 + d1)=c1 + d1:=wrap64 (by omega) (by omega)
 have w2 : IntKind.i64.wrap (c2 + d2)=c2 + d2:=wrap64 (by omega) (by omega)
 refine call_run' (G:=G) rfl (ext_none (by decide)) ?_
 simp [placeIn,splice,rowStore,okc,w1,w2,Nat.add_assoc]
 refine hq _ ?_
 repeat' first | exact Same.refl _ _ | apply Same.bu | (refine Same.pn ?_ (by first | omega | (simp; omega)))
theorem less_ok {S : AS} {c d : Cost} {Q : En→AS→Prop} (hq : ∀ S',Same S S' []→Q (.ret (.bool (clt c d))) S') : Call G 41 [cV c,cV d] S Q:=by
 obtain ⟨c1,c2⟩:=c
 obtain ⟨d1,d2⟩:=d
 have fin : ∀ S' b,Same S S' []→b=clt (c1,c2) (d1,d2)→Q (.ret (.bool b)) S':=fun S' b hs hb=>hb ▸ hq S' hs
 refine call_run' (G:=G) rfl (ext_none (by decide)) ?_
 simp
 have hs : ∀ o o',Same S (((S.bump 2).put S.next o).put (S.next + 1) o') []:=fun o o'=>by
  repeat' first | exact Same.refl _ _ | apply Same.bu | (refine Same.pn ?_ (by first | omega | (simp; omega)))
 by_cases h1 : c1 < d1
 ·simp [h1,undef]
  exact fin _ _ (hs _ _) (by simp [clt,h1])
 ·by_cases h2 : c1=d1
  ·by_cases h3 : c2 < d2
   ·simp [h2,h3,undef]
    exact fin _ _ (hs _ _) (by simp [clt,h2,h3])
   ·simp [h2,h3,undef]
    exact fin _ _ (hs _ _) (by simp [clt,h2,h3])
  ·simp [h1,h2,undef]
   exact fin _ _ (hs _ _) (by simp [clt,h1,h2])
theorem shr_ok {x k : Nat} (hk : k≤60) : binV .shr (.int .i64 (x : Int)) (.int .i64 (k : Int))=some (.int .i64 ((x / 2 ^ k : Nat) : Int)):=by
 have h1 : ¬ ((k : Int) < 0):=by omega
 have h2 : min k 64=k:=by omega
 simp [binV,isSh,shBin,IntKind.bits,h2]
 rw [Int.fdiv_eq_ediv_of_nonneg _ (by exact_mod_cast Nat.zero_le (2 ^ k))]
theorem shl_ok {k : Nat} (hk : k≤60) : binV .shl (.int .i64 1) (.int .i64 (k : Int))=some (.int .i64 ((2 ^ k : Nat) : Int)):=by
 have h1 : ¬ ((k : Int) < 0):=by omega
 have h2 : min k 64=k:=by omega
 have h3 : 2 ^ k≤2 ^ 60:=Nat.pow_le_pow_right (by omega) hk
 simp [binV,isSh,shBin,IntKind.bits,h2]
 rw [wrap64]
 ·have : (0 : Int)≤2 ^ k:=by exact_mod_cast Nat.zero_le (2 ^ k)
  omega
 ·have : (2 : Int) ^ k≤2 ^ 60:=by exact_mod_cast h3
  omega
theorem bv_nat {x : Nat} (h : x < 2 ^ 63) : (BitVec.ofInt 64 (x : Int))=BitVec.ofNat 64 x:=by
 apply BitVec.eq_of_toNat_eq
 simp [BitVec.toNat_ofInt]
theorem and1_ok {x : Nat} (h : x < 2 ^ 62) : binV .and (.int .i64 (x : Int)) (.int .i64 1)=some (.int .i64 ((x % 2 : Nat) : Int)):=by
 have e : (BitVec.ofInt 64 (x : Int) &&& BitVec.ofInt 64 1).toNat=x % 2:=by
  have h1 : (BitVec.ofInt 64 1)=BitVec.ofNat 64 1:=rfl
  rw [bv_nat (by omega),h1,BitVec.toNat_and,BitVec.toNat_ofNat,BitVec.toNat_ofNat,Nat.mod_eq_of_lt (by omega),Nat.mod_eq_of_lt (by omega),Nat.and_one_is_mod]
 show some (Value.int .i64 (IntKind.i64.wrap (((BitVec.ofInt 64 (x : Int) &&& BitVec.ofInt 64 1).toNat : Nat) : Int)))=_
 rw [e,wrap64 (by omega) (by omega)]
theorem or_ok' {x y : Nat} (h : x < 2 ^ 62) (h2 : y < 2 ^ 62) : binV .or (.int .i64 (x : Int)) (.int .i64 (y : Int))=some (.int .i64 ((x ||| y : Nat) : Int)):=by
 have hxy : x ||| y < 2 ^ 62:=Nat.or_lt_two_pow h h2
 have e : (BitVec.ofInt 64 (x : Int) ||| BitVec.ofInt 64 (y : Int)).toNat=x ||| y:=by
  rw [bv_nat (by omega),bv_nat (by omega),BitVec.toNat_or,BitVec.toNat_ofNat,BitVec.toNat_ofNat,Nat.mod_eq_of_lt (by omega),Nat.mod_eq_of_lt (by omega)]
 show some (Value.int .i64 (IntKind.i64.wrap (((BitVec.ofInt 64 (x : Int) ||| BitVec.ofInt 64 (y : Int)).toNat : Nat) : Int)))=_
 rw [e,wrap64 (by omega) (by omega)]
theorem bit_eq (x k : Nat) : decide (((x / 2 ^ k % 2 : Nat) : Int)=1)=x.testBit k:=by
 rw [Nat.testBit_eq_decide_div_mod_eq,decide_eq_decide]; omega
theorem bits_ok {x k : Nat} (hx : x < 2 ^ 60) (hk : k ≤ 60) : ∃ y : Nat, binV .shr (.int .i64 (x : Int)) (.int .i64 (k : Int)) = some (.int .i64 (y : Int)) ∧ binV .and (.int .i64 (y : Int)) (.int .i64 1) = some (.int .i64 (if x.testBit k = true then 1 else 0)) := by
  refine ⟨x / 2 ^ k, shr_ok hk, ?_⟩
  rw [and1_ok (by have := Nat.div_le_self x (2 ^ k); omega)]
  have := bit_eq x k
  have h2 := Nat.mod_lt (x / 2 ^ k) (y := 2) (by omega)
  cases hb : x.testBit k with
  | true => rw [hb, decide_eq_true_eq] at this; rw [this]; rfl
  | false => rw [hb, decide_eq_false_iff_not] at this; have : x / 2 ^ k % 2 = 0 := by omega
             rw [this]; rfl
theorem SB.same {B : Nat} {S S' : AS} {fp : List Nat} (h : SB B S S' fp) : Same S S' (fp ++ List.range' B (S.next - B)):=⟨h.1,fun m hm hn=>by
 simp only [List.mem_append,not_or,List.mem_range'_1] at hn
 exact h.2 m (by omega) hn.1⟩
theorem not_new {B n m : Nat} {fp : List Nat} (h1 : m < B) (h2 : m∉fp) : m∉fp ++ List.range' B n:=by
 simp only [List.mem_append,not_or,List.mem_range'_1]
 exact ⟨h2,by omega⟩
theorem _root_.Go.Gx.Cs.sb {B : Nat} {S S' : AS} {v : Value} {cs : List Value} (h : Cs S v cs) {fp : List Nat} (hs : SB B S S' fp) (hb : ∀ m∈ownsOf v,m < B∧m∉fp) : Cs S' v cs:=
 h.stays hs.same fun m hm=>not_new (hb m hm).1 (hb m hm).2
theorem Ls.sb {B : Nat} {S S' : AS} {v : Value} {vs : List Value} {ls : List (List Int)} (h : Ls S v vs ls) {fp : List Nat} (hs : SB B S S' fp) (hb : ∀ m∈ownsOf v,m < B∧m∉fp) (hr : ∀ m∈vs.flatMap ownsOf,m < B∧m∉fp) : Ls S' v vs ls:=
 ⟨h.cs.sb hs hb,h.len,h.small,fun i v l h1 h2=>(h.pt i v l h1 h2).sb hs fun m hm=>hr m (List.mem_flatMap.2 ⟨v,List.mem_of_getElem? h1,hm⟩)⟩
theorem SB.of0 {B : Nat} {S S' : AS} {fp : List Nat} (h : Same S S' fp) (hB : B≤S.next) : SB B S S' fp:=⟨h.1,fun m hm hn=>h.2 m (by omega) hn⟩
theorem SB.mono {B : Nat} {S S' : AS} {fp gp : List Nat} (h : SB B S S' fp) (hg : ∀ m∈fp,m∈gp) : SB B S S' gp:=⟨h.1,fun m hm hn=>h.2 m hm fun hk=>hn (hg m hk)⟩
structure TkV where
 va : Value
 vo : Value
 vf : Value
 vr : Value
 vp : Value
 ps : List Value
 pm : Nat
 lm : Nat
 d : Nat
 B : Nat
def Cg.rows (c : Cg) : List (List Int):=(List.range c.n).map fun (x : Nat)=>(List.range c.n).map fun (y : Nat)=>c.w x y
structure CgSm (c : Cg) : Prop where
 n : c.n≤24
 w : ∀ x y,0≤c.w x y∧c.w x y≤1000
 f : c.free.length≤24
 ol : c.old.length≤24
 fr : ∀ x∈c.front,0≤x∧x < c.n
 ps : c.passed≤c.old.length
def TkV.row (v : TkV) (c : Cg) : List Value:=[.int .i64 c.n,v.va,v.vo,.int .i64 c.passed,v.vf,.map (some v.pm),v.vr,.int .i64 c.goal.base,v.vp,.map (some v.lm)]
structure TkAt (S : AS) (v : TkV) (c : Cg) : Prop where
 row : S.get v.d=some (.row (v.row c) 128 true true)
 old : Is S v.vo c.old
 free : Is S v.vf c.free
 front : Is S v.vr c.front
 place : MapAt S v.pm [.int .i64] false (fun x : Int=>Value.int .i64 x) (plV c.old)
 paid : Ls S v.vp v.ps c.rows
 lt : v.d < v.B∧v.pm < v.B∧v.lm < v.B∧v.B≤S.next
 ne : v.d≠v.lm∧v.pm≠v.lm
 o1 : ∀ m∈ownsOf v.vo,m < v.B∧m∉[v.lm]
 o2 : ∀ m∈ownsOf v.vf,m < v.B∧m∉[v.lm]
 o3 : ∀ m∈ownsOf v.vr,m < v.B∧m∉[v.lm]
 o4 : ∀ m∈ownsOf v.vp,m < v.B∧m∉[v.lm]
 o5 : ∀ m∈v.ps.flatMap ownsOf,m < v.B∧m∉[v.lm]
theorem TkAt.sb {S S' : AS} {v : TkV} {c : Cg} (h : TkAt S v c) (hs : SB v.B S S' [v.lm]) : TkAt S' v c:=by
 obtain ⟨l1,l2,l3,l4⟩:=h.lt
 exact ⟨by rw [hs.2 _ l1 (by simpa using h.ne.1)]; exact h.row,h.old.sb hs h.o1,h.free.sb hs h.o2,h.front.sb hs h.o3,h.place.sb hs l2 (by simpa using h.ne.2),h.paid.sb hs h.o4 h.o5,⟨l1,l2,l3,Nat.le_trans l4 hs.1⟩,h.ne,h.o1,h.o2,h.o3,h.o4,h.o5⟩
theorem TkAt.stay0 {S S' : AS} {v : TkV} {c : Cg} (h : TkAt S v c) (hs : Same S S' []) : TkAt S' v c:=h.sb ((SB.of0 hs h.lt.2.2.2).mono (by simp))
def LeastAt (S : AS) (lm : Nat) (c : Cg) : Prop:=∃ f : Int × Int→Option Value,MapAt S lm [.int .i64,.int .i64] true (fun x : Int × Int=>Value.agg #[.int .i64 x.1,.int .i64 x.2]) f∧∀ (s : St) v,s.1 < 2 ^ c.tk.f→f ((s.1 : Int),s.2)=some v→v=cV (c.tk.rest s)
theorem LeastAt.stays {S S' : AS} {lm : Nat} {c : Cg} (h : LeastAt S lm c) (hs : S'.get lm=S.get lm) : LeastAt S' lm c:=by
 obtain ⟨f,⟨es,k,h1,h2⟩,h3⟩:=h
 exact ⟨f,⟨es,k,by rw [hs]; exact h1,h2⟩,h3⟩
theorem LeastAt.stay0 {S S' : AS} {lm : Nat} {c : Cg} (h : LeastAt S lm c) (hs : Same S S' []) (hl : lm < S.next) : LeastAt S' lm c:=h.stays (hs.2 lm hl (by simp))
@[simp] theorem _root_.Go.Gx.resV_cells {S : AS} {env : List Value} {t u : Nat} {g g' : Option Nat} : resV [.cell t g,.cell u g'] env S=(cellRV S g (env.getD t undef)).bind fun v=>(cellRV S g' (env.getD u undef)).map fun w=>.tuple #[v,w]:=by
 unfold resV
 simp only [List.mapM_cons,List.mapM_nil,loadRV_cell]
 cases cellRV S g (env.getD t undef) <;> cases cellRV S g' (env.getD u undef) <;> rfl
theorem all_ok {S : AS} {v : TkV} {c : Cg} (h : TkAt S v c) (k : CgSm c) {Q : En→AS→Prop} (hq : Q (.ret (.int .i64 ((2 ^ c.tk.f - 1 : Nat) : Int))) S) : Call G 40 [ptr v.d] S Q:=by
 obtain ⟨a,cap,hf⟩:=h.free.shape
 refine call_run' (G:=G) rfl (ext_none (by decide)) ?_
 have hf8:=k.f
 have hsh:=shl_ok (k:=c.free.length) (by omega)
 have h3 : 2 ^ c.free.length≤2 ^ 24:=Nat.pow_le_pow_right (by omega) hf8
 have h4 : 0 < 2 ^ c.free.length:=Nat.two_pow_pos _
 have hw : IntKind.i64.wrap (((2 ^ c.free.length : Nat) : Int) - 1)=((2 ^ c.tk.f - 1 : Nat) : Int):=by
  rw [wrap64 (by omega) (by omega)]
  have : c.tk.f=c.free.length:=rfl
  rw [this]; omega
 simp [h.row,TkV.row,hf,hsh,-Int.natCast_pow]
 rw [hw]
 exact hq
theorem first_ok {S : AS} {v : TkV} {c : Cg} (h : TkAt S v c) (k : CgSm c) {Q : En→AS→Prop} (hq : ∀ S',Same S S' []→Q (.ret (.tuple #[sV (0,c.goal.last0),cV (c.goal.base,0)])) S') : Call G 39 [ptr v.d] S Q:=by
 refine call_run' (G:=G) rfl (ext_none (by decide)) ?_
 have hp:=k.ps
 have ho:=k.ol
 have hw : IntKind.i64.wrap ((c.passed : Int) - 1)=c.goal.last0:=wrap64 (by omega) (by omega)
 have e1 : v.d≠S.next:=by have:=h.lt; omega
 have e2 : v.d≠S.next + 1:=by have:=h.lt; omega
 simp [h.row,TkV.row,hw,placeIn,splice,rowStore,okc,e1,e2]
 refine hq _ ?_
 repeat' first | exact Same.refl _ _ | apply Same.bu | (refine Same.pn ?_ (by first | omega | (simp; omega)))

set_option maxHeartbeats 2000000
theorem rows_at (c : Cg) {x : Nat} (hx : x < c.n) : ∃ h : x < c.rows.length,c.rows[x]=(List.range c.n).map fun (y : Nat)=>c.w x y:=by
 have h : x < c.rows.length:=by simp [Cg.rows,hx]
 exact ⟨h,by simp [Cg.rows]⟩
theorem paid_at {S : AS} {v : TkV} {c : Cg} (h : TkAt S v c) {x y : Int} (hx : 0≤x∧x < c.n) (hy : 0≤y∧y < c.n) :
  ∃ p o cells e wr ex b cap p' o' cells' e' wr' ex',(∀ (S' : AS) (j : IntKind),idxE S' 1 none (.int j x) v.vp=.ret (.pointer (some ⟨p,o,none⟩),S'))∧S.get p=some (.row cells e wr ex)∧cells[o]?=some (.slice b c.n cap) ∧
   (∀ (S' : AS) (j : IntKind),idxE S' 1 none (.int j y) (.slice b c.n cap)=.ret (.pointer (some ⟨p',o',none⟩),S'))∧S.get p'=some (.row cells' e' wr' ex')∧cells'[o']?=some (.int .i64 (c.w x y)):=by
 obtain ⟨x,rfl⟩ : ∃ n : Nat,x=n:=⟨x.toNat,by omega⟩
 obtain ⟨y,rfl⟩ : ∃ n : Nat,y=n:=⟨y.toNat,by omega⟩
 obtain ⟨hl,hr⟩:=rows_at c (x:=x) (by omega)
 obtain ⟨p,o,cells,e,wr,ex,b,cap,h1,h2,h3,h4,h5,h6,h7⟩:=h.paid.at hl
 have hlen : c.rows[x].length=c.n:=by rw [hr]; simp
 rw [hlen] at h5 h6
 obtain ⟨p',o',cells',e',wr',ex',g1,g2,g3,g4,g5⟩:=h6.at (i:=y) (by rw [hlen]; omega)
 refine ⟨p,o,cells,e,wr,ex,b,cap,p',o',cells',e',wr',ex',h1,h2,h5,g1,g2,?_⟩
 rw [g5]
 simp only [hr,List.getElem_map,List.getElem_range]
theorem isum_bd {l : List Int} (h : ∀ x∈l,0≤x∧x≤1000) : 0≤isum l∧isum l≤1000 * l.length:=by
 induction l with
 | nil=>simp [isum]
 | cons a l ih=>
  have:=ih fun x hx=>h x (by simp [hx])
  have:=h a (by simp)
  simp only [isum,List.length_cons]; omega
theorem isum_take (l : List Int) {i : Nat} (h : i < l.length) : isum (l.take (i + 1))=isum (l.take i) + l[i]:=by
 rw [List.take_succ_eq_append_getElem h,isum_append]
 simp [isum]
theorem free_lt {c : Cg} {x : Int} (h : x∈c.free) : 0≤x∧x < c.n:=⟨(mem_free.1 h).1,(mem_free.1 h).2.1⟩
theorem free_get {c : Cg} {i : Nat} (hi : i < c.free.length) : c.free[i]=c.tk.at' i:=by
 show _=c.free.getD i 0
 rw [List.getD_eq_getElem?_getD,List.getElem?_eq_getElem hi]; rfl
def bhF (c : Cg) (x : Int) (set : Nat) : List Int:=(List.range c.tk.f).map fun k=>if set.testBit k=true then c.w x (c.tk.at' k) else 0
theorem behind_ok {S : AS} {v : TkV} {c : Cg} (h : TkAt S v c) (k : CgSm c) {i : Nat} (hi : i < c.free.length) {set : Nat} (hset : set < 2 ^ c.free.length) {Q : En→AS→Prop} (hq : Q (.ret (.int .i64 (c.tk.behind (c.tk.at' i) set))) S) :
  Call G 72 [ptr v.d,.int .i64 i,.int .i64 set] S Q:=by
 obtain ⟨ra,rcap,hvr⟩:=h.front.shape
 obtain ⟨fa,fcap,hvf⟩:=h.free.shape
 have hxb:=free_lt (List.getElem_mem hi)
 rw [free_get hi] at hxb
 generalize hx : c.tk.at' i=x at *
 have hs24 : set < 2 ^ 24:=Nat.lt_of_lt_of_le hset (Nat.pow_le_pow_right (by omega) k.f)
 have hfl : c.front.length≤24:=by have:=k.ol; unfold Cg.front; simp; omega
 have hB1 : ∀ j,0≤isum ((c.front.map (c.w x)).take j)∧isum ((c.front.map (c.w x)).take j)≤24000:=fun j=>by
  have:=isum_bd (l:=(c.front.map (c.w x)).take j) fun y hy=>by
   obtain ⟨z,_,rfl⟩:=List.mem_map.1 (List.mem_of_mem_take hy)
   exact k.w x z
  have : ((c.front.map (c.w x)).take j).length≤24:=by simp; omega
  omega
 have hB2 : ∀ j,0≤isum ((bhF c x set).take j)∧isum ((bhF c x set).take j)≤24000:=fun j=>by
  have:=isum_bd (l:=(bhF c x set).take j) fun y hy=>by
   obtain ⟨z,_,rfl⟩:=List.mem_map.1 (List.mem_of_mem_take hy)
   have:=k.w x (c.tk.at' z)
   split <;> omega
  have h2 : ((bhF c x set).take j).length≤24:=by
   have : c.tk.f=c.free.length:=rfl
   have:=k.f
   simp [bhF]; omega
  omega
 obtain ⟨fp,fo,fcells,fe,fwr,fex,f1,f2,f3,f4,f5⟩:=h.free.at hi
 rw [free_get hi,hx] at f5
 refine call_run' (G:=G) rfl (ext_none (by decide)) ?_
 simp [h.row,TkV.row,hvr]
 refine run_loop (fun m a' S'=>∃ j,m=c.front.length - j∧j≤c.front.length∧S'=S∧Has a' 75 [(0,ptr v.d),(1,.int .i64 i),(2,.int .i64 set),(7,.int .i64 (isum ((c.front.map (c.w x)).take j))),(15,.slice ra c.front.length rcap),(16,.int .i64 c.front.length),(17,.int .i64 j)]) _ ⟨0,rfl,by omega,rfl,⟨rfl,rfl,by simp [isum,vi]⟩⟩ ?_
 rintro _ R hR _ S ⟨j,rfl,hj,rfl,hA⟩
 obtain ⟨z,rfl⟩:=hA.lit
 by_cases hlt : j < c.front.length
 ·have hy:=k.fr c.front[j] (List.getElem_mem hlt)
  have hfr:=h.front
  rw [hvr] at hfr
  obtain ⟨p,o,cells,e,wr,ex,h1,h2,h3,h4,h5⟩:=hfr.at hlt
  obtain ⟨p1,o1,cells1,e1,wr1,ex1,b,cap,p2,o2,cells2,e2,wr2,ex2,g1,g2,g3,g4,g5,g6⟩:=paid_at h hxb hy
  have hwS:=wrapS (show j < 9223372036854775807 by omega)
  have hw:=k.w x c.front[j]
  have hb:=hB1 j
  have hs : IntKind.i64.wrap (isum ((c.front.map (c.w x)).take j) + c.w x c.front[j])=isum ((c.front.map (c.w x)).take (j + 1)):=by
   rw [wrap64 (by omega) (by omega),isum_take _ (by simpa using hlt)]; simp
  simp [-run_draw,fillF,pickL,hlt,h1,h2,h5]
  refine run_calm rfl ?_
  simp [h.row,TkV.row,f1,f2,f5,g1,g2,g3,g4,g5,g6,hs,hwS]
  exact hR _ _ _ (by omega) ⟨j + 1,rfl,by omega,rfl,⟨rfl,rfl,by simp⟩⟩
 ·obtain rfl : j=c.front.length:=by omega
  have hfull : (c.front.map (c.w x)).take c.front.length=c.front.map (c.w x):=List.take_of_length_le (by simp)
  have hb1:=hB1 c.front.length
  simp [fillF,pickL,h.row,TkV.row,hvf]
  rw [hfull] at hb1 ⊢
  refine run_loop (fun m a' S'=>∃ j,m=c.free.length - j∧j≤c.free.length∧S'=S∧Has a' 75 [(0,ptr v.d),(1,.int .i64 i),(2,.int .i64 set),(7,.int .i64 (isum (c.front.map (c.w x)) + isum ((bhF c x set).take j))),(43,.slice fa c.free.length fcap),(44,.int .i64 c.free.length),(45,.int .i64 j)]) _ ⟨0,rfl,by omega,rfl,⟨rfl,rfl,by simp [isum,vi]⟩⟩ ?_
  rintro _ R2 hR2 _ S ⟨j,rfl,hj,rfl,hA⟩
  obtain ⟨z,rfl⟩:=hA.lit
  have hbl : (bhF c x set).length=c.free.length:=by simp [bhF]; rfl
  have hkf:=k.f
  by_cases hlt : j < c.free.length
  ·have hy:=free_lt (List.getElem_mem hlt)
   rw [free_get hlt] at hy
   have hfr:=h.free
   rw [hvf] at hfr
   obtain ⟨p,o,cells,e,wr,ex,h1,h2,h3,h4,h5⟩:=hfr.at hlt
   rw [free_get hlt] at h5
   obtain ⟨p1,o1,cells1,e1,wr1,ex1,b,cap,p2,o2,cells2,e2,wr2,ex2,g1,g2,g3,g4,g5,g6⟩:=paid_at h hxb hy
   have hwS:=wrapS (show j < 9223372036854775807 by omega)
   have hw:=k.w x (c.tk.at' j)
   have hb:=hB2 j
   obtain ⟨y,hsh,han⟩:=bits_ok (x:=set) (k:=j) (by omega) (by omega)
   have hel : (bhF c x set)[j]'(by omega)=if set.testBit j=true then c.w x (c.tk.at' j) else 0:=by simp only [bhF,List.getElem_map,List.getElem_range]
   have htk:=isum_take (bhF c x set) (i:=j) (by omega)
   rw [hel] at htk
   cases hbj : set.testBit j with
   | true=>
    rw [hbj] at han htk
    simp only [if_true] at htk han
    have hs : IntKind.i64.wrap (isum (c.front.map (c.w x)) + isum ((bhF c x set).take j) + c.w x (c.tk.at' j))=isum (c.front.map (c.w x)) + isum ((bhF c x set).take (j + 1)):=by
     rw [wrap64 (by omega) (by omega),htk]; omega
    simp [-run_draw,fillF,pickL,hlt,h1,h2,h5,hsh,han]
    refine run_calm rfl ?_
    simp [h.row,TkV.row,f1,f2,f5,g1,g2,g3,g4,g5,g6,hs,hwS]
    exact hR2 _ _ _ (by omega) ⟨j + 1,rfl,by omega,rfl,⟨rfl,rfl,by simp⟩⟩
   | false=>
    rw [hbj] at han htk
    simp only [Bool.false_eq_true,if_false,Int.add_zero] at htk han
    simp [fillF,pickL,hlt,h1,h2,h5,hsh,han,hwS]
    exact hR2 _ _ _ (by omega) ⟨j + 1,rfl,by omega,rfl,⟨rfl,rfl,by simp [htk]⟩⟩
  ·obtain rfl : j=c.free.length:=by omega
   have hfull2 : (bhF c x set).take c.free.length=bhF c x set:=List.take_of_length_le (by omega)
   simp [fillF,pickL]
   rw [hfull2]
   exact hq
end Go.Gx.Z
namespace Go.Gx
section
variable {G : Tab} {l : Nat} {a : Act} {S : AS} {Q : En→AS→Prop} {pend : Option Jump} {env : List Value} {ps : List Nat} {asg body body1 : C} {dblk : Nat} {ls : LoopState}
theorem callRd' {args : List Value} (hl : S.get l=some (.loop .ready pend env ps asg body dblk)) (hn : args.length=ps.length)
  (h : Run G asg [] { env:=setParams ps args env,defers:=[],rnd:=some l } S (fun e a S1=>KRa G l body Q e a (S1.get l) S1)) : CallRd G l args S Q:=callRd hl hn h
@[simp] theorem kra_ready : KRa G l body Q .norm a (some (.loop .ready pend env ps asg body1 dblk)) S=Run G body [] a (S.put l (.loop .busy pend env ps asg body1 dblk)) (fun e _ S2=>KRd l Q e (S2.get l) S2):=_root_.id rfl
@[simp] theorem setParams_cons {p : Nat} {v : Value} {vs : List Value} : setParams (p :: ps) (v :: vs) env=setParams ps vs (env.set p v):=_root_.id rfl
@[simp] theorem setParams_nil {vs : List Value} : setParams [] vs env=env:=_root_.id rfl
@[simp] theorem calleeOf_yield' {first : Array Value} {c : Array Value} {args : List Value} : calleeOf (.func (.yield l) first c) args=some (.round l (first.toList ++ args)):=_root_.id rfl
end
end Go.Gx
namespace Go.Gx.Z
open Go.Gx Go.Proofs
set_option maxRecDepth 100000
set_option maxHeartbeats 2000000
theorem steps_split (T : Tk) (s : St) {i : Nat} (hi : i < T.f) : ∃ r,T.steps s=(List.range i).flatMap (T.stepAt s) ++ (T.stepAt s i ++ r):=by
 refine ⟨((List.range T.f).drop (i + 1)).flatMap (T.stepAt s),?_⟩
 unfold Tk.steps
 have h1 : List.range T.f=List.range i ++ (i :: (List.range T.f).drop (i + 1)):=by
  conv=>lhs; rw [← List.take_append_drop i (List.range T.f)]
  rw [List.take_range,Nat.min_eq_left (by omega),List.drop_eq_getElem_cons (by simpa using hi),List.getElem_range]
 conv=>lhs; rw [h1]
 rw [List.flatMap_append,List.flatMap_cons]
theorem range_flat {β : Type} (g : Nat→List β) (i : Nat) : (List.range (i + 1)).flatMap g=(List.range i).flatMap g ++ g i:=by
 rw [List.range_succ,List.flatMap_append,List.flatMap_cons,List.flatMap_nil,List.append_nil]
theorem stepsF_ok {S : AS} {v : TkV} {c : Cg} (k : CgSm c) {c1 c2 l : Nat} {s : St} (hs : s.1 < 2 ^ c.free.length) (fp : List Nat) (hfp : ∀ m∈fp,m < S.next) (I : List Sp→AS→Prop) (D : AS→Prop)
  (hI0 : I [] S) (hI : ∀ done S',I done S'→S.next≤S'.next∧TkAt S' v c∧S'.get c1=some (.row [ptr v.d] 81 true true)∧S'.get c2=some (.row [.int .i64 s.1,.int .i64 s.2] 89 true true))
  (hm : ∀ done S' S'',I done S'→Same S' S'' []→I done S'')
  (hR : ∀ done x rest S' (P : En→AS→Prop),c.tk.steps s=done ++ x :: rest→I done S'→(∀ S'',I (done ++ [x]) S''→Same S' S'' fp→P (.ret (.bool true)) S'')→(∀ S'',D S''→P (.ret (.bool false)) S'')→CallRd G l [spV x] S' P)
  {Q : En→AS→Prop} (hq : ∀ S',I (c.tk.steps s) S'∨D S'→Q (.ret (.tuple #[])) S') :
  Call G 71 [.func (.yield l) #[] #[],ptr c1,ptr c2] S Q:=by
 obtain ⟨hn0,hT,g1,g2⟩:=hI _ _ hI0
 obtain ⟨fa,fcap,hvf⟩:=hT.free.shape
 have hkf:=k.f
 have hs24 : s.1 < 2 ^ 24:=Nat.lt_of_lt_of_le hs (Nat.pow_le_pow_right (by omega) k.f)
 refine call_run' (G:=G) rfl (ext_none (by decide)) ?_
 simp [g1,hT.row,TkV.row,hvf]
 refine run_loop (fun m a' S'=>∃ j,m=c.free.length - j∧j≤c.free.length∧I ((List.range j).flatMap (c.tk.stepAt s)) S'∧Has a' 80 [(0,.func (.yield l) #[] #[]),(1,ptr c1),(2,ptr c2),(14,.slice fa c.free.length fcap),(15,.int .i64 c.free.length),(16,.int .i64 j)]) _ ⟨0,rfl,by omega,by simpa using hI0,⟨rfl,rfl,by simp [vi]⟩⟩ ?_
 clear hT g1 g2
 rintro _ R hRR _ S1 ⟨j,rfl,hj,hI1,hA⟩
 obtain ⟨z,rfl⟩:=hA.lit
 obtain ⟨hn1,hT,g1,g2⟩:=hI _ _ hI1
 by_cases hlt : j < c.free.length
 ·have hfr:=hT.free
  rw [hvf] at hfr
  obtain ⟨p,o,cells,e,wr,ex,h1,h2,h3,h4,h5⟩:=hfr.at hlt
  rw [free_get hlt] at h5
  have hwS:=wrapS (show j < 9223372036854775807 by omega)
  obtain ⟨y,hsh,han⟩:=bits_ok (x:=s.1) (k:=j) (by omega) (by omega)
  obtain ⟨r,hsp⟩:=steps_split c.tk s hlt
  have hrf:=range_flat (c.tk.stepAt s) j
  cases hbj : s.1.testBit j with
  | true=>
   rw [hbj] at han
   have hst : c.tk.stepAt s j=[]:=by unfold Tk.stepAt; rw [if_pos hbj]
   rw [hst,List.append_nil] at hrf
   simp [fillF,pickL,hlt,h1,h2,h5,g2,hsh,han,hwS]
   exact hRR _ _ _ (by omega) ⟨j + 1,rfl,by omega,by rw [hrf]; exact hI1,⟨rfl,rfl,by simp⟩⟩
  | false=>
   rw [hbj] at han
   have hp2 : 2 ^ j < 2 ^ 62:=Nat.pow_lt_pow_right (by omega) (by omega)
   have hor:=or_ok' (x:=s.1) (y:=2 ^ j) (by omega) hp2
   have hshl:=shl_ok (k:=j) (by omega)
   have hsv : c.tk.stepAt s j=match c.tk.place (c.tk.at' j) with
    | none=>[(j,(s.1 ||| 2 ^ j,s.2),(c.tk.behind (c.tk.at' j) s.1,0))]
    | some p=>(if s.2 < p then [(j,(s.1 ||| 2 ^ j,p),(c.tk.behind (c.tk.at' j) s.1,0))] else []) ++ [(j,(s.1 ||| 2 ^ j,s.2),(c.tk.behind (c.tk.at' j) s.1,1))]:=by
    unfold Tk.stepAt
    rw [if_neg (by rw [hbj]; exact Bool.false_ne_true)]
    rfl
   generalize hm' : (s.1 ||| 2 ^ j)=m' at *
   generalize hp' : 2 ^ j=p2 at *
   generalize hb' : c.tk.behind (c.tk.at' j) s.1=bh at *
   simp [fillF,pickL,hlt,h1,h2,h5,g1,g2,hsh,han]
   refine behind_ok hT k hlt (set:=s.1) hs ?_
   rw [hb']
   simp [g1,g2,hsh,hshl,hor,placeIn,splice,rowStore,okc]
   generalize hS2 : ((S1.bump 1).put S1.next (AObj.row [Value.int IntKind.i64 0,Value.int IntKind.i64 0] 89 true true)).put S1.next (AObj.row [Value.int IntKind.i64 m',Value.int IntKind.i64 s.2] 89 true true)=S2
   have hs2 : Same S1 S2 []:=by
    rw [← hS2]
    repeat' first | exact Same.refl _ _ | apply Same.bu | (refine Same.pn ?_ (by first | omega | (simp; omega)))
   have g7 : S2.get S1.next=some (.row [.int .i64 m',.int .i64 s.2] 89 true true):=by rw [← hS2]; simp
   have hI2:=hm _ _ _ hI1 hs2
   have hn2 : S1.next + 1≤S2.next:=by rw [← hS2]; simp
   clear hS2
   obtain ⟨_,hT2,k1,k2⟩:=hI _ _ hI2
   have hlook:=hT2.place.look keyInt (c.tk.at' j) (.int .i64 0) true
   have hpl : c.tk.place (c.tk.at' j)=(c.old.idxOf? (c.tk.at' j)).map fun (i : Nat)=>(i : Int):=rfl
   simp only [plV] at hlook
   cases hix : c.old.idxOf? (c.tk.at' j) with
   | none=>
    rw [hix] at hpl hlook
    simp only [Option.map_none] at hpl hlook
    rw [hpl] at hsv
    simp only at hsv
    simp at hlook
    simp [k1,k2,hT2.row,TkV.row,hlook,g7,undef,placeIn,splice]
    rw [hsv] at hsp hrf
    refine hR _ (j,(m',s.2),(bh,0)) r S2 _ hsp hI2 (fun S3 hI3 hs3=>?_) (fun S3 hD=>?_)
    ·simp [hwS]
     exact hRR _ _ _ (by omega) ⟨j + 1,rfl,by omega,by rw [hrf]; exact hI3,⟨rfl,rfl,by simp⟩⟩
    ·simp
     exact hq _ (.inr hD)
   | some b=>
    rw [hix] at hpl hlook
    simp only [Option.map_some] at hpl hlook
    rw [hpl] at hsv
    simp only at hsv
    simp at hlook
    by_cases hl : s.2 < (b : Int)
    ·rw [if_pos hl] at hsv
     rw [hsv] at hsp hrf
     simp [k1,k2,hT2.row,TkV.row,hlook,g7,undef,placeIn,splice,hl]
     refine hR _ (j,(m',(b : Int)),(bh,0)) ((j,(m',s.2),(bh,1)) :: r) S2 _ hsp hI2 (fun S3 hI3 hs3=>?_) (fun S3 hD=>?_)
     ·have g8 : S3.get S1.next=some (.row [.int .i64 m',.int .i64 s.2] 89 true true):=(hs3.2 S1.next (by omega) (fun hm=>by have:=hfp _ hm; omega)).trans g7
      simp [g8,placeIn,splice]
      refine hR _ (j,(m',s.2),(bh,1)) r S3 _ (by rw [hsp]; simp) hI3 (fun S4 hI4 hs4=>?_) (fun S4 hD=>?_)
      ·simp [hwS]
       refine hRR _ _ _ (by omega) ⟨j + 1,rfl,by omega,?_,⟨rfl,rfl,by simp⟩⟩
       rw [hrf,← List.append_assoc]; exact hI4
      ·simp
       exact hq _ (.inr hD)
     ·simp
      exact hq _ (.inr hD)
    ·rw [if_neg hl] at hsv
     rw [hsv] at hsp hrf
     simp [k1,k2,hT2.row,TkV.row,hlook,g7,undef,placeIn,splice,hl]
     refine hR _ (j,(m',s.2),(bh,1)) r S2 _ hsp hI2 (fun S3 hI3 hs3=>?_) (fun S3 hD=>?_)
     ·simp [hwS]
      exact hRR _ _ _ (by omega) ⟨j + 1,rfl,by omega,by rw [hrf]; exact hI3,⟨rfl,rfl,by simp⟩⟩
     ·simp
      exact hq _ (.inr hD)
 ·obtain rfl : j=c.free.length:=by omega
  simp [fillF,pickL]
  exact hq _ (.inl hI1)

set_option maxHeartbeats 4000000
theorem steps98_ok {S : AS} {d : Nat} {s : St} {Q : En→AS→Prop}
  (hq : ∀ S',Same S S' []→S.next + 2≤S'.next→S'.get S.next=some (.row [ptr d] 81 true true)→S'.get (S.next + 1)=some (.row [.int .i64 s.1,.int .i64 s.2] 89 true true)→Q (.ret (.func (.func 71) #[] #[ptr S.next,ptr (S.next + 1)])) S') : Call G 42 [ptr d,sV s] S Q:=by
 refine call_run' (G:=G) rfl (ext_none (by decide)) ?_
 simp
 refine hq _ ?_ (by simp) (by simp) (by simp)
 repeat' first | exact Same.refl _ _ | apply Same.bu | (refine Same.pn ?_ (by first | omega | (simp; omega)))
theorem behind_bd {c : Cg} (k : CgSm c) (x : Int) (set : Nat) : 0≤c.tk.behind x set∧c.tk.behind x set≤48000:=by
 have e0 : c.tk.behind x set=isum (c.tk.front.map (c.tk.w x)) + isum (bhF c x set):=rfl
 rw [e0]
 have h1:=isum_bd (l:=c.tk.front.map (c.tk.w x)) fun y hy=>by
  obtain ⟨z,_,rfl⟩:=List.mem_map.1 hy
  exact k.w x z
 have h2:=isum_bd (l:=bhF c x set) fun y hy=>by
  obtain ⟨z,_,rfl⟩:=List.mem_map.1 hy
  have:=k.w x (c.tk.at' z)
  split <;> omega
 have h3 : (c.tk.front.map (c.tk.w x)).length≤24:=by
  have:=k.ol
  have e : c.tk.front=c.old.take c.passed:=rfl
  rw [e]
  simp; omega
 have h4 : (bhF c x set).length≤24:=by
  have : c.tk.f=c.free.length:=rfl
  have:=k.f
  simp [bhF]; omega
 omega
theorem step_bd {c : Cg} (k : CgSm c) {s : St} {i : Nat} {to : St} {d : Cost} (h : IsStep c.tk s i to d) : 0≤d.1∧d.1≤48000∧0≤d.2∧d.2≤1:=by
 have:=behind_bd k (c.tk.at' i) s.1
 have h1:=h.off
 have h2:=h.to'
 cases hp : c.tk.place (c.tk.at' i) with
 | none=>rw [hp] at h2; simp only [StepTo] at h2; omega
 | some p=>rw [hp] at h2; simp only [StepTo] at h2; omega
theorem path_bd {c : Cg} (k : CgSm c) : ∀ (q : List Nat) (s : St) (d : Cost) (s' : St),Path c.tk s q d s'→0≤d.1∧d.1≤48000 * q.length∧0≤d.2∧d.2≤q.length
 | [],s,d,s',⟨h,_⟩=>by subst h; simp
 | i :: q,s,d,s',⟨to,e,e',h1,h2,h3⟩=>by
  have:=path_bd k q to e' s' h2
  have:=step_bd k h1
  subst h3
  simp only [cadd,List.length_cons]; omega
theorem rest_bd {c : Cg} (k : CgSm c) (s : St) : 0≤(c.tk.rest s).1∧(c.tk.rest s).1≤1152000∧0≤(c.tk.rest s).2∧(c.tk.rest s).2≤24:=by
 obtain ⟨q,s',h1,h2⟩:=rest_ex (T:=c.tk) _ s rfl
 have h3:=path_bd k q s _ s' h1
 have h4:=path_cnt _ _ _ _ h1
 have h5 : cnt c.tk.f s.1≤24:=by
  have : cnt c.tk.f s.1≤(List.range c.tk.f).length:=List.countP_le_length
  rw [List.length_range] at this
  have e : c.tk.f=c.free.length:=rfl
  have:=k.f
  omega
 omega
theorem leastO_append : ∀ (l m : List Cost) (o : Option Cost),leastO o (l ++ m)=leastO (leastO o l) m
 | [],_,_=>rfl
 | c :: l,m,none=>leastO_append l m (some c)
 | c :: l,m,some b=>leastO_append l m _
@[simp] theorem rowLoad5a {a b c d e : Value} : rowLoad [a,b,c,d,e] 1 (some 2)=some (.agg #[b,c]):=rfl
@[simp] theorem rowLoad5b {a b c d e : Value} : rowLoad [a,b,c,d,e] 3 (some 2)=some (.agg #[d,e]):=rfl
@[simp] theorem rowStore5 {a b c d e a' b' c' d' e' : Value} : rowStore [a,b,c,d,e] 0 [a',b',c',d',e']=if (okc a' && okc b' && okc c' && okc d' && okc e')=true then some [a',b',c',d',e'] else none:=by
 unfold rowStore
 by_cases h : (okc a' && okc b' && okc c' && okc d' && okc e')=true
 ·rw [if_pos h,if_pos ⟨by simp,by simpa [Bool.and_assoc] using h⟩]; rfl
 ·rw [if_neg h,if_neg (fun g=>h (by simpa [Bool.and_assoc] using g.2))]
def RestOK (v : TkV) (c : Cg) (s : St) : Prop:=∀ (S : AS) (Q : En→AS→Prop),TkAt S v c→LeastAt S v.lm c→(∀ S',Same S S' [v.lm]→LeastAt S' v.lm c→Q (.ret (cV (c.tk.rest s))) S')→Call G 69 [ptr v.d,sV s] S Q
theorem rest_ok1 {v : TkV} {c : Cg} (k : CgSm c) {s : St} (hs : s.1 < 2 ^ c.free.length) (IH : ∀ to : St,to.1 < 2 ^ c.free.length→cnt c.tk.f to.1 < cnt c.tk.f s.1→RestOK v c to) : RestOK v c s:=by
 intro S Q hT hL hq
 have hlt:=hT.lt
 refine call_run' (G:=G) rfl (ext_none (by decide)) ?_
 simp [Nat.add_assoc]
 generalize hS1 : (((S.bump 3).put S.next (AObj.row [Value.pointer (some { block:=v.d,off:=0 })] 81 true true)).put (S.next + 1) (AObj.row [Value.int IntKind.i64 s.1,Value.int IntKind.i64 s.2] 89 true true)).put (S.next + 2) (AObj.row [Value.int IntKind.i64 0,Value.int IntKind.i64 0] 79 true true)=S1
 have hs1 : Same S S1 []:=by
  rw [← hS1]
  repeat' first | exact Same.refl _ _ | apply Same.bu | (refine Same.pn ?_ (by first | omega | (simp; omega)))
 have g0 : S1.get S.next=some (.row [.pointer (some ⟨v.d,0,none⟩)] 81 true true):=by rw [← hS1]; simp
 have g1 : S1.get (S.next + 1)=some (.row [.int .i64 s.1,.int .i64 s.2] 89 true true):=by rw [← hS1]; simp
 have g2 : S1.get (S.next + 2)=some (.row [.int .i64 0,.int .i64 0] 79 true true):=by rw [← hS1]; simp
 have hn1 : S1.next=S.next + 3:=by rw [← hS1]; simp
 clear hS1
 have hT1:=hT.stay0 hs1
 have hL1:=hL.stay0 hs1 (by omega)
 refine all_ok hT1 k ?_
 have hfl : c.tk.f=c.free.length:=rfl
 simp [g0,g1]
 by_cases hc : cnt c.tk.f s.1=0
 ·have hful : s.1=2 ^ c.tk.f - 1:=(cnt_full (by rw [hfl]; exact hs)).1 hc
  have hful' : (s.1 : Int)=((2 ^ c.tk.f - 1 : Nat) : Int):=by rw [← hful]
  simp [hful',placeIn,g2,rowStore,okc,splice]
  have:=hq (S1.put (S.next + 2) (AObj.row [Value.int IntKind.i64 0,Value.int IntKind.i64 0] 79 true true)) ((hs1.pn (by omega)).mono (by simp)) (hL1.stays (by rw [AS.get_put_ne _ _ (by omega)]))
  rw [rest_full hc] at this
  exact this
 ·have hful : ¬ (s.1 : Int)=((2 ^ c.tk.f - 1 : Nat) : Int):=fun e=>hc ((cnt_full (by rw [hfl]; exact hs)).2 (by omega))
  obtain ⟨fm,hM,hr⟩:=hL1.stay0 (S':=S1.bump 1) (.bu (.refl _ _)) (by omega)
  have hlook:=hM.look keyInt2 ((s.1 : Int),s.2) (.agg #[.int .i64 0,.int .i64 0]) true
  simp only at hlook
  cases hf : fm ((s.1 : Int),s.2) with
  | some vv=>
   rw [hf] at hlook
   simp at hlook
   obtain rfl:=hr s vv (by rw [hfl]; exact hs) hf
   simp [hful,g0,g1,g2,hT1.row,TkV.row,hlook,rowStore,okc,splice,hn1,Nat.add_assoc]
   refine hq _ ?_ ?_
   ·exact ((((hs1.bu.pn (by omega)).pn (by omega)).pn (by omega)).mono (by simp))
   ·exact hL1.stays (by rw [AS.get_put_ne _ _ (by omega),AS.get_put_ne _ _ (by omega),AS.get_put_ne _ _ (by omega),AS.get_bump])
  | none=>
   rw [hf] at hlook
   simp at hlook
   simp [hful,g0,g1,g2,hT1.row,TkV.row,hlook,rowStore,okc,splice,hn1,Nat.add_assoc]
   generalize hS2 : AS.put (AS.put (AS.bump (AS.put (AS.bump (AS.put (AS.put (AS.bump S1 1) _ _) _ _) 1) _ _) 1) _ _) _ _=S2
   have hs2 : Same S S2 []:=by
    rw [← hS2]
    exact (((((((hs1.bu).pn (by omega)).pn (by omega)).bu).pn (by omega)).bu).pn (by omega)).pn (by omega)
   have h0 : S2.get S.next=some (.row [.pointer (some ⟨v.d,0,none⟩)] 81 true true):=by rw [← hS2]; simp [g0]
   have h1 : S2.get (S.next + 1)=some (.row [.int .i64 s.1,.int .i64 s.2] 89 true true):=by rw [← hS2]; simp [g1]
   have h2 : S2.get (S.next + 2)=some (.row [.int .i64 0,.int .i64 0] 79 true true):=by rw [← hS2]; simp [g2]
   have h4 : S2.get (S.next + 4)=some (.row [.int .i64 0,.int .i64 0] 79 true true):=by rw [← hS2]; simp
   have h5 : S2.get (S.next + 5)=some (.row [.bool false] 4 true true):=by rw [← hS2]; simp
   have hn2 : S2.next=S.next + 6:=by rw [← hS2]; simp [hn1]
   clear hS2 hlook hM hr
   refine steps98_ok fun S3 hs3 hn3 k1 k2=>?_
   rw [hn2] at hn3 k1 k2 ⊢
   simp
   refine run_range rfl ?_
   simp
   generalize hS4 : ((S3.bump 2).put S3.next (.defd (some []))).put (S3.next + 1) _=S4
   obtain ⟨lo,hlo⟩ : ∃ lo,S4.get (S3.next + 1)=some lo:=by rw [← hS4]; exact ⟨_,AS.get_put_self _ _ _⟩
   have hlo':=hlo
   rw [← hS4,AS.get_put_self] at hlo'
   have hlo2:=Option.some.inj hlo'
   clear hlo'
   have gd : S4.get S3.next=some (.defd (some [])):=by rw [← hS4,AS.get_put_ne _ _ (by omega),AS.get_put_self]
   have hn4 : S4.next=S3.next + 2:=by rw [← hS4]; simp
   have hs4 : Same S2 S4 []:=by
    rw [← hS4]
    exact ((hs3.bu).pn (by omega)).pn (by omega)
   have hs34 : Same S3 S4 []:=by
    rw [← hS4]
    exact (((Same.refl _ _).bu).pn (by omega)).pn (by omega)
   clear hS4
   have hs04:=hs2.tr0 hs4
   have hT4:=hT.stay0 hs04
   have hL4:=hL.stay0 hs04 (by omega)
   have hfp : ∀ m∈[v.lm,S3.next + 1,S.next + 4,S.next + 5],m=v.lm∨S.next + 4≤m:=fun m hm=>by simp at hm; omega
   simp [calleeOf]
   refine stepsF_ok (v:=v) k hs [v.lm,S3.next + 1,S.next + 4,S.next + 5] (fun m hm=>by have:=hfp m hm; simp at hm; omega)
    (fun done S'=>Same S4 S' [v.lm,S3.next + 1,S.next + 4,S.next + 5]∧LeastAt S' v.lm c∧S'.get (S3.next + 1)=some lo∧∃ b : Cost,S'.get (S.next + 4)=some (.row [.int .i64 b.1,.int .i64 b.2] 79 true true)∧S'.get (S.next + 5)=some (.row [.bool (!done.isEmpty)] 4 true true)∧Bd b∧leastO none (done.map fun x=>cadd x.2.2 (c.tk.rest x.2.1))=if done.isEmpty=true then none else some b) (fun _=>False) ?_ ?_ ?_ ?_ ?_
   ·exact ⟨.refl _ _,hL4,hlo,(0,0),by rw [hs4.2 _ (by omega) (by simp)]; exact h4,by rw [hs4.2 _ (by omega) (by simp)]; exact h5,by unfold Bd; simp,rfl⟩
   ·rintro done S' ⟨q1,q2,q3,q4⟩
    refine ⟨by have:=q1.1; omega,hT4.sb ?_,?_,?_⟩
    ·exact ⟨q1.1,fun m hm hn=>q1.2 m (by omega) (fun hk=>by have:=hfp m hk; simp at hn; omega)⟩
    ·rw [q1.2 _ (by omega) (by simp; omega),hs34.2 _ (by omega) (by simp)]; exact k1
    ·rw [q1.2 _ (by omega) (by simp; omega),hs34.2 _ (by omega) (by simp)]; exact k2
   ·rintro done S' S'' ⟨q1,q2,q3,b,q4,q5,q6,q7⟩ hs'
    have hn':=q1.1
    exact ⟨q1.trans hs' (by simp),q2.stay0 hs' (by omega),by rw [hs'.2 _ (by omega) (by simp)]; exact q3,b,by rw [hs'.2 _ (by omega) (by simp)]; exact q4,by rw [hs'.2 _ (by omega) (by simp)]; exact q5,q6,q7⟩
   ·rintro done x rest S' P hst ⟨q1,q2,q3,b,q4,q5,q6,q7⟩ hP _
    have hx:=(mem_steps (i:=x.1) (to:=x.2.1) (c:=x.2.2)).1 (by rw [hst]; simp)
    obtain ⟨i,⟨t1,t2⟩,e1,e2⟩:=x
    rw [← hlo2] at q3
    refine callRd' q3 rfl ?_
    have hn':=q1.1
    have f0 : S'.get S.next=some (.row [.pointer (some ⟨v.d,0,none⟩)] 81 true true):=by rw [q1.2 _ (by omega) (by simp; omega),hs4.2 _ (by omega) (by simp)]; exact h0
    have hT' : TkAt S' v c:=hT4.sb ⟨q1.1,fun m hm hn=>q1.2 m (by omega) (fun hk=>by have:=hfp m hk; simp at hn; omega)⟩
    simp
    rw [AS.get_put_ne _ _ (by omega),AS.get_put_ne _ _ (by omega),AS.get_bump,q3,kra_ready]
    generalize hS5 : AS.put (AS.put (AS.put (AS.bump S' 1) _ _) _ _) _ _=S5
    have j0 : S5.get S'.next=some (.row [.int .i64 i,.int .i64 t1,.int .i64 t2,.int .i64 e1,.int .i64 e2] 101 true true):=by rw [← hS5,AS.get_put_ne _ _ (by omega),AS.get_put_self]
    have hs5 : Same S' S5 [S3.next + 1]:=by
     rw [← hS5]
     exact ((((Same.refl _ _).bu).pn (by omega)).pn (by omega)).po (by simp)
    have hn5 : S5.next=S'.next + 1:=by rw [← hS5]; simp
    obtain ⟨lb,hlb,hlb2⟩ : ∃ lb,S5.get (S3.next + 1)=some lb∧∀ (P : En→AS→Prop) (e : Ex) (U : AS),e=.norm→KRd (S3.next + 1) P e (some lb) U=P (.ret (.bool true)) (U.put (S3.next + 1) lo):=by
     rw [← hS5,AS.get_put_self]
     exact ⟨_,rfl,fun P e U he=>by rw [he,← hlo2]; rfl⟩
    clear hS5
    have f0' : S5.get S.next=some (.row [.pointer (some ⟨v.d,0,none⟩)] 81 true true):=by rw [hs5.2 _ (by omega) (by simp; omega)]; exact f0
    have f4' : S5.get (S.next + 4)=some (.row [.int .i64 b.1,.int .i64 b.2] 79 true true):=by rw [hs5.2 _ (by omega) (by simp; omega)]; exact q4
    have f5' : S5.get (S.next + 5)=some (.row [.bool (!done.isEmpty)] 4 true true):=by rw [hs5.2 _ (by omega) (by simp; omega)]; exact q5
    have hL5 : LeastAt S5 v.lm c:=q2.stays (by rw [hs5.2 _ (by omega) (by simp; omega)])
    have hT5 : TkAt S5 v c:=hT'.sb ⟨hs5.1,fun m hm hn=>hs5.2 m (by omega) (by simp; omega)⟩
    simp [j0,f0']
    have hb5 : Same S5 (S5.bump 1) []:=.bu (.refl _ _)
    have hbd:=rest_bd k (t1,t2)
    have hsb:=step_bd k hx
    simp only at hx hsb
    refine IH (t1,t2) (hx.set_lt hs) (by have:=hx.cnt; simp only at this ⊢; omega) (S5.bump 1) _ (hT5.stay0 hb5) (hL5.stay0 hb5 (by omega)) fun S6 hs6 hL6=>?_
    have hn6:=hs6.1
    simp at hn6
    have hs56 : Same S5 S6 [v.lm]:=(hb5.mono (by simp) : Same S5 (S5.bump 1) [v.lm]).trans hs6 (fun m h _=>h)
    have j6 : S6.get S'.next=_:=(hs56.2 S'.next (by omega) (by simp; omega)).trans j0
    have f06 : S6.get S.next=_:=(hs56.2 S.next (by omega) (by simp; omega)).trans f0'
    have f46 : S6.get (S.next + 4)=_:=(hs56.2 (S.next + 4) (by omega) (by simp; omega)).trans f4'
    have f56 : S6.get (S.next + 5)=_:=(hs56.2 (S.next + 5) (by omega) (by simp; omega)).trans f5'
    simp [j6,f06]
    refine add_ok (c:=(e1,e2)) (by unfold Bd; simp only; omega) (by unfold Bd; omega) fun S7 hs7=>?_
    have hn7:=hs7.1
    have j7 : S7.get S'.next=_:=(hs7.2 S'.next (by omega) (by simp)).trans j6
    have f07 : S7.get S.next=_:=(hs7.2 S.next (by omega) (by simp)).trans f06
    have f47 : S7.get (S.next + 4)=_:=(hs7.2 (S.next + 4) (by omega) (by simp)).trans f46
    have f57 : S7.get (S.next + 5)=_:=(hs7.2 (S.next + 5) (by omega) (by simp)).trans f56
    simp [j7,f07,rowStore,okc,splice]
    generalize hS8 : AS.put (AS.put S7 S5.next _) S5.next _=S8
    have hn8 : S8.next=S7.next:=by rw [← hS8]; rfl
    have hs78 : Same S7 S8 [S5.next]:=by rw [← hS8]; exact ((Same.refl _ _).po (by simp)).po (by simp)
    have j8 : S8.get S5.next=some (.row [.int .i64 (cadd (e1,e2) (c.tk.rest (t1,t2))).1,.int .i64 (cadd (e1,e2) (c.tk.rest (t1,t2))).2] 79 true true):=by rw [← hS8,AS.get_put_self]
    clear hS8
    have f48 : S8.get (S.next + 4)=_:=(hs78.2 (S.next + 4) (by omega) (by simp; omega)).trans f47
    have f58 : S8.get (S.next + 5)=_:=(hs78.2 (S.next + 5) (by omega) (by simp; omega)).trans f57
    have hlb8 : S8.get (S3.next + 1)=some lb:=by
     rw [hs78.2 _ (by omega) (by simp; omega),hs7.2 _ (by omega) (by simp),hs56.2 _ (by omega) (by simp; omega)]; exact hlb
    have hL8 : LeastAt S8 v.lm c:=(hL6.stay0 hs7 (by omega)).stays (by rw [hs78.2 _ (by omega) (by simp; omega)])
    have hs08 : Same S' S8 [v.lm,S3.next + 1,S.next + 4,S.next + 5]:=by
     refine (((hs5.mono (by simp) : Same S' S5 [v.lm,S3.next + 1,S.next + 4,S.next + 5]).trans hs56 (by simp)).trans hs7 (by simp)).trans hs78 (fun m hm hl=>?_)
     simp at hm; omega
    generalize hd : cadd (e1,e2) (c.tk.rest (t1,t2))=d at *
    have hdb : Bd d:=by rw [← hd]; unfold Bd cadd; simp only; omega
    have fin : ∀ (U : AS) (nb : Cost),Same S8 U [S.next + 4,S.next + 5]→U.get (S.next + 4)=some (.row [.int .i64 nb.1,.int .i64 nb.2] 79 true true)→U.get (S.next + 5)=some (.row [.bool true] 4 true true)→Bd nb→leastO (leastO none (done.map fun x=>cadd x.2.2 (c.tk.rest x.2.1))) [d]=some nb →
      KRd (S3.next + 1) P .norm (U.get (S3.next + 1)) U:=by
     intro U nb u1 u2 u3 u4 u5
     rw [u1.2 _ (by omega) (by simp; omega),hlb8,hlb2 P .norm U rfl]
     have hs' : Same S' (U.put (S3.next + 1) lo) [v.lm,S3.next + 1,S.next + 4,S.next + 5]:=(hs08.trans u1 (fun m hm _=>by simp at hm ⊢; omega)).po (by simp)
     refine hP _ ⟨q1.trans hs' (fun m hm _=>hm),hL8.stays ?_,AS.get_put_self _ _ _,nb,?_,?_,u4,?_⟩ hs'
     ·rw [AS.get_put_ne _ _ (by omega),u1.2 _ (by omega) (by simp; omega)]
     ·rw [AS.get_put_ne _ _ (by omega)]; exact u2
     ·rw [AS.get_put_ne _ _ (by omega),u3]; simp
     ·simp only [List.map_append,List.map_cons,List.map_nil,leastO_append,hd]
      rw [u5]; simp
    cases hde : done.isEmpty with
    | true=>
     rw [hde] at f58 q7
     simp at f58 q7
     simp [f48,f58,j8,undef,rowStore,okc,splice]
     refine fin _ d ?_ (by rw [AS.get_put_ne _ _ (by omega),AS.get_put_self]) (by rw [AS.get_put_self]) hdb (by rw [q7]; rfl)
     exact ((Same.refl _ _).po (by simp)).po (by simp)
    | false=>
     rw [hde] at f58 q7
     simp at f58 q7
     simp [f48,f58,j8,undef,rowStore,okc,splice]
     refine less_ok (c:=d) (d:=b) fun S9 hs9=>?_
     have hn9:=hs9.1
     have f49 : S9.get (S.next + 4)=_:=(hs9.2 (S.next + 4) (by omega) (by simp)).trans f48
     have f59 : S9.get (S.next + 5)=_:=(hs9.2 (S.next + 5) (by omega) (by simp)).trans f58
     have j9 : S9.get S5.next=_:=(hs9.2 S5.next (by omega) (by simp)).trans j8
     cases hlt : clt d b with
     | true=>
      simp [f49,f59,j9,undef,rowStore,okc,splice]
      refine fin _ d ?_ (by rw [AS.get_put_ne _ _ (by omega),AS.get_put_self]) (by rw [AS.get_put_self]) hdb (by rw [q7]; simp [leastO,hlt])
      exact ((hs9.mono (by simp)).po (by simp)).po (by simp)
     | false=>
      simp [f49,f59,j9,undef,rowStore,okc,splice]
      refine fin _ b (hs9.mono (by simp)) f49 f59 q6 (by rw [q7]; simp [leastO,hlt])
   ·rintro S' (⟨q1,q2,q3,b,q4,q5,q6,q7⟩ | hf)
    ·rw [← hlo2] at q3
     have hn':=q1.1
     have hne:=steps_ne (T:=c.tk) (s:=s) hc
     have hie : (c.tk.steps s).isEmpty=false:=by simpa using hne
     rw [hie,rest_eq hc] at q7
     simp only [Bool.false_eq_true,if_false,Option.some.injEq] at q7
     subst q7
     simp only [krg_ret,q3,kre_ready]
     generalize hS9 : AS.put S' (S3.next + 1) _=S9
     have hs9 : Same S4 S9 [v.lm,S3.next + 1,S.next + 4,S.next + 5]:=by rw [← hS9]; exact q1.po (by simp)
     have hn9 : S9.next=S'.next:=by rw [← hS9]; rfl
     have f4 : S9.get (S.next + 4)=some (.row [.int .i64 (c.tk.rest s).1,.int .i64 (c.tk.rest s).2] 79 true true):=by rw [← hS9,AS.get_put_ne _ _ (by omega)]; exact q4
     have hL9 : LeastAt S9 v.lm c:=q2.stays (by rw [← hS9,AS.get_put_ne _ _ (by omega)])
     clear hS9
     have f0 : S9.get S.next=some (.row [.pointer (some ⟨v.d,0,none⟩)] 81 true true):=by rw [hs9.2 _ (by omega) (by simp; omega),hs4.2 _ (by omega) (by simp)]; exact h0
     have f1 : S9.get (S.next + 1)=some (.row [.int .i64 s.1,.int .i64 s.2] 89 true true):=by rw [hs9.2 _ (by omega) (by simp; omega),hs4.2 _ (by omega) (by simp)]; exact h1
     have f2 : S9.get (S.next + 2)=some (.row [.int .i64 0,.int .i64 0] 79 true true):=by rw [hs9.2 _ (by omega) (by simp; omega),hs4.2 _ (by omega) (by simp)]; exact h2
     have fd : S9.get S3.next=some (.defd (some [])):=by rw [hs9.2 _ (by omega) (by simp; omega)]; exact gd
     have hT9 : TkAt S9 v c:=hT4.sb ⟨hs9.1,fun m hm hn=>hs9.2 m (by omega) (fun hk=>by have:=hfp m hk; simp at hn; omega)⟩
     obtain ⟨fm,hM,hr⟩:=hL9
     obtain ⟨ob,hms,hM2⟩:=hM.mset keyInt2 ((s.1 : Int),s.2) (cV (c.tk.rest s))
     simp only at hms
     simp [f0,f1,f4,hT9.row,TkV.row,hms]
     generalize hS10 : S9.put v.lm ob=S10 at *
     have hs10 : Same S9 S10 [v.lm]:=by rw [← hS10]; exact (Same.refl _ _).po (by simp)
     have k4 : S10.get (S.next + 4)=_:=(hs10.2 _ (by omega) (by simp; omega)).trans f4
     have k2 : S10.get (S.next + 2)=_:=(hs10.2 _ (by omega) (by simp; omega)).trans f2
     have kd : S10.get S3.next=_:=(hs10.2 _ (by omega) (by simp; omega)).trans fd
     have hn10 : S10.next=S9.next:=by rw [← hS10]; rfl
     clear hS10
     have n1 : ¬ S3.next=S.next + 2:=by omega
     simp [k4,k2,rowStore,okc,splice]
     rw [drain_cons (by rw [AS.get_put_ne _ _ n1]; exact kd)]
     have n2 : ¬ S.next + 2=S3.next:=by omega
     simp [n2]
     refine hq _ ?_ ⟨upd1 fm ((s.1 : Int),s.2) (cV (c.tk.rest s)),?_,?_⟩
     ·have : Same S S10 [v.lm]:=((hs04.mono (by simp) : Same S S4 [v.lm]).trans hs9 (fun m hm hl=>by have:=hfp m hm; simp; omega)).trans hs10 (fun m hm _=>hm)
      exact (this.pn (by omega)).pn (by omega)
     ·obtain ⟨es,cc,e1,e2⟩:=hM2
      exact ⟨es,cc,by rw [AS.get_put_ne _ _ (by omega),AS.get_put_ne _ _ (by omega)]; exact e1,e2⟩
     ·intro s' w hs' hw
      unfold upd1 at hw
      split at hw
      ·rename_i he
       simp only [Prod.mk.injEq] at he
       have e1 : s'.1=s.1:=by omega
       have : s'=s:=by
        obtain ⟨a1,a2⟩:=s'
        obtain ⟨b1,b2⟩:=s
        simp only at e1 he
        rw [e1,he.2]
       rw [this]
       exact (Option.some.inj hw).symm
      ·exact hr s' w hs' hw
    ·exact hf.elim
theorem rest_ok {v : TkV} {c : Cg} (k : CgSm c) : ∀ (n : Nat) (s : St),cnt c.tk.f s.1≤n→s.1 < 2 ^ c.free.length→RestOK v c s
 | 0,s,hn,hs=>rest_ok1 k hs fun to _ h=>by omega
 | n + 1,s,hn,hs=>rest_ok1 k hs fun to h1 h2=>rest_ok k n to (by omega) h1

theorem offR_bd {w : Int→Int→Int} (hw : ∀ x y,0≤w x y∧w x y≤1000) : ∀ (l ah : List Int),ah.length + l.length≤24→0≤offR w ah l∧offR w ah l≤24000 * l.length
 | [],ah,_=>by simp [offR]
 | x :: l,ah,h=>by
  have h1:=isum_bd (l:=ah.map (w x)) fun y hy=>by
   obtain ⟨z,_,rfl⟩:=List.mem_map.1 hy
   exact hw x z
  have h2:=offR_bd hw l (ah ++ [x]) (by simp at h ⊢; omega)
  simp only [List.length_map] at h1
  simp only [List.length_cons] at h ⊢
  simp only [offR]
  omega
theorem base_bd {c : Cg} (k : CgSm c) : 0≤c.goal.base∧c.goal.base≤576000:=by
 have hl : c.front.length≤24:=by have:=k.ol; unfold Cg.front; simp; omega
 have:=offR_bd k.w c.front [] (by simpa using hl)
 show 0≤offR c.w [] c.front∧offR c.w [] c.front≤576000
 omega
theorem total_ok {S : AS} {v : TkV} {c : Cg} (hT : TkAt S v c) (hL : LeastAt S v.lm c) (k : CgSm c) {Q : En→AS→Prop} (hq : ∀ S',Same S S' [v.lm]→LeastAt S' v.lm c→Q (.ret (cV c.goal.total)) S') : Call G 36 [ptr v.d] S Q:=by
 have hlt:=hT.lt
 have hb:=base_bd k
 have hr:=rest_bd k (0,c.goal.last0)
 refine call_run' (G:=G) rfl (ext_none (by decide)) ?_
 simp
 generalize hS1 : (S.bump 1).put S.next _=S0
 have hs0 : Same S S0 []:=by rw [← hS1]; exact ((Same.refl _ _).bu).pn (by omega)
 have g0 : S0.get S.next=some (.row [.int .i64 0,.int .i64 0] 79 true true):=by rw [← hS1]; simp
 have hn0 : S0.next=S.next + 1:=by rw [← hS1]; simp
 clear hS1
 have hb0 : Same S0 (S0.bump 2) []:=.bu (.refl _ _)
 have hT0:=(hT.stay0 hs0).stay0 hb0
 refine first_ok hT0 k fun S1 hs1=>?_
 have hn1:=hs1.1
 simp at hn1
 have hs01:=hb0.tr0 hs1
 have g1 : S1.get S.next=_:=(hs01.2 _ (by omega) (by simp)).trans g0
 simp [rowStore,okc,splice,hn0,Nat.add_assoc]
 generalize hS2 : AS.put (AS.put (AS.put (AS.put S1 _ _) _ _) _ _) _ _=S2
 have hs2 : Same S S2 []:=by
  rw [← hS2]
  exact ((((hs0.tr0 hs01).pn (by omega)).pn (by omega)).pn (by omega)).pn (by omega)
 have g2 : S2.get S.next=some (.row [.int .i64 0,.int .i64 0] 79 true true):=by rw [← hS2]; simp [g1]
 have k1 : S2.get (S.next + 1)=some (.row [.int .i64 0,.int .i64 c.goal.last0] 89 true true):=by rw [← hS2]; simp
 have k2 : S2.get (S.next + 2)=some (.row [.int .i64 c.goal.base,.int .i64 0] 79 true true):=by rw [← hS2]; simp
 have hn2 : S.next + 3≤S2.next:=by rw [← hS2]; simp; omega
 clear hS2
 refine rest_ok k _ (0,c.goal.last0) (Nat.le_refl _) (Nat.two_pow_pos _) S2 _ (hT.stay0 hs2) (hL.stay0 hs2 (by omega)) fun S3 hs3 hL3=>?_
 have hn3:=hs3.1
 have g3 : S3.get S.next=_:=(hs3.2 _ (by omega) (by simp; omega)).trans g2
 have k13 : S3.get (S.next + 1)=_:=(hs3.2 _ (by omega) (by simp; omega)).trans k1
 have k23 : S3.get (S.next + 2)=_:=(hs3.2 _ (by omega) (by simp; omega)).trans k2
 simp [k13,k23]
 refine add_ok (c:=(c.goal.base,0)) (by unfold Bd; simp only; omega) (by unfold Bd; omega) fun S4 hs4=>?_
 have g4 : S4.get S.next=_:=(hs4.2 _ (by omega) (by simp)).trans g3
 have k14 : S4.get (S.next + 1)=_:=(hs4.2 _ (by omega) (by simp)).trans k13
 have k24 : S4.get (S.next + 2)=_:=(hs4.2 _ (by omega) (by simp)).trans k23
 simp [k14,k24,g4,rowStore,okc,splice]
 have hn4:=hs4.1
 refine hq _ ?_ ?_
 ·exact (((hs2.mono (by simp) : Same S S2 [v.lm]).trans hs3 (fun m hm _=>hm)).trans hs4 (by simp)).pn (by omega)
 ·exact (hL3.stay0 hs4 (by omega)).stays (by rw [AS.get_put_ne _ _ (by omega)])
end Go.Gx.Z
