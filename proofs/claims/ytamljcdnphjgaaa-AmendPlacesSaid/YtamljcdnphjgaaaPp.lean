/-
  Tasks in memory; costs.
-/
import Derived.Test.YtamljcdnphjgaaaPm
import Derived.Test.YtamljcdnphjgaaaPk

set_option linter.all false
set_option linter.deprecated false
set_option linter.unusedSimpArgs false
set_option linter.unusedVariables false

namespace Go.Gx.A
open Go.Gx Go.Proofs
set_option maxRecDepth 100000
set_option linter.all false
set_option maxHeartbeats 1000000
abbrev cV (c : Cost) : Value := .agg #[.int .i64 c.1, .int .i64 c.2]
theorem SB.same {B : Nat} {S S' : AS} {fp : List Nat} (h : SB B S S' fp) : Same S S' (fp ++ List.range' B (S.next - B)) := ⟨h.1, fun m hm hn => by
  simp only [List.mem_append, not_or, List.mem_range'_1] at hn
  exact h.2 m (by omega) hn.1⟩
theorem not_new {B n m : Nat} {fp : List Nat} (h1 : m < B) (h2 : m ∉ fp) : m ∉ fp ++ List.range' B n := by
  simp only [List.mem_append, not_or, List.mem_range'_1]
  exact ⟨h2, by omega⟩
theorem _root_.Go.Gx.Cs.sb {B : Nat} {S S' : AS} {v : Value} {cs : List Value} (h : Cs S v cs) {fp : List Nat} (hs : SB B S S' fp) (hb : ∀ m ∈ ownsOf v, m < B ∧ m ∉ fp) : Cs S' v cs :=
  h.stays hs.same fun m hm => not_new (hb m hm).1 (hb m hm).2
theorem Ls.sb {B : Nat} {S S' : AS} {v : Value} {vs : List Value} {ls : List (List Int)} (h : Ls S v vs ls) {fp : List Nat} (hs : SB B S S' fp) (hb : ∀ m ∈ ownsOf v, m < B ∧ m ∉ fp) (hr : ∀ m ∈ vs.flatMap ownsOf, m < B ∧ m ∉ fp) : Ls S' v vs ls :=
  ⟨h.cs.sb hs hb, h.len, h.small, fun i v l h1 h2 => (h.pt i v l h1 h2).sb hs fun m hm => hr m (List.mem_flatMap.2 ⟨v, List.mem_of_getElem? h1, hm⟩)⟩
theorem SB.of0 {B : Nat} {S S' : AS} {fp : List Nat} (h : Same S S' fp) (hB : B ≤ S.next) : SB B S S' fp := ⟨h.1, fun m hm hn => h.2 m (by omega) hn⟩
theorem SB.mono {B : Nat} {S S' : AS} {fp gp : List Nat} (h : SB B S S' fp) (hg : ∀ m ∈ fp, m ∈ gp) : SB B S S' gp := ⟨h.1, fun m hm hn => h.2 m hm fun hk => hn (hg m hk)⟩
structure TkV where
  va : Value
  vo : Value
  vf : Value
  vr : Value
  vp : Value
  ps : List Value
  pm : Nat
  lm : Nat
  d : Nat
  B : Nat
def Cg.rows (c : Cg) : List (List Int) := (List.range c.n).map fun (x : Nat) => (List.range c.n).map fun (y : Nat) => c.w x y
def TkV.row (v : TkV) (c : Cg) : List Value := [.int .i64 c.n, v.va, v.vo, .int .i64 c.passed, v.vf, .map (some v.pm), v.vr, .int .i64 c.goal.base, v.vp, .map (some v.lm)]
structure TkAt (S : AS) (v : TkV) (c : Cg) : Prop where
  row : S.get v.d = some (.row (v.row c) 150 true true)
  old : Is S v.vo c.old
  free : Is S v.vf c.free
  front : Is S v.vr c.front
  place : MapAt S v.pm [.int .i64] false (fun x : Int => Value.int .i64 x) (plV c.old)
  paid : Ls S v.vp v.ps c.rows
  lt : v.d < v.B ∧ v.pm < v.B ∧ v.lm < v.B ∧ v.B ≤ S.next
  ne : v.d ≠ v.lm ∧ v.pm ≠ v.lm
  o1 : ∀ m ∈ ownsOf v.vo, m < v.B ∧ m ∉ [v.lm]
  o2 : ∀ m ∈ ownsOf v.vf, m < v.B ∧ m ∉ [v.lm]
  o3 : ∀ m ∈ ownsOf v.vr, m < v.B ∧ m ∉ [v.lm]
  o4 : ∀ m ∈ ownsOf v.vp, m < v.B ∧ m ∉ [v.lm]
  o5 : ∀ m ∈ v.ps.flatMap ownsOf, m < v.B ∧ m ∉ [v.lm]
def LeastAt (S : AS) (lm : Nat) (c : Cg) : Prop := ∃ f : Int × Int → Option Value, MapAt S lm [.int .i64, .int .i64] true (fun x : Int × Int => Value.agg #[.int .i64 x.1, .int .i64 x.2]) f ∧ ∀ (s : St) v, s.1 < 2 ^ c.tk.f → f ((s.1 : Int), s.2) = some v → v = cV (c.tk.rest s)
theorem LeastAt.stays {S S' : AS} {lm : Nat} {c : Cg} (h : LeastAt S lm c) (hs : S'.get lm = S.get lm) : LeastAt S' lm c := by
  obtain ⟨f, ⟨es, k, h1, h2⟩, h3⟩ := h
  exact ⟨f, ⟨es, k, by rw [hs]; exact h1, h2⟩, h3⟩
@[simp] theorem _root_.Go.Gx.resV_cells {S : AS} {env : List Value} {t u : Nat} {g g' : Option Nat} : resV [.cell t g, .cell u g'] env S = (cellRV S g (env.getD t undef)).bind fun v => (cellRV S g' (env.getD u undef)).map fun w => .tuple #[v, w] := by
  unfold resV
  simp only [List.mapM_cons, List.mapM_nil, loadRV_cell]
  cases cellRV S g (env.getD t undef) <;> cases cellRV S g' (env.getD u undef) <;> rfl
end Go.Gx.A

/-
  What it costs to stand behind; the steps of a task.
-/
namespace Go.Gx.A
open Go.Gx Go.Proofs
set_option maxRecDepth 100000
set_option linter.all false
set_option maxHeartbeats 2000000
theorem rows_at (c : Cg) {x : Nat} (hx : x < c.n) : ∃ h : x < c.rows.length, c.rows[x] = (List.range c.n).map fun (y : Nat) => c.w x y := by
  have h : x < c.rows.length := by simp [Cg.rows, hx]
  exact ⟨h, by simp [Cg.rows]⟩
theorem paid_at {S : AS} {v : TkV} {c : Cg} (h : TkAt S v c) {x y : Int} (hx : 0 ≤ x ∧ x < c.n) (hy : 0 ≤ y ∧ y < c.n) :
    ∃ p o cells e wr ex b cap p' o' cells' e' wr' ex', (∀ (S' : AS) (j : IntKind), idxE S' 1 none (.int j x) v.vp = .ret (.pointer (some ⟨p, o, none⟩), S')) ∧ S.get p = some (.row cells e wr ex) ∧ cells[o]? = some (.slice b c.n cap) ∧
      (∀ (S' : AS) (j : IntKind), idxE S' 1 none (.int j y) (.slice b c.n cap) = .ret (.pointer (some ⟨p', o', none⟩), S')) ∧ S.get p' = some (.row cells' e' wr' ex') ∧ cells'[o']? = some (.int .i64 (c.w x y)) := by
  obtain ⟨x, rfl⟩ : ∃ n : Nat, x = n := ⟨x.toNat, by omega⟩
  obtain ⟨y, rfl⟩ : ∃ n : Nat, y = n := ⟨y.toNat, by omega⟩
  obtain ⟨hl, hr⟩ := rows_at c (x := x) (by omega)
  obtain ⟨p, o, cells, e, wr, ex, b, cap, h1, h2, h3, h4, h5, h6, h7⟩ := h.paid.at hl
  have hlen : c.rows[x].length = c.n := by rw [hr]; simp
  rw [hlen] at h5 h6
  obtain ⟨p', o', cells', e', wr', ex', g1, g2, g3, g4, g5⟩ := h6.at (i := y) (by rw [hlen]; omega)
  refine ⟨p, o, cells, e, wr, ex, b, cap, p', o', cells', e', wr', ex', h1, h2, h5, g1, g2, ?_⟩
  rw [g5]
  simp only [hr, List.getElem_map, List.getElem_range]
theorem isum_bd {l : List Int} (h : ∀ x ∈ l, 0 ≤ x ∧ x ≤ 1000) : 0 ≤ isum l ∧ isum l ≤ 1000 * l.length := by
  induction l with
  | nil => simp [isum]
  | cons a l ih =>
    have := ih fun x hx => h x (by simp [hx])
    have := h a (by simp)
    simp only [isum, List.length_cons]; omega
theorem isum_take (l : List Int) {i : Nat} (h : i < l.length) : isum (l.take (i + 1)) = isum (l.take i) + l[i] := by
  rw [List.take_succ_eq_append_getElem h, isum_append]
  simp [isum]
end Go.Gx.A

/-
  The steps of a task, yielded one by one.
-/
namespace Go.Gx
section
variable {G : Tab} {l : Nat} {a : Act} {S : AS} {Q : En → AS → Prop} {pend : Option Jump} {env : List Value} {ps : List Nat} {asg body body1 : C} {dblk : Nat} {ls : LoopState}
@[simp] theorem kra_ready : KRa G l body Q .norm a (some (.loop .ready pend env ps asg body1 dblk)) S = Run G body [] a (S.put l (.loop .busy pend env ps asg body1 dblk)) (fun e _ S2 => KRd l Q e (S2.get l) S2) := _root_.id rfl
@[simp] theorem krd_norm : KRd l Q .norm (some (.loop ls pend env ps asg body dblk)) S = Q (.ret (.bool true)) (S.put l (.loop .ready none env ps asg body dblk)) := _root_.id rfl
@[simp] theorem krd_exit {id : Nat} : KRd l Q (.exit id) (some (.loop ls pend env ps asg body dblk)) S = Q (.ret (.bool false)) (S.put l (.loop .done (some (.exit id)) env ps asg body dblk)) := _root_.id rfl
@[simp] theorem krd_ret : KRd l Q .ret (some (.loop ls pend env ps asg body dblk)) S = Q (.ret (.bool false)) (S.put l (.loop .done (some .ret) env ps asg body dblk)) := _root_.id rfl
@[simp] theorem setParams_cons {p : Nat} {v : Value} {vs : List Value} : setParams (p :: ps) (v :: vs) env = setParams ps vs (env.set p v) := _root_.id rfl
@[simp] theorem setParams_nil {vs : List Value} : setParams [] vs env = env := _root_.id rfl
@[simp] theorem calleeOf_yield' {first : Array Value} {c : Array Value} {args : List Value} : calleeOf (.func (.yield l) first c) args = some (.round l (first.toList ++ args)) := _root_.id rfl
end
end Go.Gx
namespace Go.Gx.A
open Go.Gx Go.Proofs
set_option maxRecDepth 100000
set_option linter.all false
set_option maxHeartbeats 2000000
end Go.Gx.A

/-
  The least cost of what is left.
-/
namespace Go.Gx.A
open Go.Gx Go.Proofs
set_option maxRecDepth 100000
set_option linter.all false
set_option maxHeartbeats 4000000
@[simp] theorem rowLoad5a {a b c d e : Value} : rowLoad [a, b, c, d, e] 1 (some 2) = some (.agg #[b, c]) := rfl
@[simp] theorem rowLoad5b {a b c d e : Value} : rowLoad [a, b, c, d, e] 3 (some 2) = some (.agg #[d, e]) := rfl
@[simp] theorem rowStore5 {a b c d e a' b' c' d' e' : Value} : rowStore [a, b, c, d, e] 0 [a', b', c', d', e'] = if (okc a' && okc b' && okc c' && okc d' && okc e') = true then some [a', b', c', d', e'] else none := by
  unfold rowStore
  by_cases h : (okc a' && okc b' && okc c' && okc d' && okc e') = true
  · rw [if_pos h, if_pos ⟨by simp, by simpa [Bool.and_assoc] using h⟩]; rfl
  · rw [if_neg h, if_neg (fun g => h (by simpa [Bool.and_assoc] using g.2))]
end Go.Gx.A

/-
  The cost of the best orders.
-/
namespace Go.Gx.A
open Go.Gx Go.Proofs
set_option maxRecDepth 100000
set_option linter.all false
set_option maxHeartbeats 4000000
theorem offR_bd {w : Int → Int → Int} (hw : ∀ x y, 0 ≤ w x y ∧ w x y ≤ 1000) : ∀ (l ah : List Int), ah.length + l.length ≤ 24 → 0 ≤ offR w ah l ∧ offR w ah l ≤ 24000 * l.length
  | [], ah, _ => by simp [offR]
  | x :: l, ah, h => by
    have h1 := isum_bd (l := ah.map (w x)) fun y hy => by
      obtain ⟨z, _, rfl⟩ := List.mem_map.1 hy
      exact hw x z
    have h2 := offR_bd hw l (ah ++ [x]) (by simp at h ⊢; omega)
    simp only [List.length_map] at h1
    simp only [List.length_cons] at h ⊢
    simp only [offR]
    omega
end Go.Gx.A
