/-
  The functions of this seat as the proofs use them.
-/
import Derived.Test.YtljbmlnddeacfaaGreatDoorFa
import Derived.Test.YtljbmlnddeacfaaGreatDoorGg
import Derived.Test.YtljbmlnddeacfaaGreatDoorPb

set_option linter.all false
set_option linter.deprecated false

namespace Go.Gx.B
open Go.Gx
set_option maxRecDepth 100000
set_option linter.all false
def G : Tab := ⟨tab, extOr libX (extOf [16])⟩
def libs : List Nat := [125, 128, 151, 170, 152, 159, 139, 118]
theorem libX_none {k : Nat} {args : List Value} {S : AS} (h : k ∉ libs) : libX k args S = none := by
  simp only [libs, List.mem_cons, List.not_mem_nil, or_false, not_or] at h
  obtain ⟨h1, h2, h3, h4, h5, h6, h7, h8⟩ := h
  unfold libX
  rw [extOr_right (by unfold itoaX pureX; rw [if_neg (by rintro ⟨e, _⟩; exact h1 e)]), extOr_right (by unfold prefX pureX; rw [if_neg (by rintro ⟨e, _⟩; exact h2 e)]),
    extOr_right (by unfold byteX pureX; rw [if_neg (by rintro ⟨e, _⟩; exact h3 e)]), extOr_right (by unfold oneX pureX; rw [if_neg (by rintro ⟨e, _⟩; exact h4 e)]),
    extOr_right (by unfold atoiX numX; rw [if_neg h5]), extOr_right (by unfold cpyX copyX; rw [if_neg h6]), extOr_right (by unfold bstX strX; rw [if_neg h7])]
  unfold notX
  rw [if_neg h8]
theorem ext_none {k : Nat} {args : List Value} {S : AS} (h : k ∉ 16 :: libs) : G.ext k args S = none := by
  rw [List.mem_cons, not_or] at h
  show extOr libX (extOf [16]) k args S = none
  rw [extOr_right (libX_none h.2)]
  exact extOf_none (.inr (by simpa using h.1))
theorem ext_eq : G.ext = extOr libX (extOf [16]) := rfl
/-- the closed check -/
theorem greeted_ok {S : AS} {Q : En → AS → Prop} (hq : Q (.ret (.bool true)) S) : Call G 16 [] S Q := call_ext (by
  rw [ext_eq]
  rw [extOr_right (libX_none (by decide))]
  exact extOf_some (by simp)) hq
theorem itoa_ext {n : Int} {S : AS} (h0 : -9223372036854775808 ≤ n) (h1 : n ≤ 9223372036854775807) : G.ext 125 [.int .i64 n] S = some (.string ⟨(Lib.itoa n).toArray⟩, S) := by
  rw [ext_eq]
  refine extOr_left ?_
  unfold libX
  refine extOr_left ?_
  unfold itoaX pureX
  rw [if_pos ⟨rfl, rfl⟩]
  simp only [itoaF]
  rw [if_pos ⟨h0, h1⟩, itoaK_eq h0 h1]; rfl
theorem pref_ext {s p : ByteArray} {S : AS} : G.ext 128 [.string s, .string p] S = some (.tuple #[.string ⟨(Lib.trimPrefix s.data.toList p.data.toList).toArray⟩, .bool (Lib.hasPrefix s.data.toList p.data.toList)], S) := by
  rw [ext_eq]
  refine extOr_left ?_
  unfold libX
  rw [extOr_right rfl]
  refine extOr_left ?_
  unfold prefX pureX
  rw [if_pos ⟨rfl, rfl⟩]
  rfl
theorem byte_ext {s : ByteArray} {c : Int} {S : AS} : G.ext 151 [.string s, .int .u8 c] S = some (.int .i64 (Lib.indexByte s.data.toList c.toNat.toUInt8), S) := by
  rw [ext_eq]
  refine extOr_left ?_
  unfold libX
  rw [extOr_right rfl, extOr_right rfl]
  refine extOr_left ?_
  unfold byteX pureX
  rw [if_pos ⟨rfl, rfl⟩]
  show some _ = _
  rw [idxA_zero]
theorem one_ext {s : ByteArray} {c : UInt8} {S : AS} : G.ext 170 [.string s, .string ⟨#[c]⟩] S = some (.int .i64 (Lib.indexByte s.data.toList c), S) := by
  rw [ext_eq]
  refine extOr_left ?_
  unfold libX
  rw [extOr_right rfl, extOr_right rfl, extOr_right rfl]
  refine extOr_left ?_
  unfold oneX pureX
  rw [if_pos ⟨rfl, rfl⟩]
  show some _ = _
  rw [idxA_zero]
end Go.Gx.B

/-
  Lists of notes in memory; comparing.
-/
namespace Go.Gx.B
open Go.Gx Go.Lib
set_option maxRecDepth 100000
set_option linter.all false
set_option maxHeartbeats 4000000

abbrev ptr (d : Nat) : Value := .pointer (some ⟨d, 0, none⟩)
theorem wrap64 {x : Int} (h1 : -9223372036854775808 ≤ x) (h2 : x ≤ 9223372036854775807) : IntKind.i64.wrap x = x := by
  simp only [IntKind.wrap, IntKind.bits, IntKind.signed]
  simp
  omega
theorem wrapS {i : Nat} (h : i < 9223372036854775807) : IntKind.i64.wrap ((i : Int) + 1) = ((i + 1 : Nat) : Int) := by rw [wrap64 (by omega) (by omega)]; rfl
theorem _root_.Go.Gx.Same.bu {S U : AS} {fp : List Nat} {k : Nat} (h : Same S U fp) : Same S (U.bump k) fp := ⟨by have := h.1; simp; omega, fun m hm hn => by rw [AS.get_bump]; exact h.2 m hm hn⟩
theorem _root_.Go.Gx.Same.pn {S U : AS} {fp : List Nat} {d : Nat} {o : AObj} (h : Same S U fp) (hd : S.next ≤ d) : Same S (U.put d o) fp := ⟨by have := h.1; simp; omega, fun m hm hn => by rw [AS.get_put_ne _ _ (by omega)]; exact h.2 m hm hn⟩
theorem _root_.Go.Gx.Same.po {S U : AS} {fp : List Nat} {d : Nat} {o : AObj} (h : Same S U fp) (hd : d ∈ fp) : Same S (U.put d o) fp := ⟨by have := h.1; simp; omega, fun m hm hn => by rw [AS.get_put_ne _ _ (by rintro rfl; exact hn hd)]; exact h.2 m hm hn⟩
theorem _root_.Go.Gx.Same.tr0 {S U V : AS} (h : Same S U []) (k : Same U V []) : Same S V [] := h.trans k (by simp)
@[simp] theorem rowLoad2 {a b : Value} : rowLoad [a, b] 0 (some 2) = some (.agg #[a, b]) := rfl
@[simp] theorem rowLoad2' {a b c d : Value} : rowLoad [a, b, c, d] 0 (some 2) = some (.agg #[a, b]) := rfl
@[simp] theorem rowLoad4 {a b c d : Value} : rowLoad [a, b, c, d] 0 (some 4) = some (.agg #[a, b, c, d]) := rfl

/-- numbers as cells -/
def ints (l : List Int) : List Value := l.map fun n => .int .i64 n
/-- a note's cells -/
def Nt.cells (x : Nt) : List Value := [.int .i64 x.node, .int .i64 x.num, .int .i64 x.day, str x.text]
abbrev Nt.agg (x : Nt) : Value := .agg #[.int .i64 x.node, .int .i64 x.num, .int .i64 x.day, str x.text]
theorem Nt.cells_arr (x : Nt) : Value.agg x.cells.toArray = x.agg := rfl
theorem cells_uni (l : List Nt) : Uni 4 (l.map Nt.cells) := by
  intro x hx
  obtain ⟨y, _, rfl⟩ := List.mem_map.1 hx
  rfl
theorem cells_ok (l : List Nt) : (l.map Nt.cells).flatten.all okc = true := by
  induction l with
  | nil => rfl
  | cons x l ih => simp only [List.map_cons, List.flatten_cons, List.all_append, ih, Bool.and_true]; rfl
def flatC (l : List Nt) : List Value := (l.map Nt.cells).flatten
theorem flatC_len (l : List Nt) : (flatC l).length = l.length * 4 := by
  have := (cells_uni l).len
  simpa [flatC] using this
theorem flatC_app (l m : List Nt) : flatC (l ++ m) = flatC l ++ flatC m := by simp [flatC]
theorem flatC_take (l : List Nt) (i : Nat) (h : i ≤ l.length) : (flatC l).take (i * 4) = flatC (l.take i) := by
  conv => lhs; rw [← List.take_append_drop i l, flatC_app]
  rw [List.take_append_of_le_length (by rw [flatC_len, List.length_take]; omega)]
  rw [List.take_of_length_le (by rw [flatC_len, List.length_take]; omega)]
theorem flatC_drop (l : List Nt) (i : Nat) (h : i ≤ l.length) : (flatC l).drop (i * 4) = flatC (l.drop i) := by
  conv => lhs; rw [← List.take_append_drop i l, flatC_app]
  have : i * 4 = (flatC (l.take i)).length := by rw [flatC_len, List.length_take]; omega
  rw [this, List.drop_left]
/-- a slice of notes -/
structure Ns (S : AS) (v : Value) (l : List Nt) : Prop where
  small : l.length ≤ 9223372036854775807
  tx : ∀ x ∈ l, x.text.length ≤ 9223372036854775807
  c : (l = [] ∧ (v = .slice none 0 0 ∨ ∃ b o s, v = .slice (some ⟨b, o, some s⟩) 0 0)) ∨
    ∃ p o cap cells e wr ex, v = .slice (some ⟨p, o, none⟩) l.length cap ∧ l.length ≤ cap ∧ S.get p = some (.row cells e wr ex) ∧ p < S.next ∧ (ex = true ∨ e = 104) ∧ o + l.length * 4 ≤ cells.length ∧ (cells.drop o).take (l.length * 4) = flatC l
theorem Ns.ps {S : AS} {v : Value} {l : List Nt} (h : Ns S v l) : Ps S 4 v (l.map Nt.cells) := by
  rcases h.c with ⟨rfl, rfl | ⟨b, o, s, rfl⟩⟩ | ⟨p, o, cap, cells, e, wr, ex, rfl, h1, h2, h3, h4, h5, h6⟩
  · exact ⟨⟨none, 0, rfl⟩, rfl, by intro l hl; simp at hl, by simp [ownsOf]⟩
  · exact ⟨⟨_, _, rfl⟩, by simp [srcCells], by intro l hl; simp at hl, by simp [ownsOf]⟩
  · refine ⟨⟨_, _, by rw [List.length_map]⟩, ?_, cells_uni l, fun b hb => by simp [ownsOf] at hb; subst hb; exact h3⟩
    simp only [srcCells, List.length_map]
    by_cases h0 : l.length * 4 = 0
    · rw [if_pos h0]
      have : l = [] := List.length_eq_zero_iff.1 (by omega)
      subst this; rfl
    · rw [if_neg h0, h2]
      simp only
      rw [if_pos h5, h6]; rfl
theorem Ns.stays {S S' : AS} {v : Value} {l : List Nt} (h : Ns S v l) {fp : List Nat} (hs : Same S S' fp) (hd : ∀ m ∈ ownsOf v, m ∉ fp) : Ns S' v l := by
  refine ⟨h.small, h.tx, ?_⟩
  rcases h.c with h | ⟨p, o, cap, cells, e, wr, ex, rfl, h1, h2, h3, h4, h5, h6⟩
  · exact .inl h
  · exact .inr ⟨p, o, cap, cells, e, wr, ex, rfl, h1, by rw [hs.2 p h3 (hd p (by simp [ownsOf]))]; exact h2, Nat.lt_of_lt_of_le h3 hs.1, h4, h5, h6⟩
theorem Ns.stay0 {S S' : AS} {v : Value} {l : List Nt} (h : Ns S v l) (hs : Same S S' []) : Ns S' v l := h.stays hs (by simp)
theorem Ns.shape {S : AS} {v : Value} {l : List Nt} (h : Ns S v l) : ∃ a cap, v = .slice a l.length cap := by
  obtain ⟨a, cap, e⟩ := h.ps.shape
  exact ⟨a, cap, by rw [e, List.length_map]⟩
theorem Ns.owns_lt {S : AS} {v : Value} {l : List Nt} (h : Ns S v l) : ∀ b ∈ ownsOf v, b < S.next := h.ps.lt
theorem Ns.nil {S : AS} : Ns S (.slice none 0 0) [] := ⟨by simp, by simp, .inl ⟨rfl, .inl rfl⟩⟩
/-- a piece of a slice -/
theorem Ns.slc {S : AS} {v : Value} {l : List Nt} (h : Ns S v l) {lo hi : Option Value} {i j : Nat} (hlo : lo = none ∧ i = 0 ∨ lo = some (.int .i64 i)) (hhi : hi = none ∧ j = l.length ∨ hi = some (.int .i64 j)) (hij : i ≤ j) (hj : j ≤ l.length) :
    ∃ v', slcE S 104 4 lo hi none v = .ret (v', S) ∧ Ns S v' ((l.take j).drop i) ∧ ∀ m ∈ ownsOf v', m ∈ ownsOf v := by
  have hl : ((l.take j).drop i).length = j - i := by simp; omega
  have htx : ∀ x ∈ (l.take j).drop i, x.text.length ≤ 9223372036854775807 := fun x hx => h.tx x (List.mem_of_mem_take (List.mem_of_mem_drop hx))
  have hb : ∀ cap, l.length ≤ cap → bndsV l.length cap lo hi none = some (i, j, cap) := by
    intro cap hc
    have hjc : j ≤ cap := by omega
    rcases hlo with ⟨rfl, rfl⟩ | rfl <;> rcases hhi with ⟨rfl, rfl⟩ | rfl <;> simp [bndsV, bndV, hij, hj, hc, hjc]
  rcases h.c with ⟨rfl, rfl | ⟨b, o, s, rfl⟩⟩ | ⟨p, o, cap, cells, e, wr, ex, rfl, h1, h2, h3, h4, h5, h6⟩
  · have := hb 0 (by simp)
    simp at hj
    subst hj
    have hi0 : i = 0 := by omega
    subst hi0
    refine ⟨.slice none 0 0, ?_, Ns.nil, by simp [ownsOf]⟩
    simp only [List.length_nil] at this
    simp [this]
  · have := hb 0 (by simp)
    simp only [List.length_nil] at this
    refine ⟨.slice (some ⟨b, o, some s⟩) 0 0, ?_, ⟨by simp, by simp, .inl ⟨by simp, .inr ⟨b, o, s, rfl⟩⟩⟩, by simp [ownsOf]⟩
    simp [this]
  · refine ⟨.slice (some ⟨p, o + i * 4, none⟩) (j - i) (cap - i), ?_, ⟨by have := h.small; omega, htx, .inr ⟨p, o + i * 4, cap - i, cells, e, wr, ex, by rw [hl], by omega, h2, h3, h4, by omega, ?_⟩⟩, by simp [ownsOf]⟩
    · simp [h2, hb cap h1, h4]
    · rw [hl]
      have e1 : (cells.drop (o + i * 4)).take ((j - i) * 4) = (((cells.drop o).take (l.length * 4)).drop (i * 4)).take ((j - i) * 4) := by
        rw [List.drop_take, List.drop_drop, List.take_take, Nat.min_eq_left (by omega)]
      rw [e1, h6, flatC_drop _ _ (by omega), flatC_take _ _ (by simp; omega), List.drop_take]
theorem Ns.at {S : AS} {v : Value} {l : List Nt} (h : Ns S v l) {i : Nat} (hi : i < l.length) :
    ∃ p o cells e wr ex, (∀ (S' : AS) (j : IntKind), idxE S' 4 none (.int j i) v = .ret (.pointer (some ⟨p, o, none⟩), S')) ∧ S.get p = some (.row cells e wr ex) ∧ p < S.next ∧ p ∈ ownsOf v ∧
      rowLoad cells o (some 4) = some l[i].agg ∧ cells[o]? = some (.int .i64 l[i].node) ∧ cells[o + 1]? = some (.int .i64 l[i].num) ∧ cells[o + 2]? = some (.int .i64 l[i].day) ∧ cells[o + 3]? = some (str l[i].text) := by
  obtain ⟨p, o, cells, e, wr, ex, h1, h2, h3, h4, h5, h6⟩ := h.ps.idx (S' := S) (by omega) (j := .i64) (i := i) (l := l[i].cells) (by simp [hi])
  refine ⟨p, o, cells, e, wr, ex, fun S' j => ?_, h2, h3, h4, h6, h5 0 (by omega), h5 1 (by omega), h5 2 (by omega), h5 3 (by omega)⟩
  obtain ⟨a, cap, rfl⟩ := h.shape
  match a with
  | none => simp [idxE] at h1
  | some ⟨b, q, some s⟩ => simp [idxE] at h1
  | some ⟨b, q, none⟩ =>
    simp [hi] at h1 ⊢
    exact h1
/-- one's own -/
def On (S : AS) (v : Value) (l : List Nt) : Prop := SlAt S 104 v (l.map Nt.cells) ∧ l.length ≤ 9223372036854775807 ∧ ∀ x ∈ l, x.text.length ≤ 9223372036854775807
theorem On.nil {S : AS} : On S (.slice none 0 0) [] := ⟨.inl ⟨rfl, rfl⟩, by simp, by simp⟩
theorem On.shape {S : AS} {v : Value} {l : List Nt} (h : On S v l) : ∃ a, v = .slice a l.length l.length := by
  rcases h.1 with ⟨rfl, hn⟩ | ⟨p, ex, rfl, h2, h3⟩
  · have := congrArg List.length hn
    simp at this
    exact ⟨none, by rw [this]; rfl⟩
  · exact ⟨some ⟨p, 0, none⟩, by simp⟩
theorem On.owns_lt {S : AS} {v : Value} {l : List Nt} (h : On S v l) : ∀ b ∈ ownsOf v, b < S.next := h.1.owns_lt
theorem On.stays {S S' : AS} {v : Value} {l : List Nt} (h : On S v l) {fp : List Nat} (hs : Same S S' fp) (hd : ∀ m ∈ ownsOf v, m ∉ fp) : On S' v l := ⟨h.1.stays hs hd, h.2⟩
theorem On.stay0 {S S' : AS} {v : Value} {l : List Nt} (h : On S v l) (hs : Same S S' []) : On S' v l := h.stays hs (by simp)
theorem On.ns {S : AS} {v : Value} {l : List Nt} (h : On S v l) : Ns S v l := by
  refine ⟨h.2.1, h.2.2, ?_⟩
  rcases h.1 with ⟨rfl, hn⟩ | ⟨p, ex, rfl, h2, h3⟩
  · have := congrArg List.length hn
    simp at this
    exact .inl ⟨this, .inl rfl⟩
  · rw [List.length_map]
    exact .inr ⟨p, 0, l.length, flatC l, 104, true, ex, rfl, Nat.le_refl _, h2, h3, .inr rfl, by rw [flatC_len]; omega, by rw [List.drop_zero, ← flatC_len, List.take_length]⟩
/-- one note more -/
theorem On.app {S : AS} {v : Value} {l : List Nt} (h : On S v l) {T : AS} {y : Value} {x : Nt} {fr q : Nat} {wr ex : Bool} (hb : l.length + 1 ≤ 1000000) (hT : Same S T []) (hx : x.text.length ≤ 9223372036854775807) (hg : T.get q = some (.row x.cells 104 wr ex)) (hq : q < T.next) (hfr : fr < T.next) (hfS : S.next ≤ fr) (hy : y = .slice (some ⟨q, 0, none⟩) 1 1) :
    ∃ T' a, appV T fr 104 4 40 v y = some (.slice a (l.length + 1) (l.length + 1), T') ∧ On T' (.slice a (l.length + 1) (l.length + 1)) (l ++ [x]) ∧ Same S T' (ownsOf v) ∧ T'.next = T.next ∧ ∀ m ∈ ownsOf (.slice a (l.length + 1) (l.length + 1)), m ∈ ownsOf v ∨ m = fr := by
  subst hy
  have hsl := h.1.stays hT (by simp)
  have hc : srcCells T 4 (.slice (some ⟨q, 0, none⟩) 1 1) = some (1, ([x].map Nt.cells).flatten) := by
    simp only [srcCells, hg]
    rfl
  obtain ⟨T0, a1, a2, a3⟩ := appV_new (fr := fr) (bytes := 40) (ms := [x].map Nt.cells) (y := .slice (some ⟨q, 0, none⟩) 1 1) hsl (cells_uni l) (by omega) (by simp) (cells_uni [x]) (by rw [hc]; rfl) (by simp; omega) (by omega) (cells_ok [x])
  simp only [List.length_map, List.length_cons, List.length_nil, Nat.zero_add] at a1
  refine ⟨_, some ⟨fr, 0, none⟩, a1, ⟨.inr ⟨fr, false, by simp, ?_, by simp only [AS.next_put, a2]; exact hfr⟩, by simp; omega, fun z hz => ?_⟩, ?_, by simp only [AS.next_put]; exact a2, fun m hm => .inr (by simpa [ownsOf] using hm)⟩
  · rw [AS.get_put_self, List.map_append]
  · rcases List.mem_append.1 hz with hz | hz
    · exact h.2.2 z hz
    · rw [List.mem_singleton.1 hz]; exact hx
  · refine ⟨by simp only [AS.next_put, a2]; exact hT.1, fun m hm hn => ?_⟩
    rw [AS.get_put_ne _ _ (by omega), a3 m hn, hT.2 m hm (by simp)]

/-! ## comparing -/
def cmpI (x y : Int) : Int := if x < y then -1 else if y < x then 1 else 0
theorem nan_ok {S : AS} {x : Int} {Q : En → AS → Prop} (hq : Q (.ret (.bool false)) S) : Call G 156 [.int .i64 x] S Q := by
  refine call_run' (G := G) rfl (ext_none (by decide)) ?_
  simp
  exact hq
theorem compare_ok {S : AS} {x y : Int} {Q : En → AS → Prop} (hq : Q (.ret (.int .i64 (cmpI x y))) S) : Call G 132 [.int .i64 x, .int .i64 y] S Q := by
  refine call_run' (G := G) rfl (ext_none (by decide)) ?_
  simp
  refine nan_ok ?_
  simp
  refine nan_ok ?_
  simp
  unfold cmpI at hq
  by_cases h1 : x < y
  · simp [h1] at hq ⊢; exact hq
  · by_cases h2 : y < x
    · simp [h1, h2] at hq ⊢; exact hq
    · simp [h1, h2] at hq ⊢; exact hq
theorem or_ok {S : AS} {q : Nat} {a b : Int} {wr ex : Bool} (hg : S.get q = some (.row [.int .i64 a, .int .i64 b] 3 wr ex)) {Q : En → AS → Prop} (hq : Q (.ret (.int .i64 (if a = 0 then b else a))) S) : Call G 131 [.slice (some ⟨q, 0, none⟩) 2 2] S Q := by
  refine call_run' (G := G) rfl (ext_none (by decide)) ?_
  simp
  by_cases ha : a = 0
  · subst ha
    by_cases hb : b = 0
    · subst hb
      simp at hq
      refine run_loop (fun j a' S' => ∃ i, j = 2 - i ∧ i ≤ 2 ∧ S' = S ∧ Has a' 18 [(3, .int .i64 0), (6, .slice (some ⟨q, 0, none⟩) 2 2), (7, .int .i64 2), (8, .int .i64 (i : Nat))]) _ ⟨0, rfl, by omega, rfl, ⟨rfl, rfl, by simp⟩⟩ ?_
      rintro _ R hR _ S1 ⟨i, rfl, hi, rfl, hA⟩
      obtain ⟨x, rfl⟩ := hA.lit
      have hi' : i = 0 ∨ i = 1 ∨ i = 2 := by omega
      rcases hi' with rfl | rfl | rfl
      · simp [fillF, pickL, hg]
        exact hR _ _ _ (by omega) ⟨1, rfl, by omega, rfl, ⟨rfl, rfl, by simp [wrap64]⟩⟩
      · simp [fillF, pickL, hg]
        exact hR _ _ _ (by omega) ⟨2, rfl, by omega, rfl, ⟨rfl, rfl, by simp [wrap64]⟩⟩
      · simp [fillF, pickL, hg]
        exact hq
    · simp at hq
      refine run_loop (fun j a' S' => ∃ i, j = 2 - i ∧ i ≤ 1 ∧ S' = S ∧ Has a' 18 [(3, .int .i64 0), (6, .slice (some ⟨q, 0, none⟩) 2 2), (7, .int .i64 2), (8, .int .i64 (i : Nat))]) _ ⟨0, rfl, by omega, rfl, ⟨rfl, rfl, by simp⟩⟩ ?_
      rintro _ R hR _ S1 ⟨i, rfl, hi, rfl, hA⟩
      obtain ⟨x, rfl⟩ := hA.lit
      have hi' : i = 0 ∨ i = 1 := by omega
      rcases hi' with rfl | rfl
      · simp [fillF, pickL, hg]
        exact hR _ _ _ (by omega) ⟨1, rfl, by omega, rfl, ⟨rfl, rfl, by simp [wrap64]⟩⟩
      · simp [fillF, pickL, hg, hb]
        exact hq
  · simp [ha] at hq
    refine run_loop (fun j a' S' => ∃ i, j = 2 - i ∧ i ≤ 0 ∧ S' = S ∧ Has a' 18 [(3, .int .i64 0), (6, .slice (some ⟨q, 0, none⟩) 2 2), (7, .int .i64 2), (8, .int .i64 (i : Nat))]) _ ⟨0, rfl, by omega, rfl, ⟨rfl, rfl, by simp⟩⟩ ?_
    rintro _ R hR _ S1 ⟨i, rfl, hi, rfl, hA⟩
    obtain ⟨x, rfl⟩ := hA.lit
    obtain rfl : i = 0 := by omega
    simp [fillF, pickL, hg, ha]
    exact hq
def cmpA (x y : Nt) : Int := if cmpI x.node y.node = 0 then cmpI x.num y.num else cmpI x.node y.node
def cmpD (x y : Nt) : Int := if cmpI x.day y.day = 0 then cmpA x y else cmpI x.day y.day
theorem byNumber_ok {S : AS} {x y : Nt} {Q : En → AS → Prop} (hq : ∀ S', Same S S' [] → Q (.ret (.int .i64 (cmpA x y))) S') : Call G 119 [x.agg, y.agg] S Q := by
  refine call_run' (G := G) rfl (ext_none (by decide)) ?_
  simp
  refine compare_ok ?_
  simp
  refine compare_ok ?_
  simp [placeIn, splice]
  refine or_ok (a := cmpI x.node y.node) (b := cmpI x.num y.num) (wr := true) (ex := true) (by simp) ?_
  simp
  exact hq _ (by (repeat' first | exact Same.refl _ _ | assumption | apply Same.bu | (refine Same.pn ?_ (by first | omega | (simp; omega)))))
theorem byDay_ok {S : AS} {x y : Nt} {Q : En → AS → Prop} (hq : ∀ S', Same S S' [] → Q (.ret (.int .i64 (cmpD x y))) S') : Call G 81 [x.agg, y.agg] S Q := by
  refine call_run' (G := G) rfl (ext_none (by decide)) ?_
  simp
  refine compare_ok ?_
  simp
  refine byNumber_ok (x := x) (y := y) fun S1 hs1 => ?_
  have h1 := hs1.2 S.next (by simp; omega) (by simp)
  have h2 := hs1.2 (S.next + 1) (by simp) (by simp)
  simp at h1 h2
  simp [placeIn, splice, h1, h2]
  have h3 := hs1.1
  simp at h3
  refine or_ok (a := cmpI x.day y.day) (b := cmpA x y) (wr := true) (ex := true) (by simp) ?_
  have e1 : S.next ≠ S.next + 2 := by omega
  simp [h1, h2]
  refine hq _ ?_
  exact (Same.tr0 (by (repeat' first | exact Same.refl _ _ | assumption | apply Same.bu | (refine Same.pn ?_ (by first | omega | (simp; omega))))) hs1).pn (by omega)
theorem cmpI_neg {x y : Int} : cmpI x y < 0 ↔ x < y := by
  unfold cmpI
  by_cases h1 : x < y
  · simp [h1]
  · by_cases h2 : y < x <;> simp [h1, h2]
theorem cmpI_pos {x y : Int} : 0 < cmpI x y ↔ y < x := by
  unfold cmpI
  by_cases h1 : x < y
  · have : ¬ y < x := by omega
    simp [h1, this]
  · by_cases h2 : y < x <;> simp [h1, h2]
theorem cmpI_zero {x y : Int} : cmpI x y = 0 ↔ x = y := by
  unfold cmpI
  by_cases h1 : x < y
  · have : ¬ x = y := by omega
    simp [h1, this]
  · by_cases h2 : y < x
    · have : ¬ x = y := by omega
      simp [h1, h2, this]
    · have : x = y := by omega
      simp [h1, h2, this]
theorem cmpA_neg {x y : Nt} : cmpA x y < 0 ↔ x.lt y := by
  unfold cmpA Nt.lt
  split
  · rename_i h; rw [cmpI_zero] at h; rw [cmpI_neg]; omega
  · rename_i h; rw [cmpI_zero] at h; rw [cmpI_neg]; omega
theorem cmpA_pos {x y : Nt} : 0 < cmpA x y ↔ y.lt x := by
  unfold cmpA Nt.lt
  split
  · rename_i h; rw [cmpI_zero] at h; rw [cmpI_pos]; omega
  · rename_i h; rw [cmpI_zero] at h; rw [cmpI_pos]; omega
theorem cmpD_neg {x y : Nt} : cmpD x y < 0 ↔ x.dlt y := by
  unfold cmpD Nt.dlt
  split
  · rename_i h; rw [cmpI_zero] at h; rw [cmpA_neg]; unfold Nt.lt; omega
  · rename_i h; rw [cmpI_zero] at h; rw [cmpI_neg]; unfold Nt.lt; omega
theorem cmpD_pos {x y : Nt} : 0 < cmpD x y ↔ y.dlt x := by
  unfold cmpD Nt.dlt
  split
  · rename_i h; rw [cmpI_zero] at h; rw [cmpA_pos]; unfold Nt.lt; omega
  · rename_i h; rw [cmpI_zero] at h; rw [cmpI_pos]; unfold Nt.lt; omega
/-- adjacent ones rise, by some comparison -/
def risesC (c : Nt → Nt → Int) : List Nt → Bool
  | x :: y :: l => decide (c x y < 0) && risesC c (y :: l)
  | _ => true
theorem risesC_A : ∀ l, risesC cmpA l = rises l
  | [] => rfl
  | [_] => rfl
  | x :: y :: l => by simp only [risesC, rises, risesC_A (y :: l), cmpA_neg]
theorem risesC_D : ∀ l, risesC cmpD l = risesD l
  | [] => rfl
  | [_] => rfl
  | x :: y :: l => by simp only [risesC, risesD, risesC_D (y :: l), cmpD_neg]
def IsCmp (k : Nat) (c : Nt → Nt → Int) : Prop := ∀ (S : AS) (x y : Nt) (Q : En → AS → Prop), (∀ S', Same S S' [] → Q (.ret (.int .i64 (c x y))) S') → Call G k [x.agg, y.agg] S Q
theorem isCmpA : IsCmp 119 cmpA := fun _ _ _ _ h => byNumber_ok h
theorem isCmpD : IsCmp 81 cmpD := fun _ _ _ _ h => byDay_ok h
theorem rising_ok {S : AS} {v : Value} {l : List Nt} {k : Nat} {c : Nt → Nt → Int} (hk : IsCmp k c) (h : Ns S v l) (hl : l.length ≤ 1000000) {Q : En → AS → Prop} (hq : ∀ S', Same S S' [] → Q (.ret (.bool (risesC c l))) S') : Call G 100 [v, .func (.func k) #[] #[]] S Q := by
  obtain ⟨a, cap, rfl⟩ := h.shape
  refine call_run' (G := G) rfl (ext_none (by decide)) ?_
  simp
  refine run_loop (fun j a' S' => ∃ i, j = l.length - i ∧ 1 ≤ i ∧ (i ≤ l.length ∨ i = 1) ∧ Same S S' [] ∧ Has a' 24 [(0, .slice a l.length cap), (1, .func (.func k) #[] #[]), (5, .int .i64 (i : Nat))] ∧ risesC c l = risesC c (l.drop (i - 1))) _ ⟨1, rfl, by omega, by omega, .refl _ _, ⟨rfl, rfl, by simp⟩, by simp⟩ ?_
  rintro _ R hR _ S1 ⟨i, rfl, hi1, hi, hs1, ha, hri⟩
  obtain ⟨x, rfl⟩ := ha.lit
  by_cases hlt : i < l.length
  · obtain ⟨p, o, cells, e, wr, ex, h1, h2, h3, h4, h5, _⟩ := (h.stay0 hs1).at hlt
    have hlt2 : i - 1 < l.length := by omega
    obtain ⟨p', o', cells', e', wr', ex', g1, g2, g3, g4, g5, _⟩ := (h.stay0 hs1).at hlt2
    have hw : IntKind.i64.wrap ((i : Int) - 1) = ((i - 1 : Nat) : Int) := by rw [wrap64 (by omega) (by omega)]; omega
    have hlt' : (i : Int) < l.length := by omega
    simp [fillF, pickL, hlt, hlt', h1, h2, h5, hw, g1, g2, g5]
    refine hk _ _ _ _ fun S2 hs2 => ?_
    have k1 := hs2.2 p h3 (by simp)
    have k2 := hs2.2 p' g3 (by simp)
    rw [h2] at k1
    rw [g2] at k2
    have hs3 := hs1.tr0 hs2
    have hr1 : risesC c (l.drop (i - 1)) = (decide (c l[i - 1] l[i] < 0) && risesC c (l.drop i)) := by
      rw [List.drop_eq_getElem_cons hlt2, show i - 1 + 1 = i by omega, List.drop_eq_getElem_cons hlt]
      rfl
    rw [hr1] at hri
    by_cases hc : c l[i - 1] l[i] < 0
    · have hc' : ¬ 0 ≤ c l[i - 1] l[i] := by omega
      simp [k1, k2, h5, g5, hc, hc']
      refine hR _ _ _ (by omega) ⟨i + 1, rfl, by omega, by omega, hs3, ⟨rfl, rfl, by simp [wrapS (show i < 9223372036854775807 by omega)]⟩, ?_⟩
      rw [hri]
      simp [hc]
    · have hc' : 0 ≤ c l[i - 1] l[i] := by omega
      simp [k1, k2, h5, g5, hc, hc']
      have : risesC c l = false := by rw [hri]; simp [hc]
      rw [this] at hq
      exact hq _ hs3
  · have hlt' : ¬ (i : Int) < l.length := by omega
    simp [fillF, pickL, hlt, hlt']
    have : risesC c l = true := by
      rw [hri]
      have : (l.drop (i - 1)).length ≤ 1 := by rw [List.length_drop]; omega
      match l.drop (i - 1), this with
      | [], _ => rfl
      | [_], _ => rfl
    rw [this] at hq
    exact hq _ hs1
theorem rightNote_ok {S : AS} {x : Nt} {Q : En → AS → Prop} (hq : ∀ S', Same S S' [] → Q (.ret (.bool x.ok)) S') : Call G 101 [x.agg] S Q := by
  refine call_run' (G := G) rfl (ext_none (by decide)) ?_
  simp
  have key : ∀ b, x.ok = b → Q (.ret (.bool b)) ((S.bump 1).put S.next (.row x.cells 104 true true)) := by
    rintro _ rfl
    exact hq _ (by (repeat' first | exact Same.refl _ _ | assumption | apply Same.bu | (refine Same.pn ?_ (by first | omega | (simp; omega)))))
  by_cases c1 : 0 ≤ x.node
  · by_cases c2 : x.node < 8
    · by_cases c3 : 1 ≤ x.num
      · by_cases c4 : x.num ≤ 2000
        · by_cases c5 : 0 ≤ x.day
          · by_cases c6 : x.day ≤ 100000
            · by_cases c7 : x.text.length ≤ 8000
              · have c7' : (x.text.length : Int) ≤ 8000 := by omega
                simp [c1, c2, c3, c4, c5, c6, c7, c7']
                exact key true (by simp [Nt.ok, c1, c2, c3, c4, c5, c6, c7])
              · have c7' : ¬ (x.text.length : Int) ≤ 8000 := by omega
                simp [c1, c2, c3, c4, c5, c6, c7, c7']
                exact key false (by simp [Nt.ok, c7])
            · simp [c1, c2, c3, c4, c5, c6]
              exact key false (by simp [Nt.ok, c6])
          · simp [c1, c2, c3, c4, c5]
            exact key false (by simp [Nt.ok, c5])
        · simp [c1, c2, c3, c4]
          exact key false (by simp [Nt.ok, c4])
      · simp [c1, c2, c3]
        exact key false (by simp [Nt.ok, c3])
    · simp [c1, c2]
      exact key false (by simp [Nt.ok, c2])
  · simp [c1]
    exact key false (by simp [Nt.ok, c1])
end Go.Gx.B

/-
  How many notes there are of each node; how long; the same.
-/
namespace Go.Gx.B
open Go.Gx Go.Lib
set_option maxRecDepth 100000
set_option linter.all false
set_option maxHeartbeats 4000000

@[simp] theorem ints_len (l : List Int) : (ints l).length = l.length := by simp [ints]
theorem ints_get {l : List Int} {i : Nat} (hi : i < l.length) : (ints l)[i]? = some (.int .i64 l[i]) := by simp [ints, hi]
@[simp] theorem ints_at {l : List Int} {i : Nat} (hi : i < (ints l).length) : (ints l)[i] = .int .i64 (l[i]'(by simpa using hi)) := by simp [ints]
theorem ints_ok (l : List Int) : (ints l).all okc = true := by simp [ints, okc]
theorem ints_set (l : List Int) (i : Nat) (n : Int) : (ints l).set i (.int .i64 n) = ints (l.set i n) := by simp [ints, List.map_set]
theorem rowStore_set {cs : List Value} {k : Nat} {v : Value} (hk : k < cs.length) (hok : okc v = true) : rowStore cs k [v] = some (cs.set k v) := by
  unfold rowStore
  rw [if_pos ⟨by simp; omega, by simp [hok]⟩]
  unfold splice
  rw [List.set_eq_take_append_cons_drop, if_pos hk]
  simp
theorem ints_store {l : List Int} {k : Nat} {n : Int} (hk : k < l.length) : rowStore (ints l) k [.int .i64 n] = some (ints (l.set k n)) := by
  rw [rowStore_set (by simpa using hk) rfl, ints_set]
theorem ints_load {l : List Int} (h : l.length = 8) : rowLoad (ints l) 0 (some 8) = some (.agg (ints l).toArray) := rowLoad_all (by simpa using h)
theorem ints_put {l m : List Int} (h : l.length = m.length) : rowStore (ints l) 0 (ints m) = some (ints m) := rowStore_all (by simp [h]) (ints_ok m)
def z8 : List Int := List.replicate 8 0
@[simp] theorem z8_len : z8.length = 8 := rfl
theorem reps8 : reps 8 (.int .i64 0) = ints z8 := rfl
/-- of each node -/
def counts (l : List Nt) : List Int := (List.range 8).map fun (v : Nat) => (cnt (v : Int) l : Int)
@[simp] theorem counts_len (l : List Nt) : (counts l).length = 8 := by simp [counts]
theorem counts_get (l : List Nt) {k : Nat} (hk : k < 8) : (counts l)[k]'(by simpa using hk) = (cnt (k : Int) l : Int) := by simp [counts]
@[simp] theorem counts_at (l : List Nt) {k : Nat} (hk : k < (counts l).length) : (counts l)[k] = (cnt (k : Int) l : Int) := by simp [counts]
theorem counts_nil : counts [] = z8 := rfl
theorem counts_in {l : List Nt} {x : Nt} {k : Nat} (hx : x.node = k) (hk : k < 8) : counts (l ++ [x]) = (counts l).set k ((cnt (k : Int) l : Int) + 1) := by
  apply List.ext_getElem
  · simp
  · intro i h1 h2
    have hi : i < 8 := by simpa using h1
    rw [counts_get _ hi, List.getElem_set]
    rw [cnt_app]
    have e : cnt (i : Int) [x] = if k = i then 1 else 0 := by
      unfold cnt
      rw [fil_one, hx]
      by_cases h : k = i
      · subst h; simp
      · rw [if_neg (by omega), if_neg h]; rfl
    rw [e]
    by_cases h : k = i
    · subst h; simp
    · rw [if_neg h, if_neg h, counts_get _ hi]; simp
theorem counts_out {l : List Nt} {x : Nt} (hx : ¬ (0 ≤ x.node ∧ x.node < 8)) : counts (l ++ [x]) = counts l := by
  unfold counts
  refine List.map_congr_left fun i hi => ?_
  have hi : i < 8 := by simpa using hi
  rw [cnt_app]
  have : cnt (i : Int) [x] = 0 := by
    unfold cnt
    rw [fil_one, if_neg (by omega)]; rfl
  rw [this]; rfl
theorem cnt_le (v : Int) (l : List Nt) : cnt v l ≤ l.length := by unfold cnt fil; exact List.length_filter_le _ _
theorem take_snoc {α : Type} {l : List α} {i : Nat} (h : i < l.length) : l.take (i + 1) = l.take i ++ [l[i]] := by
  rw [List.take_succ, List.getElem?_eq_getElem h]; rfl
theorem count_ok {S : AS} {v : Value} {l : List Nt} (h : Ns S v l) (hl : l.length ≤ 1000000) {Q : En → AS → Prop} (hq : ∀ S', Same S S' [] → Q (.ret (.agg (ints (counts l)).toArray)) S') : Call G 41 [v] S Q := by
  obtain ⟨a, cap, rfl⟩ := h.shape
  refine call_run' (G := G) rfl (ext_none (by decide)) ?_
  simp [reps8]
  refine run_loop (fun j a' S' => ∃ i, j = l.length - i ∧ i ≤ l.length ∧ Same S S' [] ∧ S.next + 2 ≤ S'.next ∧ S'.get S.next = some (.row (ints z8) 26 true true) ∧ S'.get (S.next + 1) = some (.row (ints (counts (l.take i))) 26 true true) ∧
    Has a' 30 [(2, ptr S.next), (3, ptr (S.next + 1)), (6, .slice a l.length cap), (7, .int .i64 l.length), (8, .int .i64 (i : Nat))]) _ ⟨0, rfl, by omega, by (repeat' first | exact Same.refl _ _ | assumption | apply Same.bu | (refine Same.pn ?_ (by first | omega | (simp; omega)))), by simp, by simp, by simp [counts_nil], ⟨rfl, rfl, by simp⟩⟩ ?_
  rintro _ R hR _ S1 ⟨i, rfl, hi, hs1, hn1, hg0, hg1, ha⟩
  obtain ⟨x, rfl⟩ := ha.lit
  by_cases hlt : i < l.length
  · obtain ⟨p, o, cells, e, wr, ex, h1, h2, h3, h4, h5, _⟩ := (h.stay0 hs1).at hlt
    have hlt' : (i : Int) < l.length := by omega
    have hp : p ≠ S1.next := by omega
    have e0 : S.next ≠ S1.next := by omega
    have e1 : S.next + 1 ≠ S1.next := by omega
    have hw : IntKind.i64.wrap ((i : Int) + 1) = ((i + 1 : Nat) : Int) := wrapS (by omega)
    have hts := take_snoc hlt
    simp [fillF, pickL, hlt, hlt', h1, h2, h5, rowStore, splice]
    by_cases c1 : 0 ≤ l[i].node
    · by_cases c2 : l[i].node < 8
      · obtain ⟨k, hk⟩ : ∃ k : Nat, l[i].node = k := ⟨l[i].node.toNat, by omega⟩
        have hk8 : k < 8 := by omega
        have hcl := cnt_le (k : Int) (l.take i)
        have hcl2 : (l.take i).length ≤ 1000000 := by rw [List.length_take]; omega
        have hgt := ints_get (l := counts (l.take i)) (i := k) (by simpa using hk8)
        rw [counts_get _ hk8] at hgt
        have hwc : IntKind.i64.wrap ((cnt (k : Int) (l.take i) : Int) + 1) = (cnt (k : Int) (l.take i) : Int) + 1 := by rw [wrap64 (by omega) (by omega)]
        have hst := ints_store (l := counts (l.take i)) (k := k) (n := (cnt (k : Int) (l.take i) : Int) + 1) (by simpa using hk8)
        have hk8' : (k : Int) < 8 := by omega
        simp [c1, c2, hk, hk8, hk8', hg0, hg1, e0, e1, hgt, hwc, hst]
        refine hR _ _ _ (by omega) ⟨i + 1, rfl, by omega, ?_, by simp; omega, ?_, ?_, ⟨rfl, rfl, by simp [hw]⟩⟩
        · (repeat' first | exact Same.refl _ _ | assumption | apply Same.bu | (refine Same.pn ?_ (by first | omega | (simp; omega))))
        · simp [e0, hg0]
        · simp [e1]; rw [hts, counts_in hk hk8]
      · simp [c1, c2, hw]
        refine hR _ _ _ (by omega) ⟨i + 1, rfl, by omega, ?_, by simp; omega, by simp [e0, hg0], ?_, ⟨rfl, rfl, by simp [hw]⟩⟩
        · (repeat' first | exact Same.refl _ _ | assumption | apply Same.bu | (refine Same.pn ?_ (by first | omega | (simp; omega))))
        · simp [e1, hg1]; rw [hts, counts_out (show ¬ (0 ≤ l[i].node ∧ l[i].node < 8) by omega)]
    · simp [c1, hw]
      refine hR _ _ _ (by omega) ⟨i + 1, rfl, by omega, ?_, by simp; omega, by simp [e0, hg0], ?_, ⟨rfl, rfl, by simp [hw]⟩⟩
      · (repeat' first | exact Same.refl _ _ | assumption | apply Same.bu | (refine Same.pn ?_ (by first | omega | (simp; omega))))
      · simp [e1, hg1]; rw [hts, counts_out (show ¬ (0 ≤ l[i].node ∧ l[i].node < 8) by omega)]
  · obtain rfl : i = l.length := by omega
    rw [List.take_length] at hg1
    have l1 := ints_load (counts_len l)
    have l2 := ints_put (l := z8) (m := counts l) (by simp)
    simp [fillF, pickL, hg0, hg1, l1, l2]
    exact hq _ (by (repeat' first | exact Same.refl _ _ | assumption | apply Same.bu | (refine Same.pn ?_ (by first | omega | (simp; omega)))))
end Go.Gx.B

/-
  Long lists, equal lists, registers.
-/
namespace Go.Gx.B
open Go.Gx Go.Lib
set_option maxRecDepth 100000
set_option linter.all false
set_option maxHeartbeats 4000000

theorem long_ok {S : AS} {v : Value} {l : List Nt} (h : Ns S v l) {Q : En → AS → Prop} (hq : ∀ b, (b = false → l.length ≤ 80) → Q (.ret (.bool b)) S) : Call G 25 [v] S Q := by
  obtain ⟨a, cap, rfl⟩ := h.shape
  refine call_run' (G := G) rfl (ext_none (by decide)) ?_
  simp
  by_cases hl : 80 < l.length
  · have hl' : (80 : Int) < l.length := by omega
    simp [hl, hl']
    exact hq true (by simp)
  · have hl' : ¬ (80 : Int) < l.length := by omega
    simp [hl, hl']
    refine run_loop (fun j a' S' => ∃ (i : Nat) (n : Int), j = l.length - i ∧ i ≤ l.length ∧ S' = S ∧ Has a' 24 [(0, .slice a l.length cap), (3, .int .i64 n), (4, .int .i64 (i : Nat))]) _ ⟨0, 0, rfl, by omega, rfl, ⟨rfl, rfl, by simp⟩⟩ ?_
    rintro _ R hR _ S1 ⟨i, n, rfl, hi, rfl, ha⟩
    obtain ⟨x, rfl⟩ := ha.lit
    by_cases hlt : i < l.length
    · obtain ⟨p, o, cells, e, wr, ex, h1, h2, h3, h4, h5, h6, h7, h8, h9⟩ := h.at hlt
      have hlt' : (i : Int) < l.length := by omega
      have hw : IntKind.i64.wrap ((i : Int) + 1) = ((i + 1 : Nat) : Int) := wrapS (by omega)
      simp [fillF, pickL, hlt, hlt', h1, h2, h9, hw]
      exact hR _ _ _ (by omega) ⟨i + 1, IntKind.i64.wrap (n + (l[i].text.length : Int)), rfl, by omega, rfl, ⟨rfl, rfl, by simp⟩⟩
    · have hlt' : ¬ (i : Int) < l.length := by omega
      simp [fillF, pickL, hlt, hlt']
      exact hq _ (fun _ => by omega)
@[simp] theorem veq_notes {x y : Nt} : veq [.int .i64, .int .i64, .int .i64, .str] true x.agg y.agg = some (decide (x = y)) := by
  obtain ⟨a, b, c, d⟩ := x
  obtain ⟨a', b', c', d'⟩ := y
  show cseq _ _ _ = _
  simp only [cseq, ceq, str, ba_inj, and_self, if_true, Nt.mk.injEq, Bool.and_true]
  congr 1
  rw [Bool.eq_iff_iff]
  simp [and_assoc]
theorem same_ok {S : AS} {v w : Value} {l m : List Nt} (h : Ns S v l) (k : Ns S w m) (hl : l.length ≤ 1000000) {Q : En → AS → Prop} (hq : Q (.ret (.bool (decide (l = m)))) S) : Call G 23 [v, w] S Q := by
  obtain ⟨a, cap, rfl⟩ := h.shape
  obtain ⟨a2, cap2, rfl⟩ := k.shape
  refine call_run' (G := G) rfl (ext_none (by decide)) ?_
  simp
  by_cases hlen : l.length = m.length
  · simp [hlen]
    refine run_loop (fun j a' S' => ∃ (i : Nat), j = m.length - i ∧ i ≤ m.length ∧ S' = S ∧ l.take i = m.take i ∧ Has a' 26 [(0, .slice a l.length cap), (1, .slice a2 m.length cap2), (5, .int .i64 (i : Nat))]) _ ⟨0, rfl, by omega, rfl, rfl, ⟨rfl, rfl, by simp [hlen]⟩⟩ ?_
    rintro _ R hR _ S1 ⟨i, rfl, hi, rfl, hti, ha⟩
    obtain ⟨x, rfl⟩ := ha.lit
    by_cases hlt : i < m.length
    · have hlt2 : i < l.length := by omega
      obtain ⟨p, o, cells, e, wr, ex, h1, h2, h3, h4, h5, _⟩ := h.at hlt2
      obtain ⟨p', o', cells', e', wr', ex', g1, g2, g3, g4, g5, _⟩ := k.at hlt
      have hlt' : (i : Int) < l.length := by omega
      have hw : IntKind.i64.wrap ((i : Int) + 1) = ((i + 1 : Nat) : Int) := wrapS (by omega)
      simp [fillF, pickL, hlt, hlt2, hlt', h1, h2, h5, g1, g2, g5, hw]
      by_cases he : l[i] = m[i]
      · simp [he]
        refine hR _ _ _ (by omega) ⟨i + 1, rfl, by omega, rfl, ?_, ⟨rfl, rfl, by simp [hw]⟩⟩
        rw [take_snoc hlt, take_snoc hlt2, hti, he]
      · simp [he]
        have : decide (l = m) = false := by
          rw [decide_eq_false_iff_not]
          rintro rfl
          exact he rfl
        rw [this] at hq
        exact hq
    · have hlt' : ¬ (i : Int) < l.length := by omega
      have hlt2 : ¬ i < l.length := by omega
      simp [fillF, pickL, hlt, hlt', hlt2]
      rw [List.take_of_length_le (by omega), List.take_of_length_le (by omega)] at hti
      rw [decide_eq_true hti] at hq
      exact hq
  · have hlen' : ¬ (l.length : Int) = m.length := by omega
    simp [hlen, hlen']
    have : decide (l = m) = false := by
      rw [decide_eq_false_iff_not]
      rintro rfl
      exact hlen rfl
    rw [this] at hq
    exact hq
theorem ok_node {x : Nt} (h : x.ok = true) : ∃ k : Nat, x.node = k ∧ k < 8 := ⟨x.node.toNat, by have := (Nt.ok_iff.1 h).1; omega, by have := (Nt.ok_iff.1 h).1; omega⟩
theorem check_ok {S : AS} {v : Value} {l : List Nt} (h : Ns S v l) (hl : l.length ≤ 1000000) {Q : En → AS → Prop} (hq : ∀ S', Same S S' [] → Q (.ret (.int .i64 (if regB l = true then 0 else 1))) S') : Call G 40 [v] S Q := by
  obtain ⟨a, cap, rfl⟩ := h.shape
  refine call_run' (G := G) rfl (ext_none (by decide)) ?_
  simp [reps8]
  refine rising_ok (v := .slice a l.length cap) isCmpD (h.stay0 (by (repeat' first | exact Same.refl _ _ | assumption | apply Same.bu | (refine Same.pn ?_ (by first | omega | (simp; omega)))))) hl fun S1 hs1 => ?_
  have hs : Same S S1 [] := Same.tr0 (by (repeat' first | exact Same.refl _ _ | assumption | apply Same.bu | (refine Same.pn ?_ (by first | omega | (simp; omega))))) hs1
  have hn := hs1.1
  simp at hn
  have hg1 : S1.get S.next = some (.row (ints z8) 26 true true) := (hs1.2 S.next (by simp) (by simp)).trans (by simp)
  rw [risesC_D]
  by_cases hr : risesD l = true
  · simp [hr]
    refine run_loop (fun j a' S' => ∃ i, j = l.length - i ∧ i ≤ l.length ∧ Same S S' [] ∧ S.next < S'.next ∧ S'.get S.next = some (.row (ints (counts (l.take i))) 26 true true) ∧ numsGo [] l = numsGo (l.take i) (l.drop i) ∧
      Has a' 38 [(3, ptr S.next), (9, .slice a l.length cap), (10, .int .i64 l.length), (11, .int .i64 (i : Nat))]) _ ⟨0, rfl, by omega, hs, by omega, by simp [counts_nil, hg1], by simp, ⟨rfl, rfl, by simp⟩⟩ ?_
    rintro _ R hR _ S2 ⟨i, rfl, hi, hs2, hn2, hg2, hng, ha⟩
    obtain ⟨x, rfl⟩ := ha.lit
    by_cases hlt : i < l.length
    · obtain ⟨p, o, cells, e, wr, ex, h1, h2, h3, h4, h5, _⟩ := (h.stay0 hs2).at hlt
      have hlt' : (i : Int) < l.length := by omega
      have hp : p ≠ S2.next := by omega
      have e0 : S.next ≠ S2.next := by omega
      have hw : IntKind.i64.wrap ((i : Int) + 1) = ((i + 1 : Nat) : Int) := wrapS (by omega)
      have hts := take_snoc hlt
      simp [fillF, pickL, hlt, hlt', h1, h2, h5, rowStore, splice]
      refine rightNote_ok (x := l[i]) fun S3 hs3 => ?_
      have k1 : S3.get S2.next = _ := (hs3.2 S2.next (by simp) (by simp)).trans (by simp; rfl)
      have k2 : S3.get S.next = _ := (hs3.2 S.next (by simp; omega) (by simp)).trans (by simp [e0]; exact hg2)
      have hn3 := hs3.1
      simp at hn3
      rw [List.drop_eq_getElem_cons hlt] at hng
      simp only [numsGo] at hng
      by_cases hok : l[i].ok = true
      · obtain ⟨k, hk, hk8⟩ := ok_node hok
        have hk8' : (k : Int) < 8 := by omega
        have hcl := cnt_le (k : Int) (l.take i)
        have hcl2 : (l.take i).length ≤ 1000000 := by rw [List.length_take]; omega
        have hwc : IntKind.i64.wrap ((cnt (k : Int) (l.take i) : Int) + 1) = (cnt (k : Int) (l.take i) : Int) + 1 := by rw [wrap64 (by omega) (by omega)]
        have hst := ints_store (l := counts (l.take i)) (k := k) (n := (cnt (k : Int) (l.take i) : Int) + 1) (by simpa using hk8)
        have hS3 : Same S S3 [] := Same.tr0 (by (repeat' first | exact Same.refl _ _ | assumption | apply Same.bu | (refine Same.pn ?_ (by first | omega | (simp; omega))))) hs3
        rw [hok, hk, ← hts, Bool.true_and] at hng
        by_cases hnum : l[i].num = (cnt (k : Int) (l.take i) : Int) + 1
        · simp [hok, k1, k2, hk, hk8, hk8', hwc, hnum, hst, hw]
          rw [decide_eq_true hnum, Bool.true_and] at hng
          refine hR _ _ _ (by omega) ⟨i + 1, rfl, by omega, ?_, by simp; omega, ?_, hng, ⟨rfl, rfl, by simp [hw]⟩⟩
          · exact hS3.pn (by omega)
          · simp
            rw [hts, counts_in hk hk8]
        · simp [hok, k1, k2, hk, hk8, hk8', hwc, hnum]
          rw [decide_eq_false hnum, Bool.false_and] at hng
          have : regB l = false := by unfold regB; rw [hng]; simp
          rw [this] at hq
          exact hq _ hS3
      · have hok' : l[i].ok = false := by simpa using hok
        simp [hok', k1, k2]
        rw [hok', Bool.false_and, Bool.false_and] at hng
        have : regB l = false := by unfold regB; rw [hng]; simp
        rw [this] at hq
        exact hq _ (Same.tr0 (by (repeat' first | exact Same.refl _ _ | assumption | apply Same.bu | (refine Same.pn ?_ (by first | omega | (simp; omega))))) hs3)
    · have hlt' : ¬ (i : Int) < l.length := by omega
      simp [fillF, pickL, hlt, hlt']
      rw [List.drop_eq_nil_of_le (by omega)] at hng
      have : regB l = true := by unfold regB; rw [hng, hr]; rfl
      rw [this] at hq
      exact hq _ hs2
  · simp [hr]
    have : regB l = false := by unfold regB; simp [hr]
    rw [this] at hq
    exact hq _ hs
end Go.Gx.B
