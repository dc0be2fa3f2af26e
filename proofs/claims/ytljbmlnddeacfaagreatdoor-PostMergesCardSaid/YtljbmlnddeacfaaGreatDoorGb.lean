/-
  What only computes: the abstract operation and the model's give related values.
-/
import Derived.Test.YtljbmlnddeacfaaGreatDoorGa
import Derived.Laws.Strings
import Derived.Laws.StructEq

set_option linter.all false
set_option linter.deprecated false

namespace Go.Gx

section
variable {P : Program} {r : Rho} {w : World}

/-! ## the program's tables -/
theorem run_und {t : TypeId} {d : TypeDesc} (h : P.underlying t = some d) : (underlying t).run P w = .ok d w := by
  simp [underlying, h]
theorem szOf_info {t : TypeId} {n : Nat} (h : szOf P t = some n) : ∃ i, P.info? t = some i ∧ i.size = n := by
  unfold szOf at h; cases e : P.info? t with
  | none => rw [e] at h; cases h
  | some i => rw [e] at h; simp at h; exact ⟨i, rfl, h⟩
theorem run_info {t : TypeId} {i : TypeInfo} (h : P.info? t = some i) : (typeInfo t).run P w = .ok i w := by
  simp [typeInfo, h]
theorem run_sz {t : TypeId} {n : Nat} (h : szOf P t = some n) : (sizeOf t).run P w = .ok n w := by
  obtain ⟨i, hi, rfl⟩ := szOf_info h
  simp [sizeOf, run_info hi]
theorem szOf_cells {t : TypeId} {n : Nat} (h : szOf P t = some n) : P.cellsOf t = n := by
  obtain ⟨i, hi, rfl⟩ := szOf_info h
  simp [Program.cellsOf, hi]
theorem zeroOf_spec {t : TypeId} {v : Value} (h : zeroOf P t = some v) : ∃ i, P.info? t = some i ∧ i.zero = some v ∧ closed v = true := by
  unfold zeroOf at h
  rw [Option.filter_eq_some_iff] at h
  obtain ⟨h1, h2⟩ := h
  cases e : P.info? t with
  | none => rw [e] at h1; cases h1
  | some i => rw [e] at h1; exact ⟨i, rfl, h1, h2⟩
theorem run_zero {t : TypeId} {v : Value} (h : zeroOf P t = some v) : (zeroValue t).run P w = .ok v w := by
  obtain ⟨i, hi, hz, _⟩ := zeroOf_spec h
  simp [zeroValue, run_info hi, hz]
theorem zeroCells_spec {t : TypeId} {z : List Value} (h : zeroCellsOf P t = some z) :
    ∃ v n, zeroOf P t = some v ∧ szOf P t = some n ∧ z = cellsL v ∧ z.length = n ∧ z.all okc = true := by
  unfold zeroCellsOf at h
  split at h
  · rename_i v n hv hn
    split at h
    · rename_i hc
      cases h
      exact ⟨v, n, hv, hn, rfl, hc.1, hc.2⟩
    · cases h
  · cases h
theorem aggOf_none {t : TypeId} (h : aggOf P t = some none) : (isAgg t).run P w = .ok false w := by
  unfold aggOf at h
  split at h
  · cases e : szOf P t <;> rw [e] at h <;> cases h
  · cases e : szOf P t <;> rw [e] at h <;> cases h
  · rename_i d h1 h2 hd
    simp only [isAgg, Sem.run_bind, run_und hd, Result.andThen_ok]
    cases d <;> first
      | exact absurd rfl (h1 _)
      | exact absurd rfl (h2 _ _)
      | rfl
  · cases h
theorem aggOf_some {t : TypeId} {n : Nat} (h : aggOf P t = some (some n)) : (isAgg t).run P w = .ok true w ∧ szOf P t = some n := by
  unfold aggOf at h
  split at h
  · rename_i fs hd
    cases e : szOf P t with
    | none => rw [e] at h; cases h
    | some m => rw [e] at h; cases h; exact ⟨by simp [isAgg, run_und hd], rfl⟩
  · rename_i k e' hd
    cases e : szOf P t with
    | none => rw [e] at h; cases h
    | some m => rw [e] at h; cases h; exact ⟨by simp [isAgg, run_und hd], rfl⟩
  · cases h
  · cases h

/-- a value's closed zero relates to itself -/
theorem zero_VR {t : TypeId} {v : Value} (h : zeroOf P t = some v) : VR P r v v := by
  obtain ⟨_, _, _, hc⟩ := zeroOf_spec h
  exact VR.closed hc
theorem zeroCells_LR {t : TypeId} {z : List Value} (h : zeroCellsOf P t = some z) : LR P r z z := by
  obtain ⟨v, n, hv, hn, rfl, _, hk⟩ := zeroCells_spec h
  exact (zero_VR hv).cells

/-! ## results -/
theorem ex_v {s : Sem Value} {v : Value} {w' : World} (h : s.run P w = .ok v w') : (do let a ← s; pure (Next.value a) : Sem Next).run P w = .ok (.value v) w' := by
  simp [h]
theorem ex_u {s : Sem Unit} {w' : World} (h : s.run P w = .ok () w') : (do s; pure Next.skip : Sem Next).run P w = .ok .skip w' := by
  simp [h]

theorem fieldPlace_run {a : Addr} {f : Field} {n : Nat} (h : szOf P f.type = some n) (hn : n ≠ 0) : (fieldPlace a f).run P w = .ok (a.add f.offset) w := by
  simp [fieldPlace, run_sz h, hn]

theorem add_none (b o k : Nat) : (⟨b, o, none⟩ : Addr).add k = ⟨b, o + k, none⟩ := by
  unfold Addr.add; split
  · rename_i e; subst e; rfl
  · rfl

theorem eqGuard_other {op : BinOp} {t : TypeId} {x y : Operand} {a b : Value} (h1 : ¬ (a = .nilIface ∧ b = .nilIface)) (h2 : ∀ c d, ¬ (a = .agg c ∧ b = .agg d)) :
    (eqGuard op t x y a b).run P w = .ok () w := by
  unfold eqGuard
  cases op <;> first
    | rfl
    | (cases a <;> cases b <;> first
        | rfl
        | exact absurd ⟨rfl, rfl⟩ h1
        | exact absurd ⟨rfl, rfl⟩ (h2 _ _))

theorem intBin_run {op : BinOp} {k : IntKind} {x y : Int} {v : Value} (h : intBin op k x y = some v) (t : TypeId) (hs : isSh op = false) :
    (Go.binOp op t (.int k x) (.int k y)).run P w = .ok v w := by
  cases op <;> simp [intBin, isSh] at h hs <;> simp [Go.binOp, Op.intArith, Op.intCmp, Op.intBits, Op.intDiv, h] <;>
    (try (obtain ⟨h0, h⟩ := h; simp [h0, h]))

theorem shBin_run {op : BinOp} {k j : IntKind} {x y : Int} {v : Value} (h : shBin op k x y = some v) (t : TypeId) (hs : isSh op = true) :
    (Go.binOp op t (.int k x) (.int j y)).run P w = .ok v w := by
  unfold shBin at h
  split at h
  · cases h
  · rename_i hy
    cases op <;> first
      | (exfalso; revert hs; simp [isSh]; done)
      | (simp at h; simp [Go.binOp, Op.shift, hy, h]; done)

theorem bytes_eq (x y : ByteArray) : (x.toList == y.toList) = decide (x = y) := by
  rw [ByteArray.toList_eq, ByteArray.toList_eq, Bool.eq_iff_iff]
  simp only [beq_iff_eq, decide_eq_true_eq]
  constructor
  · intro h
    cases x; cases y
    simp at h
    rw [h]
  · intro h; rw [h]

theorem data_eq (x y : ByteArray) : (x.data.toList == y.data.toList) = decide (x = y) := by
  rw [← bytes_eq, ByteArray.toList_eq, ByteArray.toList_eq]

theorem bytes_beq (x y : ByteArray) : (x == y) = decide (x = y) := by
  rw [Bool.eq_iff_iff]
  simp only [decide_eq_true_eq]
  constructor
  · intro h
    cases x; cases y
    rename_i a b
    have : (a == b) = true := h
    rw [beq_iff_eq] at this
    rw [this]
  · intro h
    subst h
    cases x
    rename_i a
    show (a == a) = true
    simp

theorem strBin_run {op : BinOp} {x y : ByteArray} {v : Value} (h : strBin op x y = some v) (t : TypeId) :
    (Go.binOp op t (.string x) (.string y)).run P w = .ok v w := by
  cases op <;> first
    | (cases h; done)
    | (simp only [strBin] at h
       simp only [Go.binOp, Op.stringOp, bytes_eq, data_eq, ByteArray.toList_eq, IntKind.max, IntKind.signed, IntKind.bits, Sem.run_ite, Sem.run_pure]
       first
         | (cases h; rfl)
         | (split at h
            · cases h
              rw [if_neg (by simp; omega)]
            · cases h))

theorem binV_run {op : BinOp} {x y v : Value} (h : binV op x y = some v) (t : TypeId) : (Go.binOp op t x y).run P w = .ok v w := by
  unfold binV at h
  split at h
  · split at h
    · rename_i hs; exact shBin_run h t hs
    · rename_i hs
      split at h
      · rename_i hk; subst hk; exact intBin_run h t (by simpa using hs)
      · cases h
  · exact strBin_run h t
  · cases h

theorem unV_run {op : UnOp} {x v : Value} (h : unV op x = some v) : (Op.unary op x).run P w = .ok v w := by
  unfold unV at h
  split at h <;> first
    | (cases h; simp [Op.unary, Op.intArith, Op.intBits]; done)
    | (cases h; rfl)
    | (cases h; done)
end

end Go.Gx

/-
  '==' at comparable types without addresses: cell by cell.
-/
namespace Go.Gx

section
variable {P : Program} {w : World}

/-- a value of a type, out of its cells -/
def ofT (P : Program) (t : TypeId) (cs : List Value) : Value :=
  match P.underlying t with
  | some (.struct _) | some (.array _ _) => .agg cs.toArray
  | _ => cs.headD undef

theorem part_run {t : TypeId} {g : Option Nat} (hg : aggOf P t = some g) (cs : Array Value) (off : Nat) {v : Value}
    (h : rowLoad cs.toList off g = some v) : (part t cs off).run P w = .ok v w := by
  cases g with
  | none =>
    simp only [part, Sem.run_bind, aggOf_none hg, Result.andThen_ok]
    have : cs[off]? = some v := by simpa [rowLoad] using h
    simp [this]
  | some k =>
    obtain ⟨h1, h2⟩ := aggOf_some (w := w) hg
    simp only [rowLoad] at h
    split at h
    · cases h
      simp only [part, Sem.run_bind, h1, run_sz h2, Result.andThen_ok, if_true, Sem.run_pure]
      congr 2
      apply Array.ext'
      simp [List.drop_take]
    · cases h

theorem rowLoad_LR {r : Rho} {cs cs' : List Value} {off : Nat} {g : Option Nat} {v : Value} (h : rowLoad cs off g = some v) (hl : LR P r cs cs') :
    ∃ v', rowLoad cs' off g = some v' ∧ VR P r v v' := by
  cases g with
  | none => exact hl.get? h
  | some k =>
    simp only [rowLoad] at h ⊢
    split at h
    · rename_i hle
      cases h
      exact ⟨_, by rw [if_pos (by have := hl.1; omega)], VR.agg_of ((hl.drop _).take _)⟩
    · cases h

/-- a part that is given by its cells -/
theorem part_ofT {t : TypeId} {ks : List K} {d : Nat} (hk : kindsOf P d t = some ks) (cs : Array Value) (off : Nat) (h : off + ks.length ≤ cs.size) :
    (part t cs off).run P w = .ok (ofT P t ((cs.toList.drop off).take ks.length)) w := by
  cases d with
  | zero => cases hk
  | succ d =>
    unfold kindsOf at hk
    have simple : ∀ (dd : TypeDesc), P.underlying t = some dd → (∀ fs, dd ≠ .struct fs) → (∀ n e, dd ≠ .array n e) → ks.length = 1 → (part t cs off).run P w = .ok (ofT P t ((cs.toList.drop off).take ks.length)) w := by
      intro dd hd h1 h2 hl
      have hg : aggOf P t = some none := by
        unfold aggOf; rw [hd]; cases dd <;> first | rfl | exact absurd rfl (h1 _) | exact absurd rfl (h2 _ _)
      refine part_run hg cs off ?_
      have hlt : off < cs.size := by omega
      have e : ofT P t ((cs.toList.drop off).take ks.length) = cs[off] := by
        unfold ofT; rw [hd, hl]
        have : (List.drop off cs.toList).take 1 = [cs[off]] := by
          rw [List.drop_eq_getElem_cons (by simpa using hlt)]
          simp
        rw [this]
        cases dd <;> first | rfl | exact absurd rfl (h1 _) | exact absurd rfl (h2 _ _)
      rw [e]
      simp [rowLoad, hlt]
    have aggr : ∀ (n : Nat), (aggOf P t = some (some n)) → (∃ x, P.underlying t = some x ∧ ((∃ fs, x = .struct fs) ∨ ∃ m e, x = .array m e)) → ks.length = n → (part t cs off).run P w = .ok (ofT P t ((cs.toList.drop off).take ks.length)) w := by
      intro n hg hx hl
      refine part_run hg cs off ?_
      have e : ofT P t ((cs.toList.drop off).take ks.length) = .agg ((cs.toList.drop off).take ks.length).toArray := by
        unfold ofT
        obtain ⟨x, hx1, hx2⟩ := hx
        rw [hx1]
        rcases hx2 with ⟨fs, rfl⟩ | ⟨m, e, rfl⟩ <;> rfl
      rw [e, hl]
      simp only [rowLoad, Array.length_toList]
      rw [if_pos (by omega)]
    split at hk
    · rename_i hd _; cases hk; exact simple _ hd (by simp) (by simp) rfl
    · rename_i k hd _; cases hk; exact simple _ hd (by simp) (by simp) rfl
    · rename_i hd _; cases hk; exact simple _ hd (by simp) (by simp) rfl
    · rename_i fs n hd hn
      split at hk
      · cases hk
      · rw [Option.filter_eq_some_iff] at hk
        exact aggr n (by unfold aggOf; rw [hd]; simp [hn]) ⟨_, hd, .inl ⟨_, rfl⟩⟩ (by simpa using hk.2)
    · rename_i m e n hd hn
      rw [Option.filter_eq_some_iff] at hk
      exact aggr n (by unfold aggOf; rw [hd]; simp [hn]) ⟨_, hd, .inr ⟨_, _, rfl⟩⟩ (by simpa using hk.2)
    · cases hk

theorem kinds_sz {d : Nat} {t : TypeId} {ks : List K} (h : kindsOf P d t = some ks) : szOf P t = some ks.length := by
  cases d with
  | zero => cases h
  | succ d =>
    unfold kindsOf at h
    split at h
    · cases h; assumption
    · cases h; assumption
    · cases h; assumption
    · split at h
      · cases h
      · rename_i n _ _ _
        rw [Option.filter_eq_some_iff] at h
        have : ks.length = n := by simpa using h.2
        rw [this]; assumption
    · rename_i n _ _
      rw [Option.filter_eq_some_iff] at h
      have : ks.length = n := by simpa using h.2
      rw [this]; assumption
    · cases h

theorem cseq_len : ∀ {ks : List K} {xs ys : List Value} {b : Bool}, cseq ks xs ys = some b → xs.length = ks.length ∧ ys.length = ks.length
  | [], [], [], _, _ => ⟨rfl, rfl⟩
  | k :: ks, x :: xs, y :: ys, b, h => by
    unfold cseq at h
    split at h
    · rename_i a c h1 h2
      have := cseq_len h2
      simp [this.1, this.2]
    · cases h
  | [], _ :: _, _, _, h => by simp [cseq] at h
  | [], [], _ :: _, _, h => by simp [cseq] at h
  | _ :: _, [], _, _, h => by simp [cseq] at h
  | _ :: _, _ :: _, [], _, h => by simp [cseq] at h

theorem cseq_append : ∀ {ks js : List K} {xs ys : List Value} {b : Bool}, cseq (ks ++ js) xs ys = some b →
    ∃ c d, cseq ks (xs.take ks.length) (ys.take ks.length) = some c ∧ cseq js (xs.drop ks.length) (ys.drop ks.length) = some d ∧ b = (c && d)
  | [], js, xs, ys, b, h => ⟨true, b, by simp [cseq], by simpa using h, by simp⟩
  | k :: ks, js, [], ys, b, h => by simp [cseq] at h
  | k :: ks, js, _ :: _, [], b, h => by simp [cseq] at h
  | k :: ks, js, x :: xs, y :: ys, b, h => by
    simp only [List.cons_append, cseq] at h
    split at h
    · rename_i a c h1 h2
      cases h
      obtain ⟨c', d', e1, e2, e3⟩ := cseq_append h2
      refine ⟨a && c', d', ?_, by simpa using e2, by rw [e3, Bool.and_assoc]⟩
      simp [cseq, h1, e1]
    · cases h

/-- '==' over an array, element by element -/
def eqElems (d : Nat) (elem : TypeId) (n : Nat) (xs ys : Array Value) : List Nat → Sem Bool
  | [] => pure true
  | i :: is => do
    let a ← part elem xs (i * n)
    let b ← part elem ys (i * n)
    let r ← Op.equalIn d elem a b
    if (!r) = true then pure false else eqElems d elem n xs ys is

theorem run_equalIn_array (d : Nat) (t : TypeId) (len elem : Nat) (n : Nat) (xs ys : Array Value) (ht : P.underlying t = some (.array len elem)) (hn : szOf P elem = some n) :
    (Op.equalIn (d + 1) t (.agg xs) (.agg ys)).run P w = (eqElems d elem n xs ys (List.range' 0 len)).run P w := by
  simp only [Op.equalIn, Sem.run_bind, run_und ht, Result.andThen_ok, run_sz hn]
  rw [Std.Legacy.Range.forIn_eq_forIn_range']
  simp only [Std.Legacy.Range.size, Nat.sub_zero, Nat.add_sub_cancel, Nat.div_one]
  generalize List.range' 0 len = is
  induction is generalizing w with
  | nil => simp [eqElems]
  | cons i is ih =>
    simp only [List.forIn_cons, eqElems, Sem.run_bind, Sem.run_ite]
    generalize (part elem xs (i * n)).run P w = r1
    cases r1 with
    | ok a w1 =>
      simp only [Result.andThen_ok]
      generalize (part elem ys (i * n)).run P w1 = r2
      cases r2 with
      | ok b w2 =>
        simp only [Result.andThen_ok]
        generalize (Op.equalIn d elem a b).run P w2 = r3
        cases r3 with
        | ok r w3 =>
          cases r
          · simp only [Result.andThen_ok, Bool.not_false, if_true, Sem.run_pure]
          · simp only [Result.andThen_ok, Bool.not_true, Bool.false_eq_true, if_false, Sem.run_pure]
            exact ih
        | halt x w3 => simp [Result.andThen]
      | halt x w2 => simp [Result.andThen]
    | halt x w1 => simp [Result.andThen]

theorem ofT_one {t : TypeId} {d : TypeDesc} (h : P.underlying t = some d) (h1 : ∀ fs, d ≠ .struct fs) (h2 : ∀ n e, d ≠ .array n e) (v : Value) : ofT P t [v] = v := by
  unfold ofT; rw [h]
  cases d <;> first | rfl | exact absurd rfl (h1 _) | exact absurd rfl (h2 _ _)

theorem eqFields_run {d D : Nat} (ih : ∀ (t : TypeId) (ks : List K), kindsOf P d t = some ks → ∀ (xs ys : List Value) (b : Bool), cseq ks xs ys = some b →
      (Op.equalIn D t (ofT P t xs) (ofT P t ys)).run P w = .ok b w) (xs ys : Array Value) :
    ∀ (fs : List Field) (off : Nat) (ks : List K), fieldKinds (kindsOf P d) fs off = some ks → ∀ (b : Bool), cseq ks (xs.toList.drop off) (ys.toList.drop off) = some b →
      (Op.eqFields D xs ys fs).run P w = .ok b w
  | [], off, ks, hk, b, h => by
    simp only [fieldKinds] at hk; cases hk
    have hl := cseq_len h
    cases hx : xs.toList.drop off with
    | cons _ _ => rw [hx] at hl; simp at hl
    | nil => cases hy : ys.toList.drop off with
      | cons _ _ => rw [hy] at hl; simp at hl
      | nil => rw [hx, hy] at h; simp [cseq] at h; subst h; simp [Op.eqFields]
  | f :: fs, off, ks, hk, b, h => by
    unfold fieldKinds at hk
    split at hk
    · cases hk
    · rename_i hf
      split at hk
      · rename_i k1 hk1
        split at hk
        · cases hk
        rename_i hz
        cases e : fieldKinds (kindsOf P d) fs (off + k1.length) with
        | none => rw [e] at hk; cases hk
        | some k2 =>
          rw [e] at hk; cases hk
          obtain ⟨c, c', e1, e2, e3⟩ := cseq_append h
          have hl := cseq_len h
          simp only [List.length_append, List.length_drop, Array.length_toList] at hl
          have hfo : f.offset = off := Decidable.not_not.1 (fun hne => hf (.inr hne))
          have hfn : f.name ≠ "_" := fun hne => hf (.inl hne)
          simp only [Op.eqFields]
          rw [if_pos hfn]
          have p1 := part_ofT (w := w) hk1 xs f.offset (by omega)
          have p2 := part_ofT (w := w) hk1 ys f.offset (by omega)
          rw [hfo] at p1 p2
          simp only [Sem.run_bind, hfo, p1, p2, Result.andThen_ok, ih _ _ hk1 _ _ c e1]
          cases c
          · simp at e3; subst e3; simp
          · simp only [Bool.not_true, Bool.false_eq_true, if_false]
            rw [eqFields_run ih xs ys fs (off + k1.length) k2 e c' (by simpa [List.drop_drop] using e2), e3]; simp
      · cases hk

theorem eqElems_run {d D : Nat} {elem : TypeId} {k1 : List K} (hk1 : kindsOf P d elem = some k1) (hz : k1.length ≠ 0) (ih : ∀ (xs ys : List Value) (b : Bool), cseq k1 xs ys = some b →
      (Op.equalIn D elem (ofT P elem xs) (ofT P elem ys)).run P w = .ok b w) (xs ys : Array Value) :
    ∀ (m i : Nat) (b : Bool), cseq (List.replicate m k1).flatten (xs.toList.drop (i * k1.length)) (ys.toList.drop (i * k1.length)) = some b →
      (eqElems D elem k1.length xs ys (List.range' i m)).run P w = .ok b w
  | 0, i, b, h => by
    simp only [List.replicate_zero, List.flatten_nil] at h
    have hl := cseq_len h
    cases hx : xs.toList.drop (i * k1.length) with
    | cons _ _ => rw [hx] at hl; simp at hl
    | nil => cases hy : ys.toList.drop (i * k1.length) with
      | cons _ _ => rw [hy] at hl; simp at hl
      | nil => rw [hx, hy] at h; simp [cseq] at h; subst h; simp [eqElems]
  | m + 1, i, b, h => by
    simp only [List.replicate_succ, List.flatten_cons] at h
    obtain ⟨c, c', e1, e2, e3⟩ := cseq_append h
    have hl := cseq_len h
    simp only [List.length_append, List.length_drop, Array.length_toList] at hl
    have p1 := part_ofT (w := w) hk1 xs (i * k1.length) (by omega)
    have p2 := part_ofT (w := w) hk1 ys (i * k1.length) (by omega)
    simp only [List.range'_succ, eqElems, Sem.run_bind, p1, p2, Result.andThen_ok, ih _ _ c e1]
    cases c
    · simp at e3; subst e3; simp
    · simp only [Bool.not_true, Bool.false_eq_true, if_false]
      rw [eqElems_run hk1 hz ih xs ys m (i + 1) c' (by
        have : (i + 1) * k1.length = i * k1.length + k1.length := by rw [Nat.add_mul, Nat.one_mul]
        rw [this]; simpa [List.drop_drop] using e2), e3]; simp

theorem equalIn_kinds : ∀ (d D : Nat) (t : TypeId) (ks : List K), kindsOf P d t = some ks → d ≤ D → ∀ (xs ys : List Value) (b : Bool), cseq ks xs ys = some b →
    (Op.equalIn D t (ofT P t xs) (ofT P t ys)).run P w = .ok b w := by
  intro d
  induction d with
  | zero => intro D t ks h; cases h
  | succ d ih =>
    intro D t ks h hd xs ys b hb
    obtain ⟨D, rfl⟩ : ∃ E, D = E + 1 := ⟨D - 1, by omega⟩
    have hl := cseq_len hb
    unfold kindsOf at h
    have one : ∀ (k : K), ks = [k] → ∃ x y, xs = [x] ∧ ys = [y] ∧ ceq k x y = some b := by
      rintro k rfl
      match xs, ys, hl with
      | [x], [y], _ =>
        refine ⟨x, y, rfl, rfl, ?_⟩
        simp only [cseq] at hb
        split at hb
        · rename_i h1 h2; cases h2; simpa using h1.trans (by simpa using hb)
        · cases hb
    split at h
    · rename_i hu _; cases h
      obtain ⟨x, y, rfl, rfl, hc⟩ := one _ rfl
      rw [ofT_one hu (by simp) (by simp), ofT_one hu (by simp) (by simp)]
      cases x <;> cases y <;> simp [ceq] at hc
      subst hc
      exact run_equalIn_bool' w D t _ _ hu
    · rename_i k hu _; cases h
      obtain ⟨x, y, rfl, rfl, hc⟩ := one _ rfl
      rw [ofT_one hu (by simp) (by simp), ofT_one hu (by simp) (by simp)]
      cases x <;> cases y <;> simp [ceq] at hc
      obtain ⟨⟨rfl, rfl⟩, rfl⟩ := hc
      exact run_equalIn_int w D t _ _ _ _ hu
    · rename_i hu _; cases h
      obtain ⟨x, y, rfl, rfl, hc⟩ := one _ rfl
      rw [ofT_one hu (by simp) (by simp), ofT_one hu (by simp) (by simp)]
      cases x <;> cases y <;> simp [ceq] at hc
      subst hc
      rw [run_equalIn_string w D t _ _ hu, bytes_eq]
    · rename_i fs n hu hn
      split at h
      · cases h
      · rename_i hp
        rw [Option.filter_eq_some_iff] at h
        have e : P.fieldsOf t = fs := by unfold Program.fieldsOf; rw [hu]
        have ex : ∀ zs, ofT P t zs = .agg zs.toArray := fun zs => by unfold ofT; rw [hu]
        rw [ex, ex, run_equalIn_struct w D t _ _ (by rw [e]; exact hu) (by simpa using hp), e]
        exact eqFields_run (fun t ks h xs ys b hb => ih D t ks h (by omega) xs ys b hb) _ _ fs.toList 0 ks h.1 b (by simpa using hb)
    · rename_i m e n hu hn
      rw [Option.filter_eq_some_iff] at h
      obtain ⟨h1, h2⟩ := h
      cases hk1 : kindsOf P d e with
      | none => rw [hk1] at h1; cases h1
      | some k1 =>
        rw [hk1] at h1
        simp only [Option.bind_some] at h1
        have ex : ∀ zs, ofT P t zs = .agg zs.toArray := fun zs => by unfold ofT; rw [hu]
        split at h1
        · cases h1
        · rename_i hz
          cases h1
          rw [ex, ex, run_equalIn_array D t m e k1.length _ _ hu (kinds_sz hk1)]
          exact eqElems_run hk1 hz (fun xs ys b hb => ih D e k1 hk1 (by omega) xs ys b hb) _ _ m 0 b (by simpa using hb)
    · cases h

end
end Go.Gx

/-
  What only computes, operation by operation.
-/
namespace Go.Gx

section
variable {P : Program} {r : Rho} {w : World} {ev ev' : Operand → Value} {S S1 : AS} {fr : Nat} {v : Value}

/-- the model's operation gives a value related to v, and leaves the world -/
def Gives (P : Program) (r : Rho) (w : World) (s : Sem Next) (v : Value) : Prop := ∃ v', s.run P w = .ok (.value v') w ∧ VR P r v v'

theorem Gives.of {s : Sem Value} {v v' : Value} (h : s.run P w = .ok v' w) (hv : VR P r v v') : Gives P r w (do let a ← s; pure (Next.value a)) v :=
  ⟨v', ex_v h, hv⟩

theorem ofOpt_ret {α : Type} {o : Option α} {a : α} (h : T.ofOption o = .ret a) : o = some a := by
  cases o <;> simp [T.ofOption] at h; rw [h]
theorem val_ret {o : Option Value} (h : T.ofOption (o.map fun v => (v, S)) = .ret (v, S1)) : S1 = S ∧ o = some v := by
  have := ofOpt_ret h
  cases o with
  | none => cases this
  | some u => simp at this; obtain ⟨rfl, rfl⟩ := this; exact ⟨rfl, rfl⟩

theorem ceq_VR {k : K} {x y x' y' : Value} {b : Bool} (h : ceq k x y = some b) (hx : VR P r x x') (hy : VR P r y y') : x' = x ∧ y' = y := by
  cases k <;> cases x <;> cases y <;> simp [ceq] at h
  · exact ⟨hx.int_inv, hy.int_inv⟩
  · exact ⟨hx.str_inv, hy.str_inv⟩
  · exact ⟨hx.bool_inv, hy.bool_inv⟩

theorem cseq_LR : ∀ {ks : List K} {xs ys xs' ys' : List Value} {b : Bool}, cseq ks xs ys = some b → LR P r xs xs' → LR P r ys ys' → xs' = xs ∧ ys' = ys
  | [], [], [], xs', ys', _, _, hx, hy => ⟨hx.nil_inv, hy.nil_inv⟩
  | k :: ks, x :: xs, y :: ys, xs', ys', b, h, hx, hy => by
    unfold cseq at h
    split at h
    · rename_i a c h1 h2
      obtain ⟨x', l', rfl, hx1, hx2⟩ := hx.cons_inv
      obtain ⟨y', m', rfl, hy1, hy2⟩ := hy.cons_inv
      obtain ⟨e1, e2⟩ := ceq_VR h1 hx1 hy1
      obtain ⟨e3, e4⟩ := cseq_LR h2 hx2 hy2
      rw [e1, e2, e3, e4]; exact ⟨rfl, rfl⟩
    · cases h
  | [], _ :: _, _, _, _, _, h, _, _ => by simp [cseq] at h
  | [], [], _ :: _, _, _, _, h, _, _ => by simp [cseq] at h
  | _ :: _, [], _, _, _, _, h, _, _ => by simp [cseq] at h
  | _ :: _, _ :: _, [], _, _, _, h, _, _ => by simp [cseq] at h

theorem veq_VR {ks : List K} {agg : Bool} {x y x' y' : Value} {b : Bool} (h : veq ks agg x y = some b) (hx : VR P r x x') (hy : VR P r y y') : x' = x ∧ y' = y := by
  unfold veq at h
  split at h
  · rename_i xs ys
    obtain ⟨a, rfl, ha⟩ := hx.agg_inv
    obtain ⟨c, rfl, hc⟩ := hy.agg_inv
    obtain ⟨e1, e2⟩ := cseq_LR h ha hc
    exact ⟨by rw [Array.ext' e1], by rw [Array.ext' e2]⟩
  · cases h
  · obtain ⟨e1, e2⟩ := cseq_LR h (LR.cons hx .nil) (LR.cons hy .nil)
    simp at e1 e2; exact ⟨e1, e2⟩

theorem binV_VR {op : BinOp} {x y x' y' u : Value} (h : binV op x y = some u) (hx : VR P r x x') (hy : VR P r y y') : x' = x ∧ y' = y ∧ VR P r u u := by
  unfold binV at h
  split at h
  · rw [hx.int_inv, hy.int_inv]
    refine ⟨rfl, rfl, ?_⟩
    split at h
    · unfold shBin at h; split at h
      · cases h
      · split at h <;> cases h <;> exact .int _ _
    · split at h
      · unfold intBin at h
        split at h <;> first
          | (cases h; first | exact .int _ _ | exact .bool _)
          | (split at h <;> cases h; exact .int _ _)
          | (cases h; done)
      · cases h
  · rw [hx.str_inv, hy.str_inv]
    refine ⟨rfl, rfl, ?_⟩
    unfold strBin at h
    split at h <;> first
      | (cases h; exact .bool _)
      | (split at h <;> cases h; exact .str _)
      | cases h
  · cases h

theorem unV_VR {op : UnOp} {x x' u : Value} (h : unV op x = some u) (hx : VR P r x x') : x' = x ∧ VR P r u u := by
  unfold unV at h
  split at h
  · rw [hx.int_inv]; cases h; exact ⟨rfl, .int _ _⟩
  · rw [hx.int_inv]; cases h; exact ⟨rfl, .int _ _⟩
  · rw [hx.bool_inv]; cases h; exact ⟨rfl, .bool _⟩
  · cases h

theorem isNil_VR {nk : NK} {x x' : Value} {b : Bool} (h : isNil nk x = some b) (hx : VR P r x x') : isNil nk x' = some b := by
  unfold isNil at h
  split at h
  · rename_i a
    cases a with
    | none => rw [hx.ptrNil_inv]; simpa [isNil] using h
    | some a => obtain ⟨a', rfl⟩ := hx.pointer_inv; simpa [isNil] using h
  · rename_i a n c
    cases a with
    | none => rw [hx.sliceNil_inv.1]; simpa [isNil] using h
    | some a => cases hx <;> simpa [isNil] using h
  · rename_i m
    cases m with
    | none => rw [hx.mapNil_inv]; simpa [isNil] using h
    | some m => obtain ⟨L, _, _, rfl⟩ := hx.map_inv; simpa [isNil] using h
  · rw [hx.nilFunc_inv]; simpa [isNil] using h
  · cases hx <;> simpa [isNil] using h
  · rw [hx.nilIface_inv]; simpa [isNil] using h
  · obtain ⟨u, rfl, _⟩ := hx.iface_inv; simpa [isNil] using h
  · cases h

theorem bndV_VR {x x' : Value} {y l : Nat} (h : bndV x y = some l) (hx : VR P r x x') : x' = x := by
  unfold bndV at h
  split at h
  · exact hx.int_inv
  · cases h

theorem bndV_run {x : Value} {y l : Nat} (h : bndV x y = some l) {y' : Nat} (hy : y ≤ y') (c : BoundsCode) : (Instr.sliceBound x y' c).run P w = .ok l w := by
  unfold bndV at h
  split at h
  · split at h
    · rename_i hb; cases h
      simp only [Instr.sliceBound, asIntOf, Sem.run_bind, Sem.run_pure, Result.andThen_ok, Sem.run_ite]
      rw [if_pos ⟨hb.1, by omega⟩]
    · cases h
  · cases h

/-- the three bounds of a slice expression -/
theorem bnds_run {isSl : Bool} {len cap cap' l h' m : Nat} {lo hi mx : Option Operand} (h : bndsV len cap (lo.map ev) (hi.map ev) (mx.map ev) = some (l, h', m))
    (hv : ∀ x, (lo = some x ∨ hi = some x ∨ mx = some x) → VR P r (ev x) (ev' x)) (hc : cap ≤ cap') (hl : len ≤ cap) :
    ∃ m', (Instr.sliceBounds isSl len cap' (lo.map ev') (hi.map ev') (mx.map ev')).run P w = .ok (l, h', m') w ∧ (mx = none → m = cap ∧ m' = cap') ∧ (mx ≠ none → m' = m) ∧ l ≤ h' ∧ h' ≤ m ∧ m ≤ cap := by
  unfold bndsV at h
  simp only [Option.bind_eq_some_iff] at h
  obtain ⟨m0, h1, h0, h2, l0, h3, h4⟩ := h
  simp only [Option.some.injEq, Prod.mk.injEq] at h4
  obtain ⟨rfl, rfl, rfl⟩ := h4
  have le : ∀ {x : Value} {y k : Nat}, bndV x y = some k → k ≤ y := by
    intro x y k hb; unfold bndV at hb; split at hb
    · split at hb
      · cases hb; omega
      · cases hb
    · cases hb
  cases mx with
  | none =>
    simp only [Option.map_none, Option.some.injEq] at h1; subst h1
    simp only [Option.map_none, Option.isSome_none, Bool.false_eq_true, if_false] at h2
    refine ⟨cap', ?_, fun _ => ⟨rfl, rfl⟩, fun e => absurd rfl e, ?_, ?_, Nat.le_refl _⟩
    · cases hi with
      | none =>
        simp only [Option.map_none, Option.some.injEq] at h2; subst h2
        cases lo with
        | none =>
          simp only [Option.map_none, Option.some.injEq] at h3; subst h3
          simp [Instr.sliceBounds]
        | some x =>
          simp only [Option.map_some] at h3
          have := bndV_VR h3 (hv x (.inl rfl))
          simp [Instr.sliceBounds, this, bndV_run h3 (Nat.le_refl _)]
      | some y =>
        simp only [Option.map_some] at h2
        have ey := bndV_VR h2 (hv y (.inr (.inl rfl)))
        cases lo with
        | none =>
          simp only [Option.map_none, Option.some.injEq] at h3; subst h3
          simp [Instr.sliceBounds, ey, bndV_run h2 hc]
        | some x =>
          simp only [Option.map_some] at h3
          have := bndV_VR h3 (hv x (.inl rfl))
          simp [Instr.sliceBounds, ey, this, bndV_run h2 hc, bndV_run h3 (Nat.le_refl _)]
    · cases lo with
      | none => simp only [Option.map_none, Option.some.injEq] at h3; omega
      | some x => exact le (by simpa using h3)
    · cases hi with
      | none => simp only [Option.map_none, Option.some.injEq] at h2; omega
      | some x => exact le (by simpa using h2)
  | some z =>
    simp only [Option.map_some] at h1
    have ez := bndV_VR h1 (hv z (.inr (.inr rfl)))
    have hm := le h1
    cases hi with
    | none => simp at h2
    | some y =>
      simp only [Option.map_some] at h2
      have ey := bndV_VR h2 (hv y (.inr (.inl rfl)))
      have hh := le h2
      refine ⟨m0, ?_, (fun e => by cases e), (fun _ => rfl), ?_, hh, hm⟩
      · cases lo with
        | none =>
          simp only [Option.map_none, Option.some.injEq] at h3; subst h3
          simp [Instr.sliceBounds, ez, ey, bndV_run h1 hc, bndV_run h2 (Nat.le_refl _)]
        | some x =>
          simp only [Option.map_some] at h3
          have := bndV_VR h3 (hv x (.inl rfl))
          simp [Instr.sliceBounds, ez, ey, this, bndV_run h1 hc, bndV_run h2 (Nat.le_refl _), bndV_run h3 (Nat.le_refl _)]
      · cases lo with
        | none => simp only [Option.map_none, Option.some.injEq] at h3; omega
        | some x => exact le (by simpa using h3)

theorem CapR.le {L : Loc} {o cap cap' : Nat} (h : CapR P L o cap cap') : cap ≤ cap' := by
  rcases h with h | h
  · omega
  · exact h.2.2.1.1

end
end Go.Gx

/-
  Aggregates that are built out of parts.
-/
namespace Go.Gx

theorem splice_len (cells : List Value) (off : Nat) (vs : List Value) (h : off + vs.length ≤ cells.length) : (splice cells off vs).length = cells.length := by
  simp [splice]; omega

theorem splice_nil (cells : List Value) (off : Nat) : splice cells off [] = cells := by simp [splice]

theorem splice_cons (cells : List Value) (off : Nat) (v : Value) (vs : List Value) (h : off + (v :: vs).length ≤ cells.length) :
    splice (cells.set off v) (off + 1) vs = splice cells off (v :: vs) := by
  simp only [List.length_cons] at h
  have hl : (cells.take off).length = off := by simp; omega
  have e1 : (cells.set off v).take (off + 1) = cells.take off ++ [v] := by
    rw [List.set_eq_take_append_cons_drop, if_pos (by omega), List.take_append, hl]
    rw [List.take_of_length_le (by omega)]
    have : off + 1 - off = 1 := by omega
    rw [this]; rfl
  have e2 : (cells.set off v).drop (off + 1 + vs.length) = cells.drop (off + (vs.length + 1)) := by
    rw [List.drop_set_of_lt (by omega)]
    congr 1; omega
  unfold splice
  rw [e1, e2]
  simp

theorem foldl_splice : ∀ (vs : List Value) (k off : Nat) (cells : Array Value), off + k + vs.length ≤ cells.size →
    ((vs.zipIdx k).foldl (fun (cs : Array Value) (x : Value × Nat) => cs.setIfInBounds (off + x.2) x.1) cells).toList = splice cells.toList (off + k) vs
  | [], k, off, cells, _ => by simp [splice_nil]
  | v :: vs, k, off, cells, h => by
    simp only [List.length_cons] at h
    simp only [List.zipIdx_cons, List.foldl_cons]
    rw [foldl_splice vs (k + 1) off _ (by simp; omega)]
    simp only [Array.toList_setIfInBounds]
    rw [show off + (k + 1) = off + k + 1 from by omega]
    exact splice_cons _ _ _ _ (by simp; omega)

section
variable {P : Program} {r : Rho} {w : World} {ev ev' : Operand → Value} {S S1 : AS} {fr : Nat} {v : Value}

theorem LR.splice {a a' b b' : List Value} (h : LR P r a a') (k : LR P r b b') (off : Nat) : LR P r (Gx.splice a off b) (Gx.splice a' off b') := by
  unfold Gx.splice
  rw [← k.1]
  exact ((h.take off).append k).append (h.drop _)

/-- the parts of the model: an index and a value each -/
theorem fill_spec (place : Nat → Option (Nat × Nat)) : ∀ (parts : List (Nat × Value)) (ps : List (Nat × List Value)) (cells : Array Value) (out : List Value),
    parts.length = ps.length →
    (∀ (j : Nat) (i : Nat) (v : Value) (off : Nat) (us : List Value), parts[j]? = some (i, v) → ps[j]? = some (off, us) → place i = some (off, us.length) ∧ cellsL v = us) →
    placeIn cells.toList ps = some out → (Instr.fill place cells parts).map Array.toList = some out
  | [], [], cells, out, _, _, h => by simp [placeIn] at h; simp [Instr.fill, h]
  | (i, v) :: parts, (off, us) :: ps, cells, out, hl, hp, h => by
    obtain ⟨h1, h2⟩ := hp 0 i v off us rfl rfl
    unfold placeIn at h
    split at h
    · rename_i hle
      simp only [Instr.fill, h1]
      have hs : v.cells.size = us.length := by rw [← h2]; simp [cellsL]
      simp only [Array.length_toList] at hle
      rw [if_neg (by simp [hs]; omega)]
      refine fill_spec place parts ps _ out (by simpa using hl) (fun j i v off us a b => hp (j + 1) i v off us (by simpa using a) (by simpa using b)) ?_
      rw [← Array.foldl_toList]
      have := foldl_splice us 0 off cells (by simpa using hle)
      simp only [Nat.add_zero] at this
      rw [← h] 
      congr 1
      rw [← this, ← h2]
      simp [cellsL]
    · cases h
  | [], _ :: _, _, _, hl, _, _ => by simp at hl
  | _ :: _, [], _, _, hl, _, _ => by simp at hl

/-- the parts of the abstract operation -/
theorem partsOf_spec : ∀ {parts : List (Nat × Nat × Operand)} {ps : List (Nat × List Value)}, partsOf ev parts = some ps →
    parts.length = ps.length ∧ ∀ (j : Nat) (off n : Nat) (x : Operand), parts[j]? = some (off, n, x) → ps[j]? = some (off, cellsL (ev x)) ∧ (cellsL (ev x)).length = n ∧ notT (ev x) = true
  | [], ps, h => by simp [partsOf] at h; subst h; simp
  | (off, n, x) :: rest, ps, h => by
    unfold partsOf at h
    simp only at h
    split at h
    · rename_i hn
      cases e : partsOf ev rest with
      | none => rw [e] at h; cases h
      | some qs =>
        rw [e] at h; simp at h; subst h
        obtain ⟨h1, h2⟩ := partsOf_spec e
        refine ⟨by simp [h1], fun j o m y hj => ?_⟩
        cases j with
        | zero => simp at hj; obtain ⟨rfl, rfl, rfl⟩ := hj; exact ⟨rfl, hn.2, hn.1⟩
        | succ j => simp at hj; simpa using h2 j o m y hj
    · cases h

/-- related parts give related cells -/
theorem placeIn_LR : ∀ {ps ps' : List (Nat × List Value)} {cells cells' out : List Value}, placeIn cells ps = some out → LR P r cells cells' → ps.length = ps'.length →
    (∀ (j : Nat) (a a' : Nat × List Value), ps[j]? = some a → ps'[j]? = some a' → a.1 = a'.1 ∧ LR P r a.2 a'.2) → ∃ out', placeIn cells' ps' = some out' ∧ LR P r out out'
  | [], [], cells, cells', out, h, hc, _, _ => by simp [placeIn] at h; subst h; exact ⟨cells', rfl, hc⟩
  | (off, us) :: ps, (off', us') :: ps', cells, cells', out, h, hc, hl, hp => by
    obtain ⟨e, hu⟩ := hp 0 _ _ rfl rfl
    simp only at e hu
    subst e
    unfold placeIn at h ⊢
    split at h
    · rename_i hle
      rw [if_pos (by rw [← hu.1, ← hc.1]; exact hle)]
      exact placeIn_LR h (hc.splice hu off) (by simpa using hl) (fun j a a' x y => hp (j + 1) a a' (by simpa using x) (by simpa using y))
    · cases h
  | [], _ :: _, _, _, _, _, _, hl, _ => by simp at hl
  | _ :: _, [], _, _, _, _, _, hl, _ => by simp at hl

/-- what the two sides build out of the same parts -/
theorem build_both {parts : List (Nat × Operand)} {qs : List (Nat × Nat × Operand)} {place : Nat → Option (Nat × Nat)} {zero : List Value} {ps : List (Nat × List Value)} {cs : List Value}
    (hq : parts.length = qs.length) (hq2 : ∀ (j : Nat) (i : Nat) (x : Operand), parts[j]? = some (i, x) → ∃ off n, qs[j]? = some (off, n, x) ∧ place i = some (off, n))
    (hp : partsOf ev qs = some ps) (hc : placeIn zero ps = some cs) (hz : LR P r zero zero)
    (hv : ∀ i x, (i, x) ∈ parts → VR P r (ev x) (ev' x)) :
    ∃ cs' : Array Value, Instr.fill place zero.toArray (parts.map fun (i, x) => (i, ev' x)) = some cs' ∧ LR P r cs cs'.toList := by
  obtain ⟨h1, h2⟩ := partsOf_spec hp
  -- the parts of the other side
  have key : ∀ (j : Nat) (i : Nat) (x : Operand), parts[j]? = some (i, x) → ∃ off, ps[j]? = some (off, cellsL (ev x)) ∧ place i = some (off, (cellsL (ev x)).length) ∧ LR P r (cellsL (ev x)) (cellsL (ev' x)) := by
    intro j i x hj
    obtain ⟨off, n, ha, hb⟩ := hq2 j i x hj
    obtain ⟨hc1, hc2, hc3⟩ := h2 j off n x ha
    have hm := List.mem_of_getElem? hj
    exact ⟨off, hc1, by rw [hb, hc2], (hv i x hm).cells⟩
  let ps' : List (Nat × List Value) := (parts.zip ps).map fun (a, b) => (b.1, cellsL (ev' a.2))
  have hlen : ps'.length = parts.length := by simp [ps']; omega
  have hps' : ∀ (j : Nat) (i : Nat) (x : Operand) (off : Nat) (us : List Value), parts[j]? = some (i, x) → ps[j]? = some (off, us) → ps'[j]? = some (off, cellsL (ev' x)) := by
    intro j i x off us a b
    simp only [ps', List.getElem?_map, List.getElem?_zip_eq_some, List.zip]
    rw [List.getElem?_zipWith, a, b]
    rfl
  obtain ⟨out', ho, hlr⟩ := placeIn_LR (ps' := ps') hc hz (by omega) (fun j a a' x y => by
    have hj : j < parts.length := by
      have := (List.getElem?_eq_some_iff.1 y).1; omega
    obtain ⟨⟨i, o⟩, hpj'⟩ : ∃ q, parts[j]? = some q := ⟨parts[j], List.getElem?_eq_getElem hj⟩
    obtain ⟨off, k1, k2, k3⟩ := key j i o hpj'
    rw [k1] at x; cases x
    rw [hps' j i o off _ hpj' k1] at y; cases y
    exact ⟨rfl, k3⟩)
  have hf := fill_spec place (parts.map fun (i, x) => (i, ev' x)) ps' zero.toArray out' (by simp [hlen]) (fun j i v off us a b => by
    simp only [List.getElem?_map, Option.map_eq_some_iff] at a
    obtain ⟨⟨i', x⟩, ha, hb⟩ := a
    simp only [Prod.mk.injEq] at hb
    obtain ⟨rfl, rfl⟩ := hb
    obtain ⟨off', k1, k2, k3⟩ := key j i' x ha
    rw [hps' j i' x off' _ ha k1] at b; cases b
    exact ⟨by rw [k2, k3.1], rfl⟩) (by simpa using ho)
  cases e : Instr.fill place zero.toArray (parts.map fun (i, x) => (i, ev' x)) with
  | none => rw [e] at hf; cases hf
  | some cs' => rw [e] at hf; simp at hf; exact ⟨cs', rfl, by rw [hf]; exact hlr⟩

/-- as many zero cells as are asked for -/
theorem repCells_len (z : List Value) : ∀ n, (repCells z n).length = n * z.length
  | 0 => by simp [repCells]
  | n + 1 => by simp [repCells, repCells_len z n, Nat.add_mul]; omega
theorem repCells_get (z : List Value) : ∀ (n i : Nat), i < n * z.length → (repCells z n)[i]? = z[i % z.length]?
  | 0, i, h => by simp at h
  | n + 1, i, h => by
    simp only [repCells]
    by_cases hi : i < z.length
    · rw [List.getElem?_append_left hi, Nat.mod_eq_of_lt hi]
    · rw [List.getElem?_append_right (by omega), repCells_get z n _ (by rw [Nat.add_mul] at h; omega)]
      congr 1
      have : i = (i - z.length) + z.length := by omega
      conv => rhs; rw [this]
      rw [Nat.add_mod_right]
theorem rangeCells (z : List Value) (n : Nat) : ((Array.range (n * z.length)).map (fun i => z.toArray[i % z.toArray.size]!)).toList = repCells z n := by
  apply List.ext_getElem?
  intro i
  by_cases hi : i < n * z.length
  · rw [repCells_get z n i hi]
    simp [hi]
    have hz : 0 < z.length := by
      rcases Nat.eq_zero_or_pos z.length with h | h
      · rw [h] at hi; simp at hi
      · exact h
    have := Nat.mod_lt i hz
    simp [this]
  · rw [List.getElem?_eq_none (by simp; omega), List.getElem?_eq_none (by rw [repCells_len]; omega)]
theorem LR.rep {z : List Value} (h : LR P r z z) : ∀ n, LR P r (repCells z n) (repCells z n)
  | 0 => .nil
  | n + 1 => h.append (LR.rep h n)
end
end Go.Gx

/-
  What only computes: the whole.
-/
namespace Go.Gx

section
variable {P : Program} {r : Rho} {w : World} {ev ev' : Operand → Value} {S S1 : AS} {fr : Nat} {v : Value}

theorem eqc_run {op : BinOp} {neg : Bool} (ho : isEqOp op = some neg) {t : TypeId} {ks : List K} {agg : Bool} (hk : keyOf P t = some (ks, agg))
    (ht : ∀ k, P.underlying t ≠ some (.int k)) (ht' : P.underlying t ≠ some .string) {x y : Operand} {a b : Value} {c : Bool} (h : veq ks agg a b = some c) :
    (do eqGuard op t x y a b; Go.binOp op t a b : Sem Value).run P w = .ok (.bool (c != neg)) w := by
  have eqrun : (Op.equal t a b).run P w = .ok c w ∧ (eqGuard op t x y a b).run P w = .ok () w ∧ ((∃ p q, a = .bool p ∧ b = .bool q) ∨ (∃ p q, a = .agg p ∧ b = .agg q)) := by
    unfold keyOf at hk
    split at hk
    · rename_i hu; cases hk
      unfold veq at h
      simp only at h
      match a, b, h with
      | .bool p, .bool q, h =>
        simp [cseq, ceq] at h; subst h
        refine ⟨run_equalIn_bool' w _ t p q hu, eqGuard_other (by simp) (by simp), .inl ⟨p, q, rfl, rfl⟩⟩
      | .int .., b, h | .string .., b, h | .float .., b, h | .complex .., b, h | .pointer .., b, h | .slice .., b, h | .map .., b, h | .chan .., b, h | .func .., b, h | .nilFunc, b, h | .iface .., b, h | .nilIface, b, h | .agg .., b, h | .tuple .., b, h => simp [cseq, ceq] at h
      | .bool p, .int .., h | .bool p, .string .., h | .bool p, .float .., h | .bool p, .complex .., h | .bool p, .pointer .., h | .bool p, .slice .., h | .bool p, .map .., h | .bool p, .chan .., h | .bool p, .func .., h | .bool p, .nilFunc, h | .bool p, .iface .., h | .bool p, .nilIface, h | .bool p, .agg .., h | .bool p, .tuple .., h => simp [cseq, ceq] at h
    · rename_i k hu; exact absurd hu (ht k)
    · rename_i hu; exact absurd hu ht'
    all_goals first
      | (cases hk; done)
      | (rename_i hu
         split at hk
         · cases hk
         · rename_i hg
           cases e : kindsOf P 9 t with
           | none => rw [e] at hk; cases hk
           | some ks' =>
             rw [e] at hk; cases hk
             unfold veq at h
             split at h
             · rename_i p q _
               have ex : ∀ zs : Array Value, Value.agg zs = ofT P t zs.toList := fun zs => by unfold ofT; rw [hu]
               refine ⟨?_, run_eqGuard_agg w op t x y p q (by simpa using hg), .inr ⟨p, q, rfl, rfl⟩⟩
               rw [ex, ex]
               exact equalIn_kinds 9 Op.maxDepth t ks e (by decide) _ _ _ h
             · cases h
             · rename_i hf; cases hf)
  obtain ⟨h1, h2, h3⟩ := eqrun
  simp only [Sem.run_bind, h2, Result.andThen_ok]
  cases op <;> simp [isEqOp] at ho <;> subst ho
  all_goals
    rcases h3 with ⟨p, q, rfl, rfl⟩ | ⟨p, q, rfl, rfl⟩ <;> simp [Go.binOp, h1]

theorem equalIn_nil (d : Nat) {t : TypeId} {nk : NK}
    (hu : match nk with
      | .ptr => ∃ e, P.underlying t = some (.pointer e)
      | .slice => ∃ e, P.underlying t = some (.slice e)
      | .map => ∃ k e, P.underlying t = some (.map k e)
      | .func => ∃ a b c, P.underlying t = some (.func a b c)
      | .iface => ∃ ms, P.underlying t = some (.interface ms))
    {a b : Value} {p q : Bool} (ha : isNil nk a = some p) (hb : isNil nk b = some q) (hpq : (p || q) = true) : (Op.equalIn (d + 1) t a b).run P w = .ok (p && q) w := by
  cases nk
  · obtain ⟨e, hu⟩ := hu
    cases a <;> simp [isNil] at ha
    cases b <;> simp [isNil] at hb
    subst ha hb
    rename_i m n
    cases m <;> cases n <;> first
      | (simp at hpq; done)
      | simp [Op.equalIn, run_und hu]
  · obtain ⟨e, hu⟩ := hu
    cases a <;> simp [isNil] at ha
    cases b <;> simp [isNil] at hb
    subst ha hb
    rename_i m _ _ n _ _
    cases m <;> cases n <;> first
      | (simp at hpq; done)
      | simp [Op.equalIn, run_und hu]
  · obtain ⟨k, e, hu⟩ := hu
    cases a <;> simp [isNil] at ha
    cases b <;> simp [isNil] at hb
    subst ha hb
    rename_i m n
    cases m <;> cases n <;> first
      | (simp at hpq; done)
      | simp [Op.equalIn, run_und hu]
  · obtain ⟨x, y, z, hu⟩ := hu
    cases a <;> simp [isNil] at ha <;> cases b <;> simp [isNil] at hb <;> subst ha hb <;> first
      | (simp at hpq; done)
      | simp [Op.equalIn, run_und hu]
  · obtain ⟨ms, hu⟩ := hu
    cases a <;> simp [isNil] at ha <;> cases b <;> simp [isNil] at hb <;> subst ha hb <;> first
      | (simp at hpq; done)
      | simp [Op.equalIn, run_und hu]

theorem eqn_run {op : BinOp} {neg : Bool} (ho : isEqOp op = some neg) {t : TypeId} {nk : NK} {x y : Operand} (hc : (isC x || isC y) = true)
    (hu : match nk with
      | .ptr => ∃ e, P.underlying t = some (.pointer e)
      | .slice => ∃ e, P.underlying t = some (.slice e)
      | .map => ∃ k e, P.underlying t = some (.map k e)
      | .func => ∃ a b c, P.underlying t = some (.func a b c)
      | .iface => ∃ ms, P.underlying t = some (.interface ms))
    {a b : Value} {p q : Bool} (ha : isNil nk a = some p) (hb : isNil nk b = some q) (hpq : (p || q) = true) :
    (do eqGuard op t x y a b; Go.binOp op t a b : Sem Value).run P w = .ok (.bool ((p && q) != neg)) w := by
  have h1 : (Op.equal t a b).run P w = .ok (p && q) w := equalIn_nil 9999 hu ha hb hpq
  have h2 : (eqGuard op t x y a b).run P w = .ok () w := by
    cases a <;> cases b <;> first
      | (refine eqGuard_other ?_ ?_ <;> (simp; done))
      | (exfalso; cases nk <;> cases ha <;> done)
      | skip
    unfold eqGuard
    cases op <;> first
      | rfl
      | (unfold isC at hc
         cases x <;> cases y <;> first
          | rfl
          | (simp at hc; done))
  simp only [Sem.run_bind, h2, Result.andThen_ok]
  cases op <;> simp [isEqOp] at ho <;> subst ho
  all_goals
    cases nk <;> cases a <;> simp [isNil] at ha <;> cases b <;> simp [isNil] at hb <;> simp [Go.binOp, h1]

end
end Go.Gx

/-
  What only computes: every operation of its kind.
-/
namespace Go.Gx

section
variable {P : Program} {r : Rho} {w : World} {ev ev' : Operand → Value} {S S1 : AS} {fr : Nat} {v : Value}

theorem mapLR : ∀ (l : List Operand), (∀ x ∈ l, VR P r (ev x) (ev' x)) → LR P r (l.map ev) (l.map ev')
  | [], _ => .nil
  | x :: l, h => LR.cons (h x (by simp)) (mapLR l fun y hy => h y (by simp [hy]))

theorem t_ret {α : Type} {a b : α} (h : (T.ret a : T α) = .ret b) : a = b := by cases h; rfl

theorem foldV_run {f : Value → Value → Option Value} {g : Value → Value → Sem Value} (hfg : ∀ a b c, f a b = some c → ∀ a' b', VR P r a a' → VR P r b b' → (g a' b').run P w = .ok c w ∧ VR P r c c) :
    ∀ (l l' : List Value) (x x' u : Value), l.foldlM f x = some u → LR P r l l' → VR P r x x' → ∃ u', (l'.foldlM g x').run P w = .ok u' w ∧ VR P r u u'
  | [], l', x, x', u, h, hl, hx => by
    simp at h; subst h
    rw [hl.nil_inv]
    exact ⟨x', by simp, hx⟩
  | a :: l, l', x, x', u, h, hl, hx => by
    obtain ⟨a', m, rfl, ha, hm⟩ := hl.cons_inv
    simp only [List.foldlM_cons, Option.bind_eq_bind, Option.bind_eq_some_iff] at h
    obtain ⟨c, h1, h2⟩ := h
    obtain ⟨e1, e2⟩ := hfg x a c h1 x' a' hx ha
    obtain ⟨u', h3, h4⟩ := foldV_run hfg l m c c u h2 hm e2
    exact ⟨u', by simp only [List.foldlM_cons, Sem.run_bind, e1, Result.andThen_ok]; exact h3, h4⟩

theorem max2_run (a b c : Value) (h : max2V a b = some c) (a' b' : Value) (ha : VR P r a a') (hb : VR P r b b') : (Builtin.max2 a' b').run P w = .ok c w ∧ VR P r c c := by
  unfold max2V at h
  split at h
  · split at h
    · rename_i hk; subst hk; cases h
      rw [ha.int_inv, hb.int_inv]
      exact ⟨by simp [Builtin.max2], .int _ _⟩
    · cases h
  · cases h
theorem min2_run (a b c : Value) (h : min2V a b = some c) (a' b' : Value) (ha : VR P r a a') (hb : VR P r b b') : (Builtin.min2 a' b').run P w = .ok c w ∧ VR P r c c := by
  unfold min2V at h
  split at h
  · split at h
    · rename_i hk; subst hk; cases h
      rw [ha.int_inv, hb.int_inv]
      exact ⟨by simp [Builtin.min2], .int _ _⟩
    · cases h
  · cases h

theorem extract_run {us : Array Value} {i : Nat} {u : Value} (h : us.toList[i]? = some u) : (Instr.extract (.tuple us) i).run P w = .ok u w := by
  have : us[i]? = some u := by simpa using h
  simp [Instr.extract, this]

theorem fieldParts_spec {fs : Array Field} : ∀ {parts : List (Nat × Operand)} {qs : List (Nat × Nat × Operand)}, fieldParts P fs parts = some qs →
    parts.length = qs.length ∧ ∀ (j : Nat) (i : Nat) (x : Operand), parts[j]? = some (i, x) → ∃ f n, fs[i]? = some f ∧ szOf P f.type = some n ∧ qs[j]? = some (f.offset, n, x)
  | [], qs, h => by simp [fieldParts] at h; subst h; simp
  | (i, x) :: rest, qs, h => by
    unfold fieldParts at h
    split at h
    · rename_i f hf
      split at h
      · rename_i n hn
        cases e : fieldParts P fs rest with
        | none => rw [e] at h; cases h
        | some qs' =>
          rw [e] at h; simp at h; subst h
          obtain ⟨h1, h2⟩ := fieldParts_spec e
          refine ⟨by simp [h1], fun j i' x' hj => ?_⟩
          cases j with
          | zero => simp at hj; obtain ⟨rfl, rfl⟩ := hj; exact ⟨f, n, hf, hn, rfl⟩
          | succ j => simp at hj; simpa using h2 j i' x' hj
      · cases h
    · cases h

theorem mapM_places : ∀ (fs : List Field), fs.all (fun f => (szOf P f.type).isSome) = true →
    ∃ l : List (Nat × Nat), (fs.mapM (fun f => do let n ← sizeOf f.type; pure (f.offset, n) : Field → Sem (Nat × Nat))).run P w = .ok l w ∧ l.length = fs.length ∧
      ∀ (i : Nat) (f : Field) (n : Nat), fs[i]? = some f → szOf P f.type = some n → l[i]? = some (f.offset, n)
  | [], _ => ⟨[], by simp, rfl, by simp⟩
  | f :: fs, h => by
    simp only [List.all_cons, Bool.and_eq_true] at h
    obtain ⟨n, hn⟩ := Option.isSome_iff_exists.1 h.1
    obtain ⟨l, h1, h2, h3⟩ := mapM_places fs h.2
    refine ⟨(f.offset, n) :: l, ?_, by simp [h2], fun i f' n' hi hs => ?_⟩
    · simp only [List.mapM_cons, Sem.run_bind, run_sz hn, h1, Result.andThen_ok, Sem.run_pure]
    · cases i with
      | zero => simp at hi; subst hi; rw [hn] at hs; cases hs; rfl
      | succ i => simp at hi; simpa using h3 i f' n' hi hs

theorem build_run {t : TypeId} {parts : List (Nat × Operand)} {z : List Value} {qs : List (Nat × Nat × Operand)} (hc : compBuild P t parts = some (.build z qs)) {ps : List (Nat × List Value)} {cs : List Value}
    (hp : partsOf ev qs = some ps) (hcs : placeIn z ps = some cs) (hv : ∀ i x, (i, x) ∈ parts → VR P r (ev x) (ev' x)) :
    ∃ cs' : Array Value, (Instr.build t ((parts.map fun (i, x) => (i, ev' x)).toArray)).run P w = .ok (.agg cs') w ∧ LR P r cs cs'.toList := by
  unfold compBuild at hc
  split at hc
  · rename_i fs z' hu hz
    split at hc
    · rename_i hall
      cases e : fieldParts P fs parts with
      | none => rw [e] at hc; cases hc
      | some qs' =>
        rw [e] at hc; simp at hc; obtain ⟨rfl, rfl⟩ := hc
        obtain ⟨h1, h2⟩ := fieldParts_spec e
        obtain ⟨zv, n, hzv, _, rfl, _, _⟩ := zeroCells_spec hz
        obtain ⟨l, k1, k2, k3⟩ := mapM_places (w := w) fs.toList hall
        obtain ⟨cs', f1, f2⟩ := build_both (place := (l.toArray[·]?)) h1 (fun j i x hj => by
          obtain ⟨f, n, a, b, c⟩ := h2 j i x hj
          exact ⟨f.offset, n, c, by simpa using k3 i f n (by simpa using a) b⟩) hp hcs (zeroCells_LR hz) hv
        refine ⟨cs', ?_, f2⟩
        have hm : (fs.mapM (fun f => do let n ← sizeOf f.type; pure (f.offset, n) : Field → Sem (Nat × Nat))).run P w = .ok l.toArray w := by
          rw [Array.mapM_eq_mapM_toList]
          simp only [Sem.run_map, k1, Result.andThen_ok]
        simp only [Instr.build, Sem.run_bind, run_zero hzv, Result.andThen_ok, run_und hu, hm]
        have : zv.cells = (cellsL zv).toArray := by simp [cellsL]
        rw [this]
        simp only [f1]
        simp
    · cases hc
  · rename_i m el z' hu hz
    cases e : szOf P el with
    | none => rw [e] at hc; cases hc
    | some n =>
      rw [e] at hc; simp at hc; obtain ⟨rfl, rfl⟩ := hc
      obtain ⟨zv, nz, hzv, _, rfl, _, _⟩ := zeroCells_spec hz
      obtain ⟨cs', f1, f2⟩ := build_both (place := fun i => some (i * n, n)) (by simp [elemParts]) (fun j i x hj => by
          exact ⟨i * n, n, by simp [elemParts, hj], rfl⟩) hp hcs (zeroCells_LR hz) hv
      refine ⟨cs', ?_, f2⟩
      simp only [Instr.build, Sem.run_bind, run_zero hzv, Result.andThen_ok, run_und hu, run_sz e]
      have : zv.cells = (cellsL zv).toArray := by simp [cellsL]
      rw [this]
      simp only [f1]
      simp
  · cases hc

/-- the abstract operation computes: so does the model's, and the two agree -/
theorem simP (o : Oper) {i : I} (hc : comp1 P o.op = some i) (hcls : i.cls = .pure) (hops : o.op.operands.toList.all okO = true)
    (hv : ∀ x, okO x = true → VR P r (ev x) (ev' x)) (he : i.eval ev fr S = .ret (v, S1)) : S1 = S ∧ Gives P r w (execOp ev' o) v := by
  obtain ⟨dst, op, type, pos, after, guard⟩ := o
  simp only at hc hops
  have hx : ∀ x, x ∈ op.operands.toList → VR P r (ev x) (ev' x) := fun x hm => hv x (List.all_eq_true.1 hops x hm)
  cases op with
  | move x =>
    simp only [comp1, Option.some.injEq] at hc; subst hc
    obtain ⟨rfl, rfl⟩ := Prod.mk.inj (t_ret he)
    exact ⟨rfl, ev' x, rfl, hx x (by simp [Op.operands])⟩
  | assign x =>
    simp only [comp1, Option.some.injEq] at hc; subst hc
    obtain ⟨rfl, rfl⟩ := Prod.mk.inj (t_ret he)
    exact ⟨rfl, ev' x, rfl, hx x (by simp [Op.operands])⟩
  | pick c a b =>
    simp only [comp1, Option.some.injEq] at hc; subst hc
    have hvc := hx c (by simp [Op.operands])
    have hva := hx a (by simp [Op.operands])
    have hvb := hx b (by simp [Op.operands])
    simp only [I.eval] at he
    split at he
    · rename_i t ht
      obtain ⟨rfl, rfl⟩ := Prod.mk.inj (t_ret he)
      rw [ht] at hvc
      refine ⟨rfl, if t then ev' a else ev' b, ?_, by cases t <;> simp [hva, hvb]⟩
      simp [execOp, hvc.bool_inv, asBool]
    · cases he
  | binOp bop t x y t2 =>
    have hvx := hx x (by simp [Op.operands])
    have hvy := hx y (by simp [Op.operands])
    simp only [comp1] at hc
    have fin : ∀ {u : Value}, (do eqGuard bop t x y (ev' x) (ev' y); Go.binOp bop t (ev' x) (ev' y) : Sem Value).run P w = .ok u w → VR P r v u → S1 = S → S1 = S ∧ Gives P r w (execOp ev' { dst, op := .binOp bop t x y t2, type, pos, after, guard }) v :=
      fun h1 h2 h3 => ⟨h3, Gives.of h1 h2⟩
    unfold compBin at hc
    have plain : i = .bin bop x y → S1 = S ∧ Gives P r w (execOp ev' { dst, op := .binOp bop t x y t2, type, pos, after, guard }) v := by
      rintro rfl
      simp only [I.eval] at he
      obtain ⟨h1, h2⟩ := val_ret he
      obtain ⟨e1, e2, e3⟩ := binV_VR h2 hvx hvy
      refine fin (u := v) ?_ e3 h1
      have hg : (eqGuard bop t x y (ev' x) (ev' y)).run P w = .ok () w := by
        rw [e1, e2]
        unfold binV at h2
        split at h2
        · rename_i a b; rw [a, b]; exact eqGuard_other (by simp) (by simp)
        · rename_i a b; rw [a, b]; exact eqGuard_other (by simp) (by simp)
        · cases h2
      rw [e1, e2] at hg ⊢
      simp only [Sem.run_bind, hg, Result.andThen_ok]
      exact binV_run h2 t
    have cmp : (∀ k, P.underlying t ≠ some (.int k)) → P.underlying t ≠ some .string → (match isEqOp bop, keyOf P t with | some neg, some (ks, agg) => some (I.eqc neg ks agg x y) | _, _ => none) = some i →
        S1 = S ∧ Gives P r w (execOp ev' { dst, op := .binOp bop t x y t2, type, pos, after, guard }) v := by
      intro hn1 hn2 hc
      split at hc
      · rename_i neg ks agg ho hk
        cases hc
        simp only [I.eval] at he
        obtain ⟨h1, h2⟩ := val_ret he
        cases e : veq ks agg (ev x) (ev y) with
        | none => rw [e] at h2; cases h2
        | some c =>
          rw [e] at h2; simp at h2; subst h2
          obtain ⟨e1, e2⟩ := veq_VR e hvx hvy
          refine fin (u := .bool (c != neg)) ?_ (.bool _) h1
          rw [e1, e2]
          exact eqc_run ho hk hn1 hn2 e
      · cases hc
    have nil : ∀ (nk : NK), (match nk with
      | .ptr => ∃ e, P.underlying t = some (.pointer e)
      | .slice => ∃ e, P.underlying t = some (.slice e)
      | .map => ∃ k e, P.underlying t = some (.map k e)
      | .func => ∃ a b c, P.underlying t = some (.func a b c)
      | .iface => ∃ ms, P.underlying t = some (.interface ms)) → ((isEqOp bop).bind fun neg => if isC x || isC y then some (I.eqn nk neg x y) else none) = some i →
        S1 = S ∧ Gives P r w (execOp ev' { dst, op := .binOp bop t x y t2, type, pos, after, guard }) v := by
      intro nk hu hc
      simp only [Option.bind_eq_some_iff] at hc
      obtain ⟨neg, ho, hc⟩ := hc
      split at hc
      · rename_i hcc
        cases hc
        simp only [I.eval] at he
        obtain ⟨h1, h2⟩ := val_ret he
        split at h2
        · rename_i p q hp hq
          split at h2
          · rename_i hpq
            cases h2
            exact fin (eqn_run ho hcc hu (isNil_VR hp hvx) (isNil_VR hq hvy) hpq) (.bool _) h1
          · cases h2
        · cases h2
      · cases hc
    split at hc
    · cases hc; exact plain rfl
    · cases hc; exact plain rfl
    · rename_i hu; exact cmp (by rw [hu]; simp) (by rw [hu]; simp) hc
    · rename_i hu; exact cmp (by rw [hu]; simp) (by rw [hu]; simp) hc
    · rename_i hu; exact cmp (by rw [hu]; simp) (by rw [hu]; simp) hc
    · rename_i hu; exact nil .ptr ⟨_, hu⟩ hc
    · rename_i hu; exact nil .slice ⟨_, hu⟩ hc
    · rename_i hu; exact nil .map ⟨_, _, hu⟩ hc
    · rename_i hu; exact nil .func ⟨_, _, _, hu⟩ hc
    · rename_i hu; exact nil .iface ⟨_, hu⟩ hc
    · cases hc
  | unOp uop t x =>
    simp only [comp1, Option.some.injEq] at hc; subst hc
    simp only [I.eval] at he
    obtain ⟨h1, h2⟩ := val_ret he
    obtain ⟨e1, e2⟩ := unV_VR h2 (hx x (by simp [Op.operands]))
    exact ⟨h1, Gives.of (by rw [e1]; exact unV_run h2) e2⟩
  | convert src dst' x =>
    simp only [comp1] at hc
    have hvx := hx x (by simp [Op.operands])
    unfold compConv at hc
    split at hc
    · rename_i j k hs hd
      cases hc
      simp only [I.eval] at he
      obtain ⟨h1, h2⟩ := val_ret he
      split at h2
      · rename_i q n hn
        cases h2
        rw [hn] at hvx
        refine ⟨h1, Gives.of (v' := .int k (k.wrap n)) ?_ (.int _ _)⟩
        rw [hvx.int_inv]
        simp [Go.convert, run_und hs, run_und hd, Conv.intToInt]
      · cases h2
    · rename_i hs hd
      cases hc
      simp only [I.eval] at he
      obtain ⟨h1, h2⟩ := val_ret he
      split at h2
      · rename_i s hn
        cases h2
        rw [hn] at hvx
        refine ⟨h1, Gives.of (v' := .string s) ?_ (.str _)⟩
        rw [hvx.str_inv]
        simp [Go.convert, run_und hs, run_und hd]
      · cases h2
    · split at hc <;> cases hc
      simp [I.cls] at hcls
    · split at hc <;> cases hc
      simp [I.cls] at hcls
    · split at hc <;> cases hc
      simp [I.cls] at hcls
    · cases hc
  | makeInterface t x =>
    simp only [comp1] at hc
    split at hc
    · cases hc
    · cases hc
    · rename_i d h0 hd
      cases hc
      obtain ⟨rfl, rfl⟩ := Prod.mk.inj (t_ret he)
      refine ⟨rfl, Gives.of (v' := .iface t (ev' x)) ?_ (.iface _ _ _ (hx x (by simp [Op.operands])))⟩
      simp only [Instr.makeInterface, Sem.run_bind, run_und hd, Result.andThen_ok]
      cases d <;> first | rfl | exact absurd rfl (h0 _)
  | makeFunc fn first captured =>
    cases fn <;> simp only [comp1, Option.some.injEq] at hc <;> first | (cases hc; done) | skip
    rename_i f
    subst hc
    obtain ⟨rfl, rfl⟩ := Prod.mk.inj (t_ret he)
    have lr : ∀ l : List Operand, (∀ x ∈ l, VR P r (ev x) (ev' x)) → LR P r (l.map ev) (l.map ev') := fun l h => mapLR l h
    refine ⟨rfl, Gives.of (v' := .func (.func f) ((first.toList.map ev').toArray) ((captured.toList.map ev').toArray)) ?_ (VR.func_of (lr _ fun x hm => hx x (by simp [Op.operands]; exact .inl (by simpa using hm))) (lr _ fun x hm => hx x (by simp [Op.operands]; exact .inr (by simpa using hm))))⟩
    have ha : Array.map ev' first = (first.toList.map ev').toArray := by apply Array.ext'; simp
    have hb : Array.map ev' captured = (captured.toList.map ev').toArray := by apply Array.ext'; simp
    simp only [Instr.makeFunc, ha, hb, Sem.run_pure]
  | build t parts =>
    simp only [comp1] at hc
    have hcb : ∃ z qs, i = .build z qs := by
      unfold compBuild at hc
      split at hc
      · split at hc
        · cases e : fieldParts P _ parts.toList with
          | none => rw [e] at hc; cases hc
          | some q => rw [e] at hc; cases hc; exact ⟨_, _, rfl⟩
        · cases hc
      · cases e : szOf P _ with
        | none => rw [e] at hc; cases hc
        | some q => rw [e] at hc; cases hc; exact ⟨_, _, rfl⟩
      · cases hc
    obtain ⟨z, qs, rfl⟩ := hcb
    simp only [I.eval] at he
    obtain ⟨h1, h2⟩ := val_ret he
    simp only [Option.bind_eq_some_iff, Option.map_eq_some_iff] at h2
    obtain ⟨ps, hp, cs, hcs, rfl⟩ := h2
    obtain ⟨cs', f1, f2⟩ := build_run (w := w) hc hp hcs (fun i x hm => hx x (by simp [Op.operands]; exact ⟨i, by simpa using hm⟩))
    refine ⟨h1, Gives.of (v' := .agg cs') ?_ ?_⟩
    · have : (parts.map fun (i, x) => (i, ev' x)) = (parts.toList.map fun (i, x) => (i, ev' x)).toArray := by
        apply Array.ext'; simp
      rw [this]; exact f1
    · have := VR.agg_of f2
      simpa using this
  | field t x k =>
    simp only [comp1] at hc
    split at hc
    · rename_i fs hu
      split at hc
      · rename_i f hf
        cases e : aggOf P f.type with
        | none => rw [e] at hc; cases hc
        | some g =>
          rw [e] at hc; cases hc
          have hvx := hx x (by simp [Op.operands])
          simp only [I.eval] at he
          split at he
          · rename_i cs hcs
            obtain ⟨h1, h2⟩ := val_ret he
            rw [hcs] at hvx
            obtain ⟨cs', hcs', hl⟩ := hvx.agg_inv
            refine ⟨h1, ?_⟩
            obtain ⟨v', k1, k2⟩ := rowLoad_LR h2 hl
            refine Gives.of (v' := v') ?_ k2
            simp only [Instr.field, Sem.run_bind, run_und hu, Result.andThen_ok, hf, hcs', asAgg, Sem.run_pure]
            exact part_run e cs' f.offset k1
          · cases he
      · cases hc
    · cases hc
  | fieldAddr t x k =>
    simp only [comp1] at hc
    split at hc
    · rename_i fs hu
      split at hc
      · rename_i f hf
        split at hc
        · rename_i n hn
          split at hc
          · cases hc
          · rename_i hn0
            cases hc
            have hvx := hx x (by simp [Op.operands])
            simp only [I.eval] at he
            split at he
            · rename_i m o hm
              obtain ⟨rfl, rfl⟩ := Prod.mk.inj (t_ret he)
              rw [hm] at hvx
              obtain ⟨L, hL, e⟩ := hvx.ptr_inv
              refine ⟨rfl, Gives.of (v' := .pointer (some ⟨L.b, L.base + (o + f.offset), none⟩)) ?_ (.ptr _ _ L hL)⟩
              rw [e]
              simp only [Instr.fieldAt, Sem.run_bind, run_und hu, Result.andThen_ok, hf, Instr.sureAddr, Sem.run_pure, fieldPlace_run hn hn0, add_none, Nat.add_assoc]
            · cases he
        · cases hc
      · cases hc
    · cases hc
  | indexAddr t x j =>
    have hvx := hx x (by simp [Op.operands])
    have hvj := hx j (by simp [Op.operands])
    simp only [comp1] at hc
    split at hc
    · rename_i n e hu
      cases hz : szOf P e with
      | none => rw [hz] at hc; cases hc
      | some z =>
        rw [hz] at hc; cases hc
        simp only [I.eval] at he
        split at he
        · rename_i k i m o hi hm
          rw [hi] at hvj
          split at he
          · rename_i hb
            obtain ⟨rfl, rfl⟩ := Prod.mk.inj (t_ret he)
            rw [hm] at hvx
            obtain ⟨L, hL, e2⟩ := hvx.ptr_inv
            refine ⟨rfl, Gives.of (v' := .pointer (some ⟨L.b, L.base + (o + i.toNat * z), none⟩)) ?_ (.ptr _ _ L hL)⟩
            rw [e2, hvj.int_inv]
            simp [Instr.indexAt, asIntOf, run_und hu, Instr.sureAddr, hb, run_sz hz, add_none, Nat.add_assoc]
          · cases he
        · cases he
    · rename_i e hu
      cases hz : szOf P e with
      | none => rw [hz] at hc; cases hc
      | some z =>
        rw [hz] at hc; cases hc
        simp only [I.eval] at he
        split at he
        · rename_i k i m o len cap hi hm
          rw [hi] at hvj
          split at he
          · rename_i hb
            obtain ⟨rfl, rfl⟩ := Prod.mk.inj (t_ret he)
            rw [hm] at hvx
            obtain ⟨L, cap', x', hL, e2, hcap, hle, hx'⟩ := hvx.slice_inv
            refine ⟨rfl, Gives.of (v' := .pointer (some ⟨L.b, L.base + (o + i.toNat * z), none⟩)) ?_ (.ptr _ _ L hL)⟩
            rw [e2, hvj.int_inv]
            have hxx : x' = L.base + o := by
              rcases hx' with h | h
              · exact h
              · omega
            subst hxx
            simp [Instr.indexAt, asIntOf, run_und hu, hb, run_sz hz, add_none, Nat.add_assoc]
          · cases he
        · cases he
    · cases hc
  | index t x j =>
    have hvx := hx x (by simp [Op.operands])
    have hvj := hx j (by simp [Op.operands])
    simp only [comp1] at hc
    split at hc
    · rename_i n e hu
      split at hc
      · rename_i g z hg hz
        cases hc
        simp only [I.eval] at he
        split at he
        · rename_i k i cs hi hcs
          rw [hi] at hvj
          rw [hcs] at hvx
          obtain ⟨cs', hcs', hl⟩ := hvx.agg_inv
          split at he
          · rename_i hb
            obtain ⟨h1, h2⟩ := val_ret he
            obtain ⟨v', k1, k2⟩ := rowLoad_LR h2 hl
            refine ⟨h1, Gives.of (v' := v') ?_ k2⟩
            rw [hcs', hvj.int_inv]
            simp only [Instr.index, asIntOf, Sem.run_bind, Sem.run_pure, Result.andThen_ok, run_und hu, Sem.run_ite, run_sz hz]
            rw [if_pos hb]
            exact part_run hg cs' _ k1
          · cases he
        · cases he
      · cases hc
    · rename_i hu
      cases hc
      simp only [I.eval] at he
      split at he
      · rename_i k i s hi hs
        rw [hi] at hvj
        rw [hs] at hvx
        split at he
        · rename_i hb
          obtain ⟨h1, h2⟩ := val_ret he
          simp only [Option.map_eq_some_iff] at h2
          obtain ⟨b, hb1, rfl⟩ := h2
          refine ⟨h1, Gives.of (v' := .int .u8 b.toNat) ?_ (.int _ _)⟩
          rw [hvj.int_inv, hvx.str_inv]
          have hlt : i.toNat < s.data.size := by
            have := (List.getElem?_eq_some_iff.1 hb1).1
            simpa using this
          have hs2 : s[i.toNat]? = some b := by
            rw [getElem?_pos s i.toNat hlt]
            have := hb1
            rw [List.getElem?_eq_getElem (by simpa using hlt)] at this
            have h3 : s.data[i.toNat] = b := by simpa using this
            exact congrArg some h3
          simp [Instr.index, asIntOf, run_und hu, hb, hs2]
        · cases he
      · cases he
    · cases hc
  | nilCheck x =>
    have hvx := hx x (by simp [Op.operands])
    simp only [comp1, Option.some.injEq] at hc; subst hc
    simp only [I.eval] at he
    split at he
    · rename_i a ha
      obtain ⟨rfl, rfl⟩ := Prod.mk.inj (t_ret he)
      rw [ha] at hvx
      obtain ⟨a', e⟩ := hvx.pointer_inv
      refine ⟨rfl, .pointer (some a'), ?_, e ▸ hvx⟩
      simp [execOp, e]
    · rename_i f first cap ha
      obtain ⟨rfl, rfl⟩ := Prod.mk.inj (t_ret he)
      rw [ha] at hvx
      obtain ⟨a', b', e, h1, h2⟩ := hvx.func_inv
      refine ⟨rfl, .func (.func f) a' b', ?_, e ▸ hvx⟩
      simp [execOp, e]
    · cases he
  | typeAssert x xt t ok =>
    have hvx := hx x (by simp [Op.operands])
    simp only [comp1] at hc
    split at hc
    · cases hc
    · cases hc
    · rename_i d hd0 hd
      have both : ∀ (z : Value), (ok = true → zeroOf P t = some z) → i = .tassert t z ok x → S1 = S ∧ Gives P r w (execOp ev' { dst, op := .typeAssert x xt t ok, type, pos, after, guard }) v := by
        rintro z hz rfl
        simp only [I.eval] at he
        split at he
        · rename_i ha
          rw [ha] at hvx
          split at he
          · rename_i hok
            obtain ⟨rfl, rfl⟩ := Prod.mk.inj (t_ret he)
            subst hok
            refine ⟨rfl, Gives.of (v' := .tuple #[z, .bool false]) ?_ (by simpa using VR.tuple_of (LR.cons (zero_VR (hz rfl)) (LR.cons (.bool false) .nil)))⟩
            rw [hvx.nilIface_inv]
            simp only [Instr.typeAssert, Sem.run_bind, run_und hd, Result.andThen_ok]
            cases d <;> first
              | exact absurd rfl (hd0 _)
              | simp [run_zero (hz rfl)]
          · cases he
        · rename_i u q ha
          rw [ha] at hvx
          obtain ⟨q', e, hq⟩ := hvx.iface_inv
          split at he
          · rename_i hut
            subst hut
            obtain ⟨rfl, rfl⟩ := Prod.mk.inj (t_ret he)
            refine ⟨rfl, Gives.of (v' := if ok then .tuple #[q', .bool true] else q') ?_ ?_⟩
            · rw [e]
              simp only [Instr.typeAssert, Sem.run_bind, run_und hd, Result.andThen_ok]
              cases d <;> first
                | exact absurd rfl (hd0 _)
                | simp
            · cases ok
              · simpa using hq
              · simpa using VR.tuple_of (LR.cons hq (LR.cons (.bool true) .nil))
          · rename_i hut
            split at he
            · rename_i hok
              obtain ⟨rfl, rfl⟩ := Prod.mk.inj (t_ret he)
              subst hok
              refine ⟨rfl, Gives.of (v' := .tuple #[z, .bool false]) ?_ (by simpa using VR.tuple_of (LR.cons (zero_VR (hz rfl)) (LR.cons (.bool false) .nil)))⟩
              rw [e]
              simp only [Instr.typeAssert, Sem.run_bind, run_und hd, Result.andThen_ok]
              cases d <;> first
                | exact absurd rfl (hd0 _)
                | simp [run_zero (hz rfl), hut]
            · cases he
        · cases he
      cases ok with
      | true =>
        simp only [if_true] at hc
        cases hz : zeroOf P t with
        | none => rw [hz] at hc; cases hc
        | some z => rw [hz] at hc; simp at hc; exact both z (fun _ => hz) hc.symm
      | false =>
        simp only [Bool.false_eq_true, if_false, Option.some.injEq] at hc
        exact both undef (fun h => by cases h) hc.symm
  | extract x k =>
    have hvx := hx x (by simp [Op.operands])
    simp only [comp1, Option.some.injEq] at hc; subst hc
    simp only [I.eval] at he
    split at he
    · rename_i us hus
      obtain ⟨h1, h2⟩ := val_ret he
      rw [hus] at hvx
      have hpos : 0 < us.size := by
        have := (List.getElem?_eq_some_iff.1 h2).1
        simp at this; omega
      obtain ⟨us', e, hl⟩ := hvx.tuple_inv
      obtain ⟨v', k1, k2⟩ := hl.get? h2
      exact ⟨h1, Gives.of (by rw [e]; exact extract_run k1) k2⟩
    · cases he
  | slice t x lo hi mx =>
    have hvx := hx x (by simp [Op.operands])
    have hvo : ∀ y, (lo = some y ∨ hi = some y ∨ mx = some y) → VR P r (ev y) (ev' y) := by
      intro y hy
      refine hx y ?_
      rcases hy with rfl | rfl | rfl <;> simp [Op.operands]
    have arr : ∀ (n z : Nat) (el : TypeId), szOf P el = some z → i = .aslc n z x lo hi mx →
        (∀ (L : Loc) (o : Nat) (l h m : Nat), ev' x = .pointer (some ⟨L.b, L.base + o, none⟩) → (Instr.sliceBounds false n n (lo.map ev') (hi.map ev') (mx.map ev')).run P w = .ok (l, h, m) w →
          (Instr.sliceAt t (ev' x) (lo.map ev') (hi.map ev') (mx.map ev')).run P w = .ok (.slice (some (if m = l then (⟨L.b, L.base + o, none⟩ : Addr) else (⟨L.b, L.base + o, none⟩ : Addr).add (l * z))) (h - l) (m - l)) w) →
        S1 = S ∧ Gives P r w (execOp ev' { dst, op := .slice t x lo hi mx, type, pos, after, guard }) v := by
      rintro n z el hz rfl hrun
      simp only [I.eval] at he
      split at he
      · rename_i m o hm
        obtain ⟨h1, h2⟩ := val_ret he
        simp only [Option.map_eq_some_iff] at h2
        obtain ⟨⟨l, h, mm⟩, hb, h2⟩ := h2
        simp only at h2; subst h2
        rw [hm] at hvx
        obtain ⟨L, hL, e⟩ := hvx.ptr_inv
        obtain ⟨m', hr, hm1, hm2, hlh, hhm, hmc⟩ := bnds_run (w := w) (isSl := false) hb hvo (Nat.le_refl _) (Nat.le_refl _)
        have hmm : m' = mm := by
          cases hmx : mx with
          | none => have := hm1 hmx; omega
          | some y => exact hm2 (by rw [hmx]; simp)
        subst hmm
        refine ⟨h1, Gives.of (hrun L o l h m' e hr) ?_⟩
        by_cases hml : m' = l
        · rw [if_pos hml]
          exact .slice _ _ L _ _ _ _ hL (.inl rfl) (by omega) (.inr ⟨by omega, by omega⟩)
        · rw [if_neg hml, add_none]
          exact .slice _ _ L _ _ _ _ hL (.inl rfl) (by omega) (.inl (by omega))
      · cases he
    simp only [comp1, compSlice] at hc
    split at hc
    · rename_i n el hu
      cases hz : szOf P el with
      | none => rw [hz] at hc; cases hc
      | some z =>
        rw [hz] at hc; simp at hc
        refine arr n z el hz hc.symm (fun L o l h m e hr => ?_)
        simp [Instr.sliceAt, run_und hu, e, Instr.sureAddr, hr, run_sz hz]
    · rename_i el hu
      cases hz : szOf P el with
      | none => rw [hz] at hc; cases hc
      | some z =>
        rw [hz] at hc; simp at hc; subst hc
        simp [I.cls] at hcls
    · rename_i hu
      split at hc
      · rename_i hmx
        cases hc
        simp only [I.eval] at he
        split at he
        · rename_i s hs
          obtain ⟨h1, h2⟩ := val_ret he
          simp only [Option.map_eq_some_iff] at h2
          obtain ⟨⟨l, h, mm⟩, hb, h2⟩ := h2
          simp only at h2; subst h2
          rw [hs] at hvx
          have hmn : mx = none := by simpa using hmx
          subst hmn
          obtain ⟨m', hr, _, _, _, _, _⟩ := bnds_run (w := w) (isSl := false) (mx := none) hb hvo (Nat.le_refl _) (Nat.le_refl _)
          refine ⟨h1, Gives.of (v' := .string (s.extract l h)) ?_ (.str _)⟩
          rw [hvx.str_inv]
          simp only [Option.map_none] at hr ⊢
          simp [Instr.sliceAt, run_und hu, Instr.slice, hr]
        · cases he
      · cases hc
    · rename_i ar hu
      split at hc
      · rename_i n el hu2
        cases hz : szOf P el with
        | none => rw [hz] at hc; cases hc
        | some z =>
          rw [hz] at hc; simp at hc
          refine arr n z el hz hc.symm (fun L o l h m e hr => ?_)
          simp [Instr.sliceAt, run_und hu, run_und hu2, e, Instr.slice, asAddr, hr, run_sz hz]
      · cases hc
    · cases hc
  | call c =>
    obtain ⟨callee, args, argTypes⟩ := c
    cases callee with
    | value f => simp only [comp1, Option.some.injEq] at hc; subst hc; simp [I.cls] at hcls
    | invoke f m => simp only [comp1] at hc; cases hc
    | builtin b =>
      simp only [comp1] at hc
      have hxa : ∀ x, x ∈ args.toList → VR P r (ev x) (ev' x) := fun x hm => hx x (by simp [Op.operands, Call.operands]; simpa using hm)
      have hbi : ∀ {s : Sem Value} {u : Value}, (∀ cs, builtin b argTypes type cs (args.map ev') = (do let a ← s; pure (Next.value a))) → s.run P w = .ok u w → VR P r v u →
          Gives P r w (execOp ev' { dst, op := .call { callee := .builtin b, args, argTypes }, type, pos, after, guard }) v := by
        intro s u h1 h2 h3
        refine ⟨u, ?_, h3⟩
        simp only [execOp, resolve, Sem.run_bind, Sem.run_pure, Result.andThen_ok, invoke]
        rw [h1]; exact ex_v h2
      unfold compBuiltin at hc
      have hat : ∀ (t : TypeId) (l : List TypeId), argTypes.toList = t :: l → argTypes[0]? = some t := fun t l h => by
        rw [← Array.getElem?_toList, h]; rfl
      have har : ∀ (x : Operand) (l : List Operand), args.toList = x :: l → (args.map ev')[0]? = some (ev' x) ∧ VR P r (ev x) (ev' x) := fun x l h => by
        refine ⟨?_, hxa x (by rw [h]; simp)⟩
        have : args[0]? = some x := by rw [← Array.getElem?_toList, h]; rfl
        simp [this]
      split at hc
      · rename_i t l x hat0 har0
        obtain ⟨ha1, ha2⟩ := har x [] har0
        have ht := hat t l hat0
        have hlen : ∀ {u : Value}, (Builtin.len_ argTypes type (args.map ev')).run P w = .ok u w → VR P r v u → Gives P r w (execOp ev' { dst, op := .call { callee := .builtin .len, args, argTypes }, type, pos, after, guard }) v :=
          fun h2 h3 => hbi (fun _ => rfl) h2 h3
        split at hc
        · rename_i hu
          cases hc
          simp only [I.eval] at he
          split at he
          · rename_i s hs
            obtain ⟨rfl, rfl⟩ := Prod.mk.inj (t_ret he)
            rw [hs] at ha2
            refine ⟨rfl, hlen (u := vi s.size) ?_ (.int _ _)⟩
            simp only [Builtin.len_, ht, ha1, ha2.str_inv, Sem.run_bind, run_und hu, Result.andThen_ok]
            rfl
          · cases he
        · rename_i e hu
          cases hc
          simp only [I.eval] at he
          split at he
          · rename_i a n c hs
            obtain ⟨rfl, rfl⟩ := Prod.mk.inj (t_ret he)
            rw [hs] at ha2
            refine ⟨rfl, hlen (u := vi n) ?_ (.int _ _)⟩
            cases a with
            | none =>
              obtain ⟨e1, rfl, rfl⟩ := ha2.sliceNil_inv
              simp only [Builtin.len_, ht, ha1, e1, Sem.run_bind, run_und hu, Result.andThen_ok]
              rfl
            | some a =>
              cases hva : ev' x with
              | slice a' n' c' =>
                rw [hva] at ha2 ha1
                cases ha2 <;> (simp only [Builtin.len_, ht, ha1, Sem.run_bind, run_und hu, Result.andThen_ok]; rfl)
              | _ => rw [hva] at ha2; cases ha2
          · cases he
        · rename_i n e hu
          cases hc
          obtain ⟨rfl, rfl⟩ := Prod.mk.inj (t_ret he)
          refine ⟨rfl, hlen (u := vi n) ?_ (.int _ _)⟩
          simp only [Builtin.len_, ht, ha1, Sem.run_bind, run_und hu, Result.andThen_ok]
          rfl
        · rename_i ar hu
          split at hc
          · rename_i n e hu2
            cases hc
            obtain ⟨rfl, rfl⟩ := Prod.mk.inj (t_ret he)
            refine ⟨rfl, hlen (u := vi n) ?_ (.int _ _)⟩
            simp only [Builtin.len_, ht, ha1, Sem.run_bind, run_und hu, run_und hu2, Result.andThen_ok]
            rfl
          · cases hc
        · cases hc; simp [I.cls] at hcls
        · cases hc
      · split at hc
        · split at hc <;> cases hc; simp [I.cls] at hcls
        · split at hc <;> cases hc; simp [I.cls] at hcls
        · cases hc
      · split at hc
        · cases e : szOf P _ with
          | none => rw [e] at hc; cases hc
          | some z => rw [e] at hc; cases hc; simp [I.cls] at hcls
        · cases hc
      · split at hc
        · cases e : zeroCellsOf P _ with
          | none => rw [e] at hc; cases hc
          | some z => rw [e] at hc; cases hc; simp [I.cls] at hcls
        · cases hc; simp [I.cls] at hcls
        · cases hc
      · split at hc
        · cases e : keyOf P _ with
          | none => rw [e] at hc; cases hc
          | some z => rw [e] at hc; cases hc; simp [I.cls] at hcls
        · cases hc
      · rename_i x xs har0
        cases hc
        simp only [I.eval] at he
        obtain ⟨h1, h2⟩ := val_ret he
        simp only [List.map_cons, foldV] at h2
        obtain ⟨u', k1, k2⟩ := foldV_run (w := w) max2_run _ (xs.map ev') _ (ev' x) v h2 (mapLR xs fun y hy => hxa y (by rw [har0]; simp [hy])) (hxa x (by rw [har0]; simp))
        refine ⟨h1, hbi (s := Builtin.max_ argTypes type (args.map ev')) (fun _ => rfl) ?_ k2⟩
        have : (args.map ev').toList = ev' x :: xs.map ev' := by simp [har0]
        simp only [Builtin.max_, this]
        exact k1
      · rename_i x xs har0
        cases hc
        simp only [I.eval] at he
        obtain ⟨h1, h2⟩ := val_ret he
        simp only [List.map_cons, foldV] at h2
        obtain ⟨u', k1, k2⟩ := foldV_run (w := w) min2_run _ (xs.map ev') _ (ev' x) v h2 (mapLR xs fun y hy => hxa y (by rw [har0]; simp [hy])) (hxa x (by rw [har0]; simp))
        refine ⟨h1, hbi (s := Builtin.min_ argTypes type (args.map ev')) (fun _ => rfl) ?_ k2⟩
        have : (args.map ev').toList = ev' x :: xs.map ev' := by simp [har0]
        simp only [Builtin.min_, this]
        exact k1
      · cases hc; simp [I.cls] at hcls
      · cases hc; simp [I.cls] at hcls
      · cases hc
  | alloc t =>
    simp only [comp1] at hc
    cases e : zeroCellsOf P t with
    | none => rw [e] at hc; cases hc
    | some z => rw [e] at hc; cases hc; simp [I.cls] at hcls
  | box t x => simp only [comp1, Option.some.injEq] at hc; subst hc; simp [I.cls] at hcls
  | buildSlice t n parts =>
    simp only [comp1] at hc
    split at hc
    · split at hc
      · split at hc <;> cases hc; simp [I.cls] at hcls
      · cases hc
    · cases hc
  | load t a =>
    simp only [comp1] at hc
    cases e : aggOf P t with
    | none => rw [e] at hc; cases hc
    | some z => rw [e] at hc; cases hc; simp [I.cls] at hcls
  | store t a x =>
    simp only [comp1] at hc
    cases e : szOf P t with
    | none => rw [e] at hc; cases hc
    | some z => rw [e] at hc; cases hc; simp [I.cls] at hcls
  | makeMap t x =>
    cases x <;> simp only [comp1, Option.some.injEq] at hc
    · subst hc; simp [I.cls] at hcls
    · cases hc
  | makeSlice t l c =>
    simp only [comp1] at hc
    split at hc
    · split at hc <;> cases hc; simp [I.cls] at hcls
    · cases hc
  | lookup t x k ok =>
    simp only [comp1] at hc
    split at hc
    · split at hc <;> cases hc; simp [I.cls] at hcls
    · cases hc
  | insert t m k u =>
    simp only [comp1] at hc
    split at hc
    · cases e : keyOf P _ with
      | none => rw [e] at hc; cases hc
      | some z => rw [e] at hc; cases hc; simp [I.cls] at hcls
    · cases hc
  | mapUpdate t m k u =>
    simp only [comp1] at hc
    split at hc
    · cases e : keyOf P _ with
      | none => rw [e] at hc; cases hc
      | some z => rw [e] at hc; cases hc; simp [I.cls] at hcls
    · cases hc
  | mapEntry t m k =>
    simp only [comp1] at hc
    split at hc
    · split at hc <;> cases hc; simp [I.cls] at hcls
    · cases hc
  | entryStore t m s u => simp only [comp1, Option.some.injEq] at hc; subst hc; simp [I.cls] at hcls
  | range t x =>
    simp only [comp1] at hc
    split at hc
    · cases hc; simp [I.cls] at hcls
    · cases hc; simp [I.cls] at hcls
    · cases hc
  | next it b => simp only [comp1, Option.some.injEq] at hc; subst hc; cases b <;> simp [I.cls] at hcls
  | entry it => simp only [comp1, Option.some.injEq] at hc; subst hc; simp [I.cls] at hcls
  | panic x => simp only [comp1, Option.some.injEq] at hc; subst hc; simp [I.cls] at hcls
  | defer c =>
    obtain ⟨callee, args, argTypes⟩ := c
    cases callee <;> simp only [comp1, Option.some.injEq] at hc
    · subst hc; simp [I.cls] at hcls
    · cases hc
    · cases hc
  | ready g => cases hc
  | waits g => cases hc
  | sliceToArrayPointer t x => cases hc
  | makeChan t x => cases hc
  | go c => cases hc
  | send a b => cases hc
  | recv a b c => cases hc
  | select a b => cases hc
end
end Go.Gx

/-
  Rows in the world: what a load gives, what stores do. What only reads.
-/
namespace Go.Gx

section
variable {P : Program} {w : World}

theorem cell_of {b x : Nat} {c : Array Value} {e : TypeId} {fz : Nat × Nat} (hb : w.heap[b]? = some (.cells c e fz)) : w.cell? ⟨b, x, none⟩ = c[x]? := by
  simp [World.cell?, hb]
theorem frozen_of {b x : Nat} {c : Array Value} {e : TypeId} {fz : Nat × Nat} (hb : w.heap[b]? = some (.cells c e fz)) : w.frozen? ⟨b, x, none⟩ = (decide (fz.1 ≤ x) && decide (x < fz.2)) := by
  simp [World.frozen?, hb]
theorem shape_of {b : Nat} {c : Array Value} {e : TypeId} {fz : Nat × Nat} (hb : w.heap[b]? = some (.cells c e fz)) : w.shape? b = some (e, c.size) := by
  simp [World.shape?, hb]

theorem run_load1 {b x : Nat} {c : Array Value} {e : TypeId} {fz : Nat × Nat} (hb : w.heap[b]? = some (.cells c e fz)) {v : Value} (h : c[x]? = some v) :
    (load ⟨b, x, none⟩).run P w = .ok v w := by
  simp [cell_of hb, h]

theorem run_loadCellsFrom {b x : Nat} {c : Array Value} {e : TypeId} {fz : Nat × Nat} (hb : w.heap[b]? = some (.cells c e fz)) :
    ∀ (n i : Nat) (acc : Array Value), x + i + n ≤ c.size → (loadCellsFrom ⟨b, x, none⟩ i n acc).run P w = .ok (acc ++ c.extract (x + i) (x + i + n)) w
  | 0, i, acc, _ => by simp [loadCellsFrom]; omega
  | n + 1, i, acc, h => by
    have hlt : x + i < c.size := by omega
    have h1 : c[x + i]? = some c[x + i] := by simp [hlt]
    simp only [loadCellsFrom, Sem.run_bind, add_none, run_load1 hb h1, Result.andThen_ok]
    rw [run_loadCellsFrom hb n (i + 1) _ (by omega)]
    congr 1
    apply Array.ext'
    simp only [Array.toList_append, Array.toList_push, Array.toList_extract, List.append_assoc]
    congr 1
    rw [List.extract_eq_take_drop, List.extract_eq_drop_take]
    have e1 : x + i + (n + 1) - (x + i) = n + 1 := by omega
    have e2 : x + (i + 1) + n - (x + (i + 1)) = n := by omega
    have e3 : c.toList.drop (x + i) = c[x + i] :: c.toList.drop (x + (i + 1)) := by
      rw [List.drop_eq_getElem_cons (by simpa using hlt)]; rfl
    rw [e1, e2, e3, List.take_succ_cons]
    rfl

theorem run_loadCells {b x n : Nat} {c : Array Value} {e : TypeId} {fz : Nat × Nat} (hb : w.heap[b]? = some (.cells c e fz)) (h : x + n ≤ c.size) :
    (loadCells ⟨b, x, none⟩ n).run P w = .ok ((c.toList.drop x).take n).toArray w := by
  have := run_loadCellsFrom (P := P) hb n 0 #[] (by omega)
  simp only [Nat.add_zero] at this
  simp only [loadCells, this]
  congr 1
  apply Array.ext'
  simp [List.extract_eq_take_drop]

/-- a block whose cells are changed in place -/
theorem setCell_upd {b x : Nat} {c : Array Value} {e : TypeId} {fz : Nat × Nat} (hb : w.heap[b]? = some (.cells c e fz)) (v : Value) :
    w.setCell ⟨b, x, none⟩ v = w.upd b (.cells (c.setIfInBounds x v) e fz) := by
  unfold World.setCell World.upd
  congr 1
  apply Array.ext_getElem?
  intro i
  obtain ⟨lo, hi⟩ := fz
  have hlt := lt_of_get hb
  by_cases hi : i = b
  · subst hi
    rw [Array.getElem?_modify, if_pos rfl, hb]
    simp [hlt]
  · rw [Array.getElem?_modify, if_neg (Ne.symm hi), Array.getElem?_setIfInBounds, if_neg (Ne.symm hi)]

theorem upd_upd (w : World) (b : Nat) (o p : Obj) : (w.upd b o).upd b p = w.upd b p := by
  unfold World.upd
  congr 1
  apply Array.ext_getElem?
  intro i
  simp only [Array.getElem?_setIfInBounds, Array.size_setIfInBounds]
  split <;> rfl
theorem upd_self {b : Nat} {o : Obj} (hb : w.heap[b]? = some o) : w.upd b o = w := by
  unfold World.upd
  have : w.heap.setIfInBounds b o = w.heap := by
    apply Array.ext_getElem?
    intro i
    rw [Array.getElem?_setIfInBounds]
    split
    · rename_i e; subst e
      rw [if_pos (lt_of_get hb), hb]
    · rfl
  rw [this]

theorem run_store1 {b x : Nat} {c : Array Value} {e : TypeId} {fz : Nat × Nat} (hb : w.heap[b]? = some (.cells c e fz)) (hlt : x < c.size) (hf : fz.1 = fz.2 ∨ c.size ≤ fz.1) {v : Value} (hv : okc v = true) :
    (store ⟨b, x, none⟩ v).run P w = .ok () (w.upd b (.cells (c.setIfInBounds x v) e fz)) := by
  have h1 : w.cell? ⟨b, x, none⟩ = some c[x] := by rw [cell_of hb]; simp [hlt]
  have h2 : w.frozen? ⟨b, x, none⟩ = false := by
    rw [frozen_of hb]
    rcases hf with h | h
    · rw [h]; simp
    · simp; omega
  rw [← setCell_upd hb v]
  unfold store
  cases v <;> first
    | (simp [okc] at hv; done)
    | simp [Sem.run, h1, h2]

theorem setIf_splice (c : Array Value) (x : Nat) (v : Value) (vs : List Value) (h : x + (v :: vs).length ≤ c.size) :
    (splice (c.setIfInBounds x v).toList (x + 1) vs).toArray = (splice c.toList x (v :: vs)).toArray := by
  rw [Array.toList_setIfInBounds, splice_cons _ _ _ _ (by simpa using h)]

theorem run_storeCells {b x : Nat} {e : TypeId} {fz : Nat × Nat} : ∀ (vs : List Value) (i : Nat) (w : World) (c : Array Value), w.heap[b]? = some (.cells c e fz) → x + i + vs.length ≤ c.size → (fz.1 = fz.2 ∨ c.size ≤ fz.1) → vs.all okc = true →
    (storeCells ⟨b, x, none⟩ vs i).run P w = .ok () (w.upd b (.cells (splice c.toList (x + i) vs).toArray e fz))
  | [], i, w, c, hb, _, _, _ => by
    simp only [storeCells, Sem.run_pure, splice_nil]
    rw [upd_self]; simpa using hb
  | v :: vs, i, w, c, hb, h, hf, hv => by
    simp only [List.all_cons, Bool.and_eq_true] at hv
    simp only [List.length_cons] at h
    simp only [storeCells, Sem.run_bind, add_none]
    rw [run_store1 hb (by omega) hf hv.1]
    simp only [Result.andThen_ok]
    have hlt := lt_of_get hb
    rw [run_storeCells vs (i + 1) _ (c.setIfInBounds (x + i) v) (upd_same hlt) (by simp; omega) (by simpa using hf) hv.2, upd_upd]
    rw [← Nat.add_assoc, setIf_splice c (x + i) v vs (by simp; omega)]
end

section
variable {P : Program} {prot : Nat → Option Obj} {w0 : World} {r : Rho} {S : AS} {w : World}

/-- a row's cells, as a window of its block -/
theorem Rel.row (h : Rel P prot w0 r S w) {n : Nat} {cells : List Value} {e : TypeId} {wr ex : Bool} (hg : S.get n = some (.row cells e wr ex)) {L : Loc} (hL : r n = some L) :
    ∃ c fz, w.heap[L.b]? = some (.cells c e fz) ∧ L.et = e ∧ cells.length = L.asz ∧ L.base + L.asz ≤ L.csz ∧ L.csz ≤ c.size ∧ (ex = true → L.csz = L.base + L.asz) ∧ (wr = true → FzR P e fz c.size) ∧
      LR P r cells ((c.toList.drop L.base).take L.asz) := by
  obtain ⟨obj, hb, ho⟩ := h.at_ hg (by simp) hL
  cases obj with
  | cells c e' fz =>
    simp only [ObjR] at ho
    obtain ⟨rfl, h2, h3, h4, h5, h6, h7, _, h8⟩ := ho
    refine ⟨c, fz, hb, h2, h3, h4, h5, h6, h7, by simp; omega, fun i v v' a b => ?_⟩
    obtain ⟨u, hu, hvu⟩ := h8 i v a
    have hi : i < L.asz := by
      have := (List.getElem?_eq_some_iff.1 a).1; omega
    rw [List.getElem?_take_of_lt hi, List.getElem?_drop] at b
    have : c.toList[L.base + i]? = c[L.base + i]? := by simp
    rw [this, hu] at b; cases b
    exact hvu
  | _ => simp only [ObjR] at ho

/-- what was made for itself is the whole of its block -/
theorem Rel.whole (h : Rel P prot w0 r S w) {n : Nat} {cells : List Value} {e : TypeId} (hg : S.get n = some (.row cells e true true)) {L : Loc} (hL : r n = some L) :
    L.base = 0 ∧ ∃ c fz, w.heap[L.b]? = some (.cells c e fz) ∧ c.size = cells.length := by
  obtain ⟨obj, hb, ho⟩ := h.at_ hg (by simp) hL
  cases obj with
  | cells c e' fz =>
    simp only [ObjR] at ho
    obtain ⟨rfl, h2, h3, h4, h5, h6, h7, h9, h8⟩ := ho
    obtain ⟨k1, k2⟩ := h9 trivial trivial
    have := h6 trivial
    exact ⟨k1, c, fz, hb, by omega⟩
  | _ => simp only [ObjR] at ho

theorem Rel.whole' (h : Rel P prot w0 r S w) {n : Nat} {cells : List Value} {e e' : TypeId} {wr ex : Bool} (hg : S.get n = some (.row cells e wr ex)) {L : Loc} (hL : r n = some L) {c : Array Value} {fz : Nat × Nat} (hc : w.heap[L.b]? = some (.cells c e' fz)) :
    ex = true → wr = true → L.base = 0 ∧ L.csz = c.size := by
  obtain ⟨obj, hb, ho⟩ := h.at_ hg (by simp) hL
  rw [hc] at hb
  cases hb
  simp only [ObjR] at ho
  exact ho.2.2.2.2.2.2.2.1

/-- a window of a window -/
theorem window {cells : List Value} {c : Array Value} {base asz o k : Nat} (hl : LR P r cells ((c.toList.drop base).take asz)) (hlen : cells.length = asz) (h : o + k ≤ cells.length) :
    LR P r ((cells.drop o).take k) ((c.toList.drop (base + o)).take k) := by
  have := (hl.drop o).take k
  rw [List.drop_take, List.take_take, List.drop_drop, Nat.min_eq_left (by omega)] at this
  exact this

theorem run_loadVar {t : TypeId} {g : Option Nat} (hg : aggOf P t = some g) {n o : Nat} {cells : List Value} {e : TypeId} {wr ex : Bool} (h : Rel P prot w0 r S w) (hs : S.get n = some (.row cells e wr ex)) {L : Loc} (hL : r n = some L)
    {v : Value} (hv : rowLoad cells o g = some v) : ∃ v', (loadVar t ⟨L.b, L.base + o, none⟩).run P w = .ok v' w ∧ VR P r v v' := by
  obtain ⟨c, fz, hb, h1, h2, h3, h4, h5, h6, hl⟩ := h.row hs hL
  cases g with
  | none =>
    obtain ⟨v', k1, k2⟩ := hl.get? hv
    have hi : o < L.asz := by
      have := (List.getElem?_eq_some_iff.1 hv).1; omega
    rw [List.getElem?_take_of_lt hi, List.getElem?_drop] at k1
    refine ⟨v', ?_, k2⟩
    simp only [loadVar, Sem.run_bind, aggOf_none hg, Result.andThen_ok]
    exact run_load1 hb (by simpa using k1)
  | some k =>
    obtain ⟨q1, q2⟩ := aggOf_some (w := w) hg
    simp only [rowLoad] at hv
    split at hv
    · rename_i hle
      cases hv
      refine ⟨_, ?_, VR.agg_of (window hl h2 hle)⟩
      simp only [loadVar, Sem.run_bind, q1, run_sz q2, Result.andThen_ok, if_true, run_loadCells hb (show L.base + o + k ≤ c.size by omega), Sem.run_pure]
    · cases hv
end
end Go.Gx
