/-
  Rows of equal pieces.
-/
import Derived.Test.YtljbmlnddeacfaaGreatDoorGf

set_option linter.all false
set_option linter.deprecated false

namespace Go.Gx

/-- pieces of one length -/
def Uni (k : Nat) (ls : List (List Value)) : Prop := ∀ l ∈ ls, l.length = k

theorem Uni.tail {k : Nat} {x : List Value} {ls : List (List Value)} (h : Uni k (x :: ls)) : Uni k ls := fun l hl => h l (by simp [hl])
theorem Uni.head {k : Nat} {x : List Value} {ls : List (List Value)} (h : Uni k (x :: ls)) : x.length = k := h x (by simp)

theorem Uni.len {k : Nat} : ∀ {ls : List (List Value)}, Uni k ls → ls.flatten.length = ls.length * k
  | [], _ => by simp
  | x :: ls, h => by
    rw [List.flatten_cons, List.length_append, h.head, h.tail.len, List.length_cons, Nat.succ_mul]; omega

theorem Uni.drop {k : Nat} : ∀ {ls : List (List Value)} (i : Nat), Uni k ls → ls.flatten.drop (i * k) = (ls.drop i).flatten
  | [], i, _ => by simp
  | x :: ls, 0, _ => by simp
  | x :: ls, i + 1, h => by
    rw [List.flatten_cons, List.drop_succ_cons, ← h.tail.drop i, List.drop_append_of_le_length_or h.head]
where
  List.drop_append_of_le_length_or {k i : Nat} {x l : List Value} (h : x.length = k) : (x ++ l).drop ((i + 1) * k) = l.drop (i * k) := by
    have : (i + 1) * k = x.length + i * k := by rw [h, Nat.succ_mul]; omega
    rw [this, ← List.drop_drop, List.drop_left]

theorem Uni.take {k : Nat} : ∀ {ls : List (List Value)} (i : Nat), Uni k ls → ls.flatten.take (i * k) = (ls.take i).flatten
  | [], i, _ => by simp
  | x :: ls, 0, _ => by simp
  | x :: ls, i + 1, h => by
    rw [List.flatten_cons, List.take_succ_cons, List.flatten_cons, ← h.tail.take i]
    have : (i + 1) * k = x.length + i * k := by rw [h.head, Nat.succ_mul]; omega
    rw [this, List.take_length_add_append]

theorem Uni.get {k : Nat} {ls : List (List Value)} {i : Nat} {l : List Value} (h : Uni k ls) (hi : ls[i]? = some l) : (ls.flatten.drop (i * k)).take k = l := by
  rw [h.drop i]
  have hlt := (List.getElem?_eq_some_iff.1 hi).1
  rw [List.drop_eq_getElem_cons hlt, List.flatten_cons]
  have e : ls[i] = l := (List.getElem?_eq_some_iff.1 hi).2
  rw [e, List.take_left' (h l (List.mem_of_getElem? hi))]

theorem Uni.set {k : Nat} {ls : List (List Value)} {i : Nat} {v : List Value} (h : Uni k ls) (hv : v.length = k) : Uni k (ls.set i v) := by
  intro l hl
  rcases List.mem_or_eq_of_mem_set hl with h1 | h1
  · exact h l h1
  · rw [h1]; exact hv

theorem Uni.splice {k : Nat} {ls : List (List Value)} {i : Nat} {v : List Value} (h : Uni k ls) (hi : i < ls.length) (hv : v.length = k) : splice ls.flatten (i * k) v = (ls.set i v).flatten := by
  unfold Gx.splice
  have e : i * k + v.length = (i + 1) * k := by rw [hv, Nat.succ_mul]
  rw [e, h.take i, h.drop (i + 1), List.set_eq_take_append_cons_drop]
  rw [if_pos hi]
  simp

theorem Uni.load {k : Nat} {ls : List (List Value)} {i : Nat} {l : List Value} (h : Uni k ls) (hi : ls[i]? = some l) : rowLoad ls.flatten (i * k) (some k) = some (.agg l.toArray) := by
  have hlt := (List.getElem?_eq_some_iff.1 hi).1
  have hle : i * k + k ≤ ls.flatten.length := by
    rw [h.len]
    have : (i + 1) * k ≤ ls.length * k := Nat.mul_le_mul_right _ hlt
    rw [Nat.succ_mul] at this
    exact this
  simp only [rowLoad]
  rw [if_pos hle, h.get hi]

theorem Uni.store {k : Nat} {ls : List (List Value)} {i : Nat} {v : List Value} (h : Uni k ls) (hi : i < ls.length) (hv : v.length = k) (hok : v.all okc = true) : rowStore ls.flatten (i * k) v = some (ls.set i v).flatten := by
  unfold rowStore
  rw [if_pos, h.splice hi hv]
  refine ⟨?_, hok⟩
  rw [h.len, hv]
  have : (i + 1) * k ≤ ls.length * k := Nat.mul_le_mul_right _ hi
  rw [Nat.succ_mul] at this
  exact this

theorem Uni.append {k : Nat} {ls ms : List (List Value)} (h : Uni k ls) (g : Uni k ms) : Uni k (ls ++ ms) := fun l hl => by
  rcases List.mem_append.1 hl with h1 | h1
  · exact h l h1
  · exact g l h1

theorem rep_flat (z : List Value) : ∀ (n : Nat), repCells z n = (List.replicate n z).flatten
  | 0 => rfl
  | n + 1 => by rw [List.replicate_succ, List.flatten_cons, ← rep_flat z n]; rfl

theorem Uni.rep {k n : Nat} {z : List Value} (hz : z.length = k) : Uni k (List.replicate n z) := fun l hl => by rw [(List.mem_replicate.1 hl).2]; exact hz

/-- bytes as cells -/
def bv (l : List UInt8) : List Value := l.map fun b => .int .u8 b.toNat
theorem bv_len (l : List UInt8) : (bv l).length = l.length := by simp [bv]
theorem bv_ok (l : List UInt8) : (bv l).all okc = true := by simp [bv, okc]
theorem bv_get (l : List UInt8) (i : Nat) : (bv l)[i]? = (l[i]?).map fun b => .int .u8 b.toNat := by simp [bv]
/-- a byte; 0 behind the end -/
def byteAt (l : List UInt8) (i : Nat) : UInt8 := l.getD i 0
theorem byteAt_lt {l : List UInt8} {i : Nat} (h : i < l.length) : byteAt l i = l[i] := by
  unfold byteAt
  rw [List.getD_eq_getElem?_getD, List.getElem?_eq_getElem h]
  rfl
theorem bv_byte {l : List UInt8} {i : Nat} (h : i < l.length) : (bv l)[i]? = some (.int .u8 (byteAt l i).toNat) := by
  rw [bv_get, List.getElem?_eq_getElem h, byteAt_lt h]
  rfl
@[simp] theorem bv_elem {l : List UInt8} {i : Nat} (h : i < (bv l).length) : (bv l)[i]'h = .int .u8 (byteAt l i).toNat := by
  have := bv_byte (l := l) (i := i) (by rwa [bv_len] at h)
  rw [List.getElem?_eq_getElem h] at this
  exact Option.some.inj this
theorem bv_append (l m : List UInt8) : bv (l ++ m) = bv l ++ bv m := by simp [bv]
theorem bv_take (l : List UInt8) (n : Nat) : (bv l).take n = bv (l.take n) := by simp [bv, List.map_take]
theorem bv_drop (l : List UInt8) (n : Nat) : (bv l).drop n = bv (l.drop n) := by simp [bv, List.map_drop]
theorem bytesOfV_bv : ∀ (l : List UInt8), bytesOfV (bv l) = some l
  | [] => rfl
  | b :: l => by
    have : bytesOfV (bv (b :: l)) = (bytesOfV (bv l)).map (UInt8.ofNat ((b.toNat : Int)).toNat :: ·) := rfl
    rw [this, bytesOfV_bv l]
    simp
theorem bv_inj {l m : List UInt8} (h : bv l = bv m) : l = m := by
  have := congrArg bytesOfV h
  rw [bytesOfV_bv, bytesOfV_bv] at this
  exact Option.some.inj this
end Go.Gx

/-
  Slices of equal pieces that fill their rows, and append.
-/
namespace Go.Gx

@[simp] theorem cast_neg (k : Nat) : ((k : Int) < 0) = False := by simp
@[simp] theorem rowLoad_none {cells : List Value} {o : Nat} : rowLoad cells o none = cells[o]? := _root_.id rfl
@[simp] theorem bitOf (n i : Nat) : Nat.testBit n i = decide (n / 2 ^ i % 2 = 1) := Nat.testBit_eq_decide_div_mod_eq
@[simp] theorem get_put_else {S : AS} {m n : Nat} {o : AObj} (h : m ≠ n) : (S.put n o).get m = S.get m := AS.get_put_ne _ _ h
theorem rowLoad_all {cells : List Value} {k : Nat} (h : cells.length = k) : rowLoad cells 0 (some k) = some (.agg cells.toArray) := by
  simp [rowLoad, List.take_of_length_le, h]
theorem rowStore_all {cells vs : List Value} (h : vs.length = cells.length) (hok : vs.all okc = true) : rowStore cells 0 vs = some vs := by
  unfold rowStore
  rw [if_pos ⟨by omega, hok⟩]
  simp [splice, h]
theorem placeIn_all {z vs : List Value} (h : vs.length = z.length) : placeIn z [(0, vs)] = some vs := by
  simp [placeIn, splice, h]
theorem placeIn_two {a b c d : List Value} (h : c.length = a.length) (g : d.length = b.length) : placeIn (a ++ b) [(0, c), (a.length, d)] = some (c ++ d) := by
  simp [placeIn, splice, h, g]

theorem Uni.cell {k : Nat} {ls : List (List Value)} {i j : Nat} {l : List Value} (h : Uni k ls) (hi : ls[i]? = some l) (hj : j < k) : ls.flatten[i * k + j]? = l[j]? := by
  rw [← h.get hi, List.getElem?_take, if_pos hj, List.getElem?_drop]

/-- a slice that fills its row -/
def SlAt (S : AS) (e : TypeId) (v : Value) (ls : List (List Value)) : Prop :=
  (v = .slice none 0 0 ∧ ls = []) ∨ ∃ p ex, v = .slice (some ⟨p, 0, none⟩) ls.length ls.length ∧ S.get p = some (.row ls.flatten e true ex) ∧ p < S.next

def ownsOf : Value → List Nat
  | .slice (some ⟨p, _, none⟩) _ _ => [p]
  | _ => []

/-- all but some names of before are as they were -/
def Same (S S' : AS) (fp : List Nat) : Prop := S.next ≤ S'.next ∧ ∀ m, m < S.next → m ∉ fp → S'.get m = S.get m
theorem Same.refl (S : AS) (fp : List Nat) : Same S S fp := ⟨Nat.le_refl _, fun _ _ _ => rfl⟩
theorem Same.trans {S U V : AS} {fp gp : List Nat} (h : Same S U fp) (k : Same U V gp) (hg : ∀ m ∈ gp, m < S.next → m ∈ fp) : Same S V fp :=
  ⟨Nat.le_trans h.1 k.1, fun m hm hn => by rw [k.2 m (Nat.lt_of_lt_of_le hm h.1) (fun hk => hn (hg m hk hm)), h.2 m hm hn]⟩
theorem Same.mono {S U : AS} {fp gp : List Nat} (h : Same S U fp) (hg : ∀ m ∈ fp, m < S.next → m ∈ gp) : Same S U gp := ⟨h.1, fun m hm hn => h.2 m hm fun hk => hn (hg m hk hm)⟩
theorem same_put (S : AS) (d : Nat) (o : AObj) : Same S (S.put d o) [d] := ⟨Nat.le_refl _, fun m _ hm => by rw [AS.get_put_ne _ _ (by simpa using hm)]⟩
theorem same_bump (S : AS) (k : Nat) (fp : List Nat) : Same S (S.bump k) fp := ⟨by simp, fun m _ hm => by rw [AS.get_bump]⟩
theorem same_new {S : AS} {d : Nat} (o : AObj) (h : S.next ≤ d) (fp : List Nat) : Same S (S.put d o) fp := ⟨Nat.le_refl _, fun m hm _ => by rw [AS.get_put_ne _ _ (by omega)]⟩

theorem SlAt.stays {S S' : AS} {e : TypeId} {v : Value} {ls : List (List Value)} (h : SlAt S e v ls) {fp : List Nat} (hs : Same S S' fp) (hd : ∀ m ∈ ownsOf v, m ∉ fp) : SlAt S' e v ls := by
  rcases h with h | ⟨p, ex, h1, h2, h3⟩
  · exact .inl h
  · refine .inr ⟨p, ex, h1, ?_, Nat.lt_of_lt_of_le h3 hs.1⟩
    rw [hs.2 p h3 (hd p (by rw [h1]; simp [ownsOf])), h2]

/-- append to a slice that fills its row: a new row -/
theorem appV_new {S : AS} {fr : Nat} {e : TypeId} {k bytes : Nat} {v y : Value} {ls ms : List (List Value)} (h : SlAt S e v ls) (hu : Uni k ls) (hk : 0 < k) (hm : ms ≠ []) (hum : Uni k ms) (hy : srcCells S k y = some (ms.length, ms.flatten))
    (hb : (2 * (ls.length + ms.length) + 192) * bytes ≤ 281474976710656) (hb0 : 0 < bytes) (hok : ms.flatten.all okc = true) :
    ∃ S0 : AS, appV S fr e k bytes v y = some (.slice (some ⟨fr, 0, none⟩) (ls.length + ms.length) (ls.length + ms.length), S0.put fr (.row (ls ++ ms).flatten e true false)) ∧ S0.next = S.next ∧ ∀ m, m ∉ ownsOf v → S0.get m = S.get m := by
  have hml : 0 < ms.length := List.length_pos_iff.2 hm
  have hne : ms.flatten.isEmpty = false := by
    rw [List.isEmpty_eq_false_iff]
    intro h0
    have := hum.len
    rw [h0] at this
    have h2 := Nat.mul_pos hml hk
    simp only [List.length_nil] at this
    omega
  rcases h with ⟨rfl, rfl⟩ | ⟨p, ex, rfl, h2, h3⟩
  · refine ⟨S, ?_, rfl, fun _ _ => rfl⟩
    unfold appV
    rw [hy]
    simp only []
    rw [if_neg (by omega), if_pos ⟨by simpa using hb, hb0, hk⟩]
    simp [vs]
  · unfold appV
    rw [hy]
    simp only []
    rw [if_neg (by omega), if_pos ⟨hb, hb0, hk⟩, h2]
    simp only []
    have hl := hu.len
    rw [if_pos (by rw [hl]; omega)]
    have ht : (ls.flatten.drop 0).take (ls.length * k) = ls.flatten := by rw [List.drop_zero, ← hl, List.take_length]
    rw [ht]
    cases ex with
    | true =>
      refine ⟨S, ?_, rfl, fun _ _ => rfl⟩
      simp [vs]
    | false =>
      refine ⟨S.put p .dead, ?_, rfl, fun m hm => ?_⟩
      · rw [if_neg (by simp), if_pos ⟨trivial, trivial, hok⟩]
        simp [vs]
      · rw [AS.get_put_ne _ _ (by simpa [ownsOf] using hm)]

theorem SlAt.src {S : AS} {e : TypeId} {v : Value} {ls : List (List Value)} {k : Nat} (h : SlAt S e v ls) (hu : Uni k ls) (hk : 0 < k) : srcCells S k v = some (ls.length, ls.flatten) := by
  rcases h with ⟨rfl, rfl⟩ | ⟨p, ex, rfl, h2, h3⟩
  · simp [srcCells]
  · unfold srcCells
    simp only []
    have hl := hu.len
    split
    · rename_i h0
      have : ls = [] := by
        rcases Nat.mul_eq_zero.1 h0 with h1 | h1
        · exact List.length_eq_zero_iff.1 h1
        · omega
      subst this; rfl
    · rw [h2]
      simp only []
      rw [if_pos (by omega), List.drop_zero, ← hl, List.take_length]
end Go.Gx

/-
  Maps: the operations as equations; a map as a partial function of its keys.
-/
namespace Go.Gx

section
variable {ev : Operand → Value} {fr : Nat} {S : AS}
def lookR (S : AS) (z : Value) (ok : Bool) : Option (Option (Nat × Value)) → T (Value × AS)
  | some (some (_, v)) => .ret (if ok then .tuple #[v, .bool true] else v, S)
  | some none => .ret (if ok then .tuple #[z, .bool false] else z, S)
  | none => .fail
def lookO (S : AS) (ks : List K) (agg : Bool) (z : Value) (ok : Bool) (i : Value) : Option AObj → T (Value × AS)
  | some (.map es _) => lookR S z ok (findC ks agg i es)
  | _ => .fail
def lookE (S : AS) (ks : List K) (agg : Bool) (z : Value) (ok : Bool) (i : Value) : Value → T (Value × AS)
  | .map none => lookR S z ok (findC ks agg i [])
  | .map (some n) => lookO S ks agg z ok i (S.get n)
  | _ => .fail
theorem lookR_eq (z : Value) (ok : Bool) (r : Option (Option (Nat × Value))) : (T.ofOption ((r.map fun r =>
      let (v, b) := match r with | some (_, v) => (v, true) | none => (z, false)
      if ok then .tuple #[v, .bool b] else v).map fun v => (v, S)) : T (Value × AS)) = lookR S z ok r := by
  cases r with
  | none => rfl
  | some r => cases r with
    | none => rfl
    | some p => rfl
@[simp] theorem eval_look {ks : List K} {agg : Bool} {z : Value} {ok : Bool} {x i : Operand} : (I.look ks agg z ok x i).eval ev fr S = lookE S ks agg z ok (ev i) (ev x) := by
  simp only [I.eval, lookE]
  generalize ev x = vx
  cases vx <;> try rfl
  rename_i m
  cases m with
  | none =>
    simp only []
    generalize findC ks agg (ev i) [] = r
    cases r with
    | none => rfl
    | some r => cases r <;> rfl
  | some n =>
    simp only [lookO]
    generalize S.get n = ob
    cases ob with
    | none => rfl
    | some ob =>
      cases ob <;> try rfl
      rename_i es c
      simp only []
      generalize findC ks agg (ev i) es = r
      cases r with
      | none => rfl
      | some r => cases r <;> rfl
@[simp] theorem lookE_map {ks : List K} {agg : Bool} {z : Value} {ok : Bool} {i : Value} {n : Nat} : lookE S ks agg z ok i (.map (some n)) = lookO S ks agg z ok i (S.get n) := _root_.id rfl
@[simp] theorem lookO_map {ks : List K} {agg : Bool} {z : Value} {ok : Bool} {i : Value} {es : List MapEntry} {c : Nat} : lookO S ks agg z ok i (some (.map es c)) = lookR S z ok (findC ks agg i es) := _root_.id rfl
@[simp] theorem lookR_none {z : Value} {ok : Bool} : lookR S z ok (some none) = .ret (if ok then .tuple #[z, .bool false] else z, S) := _root_.id rfl
@[simp] theorem lookR_some {z : Value} {ok : Bool} {j : Nat} {v : Value} : lookR S z ok (some (some (j, v))) = .ret (if ok then .tuple #[v, .bool true] else v, S) := _root_.id rfl

def msetR (S : AS) (n : Nat) (es : List MapEntry) (c : Nat) (k v : Value) : Option (Option (Nat × Value)) → T (Value × AS)
  | some (some (i, _)) => .ret (undef, S.put n (.map (es.modify i fun e => { e with val := v }) c))
  | some none => .ret (undef, S.put n (.map (es ++ [{ key := k, val := v, born := c }]) (c + 1)))
  | none => .fail
def msetO (S : AS) (ks : List K) (agg : Bool) (n : Nat) (k v : Value) : Option AObj → T (Value × AS)
  | some (.map es c) => msetR S n es c k v (findC ks agg k es)
  | _ => .fail
def msetE (S : AS) (ks : List K) (agg : Bool) (k v : Value) : Value → T (Value × AS)
  | .map (some n) => msetO S ks agg n k v (S.get n)
  | _ => .fail
@[simp] theorem eval_mset {ks : List K} {agg : Bool} {m k v : Operand} : (I.mset ks agg m k v).eval ev fr S = msetE S ks agg (ev k) (ev v) (ev m) := by
  simp only [I.eval, msetE]
  generalize ev m = vx
  cases vx <;> try rfl
@[simp] theorem msetE_map {ks : List K} {agg : Bool} {k v : Value} {n : Nat} : msetE S ks agg k v (.map (some n)) = msetO S ks agg n k v (S.get n) := _root_.id rfl
@[simp] theorem msetO_map {ks : List K} {agg : Bool} {n : Nat} {k v : Value} {es : List MapEntry} {c : Nat} : msetO S ks agg n k v (some (.map es c)) = msetR S n es c k v (findC ks agg k es) := _root_.id rfl
@[simp] theorem msetR_some {n : Nat} {es : List MapEntry} {c : Nat} {k v : Value} {i : Nat} {u : Value} : msetR S n es c k v (some (some (i, u))) = .ret (undef, S.put n (.map (es.modify i fun e => { e with val := v }) c)) := _root_.id rfl
@[simp] theorem msetR_none {n : Nat} {es : List MapEntry} {c : Nat} {k v : Value} : msetR S n es c k v (some none) = .ret (undef, S.put n (.map (es ++ [{ key := k, val := v, born := c }]) (c + 1))) := _root_.id rfl

def mlenO (S : AS) : Option AObj → T (Value × AS)
  | some (.map es _) => .ret (vi es.length, S)
  | _ => .fail
def mlenE (S : AS) : Value → T (Value × AS)
  | .map none => .ret (vi 0, S)
  | .map (some n) => mlenO S (S.get n)
  | _ => .fail
@[simp] theorem eval_mlen {x : Operand} : (I.mlen x).eval ev fr S = mlenE S (ev x) := by
  simp only [I.eval, mlenE]
  generalize ev x = vx
  cases vx <;> try rfl
@[simp] theorem mlenE_map {n : Nat} : mlenE S (.map (some n)) = mlenO S (S.get n) := _root_.id rfl
@[simp] theorem mlenO_map {es : List MapEntry} {c : Nat} : mlenO S (some (.map es c)) = .ret (vi es.length, S) := _root_.id rfl
end

/-! ## a map as a function -/
/-- keys of a type, told apart by '==' -/
structure KeyEnc (ks : List K) (agg : Bool) {α : Type} [DecidableEq α] (key : α → Value) : Prop where
  eq : ∀ a b, veq ks agg (key a) (key b) = some (decide (a = b))

theorem keyInt : KeyEnc [.int .i64] false (fun x : Int => Value.int .i64 x) := ⟨fun a b => by
  by_cases h : a = b <;> simp [veq, cseq, ceq, h]⟩
theorem keyInt2 : KeyEnc [.int .i64, .int .i64] true (fun x : Int × Int => Value.agg #[.int .i64 x.1, .int .i64 x.2]) := ⟨fun a b => by
  obtain ⟨a1, a2⟩ := a
  obtain ⟨b1, b2⟩ := b
  by_cases h : a1 = b1 <;> by_cases h2 : a2 = b2 <;> simp [veq, cseq, ceq, h, h2]⟩
theorem keyInt3 : KeyEnc [.int .i64, .int .i64, .int .i64] true (fun x : Int × Int × Int => Value.agg #[.int .i64 x.1, .int .i64 x.2.1, .int .i64 x.2.2]) := ⟨fun a b => by
  obtain ⟨a1, a2, a3⟩ := a
  obtain ⟨b1, b2, b3⟩ := b
  by_cases h : a1 = b1 <;> by_cases h2 : a2 = b2 <;> by_cases h3 : a3 = b3 <;> simp [veq, cseq, ceq, h, h2, h3]⟩

section
variable {ks : List K} {agg : Bool} {α : Type} [DecidableEq α] {key : α → Value}

structure Fnd (ks : List K) (agg : Bool) (key : α → Value) (es : List MapEntry) (f : α → Option Value) : Prop where
  keys : ∀ e ∈ es, ∃ a, e.key = key a
  find : ∀ a, ∃ r, findK ks agg (key a) es 0 = some r ∧ r.map (·.2) = f a

theorem Fnd.nil : Fnd ks agg key [] fun _ => none := ⟨fun e h => (by cases h), fun a => ⟨none, rfl, rfl⟩⟩

theorem KeyEnc.ok (h : KeyEnc ks agg key) (a : α) : keyOK ks agg (key a) = true := by simp [keyOK, h.eq]

theorem Fnd.get (hk : KeyEnc ks agg key) {es : List MapEntry} {f : α → Option Value} (h : Fnd ks agg key es f) (a : α) : ∃ r, findC ks agg (key a) es = some r ∧ r.map (·.2) = f a := by
  obtain ⟨r, h1, h2⟩ := h.find a
  exact ⟨r, by simp [findC, hk.ok, h1], h2⟩

theorem findK_append (hk : KeyEnc ks agg key) (a : α) (e : MapEntry) (b : α) (he : e.key = key b) : ∀ (es : List MapEntry) (i : Nat), (∀ e ∈ es, ∃ a, e.key = key a) →
    findK ks agg (key a) (es ++ [e]) i = match findK ks agg (key a) es i with
      | some (some r) => some (some r)
      | some none => some (if a = b then some (i + es.length, e.val) else none)
      | none => none
  | [], i, _ => by
    simp only [List.nil_append, findK, he, hk.eq, List.length_nil, Nat.add_zero]
    by_cases h : a = b <;> simp [h]
  | d :: es, i, h => by
    obtain ⟨c, hc⟩ := h d (by simp)
    simp only [List.cons_append, findK, hc, hk.eq]
    by_cases h1 : a = c
    · simp [h1]
    · simp only [h1, decide_false]
      rw [findK_append hk a e b he es (i + 1) fun e he => h e (by simp [he])]
      have : i + 1 + es.length = i + (d :: es).length := by simp; omega
      rw [this]

theorem findK_modify (hk : KeyEnc ks agg key) (a b : α) (v : Value) : ∀ (es : List MapEntry) (i j : Nat) (u : Value), (∀ e ∈ es, ∃ a, e.key = key a) → findK ks agg (key b) es i = some (some (i + j, u)) →
    findK ks agg (key a) (es.modify j fun e => { e with val := v }) i = if a = b then some (some (i + j, v)) else findK ks agg (key a) es i
  | [], i, j, u, _, h => by simp [findK] at h
  | d :: es, i, j, u, hkeys, h => by
    obtain ⟨c, hc⟩ := hkeys d (by simp)
    simp only [findK, hc, hk.eq] at h
    by_cases h1 : b = c
    · simp only [h1, decide_true, Option.some.injEq, Prod.mk.injEq] at h
      have hj : j = 0 := by omega
      subst hj
      subst h1
      simp only [List.modify_zero_cons, findK, hc, hk.eq]
      by_cases h2 : a = b <;> simp [h2]
    · simp only [h1, decide_false] at h
      have hsp := findK_spec h
      obtain ⟨j', rfl⟩ : ∃ j', j = j' + 1 := ⟨j - 1, by
        have : i + 1 ≤ i + j := hsp.1
        omega⟩
      simp only [List.modify_succ_cons, findK, hc, hk.eq]
      by_cases h2 : a = c
      · have h3 : a ≠ b := fun e => h1 (by rw [← e, h2])
        simp [h2, Ne.symm h1]
      · simp only [h2, decide_false]
        rw [findK_modify hk a b v es (i + 1) j' u (fun e he => hkeys e (by simp [he])) (by rw [h]; congr 3; omega)]
        have : i + 1 + j' = i + (j' + 1) := by omega
        rw [this]

/-- what is found after a key has been set -/
def upd1 (f : α → Option Value) (a : α) (v : Value) : α → Option Value := fun b => if b = a then some v else f b

theorem Fnd.add (hk : KeyEnc ks agg key) {es : List MapEntry} {f : α → Option Value} (h : Fnd ks agg key es f) {a : α} (ha : f a = none) (v : Value) (c : Nat) : Fnd ks agg key (es ++ [{ key := key a, val := v, born := c }]) (upd1 f a v) := by
  refine ⟨fun e he => ?_, fun b => ?_⟩
  · rcases List.mem_append.1 he with he | he
    · exact h.keys e he
    · simp at he; subst he; exact ⟨a, rfl⟩
  · obtain ⟨r, h1, h2⟩ := h.find b
    have hf := findK_append hk b { key := key a, val := v, born := c } a rfl es 0 h.keys
    rw [h1] at hf
    rw [hf]
    unfold upd1
    by_cases hb : b = a
    · subst hb
      rw [ha] at h2
      cases r with
      | none => exact ⟨_, rfl, by simp⟩
      | some p => simp at h2
    · cases r with
      | none => exact ⟨_, rfl, by simp [hb, ← h2]⟩
      | some p => exact ⟨_, rfl, by simp [hb, ← h2]⟩

theorem Fnd.set (hk : KeyEnc ks agg key) {es : List MapEntry} {f : α → Option Value} (h : Fnd ks agg key es f) {a : α} {i : Nat} {u : Value} (hi : findC ks agg (key a) es = some (some (i, u))) (v : Value) :
    Fnd ks agg key (es.modify i fun e => { e with val := v }) (upd1 f a v) := by
  have hi' : findK ks agg (key a) es 0 = some (some (0 + i, u)) := by simpa [findC, hk.ok] using hi
  refine ⟨fun e he => ?_, fun b => ?_⟩
  · obtain ⟨j, hj, rfl⟩ := List.getElem_of_mem he
    rw [List.getElem_modify]
    have hj' : j < es.length := by simpa using hj
    split
    · exact h.keys es[j] (List.getElem_mem hj')
    · exact h.keys es[j] (List.getElem_mem hj')
  · obtain ⟨r, h1, h2⟩ := h.find b
    rw [findK_modify hk b a v es 0 i u h.keys hi']
    unfold upd1
    by_cases hb : b = a
    · simp [hb]
    · simp only [hb, if_false]; exact ⟨r, h1, h2⟩
end

/-- a map lies at a name -/
def MapAt (S : AS) (n : Nat) (ks : List K) (agg : Bool) {α : Type} [DecidableEq α] (key : α → Value) (f : α → Option Value) : Prop := ∃ es c, S.get n = some (.map es c) ∧ Fnd ks agg key es f

section
variable {ev : Operand → Value} {fr : Nat} {S : AS} {ks : List K} {agg : Bool} {α : Type} [DecidableEq α] {key : α → Value} {f : α → Option Value} {n : Nat}

theorem MapAt.look (hk : KeyEnc ks agg key) (h : MapAt S n ks agg key f) (a : α) (z : Value) (ok : Bool) :
    lookE S ks agg z ok (key a) (.map (some n)) = .ret (if ok then .tuple #[(f a).getD z, .bool (f a).isSome] else (f a).getD z, S) := by
  obtain ⟨es, c, h1, h2⟩ := h
  obtain ⟨r, h3, h4⟩ := h2.get hk a
  simp only [lookE_map, h1, lookO_map, h3]
  rw [← h4]
  cases r with
  | none => rfl
  | some p => rfl

theorem MapAt.mset (hk : KeyEnc ks agg key) (h : MapAt S n ks agg key f) (a : α) (v : Value) :
    ∃ o, msetE S ks agg (key a) v (.map (some n)) = .ret (undef, S.put n o) ∧ MapAt (S.put n o) n ks agg key (upd1 f a v) := by
  obtain ⟨es, c, h1, h2⟩ := h
  obtain ⟨r, h3, h4⟩ := h2.get hk a
  simp only [msetE_map, h1, msetO_map, h3]
  cases r with
  | none => exact ⟨_, msetR_none, _, _, AS.get_put_self _ _ _, h2.add hk (by rw [← h4]; rfl) v c⟩
  | some p => obtain ⟨i, u⟩ := p; exact ⟨_, msetR_some, _, _, AS.get_put_self _ _ _, h2.set hk h3 v⟩
end
end Go.Gx

/-
  Loops: an invariant that names some of the temporaries.
-/
namespace Go.Gx

def pickL : List (Nat × Value) → Nat → Value → Value
  | [], _, d => d
  | (k, v) :: r, t, d => if t = k then v else pickL r t d
def fillF (spec : List (Nat × Value)) (x : Nat → Value) : Nat → Nat → List Value
  | _, 0 => []
  | t, n + 1 => pickL spec t (x t) :: fillF spec x (t + 1) n

/-- so many temporaries, of which these are known -/
structure Has (a : Act) (n : Nat) (spec : List (Nat × Value)) (ds : List Deferred := []) (rd : Option Nat := none) : Prop where
  act : a = ⟨a.env, ds, none, false, rd⟩
  len : a.env.length = n
  get : ∀ p ∈ spec, a.env[p.1]? = some p.2

theorem fillF_get (spec : List (Nat × Value)) (x : Nat → Value) : ∀ (n t j : Nat), (fillF spec x t n)[j]? = if j < n then some (pickL spec (t + j) (x (t + j))) else none
  | 0, t, j => by simp [fillF]
  | n + 1, t, 0 => by simp [fillF]
  | n + 1, t, j + 1 => by
    simp only [fillF, List.getElem?_cons_succ]
    rw [fillF_get spec x n (t + 1) j]
    have : t + 1 + j = t + (j + 1) := by omega
    rw [this]
    simp

theorem pickL_mem : ∀ (spec : List (Nat × Value)) (t : Nat) (d : Value), pickL spec t d = d ∨ (t, pickL spec t d) ∈ spec
  | [], _, _ => .inl rfl
  | (k, v) :: r, t, d => by
    unfold pickL
    split
    · rename_i h; subst h; exact .inr (by simp)
    · rcases pickL_mem r t d with h | h
      · exact .inl h
      · exact .inr (List.mem_cons_of_mem _ h)

theorem Has.lit {a : Act} {n : Nat} {spec : List (Nat × Value)} {ds : List Deferred} {rd : Option Nat} (h : Has a n spec ds rd) : ∃ x : Nat → Value, a = ⟨fillF spec x 0 n, ds, none, false, rd⟩ := by
  refine ⟨fun t => a.env.getD t undef, ?_⟩
  rw [h.act]
  congr 1
  refine List.ext_getElem? fun j => ?_
  rw [fillF_get]
  simp only [Nat.zero_add]
  split
  · rename_i hj
    have hs : a.env[j]? = some (a.env.getD j undef) := by
      rw [List.getD_eq_getElem?_getD]
      have : j < a.env.length := by rw [h.len]; exact hj
      simp [this]
    rcases pickL_mem spec j (a.env.getD j undef) with h1 | h1
    · rw [h1]; exact hs
    · exact h.get _ h1
  · rename_i hj
    rw [List.getElem?_eq_none]
    rw [h.len]; omega

section
variable {G : Tab} {st : List Fr} {a : Act} {S : AS} {Q : Post}
/-- the end of a round: what is wanted of the next one stays unseen -/
def RoundR (R : Act → AS → Prop) (Q : Post) : Post
  | .norm, a, S => R a S
  | e, a, S => Q e a S
theorem run_loop {x : C} (I : Nat → Act → AS → Prop) (k : Nat) (hI : I k a S) (h : ∀ k (R : Act → AS → Prop), (∀ k' a S, k' < k → I k' a S → R a S) → ∀ a S, I k a S → Run G x [] a S (RoundR R (unwind G st Q))) : Run G (.loop x) st a S Q :=
  wp_loop' I (fun k a S hi => (h k (fun a S => ∃ k', k' < k ∧ I k' a S) (fun k' a S hk hi => ⟨k', hk, hi⟩) a S hi).mono fun e a S hr => by cases e <;> exact hr) k a S hI
@[simp] theorem round_norm {R : Act → AS → Prop} {Q : Post} : RoundR R Q .norm a S = R a S := _root_.id rfl
@[simp] theorem round_ret {R : Act → AS → Prop} : RoundR R (unwind G st Q) .ret a S = Unw G st .ret a S Q := _root_.id rfl
@[simp] theorem round_exit {R : Act → AS → Prop} {id : Nat} : RoundR R (unwind G st Q) (.exit id) a S = Unw G st (.exit id) a S Q := _root_.id rfl
@[simp] theorem round_panic {R : Act → AS → Prop} {v : Value} : RoundR R (unwind G st Q) (.panic v) a S = Unw G st (.panic v) a S Q := _root_.id rfl
end

/-! ## a cut: what holds behind a piece, seen from both sides -/
section
variable {G : Tab} {st : List Fr} {a : Act} {S : AS} {Q : Post}
theorem cut_post {rest : C} {I : Act → AS → Prop} (h2 : ∀ a S, I a S → Run G rest st a S Q) (e : Ex) (a : Act) (S : AS) (h : unwind G [] (RoundR I (unwind G st Q)) e a S) : unwind G (.seq rest :: st) Q e a S := by
  cases e with
  | norm => exact h2 a S h
  | _ => exact h
theorem cut_run {x rest : C} (I : Act → AS → Prop) (h1 : ∀ M : Act → AS → Prop, (∀ a S, I a S → M a S) → Run G x [] a S (RoundR M (unwind G st Q))) (h2 : ∀ a S, I a S → Run G rest st a S Q) : Run G x (.seq rest :: st) a S Q :=
  (h1 I fun _ _ h => h).mono (cut_post h2)
theorem cut_if {v : Value} {x y rest : C} (I : Act → AS → Prop) (h1 : ∀ M : Act → AS → Prop, (∀ a S, I a S → M a S) → RunIf G v x y [] a S (RoundR M (unwind G st Q))) (h2 : ∀ a S, I a S → Run G rest st a S Q) : RunIf G v x y (.seq rest :: st) a S Q := by
  have h := h1 I fun _ _ h => h
  unfold RunIf at h ⊢
  split at h
  · exact h.mono (cut_post h2)
  · exact h.mono (cut_post h2)
  · exact h.elim
theorem cut_ops {os : List O} {fr : Nat} {rest : C} (I : Act → AS → Prop) (h1 : ∀ M : Act → AS → Prop, (∀ a S, I a S → M a S) → RunOps G os fr [] a S (RoundR M (unwind G st Q))) (h2 : ∀ a S, I a S → Run G rest st a S Q) : RunOps G os fr (.seq rest :: st) a S Q := by
  obtain ⟨n, h⟩ := h1 I fun _ _ h => h
  exact ⟨n, T.all_mono (fun r hr => cut_post h2 _ _ _ hr) h⟩
/-- behind a region and its test -/
def Lift (st2 : List Fr) (G : Tab) (R : Act → AS → Prop) (st : List Fr) (Q : Post) : Post := unwind G st2 (RoundR R (unwind G st Q))
theorem unwind_app : ∀ (st1 st2 : List Fr) (Q : Post), unwind G (st1 ++ st2) Q = unwind G st1 (unwind G st2 Q)
  | [], _, _ => rfl
  | .seq y :: st1, st2, Q => by
    show Then G y (unwind G (st1 ++ st2) Q) = Then G y (unwind G st1 (unwind G st2 Q))
    rw [unwind_app st1 st2 Q]
  | .block id :: st1, st2, Q => by
    show (fun e a S => unwind G (st1 ++ st2) Q (unblock id e) a S) = (fun e a S => unwind G st1 (unwind G st2 Q) (unblock id e) a S)
    rw [unwind_app st1 st2 Q]
theorem unwind_mono : ∀ (st : List Fr) {P R : Post} (_ : ∀ e a S, P e a S → R e a S) (e : Ex) (a : Act) (S : AS), unwind G st P e a S → unwind G st R e a S
  | [], _, _, h, e, a, S, hp => h e a S hp
  | .seq y :: st, P, R, h, e, a, S, hp => by
    cases e with
    | norm => exact WP.mono hp fun e a S hq => unwind_mono st h e a S hq
    | _ => exact unwind_mono st h _ a S hp
  | .block id :: st, P, R, h, e, a, S, hp => unwind_mono st h _ a S hp
/-- the same, with frames in between -/
theorem cut_w {b : Bool} {o : O} {os : List O} {fr : Nat} {y rest : C} (I : Act → AS → Prop) (h1 : ∀ M : Act → AS → Prop, (∀ a S, I a S → M a S) → RunW G b o os fr [.seq y] a S (RoundR M (unwind G st Q))) (h2 : ∀ a S, I a S → Run G rest st a S Q) : RunW G b o os fr (.seq y :: .seq rest :: st) a S Q := by
  have h := h1 I fun _ _ h => h
  have hm : ∀ e a S, unwind G [.seq y] (RoundR I (unwind G st Q)) e a S → unwind G (.seq y :: .seq rest :: st) Q e a S := fun e a S hh => by
    have := unwind_mono (G := G) [.seq y] (R := unwind G (.seq rest :: st) Q) (cut_post h2) e a S hh
    rw [← unwind_app] at this
    exact this
  cases b with
  | true =>
    obtain ⟨n, h⟩ := h
    exact ⟨n, T.all_mono (fun r hr => hm _ _ _ hr) h⟩
  | false =>
    obtain ⟨n, h⟩ := h
    exact ⟨n, T.all_mono (fun r hr => hm _ _ _ hr) h⟩
end

theorem SlAt.ln {S S' : AS} {e : TypeId} {v : Value} {ls : List (List Value)} (h : SlAt S e v ls) : lnE S' v = .ret (.int .i64 ls.length, S') := by
  rcases h with ⟨rfl, rfl⟩ | ⟨p, ex, rfl, _, _⟩ <;> rfl
theorem SlAt.idx {S S' : AS} {e : TypeId} {v : Value} {ls : List (List Value)} (h : SlAt S e v ls) {k : Nat} {i : Nat} {j : IntKind} (hi : i < ls.length) :
    ∃ p ex, idxE S' k none (.int j i) v = .ret (.pointer (some ⟨p, i * k, none⟩), S') ∧ S.get p = some (.row ls.flatten e true ex) ∧ p < S.next ∧ p ∈ ownsOf v := by
  rcases h with ⟨rfl, rfl⟩ | ⟨p, ex, rfl, h2, h3⟩
  · simp at hi
  · refine ⟨p, ex, ?_, h2, h3, by simp [ownsOf]⟩
    simp [hi]
end Go.Gx

/-
  Slices of cells, copying.
-/
namespace Go.Gx

theorem SlAt.owns_lt {S : AS} {e : TypeId} {v : Value} {ls : List (List Value)} (h : SlAt S e v ls) : ∀ b ∈ ownsOf v, b < S.next := by
  intro b hb
  rcases h with ⟨rfl, _⟩ | ⟨p, ex, rfl, _, hp⟩
  · simp [ownsOf] at hb
  · simp [ownsOf] at hb; subst hb; exact hp
/-- a slice of cells -/
structure Cs (S : AS) (v : Value) (cs : List Value) : Prop where
  shape : ∃ a cap, v = .slice a cs.length cap
  cells : srcCells S 1 v = some (cs.length, cs)
  lt : ∀ b ∈ ownsOf v, b < S.next

theorem Cs.idx {S S' : AS} {v : Value} {cs : List Value} (h : Cs S v cs) {i : Nat} {j : IntKind} (hi : i < cs.length) :
    ∃ p o cells e wr ex, idxE S' 1 none (.int j i) v = .ret (.pointer (some ⟨p, o, none⟩), S') ∧ S.get p = some (.row cells e wr ex) ∧ p < S.next ∧ p ∈ ownsOf v ∧ cells[o]? = some cs[i] := by
  obtain ⟨a, cap, rfl⟩ := h.shape
  have hc := h.cells
  match a with
  | none =>
    simp [srcCells] at hc
    omega
  | some ⟨b, o, some s⟩ =>
    simp only [srcCells] at hc
    split at hc
    · omega
    · simp at hc
  | some ⟨b, o, none⟩ =>
    simp only [srcCells] at hc
    rw [if_neg (by omega)] at hc
    split at hc
    · rename_i cells e wr ex hg
      split at hc
      · rename_i hle
        simp only [Option.some.injEq, Prod.mk.injEq, true_and] at hc
        refine ⟨b, o + i * 1, cells, e, wr, ex, by simp [hi], hg, h.lt b (by simp [ownsOf]), by simp [ownsOf], ?_⟩
        have : cs[i]? = some cs[i] := List.getElem?_eq_getElem hi
        rw [← this]
        conv => rhs; rw [← hc]
        rw [List.getElem?_take, if_pos (by omega), List.getElem?_drop]
        simp
      · simp at hc
    · simp at hc

theorem Cs.stays {S S' : AS} {v : Value} {cs : List Value} (h : Cs S v cs) {fp : List Nat} (hs : Same S S' fp) (hd : ∀ m ∈ ownsOf v, m ∉ fp) : Cs S' v cs := by
  refine ⟨h.shape, ?_, fun b hb => Nat.lt_of_lt_of_le (h.lt b hb) hs.1⟩
  have hc := h.cells
  obtain ⟨a, cap, rfl⟩ := h.shape
  match a with
  | none => exact hc
  | some ⟨b, o, some s⟩ => exact hc
  | some ⟨b, o, none⟩ =>
    simp only [srcCells] at hc ⊢
    rw [hs.2 b (h.lt b (by simp [ownsOf])) (hd b (by simp [ownsOf]))]
    exact hc

/-- the first cells of a piece change -/
theorem Uni.storePart {k : Nat} {ls : List (List Value)} {i : Nat} {v old : List Value} (h : Uni k ls) (hi : ls[i]? = some old) (hv : v.length ≤ k) (hok : v.all okc = true) : rowStore ls.flatten (i * k) v = some (ls.set i (v ++ old.drop v.length)).flatten := by
  have hlt := (List.getElem?_eq_some_iff.1 hi).1
  have hol : old.length = k := h old (List.mem_of_getElem? hi)
  have hw : (v ++ old.drop v.length).length = k := by simp; omega
  have hle : (i + 1) * k ≤ ls.length * k := Nat.mul_le_mul_right _ hlt
  rw [Nat.succ_mul] at hle
  unfold rowStore
  rw [if_pos ⟨by rw [h.len]; omega, hok⟩, ← h.splice hlt hw]
  unfold Gx.splice
  have e : i * k + (v ++ old.drop v.length).length = (i + 1) * k := by rw [hw, Nat.succ_mul]
  rw [e, List.append_assoc, List.append_assoc, List.append_assoc]
  congr 2
  rw [← List.drop_drop, h.drop i, h.drop (i + 1), List.drop_eq_getElem_cons hlt, List.flatten_cons]
  have e2 : ls[i] = old := (List.getElem?_eq_some_iff.1 hi).2
  rw [e2, List.drop_append_of_le_length (by omega)]

/-- copying cells to a place -/
theorem cpyV_row {S : AS} {p o n c fr q m : Nat} {e e2 : TypeId} {ex wr2 ex2 : Bool} {cells cells2 new : List Value} (hp : S.get p = some (.row cells e true ex)) (hq : S.get fr = some (.row cells2 e2 wr2 ex2)) (hle : q + n ≤ cells2.length) (hst : n ≠ 0 → rowStore cells o ((cells2.drop q).take n) = some new) (h0 : n = 0 → new = cells) :
    ∃ S', cpyV S 1 (.slice (some ⟨p, o, none⟩) n c) (.slice (some ⟨fr, q, none⟩) n m) = some (.int .i64 n, S') ∧ S'.get p = some (.row new e true ex) ∧ Same S S' [p] ∧ S'.next = S.next := by
  unfold cpyV
  simp only [srcCells, Nat.mul_one]
  by_cases hn : n = 0
  · subst hn
    rw [h0 rfl]
    exact ⟨S, by simp, hp, .refl _ _, rfl⟩
  · rw [if_neg hn, hq]
    simp only []
    rw [if_pos hle]
    simp only [Nat.min_self]
    have hne : ((((cells2.drop q).take n).take n)).isEmpty = false := by
      rw [List.isEmpty_eq_false_iff]
      intro h1
      have := congrArg List.length h1
      simp at this
      omega
    have ht : ((cells2.drop q).take n).take n = (cells2.drop q).take n := by rw [List.take_take, Nat.min_self]
    rw [hne]
    simp only [hp]
    rw [ht, hst hn]
    exact ⟨_, rfl, by simp, same_put _ _ _, rfl⟩

/-- copying all pieces -/
theorem cpyV_all {S : AS} {p fr k n : Nat} {e e2 : TypeId} {ex wr2 ex2 : Bool} {ls ms : List (List Value)} (hp : S.get p = some (.row ls.flatten e true ex)) (hq : S.get fr = some (.row ms.flatten e2 wr2 ex2)) (hl : ls.length = n) (hm : ms.length = n) (hul : Uni k ls) (hum : Uni k ms) (hk : 0 < k) (hok : ms.flatten.all okc = true) :
    ∃ S', cpyV S k (.slice (some ⟨p, 0, none⟩) n n) (.slice (some ⟨fr, 0, none⟩) n n) = some (.int .i64 n, S') ∧ S'.get p = some (.row ms.flatten e true ex) ∧ Same S S' [p] ∧ S'.next = S.next := by
  have l1 := hul.len
  have l2 := hum.len
  rw [hl] at l1
  rw [hm] at l2
  unfold cpyV
  simp only [srcCells]
  by_cases hn : n = 0
  · subst hn
    have : ls = [] := List.length_eq_zero_iff.1 hl
    have : ms = [] := List.length_eq_zero_iff.1 hm
    subst ls ms
    exact ⟨S, by simp, hp, .refl _ _, rfl⟩
  · have hnk : 0 < n * k := Nat.mul_pos (by omega) hk
    rw [if_neg (by omega), hq]
    simp only []
    rw [if_pos (by omega)]
    simp only [Nat.min_self, List.drop_zero]
    have ht : ms.flatten.take (n * k) = ms.flatten := by rw [← l2, List.take_length]
    have hne : ms.flatten.isEmpty = false := by
      rw [List.isEmpty_eq_false_iff]
      intro h1
      have := congrArg List.length h1
      simp only [List.length_nil] at this
      omega
    rw [ht, ht, hne]
    simp only [hp]
    rw [rowStore_all (by omega) hok]
    exact ⟨_, rfl, by simp, same_put _ _ _, rfl⟩
end Go.Gx

/-
  Arguments that are slices.
-/
namespace Go.Gx

theorem take_drop_one {cells : List Value} {i : Nat} {c : Value} (h : cells[i]? = some c) : (cells.drop i).take 1 = [c] := by
  have hlt := (List.getElem?_eq_some_iff.1 h).1
  rw [List.drop_eq_getElem_cons hlt]
  have e : cells[i] = c := (List.getElem?_eq_some_iff.1 h).2
  simp [e]

theorem ty_slice1 {P : Program} {S : AS} {d : Nat} {t e : TypeId} {v : Value} (hu : P.underlying t = some (.slice e)) (h1 : P.cellsOf e = 1) (hv : S.Valid) (h : Ty P S (d + 1) t [v]) :
    ∃ cs, Cs S v cs ∧ cs.length ≤ maxLen ∧ (∀ c ∈ cs, Ty P S d e [c]) := by
  unfold Ty at h
  rw [hu] at h
  simp only [List.cons.injEq, and_true] at h
  rcases h with rfl | rfl | ⟨n, len, cap, cells, et, rfl, h2, h3, h4, h5, h6, h7⟩
  · exact ⟨[], ⟨⟨none, 0, rfl⟩, rfl, by simp [ownsOf]⟩, Nat.zero_le _, by simp⟩
  · exact ⟨[], ⟨⟨some ⟨0, 0, some 0⟩, 0, rfl⟩, rfl, by simp [ownsOf, zsl]⟩, Nat.zero_le _, by simp⟩
  · rw [h1, Nat.mul_one] at h6
    have hl : (cells.take len).length = len := by simp; omega
    refine ⟨cells.take len, ⟨⟨some ⟨n, 0, none⟩, cap, by rw [hl]⟩, ?_, ?_⟩, by omega, ?_⟩
    · rw [hl]
      simp only [srcCells, Nat.mul_one, h2]
      split
      · rename_i h0; subst h0; simp
      · rw [if_pos (by omega)]; simp
    · intro b hb
      simp [ownsOf] at hb
      subst hb
      exact hv _ _ h2 (by simp)
    · intro c hc
      obtain ⟨i, hi⟩ := List.getElem?_of_mem hc
      have hlt : i < len := by rw [← hl]; exact (List.getElem?_eq_some_iff.1 hi).1
      rw [List.getElem?_take, if_pos hlt] at hi
      have := h7 i (by omega)
      rw [h1, Nat.mul_one, take_drop_one hi] at this
      exact this

theorem ty_int {P : Program} {S : AS} {d : Nat} {t : TypeId} {k : IntKind} {v : Value} (hu : P.underlying t = some (.int k)) (h : Ty P S (d + 1) t [v]) : ∃ n, v = .int k n ∧ (Lit.int k n).wf = true := by
  unfold Ty at h
  rw [hu] at h
  obtain ⟨n, h1, h2⟩ := h
  simp at h1
  exact ⟨n, h1, h2⟩

theorem wf_i64 {n : Int} (h : (Lit.int .i64 n).wf = true) : -9223372036854775808 ≤ n ∧ n ≤ 9223372036854775807 := by
  have h1 : IntKind.i64.min = -9223372036854775808 := rfl
  have h2 : IntKind.i64.max = 9223372036854775807 := rfl
  simp only [Lit.wf, Bool.and_eq_true, decide_eq_true_eq] at h
  omega
theorem wf_u8 {n : Int} (h : (Lit.int .u8 n).wf = true) : 0 ≤ n ∧ n ≤ 255 := by
  have h1 : IntKind.u8.min = 0 := rfl
  have h2 : IntKind.u8.max = 255 := rfl
  simp only [Lit.wf, Bool.and_eq_true, decide_eq_true_eq] at h
  omega

theorem bytes_of {cs : List Value} (h : ∀ c ∈ cs, ∃ n, c = .int .u8 n ∧ (Lit.int .u8 n).wf = true) : ∃ data : List UInt8, cs = bv data := by
  induction cs with
  | nil => exact ⟨[], rfl⟩
  | cons c cs ih =>
    obtain ⟨data, rfl⟩ := ih fun x hx => h x (by simp [hx])
    obtain ⟨n, rfl, hn⟩ := h c (by simp)
    have := wf_u8 hn
    refine ⟨UInt8.ofNat n.toNat :: data, ?_⟩
    simp only [bv, List.map_cons]
    congr 2
    rw [UInt8.toNat_ofNat']
    omega

theorem ty_bytes {P : Program} {S : AS} {d : Nat} {t e : TypeId} {v : Value} (hu : P.underlying t = some (.slice e)) (h1 : P.cellsOf e = 1) (he : P.underlying e = some (.int .u8)) (hv : S.Valid) (h : Ty P S (d + 2) t [v]) :
    ∃ data : List UInt8, Cs S v (bv data) ∧ data.length ≤ maxLen := by
  obtain ⟨cs, g1, g2, g3⟩ := ty_slice1 hu h1 hv h
  obtain ⟨data, rfl⟩ := bytes_of fun c hc => ty_int he (g3 c hc)
  exact ⟨data, g1, by rw [bv_len] at g2; exact g2⟩

theorem tyArgs_cons {P : Program} {S : AS} {d : Nat} {t : TypeId} {ts : List TypeId} {vs : List Value} (h : TyArgs P S d (t :: ts) vs) : ∃ v ws, vs = v :: ws ∧ TyV P S d t v ∧ TyArgs P S d ts ws := by
  cases vs with
  | nil => exact h.elim
  | cons v ws => exact ⟨v, ws, rfl, h.1, h.2⟩
theorem tyArgs_nil {P : Program} {S : AS} {d : Nat} {vs : List Value} (h : TyArgs P S d [] vs) : vs = [] := by
  cases vs with
  | nil => rfl
  | cons v ws => exact h.elim
theorem tyV_int {P : Program} {S : AS} {d : Nat} {t : TypeId} {k : IntKind} {v : Value} (hu : P.underlying t = some (.int k)) (h : TyV P S d t v) : Ty P S d t [v] := by
  unfold TyV at h
  rw [hu] at h
  exact h
theorem tyV_slice {P : Program} {S : AS} {d : Nat} {t e : TypeId} {v : Value} (hu : P.underlying t = some (.slice e)) (h : TyV P S d t v) : Ty P S d t [v] := by
  unfold TyV at h
  rw [hu] at h
  exact h

theorem ints_of {cs : List Value} (h : ∀ c ∈ cs, ∃ n, c = .int .i64 n ∧ (Lit.int .i64 n).wf = true) : ∃ ks : List Int, cs = ks.map (.int .i64 ·) ∧ ∀ k ∈ ks, -9223372036854775808 ≤ k ∧ k ≤ 9223372036854775807 := by
  induction cs with
  | nil => exact ⟨[], rfl, by simp⟩
  | cons c cs ih =>
    obtain ⟨ks, rfl, hks⟩ := ih fun x hx => h x (by simp [hx])
    obtain ⟨n, rfl, hn⟩ := h c (by simp)
    exact ⟨n :: ks, rfl, fun k hk => by rcases List.mem_cons.1 hk with rfl | hk; exact wf_i64 hn; exact hks k hk⟩
end Go.Gx

/-
  Strings.
-/
namespace Go.Gx

/-- a string of these bytes -/
def str (l : List UInt8) : Value := .string ⟨l.toArray⟩
@[simp] theorem str_fold (l : List UInt8) : Value.string ⟨l.toArray⟩ = str l := _root_.id rfl
theorem str_of (s : ByteArray) : Value.string s = str s.data.toList := _root_.id rfl

theorem ba_ext {a b : ByteArray} (h : a.data.toList = b.data.toList) : a = b := by
  cases a; cases b
  congr
  exact Array.toList_inj.1 h
theorem ba_size (l : List UInt8) : (⟨l.toArray⟩ : ByteArray).size = l.length := by simp [ByteArray.size]
theorem ba_append (a b : List UInt8) : (⟨a.toArray⟩ : ByteArray) ++ ⟨b.toArray⟩ = ⟨(a ++ b).toArray⟩ := by
  apply ba_ext
  simp [ByteArray.data_append]
theorem ba_extract (l : List UInt8) (a b : Nat) : (⟨l.toArray⟩ : ByteArray).extract a b = ⟨((l.take b).drop a).toArray⟩ := by
  apply ba_ext
  simp [ByteArray.data_extract, List.drop_take]
theorem ba_inj {a b : List UInt8} : ((⟨a.toArray⟩ : ByteArray) = ⟨b.toArray⟩) ↔ a = b := by
  constructor
  · intro h
    have := congrArg (fun x => x.data.toList) h
    simpa using this
  · rintro rfl; rfl
theorem str_inj {a b : List UInt8} : str a = str b ↔ a = b := by
  unfold str
  rw [Value.string.injEq]
  exact ba_inj

section
variable {S : AS} {fr : Nat} {e : TypeId}
@[simp] theorem slnE_s {l : List UInt8} : slnE S (str l) = .ret (.int .i64 l.length, S) := by
  show T.ret (vi (⟨l.toArray⟩ : ByteArray).size, S) = _
  rw [ba_size]
  rfl
@[simp] theorem binV_add_s {a b : List UInt8} : binV .add (str a) (str b) = if a.length + b.length ≤ 9223372036854775807 then some (str (a ++ b)) else none := by
  show strBin .add _ _ = _
  unfold strBin
  simp only [ba_size, ba_append]
  rfl
@[simp] theorem binV_eql_s {a b : List UInt8} : binV .eql (str a) (str b) = some (.bool (decide (a = b))) := by
  show some (Value.bool (decide _)) = _
  simp only [ba_inj]
@[simp] theorem binV_neq_s {a b : List UInt8} : binV .neq (str a) (str b) = some (.bool (!decide (a = b))) := by
  show some (Value.bool (!decide _)) = _
  simp only [ba_inj]
@[simp] theorem sidxE_s {k : IntKind} {j : Int} {l : List UInt8} : sidxE S (.int k j) (str l) = if 0 ≤ j then T.ofOption (((l[j.toNat]?).map fun b => .int .u8 b.toNat).map fun v => (v, S)) else .fail := _root_.id rfl
@[simp] theorem sslcE_s {l : List UInt8} {lo hi : Option Value} : sslcE S lo hi (str l) = T.ofOption (((bndsV l.length l.length lo hi none).map fun b => str ((l.take b.2.1).drop b.1)).map fun v => (v, S)) := by
  show T.ofOption (((bndsV (⟨l.toArray⟩ : ByteArray).size (⟨l.toArray⟩ : ByteArray).size lo hi none).map _).map _) = _
  rw [ba_size]
  congr 2
  cases bndsV l.length l.length lo hi none with
  | none => rfl
  | some b => simp only [Option.map_some, ba_extract]; rfl
@[simp] theorem b2sE_s {n len c : Nat} {l : List UInt8} {a : Option Addr} : b2sE S (some (n, bv l)) (.slice a len c) = .ret (str l, S) := by
  show T.ofOption (((bytesOfV (bv l)).map _).map _) = _
  rw [bytesOfV_bv]
  rfl
@[simp] theorem s2bE_s {l : List UInt8} : s2bE fr e (str l) = some (.slice (some ⟨fr, 0, none⟩) l.length l.length, .row (bv l) e true false) := by
  show some (vs fr 0 (⟨l.toArray⟩ : ByteArray).size (⟨l.toArray⟩ : ByteArray).size, _) = _
  rw [ba_size]
  rfl
@[simp] theorem cellsL_s {l : List UInt8} : cellsL (str l) = [str l] := _root_.id rfl
@[simp] theorem okc_s {l : List UInt8} : okc (str l) = true := _root_.id rfl
@[simp] theorem notT_s {l : List UInt8} : notT (str l) = true := _root_.id rfl
@[simp] theorem cvsE_s {l : List UInt8} : cvsE S (str l) = .ret (str l, S) := _root_.id rfl
@[simp] theorem srcCells_s {l : List UInt8} : srcCells S 1 (str l) = some (l.length, bv l) := by
  show (if 1 = 1 then some ((⟨l.toArray⟩ : ByteArray).size, _) else none) = _
  rw [ba_size]
  rfl
@[simp] theorem bytesOfV_nil : bytesOfV [] = some [] := _root_.id rfl
attribute [simp] bytesOfV_bv
@[simp] theorem srcCells_nil {k n c : Nat} : srcCells S k (.slice none n c) = some (0, []) := _root_.id rfl
@[simp] theorem b2sE_e {n len c : Nat} {a : Option Addr} : b2sE S (some (n, [])) (.slice a len c) = .ret (str [], S) := _root_.id rfl
@[simp] theorem binV_eql_b {a b : Bool} : veq [.bool] false (.bool a) (.bool b) = some (a == b) := by
  simp [veq, cseq, ceq]
end
end Go.Gx

/-
  Slices of structs.
-/
namespace Go.Gx

/-- a slice of pieces -/
structure Ps (S : AS) (k : Nat) (v : Value) (ls : List (List Value)) : Prop where
  shape : ∃ a cap, v = .slice a ls.length cap
  cells : srcCells S k v = some (ls.length, ls.flatten)
  uni : Uni k ls
  lt : ∀ b ∈ ownsOf v, b < S.next

theorem Ps.stays {S S' : AS} {k : Nat} {v : Value} {ls : List (List Value)} (h : Ps S k v ls) {fp : List Nat} (hs : Same S S' fp) (hd : ∀ m ∈ ownsOf v, m ∉ fp) : Ps S' k v ls := by
  refine ⟨h.shape, ?_, h.uni, fun b hb => Nat.lt_of_lt_of_le (h.lt b hb) hs.1⟩
  have hc := h.cells
  obtain ⟨a, cap, rfl⟩ := h.shape
  match a with
  | none => exact hc
  | some ⟨b, o, some s⟩ => exact hc
  | some ⟨b, o, none⟩ =>
    simp only [srcCells] at hc ⊢
    rw [hs.2 b (h.lt b (by simp [ownsOf])) (hd b (by simp [ownsOf]))]
    exact hc

theorem Ps.idx {S S' : AS} {k : Nat} {v : Value} {ls : List (List Value)} (h : Ps S k v ls) (hk : 0 < k) {i : Nat} {j : IntKind} {l : List Value} (hi : ls[i]? = some l) :
    ∃ p o cells e wr ex, idxE S' k none (.int j i) v = .ret (.pointer (some ⟨p, o, none⟩), S') ∧ S.get p = some (.row cells e wr ex) ∧ p < S.next ∧ p ∈ ownsOf v ∧ (∀ x, x < k → cells[o + x]? = l[x]?) ∧ rowLoad cells o (some k) = some (.agg l.toArray) := by
  obtain ⟨a, cap, rfl⟩ := h.shape
  have hc := h.cells
  have hlt := (List.getElem?_eq_some_iff.1 hi).1
  have hnk : 0 < ls.length * k := Nat.mul_pos (by omega) hk
  have hik : (i + 1) * k ≤ ls.length * k := Nat.mul_le_mul_right _ hlt
  rw [Nat.succ_mul] at hik
  match a with
  | none =>
    simp [srcCells] at hc
    omega
  | some ⟨b, o, some s⟩ =>
    simp only [srcCells] at hc
    split at hc
    · omega
    · simp at hc
  | some ⟨b, o, none⟩ =>
    simp only [srcCells] at hc
    rw [if_neg (by omega)] at hc
    split at hc
    · rename_i cells e wr ex hg
      split at hc
      · rename_i hle
        simp only [Option.some.injEq, Prod.mk.injEq, true_and] at hc
        have hdt : (cells.drop (o + i * k)).take k = l := by
          have := h.uni.get hi
          rw [← hc, List.drop_take, List.take_take, Nat.min_eq_left (by omega), List.drop_drop] at this
          exact this
        refine ⟨b, o + i * k, cells, e, wr, ex, by simp [hlt], hg, h.lt b (by simp [ownsOf]), by simp [ownsOf], fun x hx => ?_, ?_⟩
        · rw [← hdt, List.getElem?_take, if_pos hx, List.getElem?_drop]
        · simp only [rowLoad]
          rw [if_pos (by omega), hdt]
      · simp at hc
    · simp at hc

theorem ty_slice {P : Program} {S : AS} {d k : Nat} {t e : TypeId} {v : Value} (hu : P.underlying t = some (.slice e)) (h1 : P.cellsOf e = k) (hk : 0 < k) (hv : S.Valid) (h : Ty P S (d + 1) t [v]) :
    ∃ ls, Ps S k v ls ∧ ls.length ≤ maxLen ∧ (∀ l ∈ ls, Ty P S d e l) := by
  unfold Ty at h
  rw [hu] at h
  simp only [List.cons.injEq, and_true] at h
  rcases h with rfl | rfl | ⟨n, len, cap, cells, et, rfl, h2, h3, h4, h5, h6, h7⟩
  · exact ⟨[], ⟨⟨none, 0, rfl⟩, rfl, by intro l hl; simp at hl, by simp [ownsOf]⟩, Nat.zero_le _, by simp⟩
  · exact ⟨[], ⟨⟨some ⟨0, 0, some 0⟩, 0, rfl⟩, by simp [srcCells, zsl], by intro l hl; simp at hl, by simp [ownsOf, zsl]⟩, Nat.zero_le _, by simp⟩
  · rw [h1] at h6 h7
    have hlk : len * k ≤ cap * k := Nat.mul_le_mul_right _ h3
    have hfl : ∀ n, n ≤ cap → ((List.range n).map fun i => (cells.drop (i * k)).take k).flatten = cells.take (n * k) := by
      intro n
      induction n with
      | zero => simp
      | succ n ih =>
        intro hn
        rw [List.range_succ, List.map_append, List.flatten_append, ih (by omega), Nat.succ_mul, List.take_add]
        simp
    have huni : ∀ n, n ≤ cap → Uni k ((List.range n).map fun i => (cells.drop (i * k)).take k) := by
      intro n hn l hl
      obtain ⟨i, hi, rfl⟩ := List.mem_map.1 hl
      have hi' : i < n := by simpa using hi
      have : (i + 1) * k ≤ cap * k := Nat.mul_le_mul_right _ (by omega)
      rw [Nat.succ_mul] at this
      rw [List.length_take, List.length_drop]
      omega
    refine ⟨(List.range len).map fun i => (cells.drop (i * k)).take k, ⟨⟨some ⟨n, 0, none⟩, cap, by simp⟩, ?_, huni len h3, ?_⟩, by simp; omega, ?_⟩
    · rw [hfl len h3]
      simp only [srcCells, h2, List.length_map, List.length_range]
      split
      · rename_i h0; rw [h0]; simp
      · rw [if_pos (by omega)]; simp
    · intro b hb
      simp [ownsOf] at hb
      subst hb
      exact hv _ _ h2 (by simp)
    · intro l hl
      obtain ⟨i, hi, rfl⟩ := List.mem_map.1 hl
      exact h7 i (by have : i < len := by simpa using hi
                     omega)

/-- types and places of a struct's fields -/
def fieldsAt (P : Program) (t : TypeId) : List (TypeId × Nat) :=
  match P.underlying t with
  | some (.struct fs) => fs.toList.map fun f => (f.type, f.offset)
  | _ => []

theorem ty_struct {P : Program} {S : AS} {d : Nat} {t : TypeId} {cs : List Value} {L : List (TypeId × Nat)} (hL : fieldsAt P t = L) (hne : L ≠ []) (h : Ty P S (d + 1) t cs) :
    cs.length = P.cellsOf t ∧ ∀ p ∈ L, Ty P S d p.1 ((cs.drop p.2).take (P.cellsOf p.1)) := by
  subst hL
  unfold fieldsAt at hne ⊢
  unfold Ty at h
  cases hu : P.underlying t with
  | none => rw [hu] at hne; exact absurd rfl hne
  | some u =>
    rw [hu] at h hne
    cases u with
    | struct fs =>
      refine ⟨h.1, fun p hp => ?_⟩
      obtain ⟨f, hf, rfl⟩ := List.mem_map.1 hp
      exact h.2 f hf
    | _ => exact absurd rfl hne

theorem ty_str {P : Program} {S : AS} {d : Nat} {t : TypeId} {v : Value} (hu : P.underlying t = some .string) (h : Ty P S (d + 1) t [v]) : ∃ l : List UInt8, v = str l ∧ l.length ≤ maxLen := by
  unfold Ty at h
  rw [hu] at h
  obtain ⟨s, h1, h2⟩ := h
  simp at h1
  have e : s.data.toList.length = s.size := by rw [Array.length_toList]; rfl
  exact ⟨s.data.toList, h1, by rw [e]; exact h2⟩

theorem strs_of {cs : List Value} (h : ∀ c ∈ cs, ∃ l : List UInt8, c = str l ∧ l.length ≤ maxLen) : ∃ ls : List (List UInt8), cs = ls.map str ∧ ∀ l ∈ ls, l.length ≤ maxLen := by
  induction cs with
  | nil => exact ⟨[], rfl, by simp⟩
  | cons c cs ih =>
    obtain ⟨ks, rfl, hks⟩ := ih fun x hx => h x (by simp [hx])
    obtain ⟨n, rfl, hn⟩ := h c (by simp)
    exact ⟨n :: ks, rfl, fun k hk => by
      rcases List.mem_cons.1 hk with rfl | hk
      · exact hn
      · exact hks k hk⟩
theorem map_of {α : Type} {f : α → List Value} {R : α → Prop} {ls : List (List Value)} (h : ∀ l ∈ ls, ∃ a, l = f a ∧ R a) : ∃ as' : List α, ls = as'.map f ∧ ∀ a ∈ as', R a := by
  induction ls with
  | nil => exact ⟨[], rfl, by simp⟩
  | cons c cs ih =>
    obtain ⟨ks, rfl, hks⟩ := ih fun x hx => h x (by simp [hx])
    obtain ⟨n, rfl, hn⟩ := h c (by simp)
    exact ⟨n :: ks, rfl, fun k hk => by
      rcases List.mem_cons.1 hk with rfl | hk
      · exact hn
      · exact hks k hk⟩
end Go.Gx

/-
  Results in cells, shifts, copying into a row.
-/
namespace Go.Gx

def cellRow (g : Option Nat) (o : Nat) : Option AObj → Option Value
  | some (.row cells _ _ _) => rowLoad cells o g
  | _ => none
def cellRV (S : AS) (g : Option Nat) : Value → Option Value
  | .pointer (some ⟨n, o, none⟩) => cellRow g o (S.get n)
  | _ => none
section
variable {S : AS} {env : List Value} {t u : Nat} {g : Option Nat}
theorem loadRV_cell : loadRV env S (.cell t g) = cellRV S g (env.getD t undef) := _root_.id rfl
@[simp] theorem cellRV_ptr {n o : Nat} : cellRV S g (.pointer (some ⟨n, o, none⟩)) = cellRow g o (S.get n) := _root_.id rfl
@[simp] theorem cellRow_row {o : Nat} {cells : List Value} {e : TypeId} {wr ex : Bool} : cellRow g o (some (.row cells e wr ex)) = rowLoad cells o g := _root_.id rfl
@[simp] theorem resV_cell : resV [.cell t g] env S = cellRV S g (env.getD t undef) := by
  unfold resV
  simp only [List.mapM_cons, List.mapM_nil, loadRV_cell]
  cases cellRV S g (env.getD t undef) <;> rfl
@[simp] theorem resV_cell_tmp : resV [.cell t g, .tmp u] env S = (cellRV S g (env.getD t undef)).map fun v => .tuple #[v, env.getD u undef] := by
  unfold resV
  simp only [List.mapM_cons, List.mapM_nil, loadRV_cell]
  cases cellRV S g (env.getD t undef) <;> rfl

@[simp] theorem binV_shl8 {x : Int} : binV .shl (.int .i64 x) (.int .u64 8) = some (.int .i64 (IntKind.i64.wrap (x * 256))) := by
  simp [binV, isSh, shBin, IntKind.bits]
@[simp] theorem binV_shl16 {x : Int} : binV .shl (.int .i64 x) (.int .u64 16) = some (.int .i64 (IntKind.i64.wrap (x * 65536))) := by
  simp [binV, isSh, shBin, IntKind.bits]
@[simp] theorem binV_shr8 {x : Int} : binV .shr (.int .i64 x) (.int .u64 8) = some (.int .i64 (x / 256)) := by
  simp [binV, isSh, shBin, IntKind.bits, Int.fdiv_eq_ediv_of_nonneg]
@[simp] theorem binV_shr16 {x : Int} : binV .shr (.int .i64 x) (.int .u64 16) = some (.int .i64 (x / 65536)) := by
  simp [binV, isSh, shBin, IntKind.bits, Int.fdiv_eq_ediv_of_nonneg]
end

theorem bndV_nat {k : IntKind} {a b : Nat} (h : a ≤ b) : bndV (.int k (a : Int)) b = some a := by
  unfold bndV
  simp only []
  rw [if_pos ⟨by omega, by omega⟩]
  rfl
theorem bnds_mid {len cap a b : Nat} (h1 : a ≤ b) (h2 : b ≤ cap) : bndsV len cap (some (.int .i64 (a : Int))) (some (.int .i64 (b : Int))) none = some (a, b, cap) := by
  unfold bndsV
  simp only [Option.bind_some, bndV_nat h2, bndV_nat h1]
theorem bnds_lo {len cap a : Nat} (h1 : a ≤ len) : bndsV len cap (some (.int .i64 (a : Int))) none none = some (a, len, cap) := by
  unfold bndsV
  simp [bndV_nat h1]
theorem bnds_hi {len cap b : Nat} (h2 : b ≤ cap) : bndsV len cap none (some (.int .i64 (b : Int))) none = some (0, b, cap) := by
  unfold bndsV
  simp only [Option.bind_some, bndV_nat h2]
theorem bnds_all {len cap : Nat} : bndsV len cap none none none = some (0, len, cap) := _root_.id rfl

def spl (a : List UInt8) (o : Nat) (b : List UInt8) : List UInt8 := a.take o ++ b ++ a.drop (o + b.length)
theorem splice_bv (a b : List UInt8) (o : Nat) : splice (bv a) o (bv b) = bv (spl a o b) := by
  simp [splice, spl, bv_len, bv_take, bv_drop, bv_append]

/-- copying bytes into a row -/
theorem cpyV_into {S : AS} {p o n c : Nat} {y : Value} {e : TypeId} {ex : Bool} {cells src : List UInt8} (hp : S.get p = some (.row (bv cells) e true ex)) (hy : srcCells S 1 y = some (src.length, bv src)) (hle : o + n ≤ cells.length) :
    ∃ S', cpyV S 1 (.slice (some ⟨p, o, none⟩) n c) y = some (.int .i64 ((min src.length n : Nat) : Int), S') ∧ S'.get p = some (.row (bv (spl cells o (src.take n))) e true ex) ∧ Same S S' [p] ∧ S'.next = S.next := by
  unfold cpyV
  rw [hy]
  simp only [Nat.mul_one]
  have ht : (bv src).take (min src.length n) = bv (src.take n) := by
    rw [bv_take]
    congr 1
    by_cases h : n ≤ src.length
    · rw [Nat.min_eq_right h]
    · rw [Nat.min_eq_left (by omega), List.take_of_length_le (Nat.le_refl _), List.take_of_length_le (by omega)]
  rw [ht]
  by_cases h0 : src.take n = []
  · rw [h0]
    refine ⟨S, by simp [bv, vi], ?_, .refl _ _, rfl⟩
    rw [hp]
    simp [spl]
  · have hne : (bv (src.take n)).isEmpty = false := by
      rw [List.isEmpty_eq_false_iff]
      intro h
      exact h0 (bv_inj (m := []) h)
    rw [hne]
    simp only [hp]
    have hst : rowStore (bv cells) o (bv (src.take n)) = some (bv (spl cells o (src.take n))) := by
      unfold rowStore
      rw [if_pos ⟨by rw [bv_len, bv_len, List.length_take]; omega, bv_ok _⟩, splice_bv]
    rw [hst]
    exact ⟨_, rfl, by simp, same_put _ _ _, rfl⟩

section
variable {G : Tab} {st : List Fr} {a : Act} {Q : Post}
theorem runT_st {o : Option (Value × AS)} {v : Value} {P : AS → Prop} {dst : Option Nat} {os : List O} {fr : Nat} (h : ∃ S', o = some (v, S') ∧ P S') (k : ∀ S', P S' → RunT G (.ret (v, S')) dst os fr st a Q) : RunT G (T.ofOption o) dst os fr st a Q := by
  obtain ⟨S', rfl, hp⟩ := h
  exact k S' hp
theorem runT_ex {o : Option (Value × AS)} {P : Value → AS → Prop} {dst : Option Nat} {os : List O} {fr : Nat} (h : ∃ S' v, o = some (v, S') ∧ P v S') (k : ∀ v S', P v S' → RunT G (.ret (v, S')) dst os fr st a Q) : RunT G (T.ofOption o) dst os fr st a Q := by
  obtain ⟨S', v, rfl, hp⟩ := h
  exact k v S' hp
theorem runDT_ex {o : Option (Value × AS)} {P : Value → AS → Prop} {bef : Nat} {dst : Option Nat} {all ds : List DO} {n0 : Nat} {pend : Pend} {rds : Rds} (h : ∃ S' v, o = some (v, S') ∧ P v S') (k : ∀ v S', P v S' → RunDT G (.ret (v, S')) bef dst all ds n0 pend rds st a Q) : RunDT G (T.ofOption o) bef dst all ds n0 pend rds st a Q := by
  obtain ⟨S', v, rfl, hp⟩ := h
  exact k v S' hp
theorem runDT_st {o : Option (Value × AS)} {v : Value} {P : AS → Prop} {bef : Nat} {dst : Option Nat} {all ds : List DO} {n0 : Nat} {pend : Pend} {rds : Rds} (h : ∃ S', o = some (v, S') ∧ P S') (k : ∀ S', P S' → RunDT G (.ret (v, S')) bef dst all ds n0 pend rds st a Q) : RunDT G (T.ofOption o) bef dst all ds n0 pend rds st a Q := by
  obtain ⟨S', rfl, hp⟩ := h
  exact k S' hp
end

/-- single cells as pieces -/
def sing (cs : List Value) : List (List Value) := cs.map fun x => [x]
theorem sing_flat : ∀ (cs : List Value), (sing cs).flatten = cs
  | [] => rfl
  | c :: cs => by
    show [c] ++ (sing cs).flatten = c :: cs
    rw [sing_flat cs]; rfl
theorem sing_len (cs : List Value) : (sing cs).length = cs.length := by simp [sing]
theorem sing_uni (cs : List Value) : Uni 1 (sing cs) := fun l hl => by
  obtain ⟨x, _, rfl⟩ := List.mem_map.1 hl
  rfl
theorem sing_app (cs ds : List Value) : sing (cs ++ ds) = sing cs ++ sing ds := by simp [sing]

/-- append cells to a slice that fills its row -/
theorem appV_cells {S : AS} {fr : Nat} {e : TypeId} {bytes : Nat} {v y : Value} {cs ds : List Value} (h : SlAt S e v (sing cs)) (hy : srcCells S 1 y = some (ds.length, ds)) (hok : ds.all okc = true)
    (hb : (2 * (cs.length + ds.length) + 192) * bytes ≤ 281474976710656) (hb0 : 0 < bytes) (hfr : fr < S.next) (hfo : fr ∉ ownsOf v) :
    ∃ S' v', appV S fr e 1 bytes v y = some (v', S') ∧ SlAt S' e v' (sing (cs ++ ds)) ∧ Same S S' (fr :: ownsOf v) ∧ S'.next = S.next ∧ ∀ x ∈ ownsOf v', x ∈ ownsOf v ∨ x = fr := by
  by_cases hd : ds = []
  · subst hd
    refine ⟨S, v, ?_, by simpa using h, .refl _ _, rfl, fun x hx => .inl hx⟩
    rcases h with ⟨rfl, h2⟩ | ⟨p, ex, rfl, _, _⟩
    · unfold appV
      rw [hy]
      simp
    · unfold appV
      rw [hy]
      simp
  · have hsd : sing ds ≠ [] := fun h0 => hd (by have := congrArg List.length h0; rw [sing_len] at this; exact List.length_eq_zero_iff.1 this)
    obtain ⟨S0, a1, a2, a3⟩ := appV_new (fr := fr) (e := e) (k := 1) (bytes := bytes) (ms := sing ds) h (sing_uni _) (by omega) hsd (sing_uni _) (by rw [sing_len, sing_flat]; exact hy) (by rw [sing_len, sing_len]; exact hb) hb0 (by rw [sing_flat]; exact hok)
    refine ⟨_, _, a1, .inr ⟨fr, false, by rw [sing_app, List.length_append], by rw [AS.get_put_self, sing_app], ?_⟩, ⟨?_, fun m hm hn => ?_⟩, ?_, fun x hx => ?_⟩
    · simp only [AS.next_put]; omega
    · simp only [AS.next_put]; omega
    · simp only [List.mem_cons, not_or] at hn
      rw [AS.get_put_ne _ _ hn.1, a3 m hn.2]
    · simp only [AS.next_put]; exact a2
    · simp [ownsOf] at hx; exact .inr hx

theorem idxE_any {S S' : AS} {k : Nat} {x v w : Value} (h : idxE S k none x v = .ret (w, S)) : idxE S' k none x v = .ret (w, S') := by
  simp only [idxE] at h ⊢
  split at h
  · rename_i n o len cap
    split at h
    · rename_i hc
      simp only [T.ret.injEq, Prod.mk.injEq, and_true] at h
      simp only [if_pos hc, h]
    · simp at h
  · simp at h

/-- a cut behind a block -/
theorem cut_block {G : Tab} {st : List Fr} {a : Act} {S : AS} {Q : Post} {c rest : C} {id : Nat} (I : Act → AS → Prop) (h1 : ∀ M : Act → AS → Prop, (∀ a S, I a S → M a S) → Run G c [.block id] a S (RoundR M (unwind G st Q))) (h2 : ∀ a S, I a S → Run G rest st a S Q) : Run G c (.block id :: .seq rest :: st) a S Q :=
  (h1 I fun _ _ h => h).mono fun e a S hh => by
    have := unwind_mono (G := G) [.block id] (R := unwind G (.seq rest :: st) Q) (cut_post h2) e a S hh
    rw [← unwind_app] at this
    exact this

/-! ## what has been read matters only to what may write -/
def otherB : Cls → Bool
  | .other => true
  | _ => false
@[simp] theorem otherB_pure : otherB .pure = false := _root_.id rfl
@[simp] theorem otherB_read : otherB .read = false := _root_.id rfl
@[simp] theorem otherB_lit : otherB .lit = false := _root_.id rfl
@[simp] theorem otherB_new : otherB .new = false := _root_.id rfl
@[simp] theorem otherB_other : otherB .other = true := _root_.id rfl
def noOther : List DO → Bool
  | [] => true
  | d :: ds => !otherB d.cls && noOther ds
@[simp] theorem noOther_nil : noOther [] = true := _root_.id rfl
@[simp] theorem noOther_cons {d : DO} {ds : List DO} : noOther (d :: ds) = (!otherB d.cls && noOther ds) := _root_.id rfl

theorem drawOs_forget {call : Callee → AS → T (En × AS)} {all : List DO} : ∀ (ds : List DO) (n0 : Nat) (a : Act) (S : AS) (pend : List (Nat × Nat × AObj)) (r1 r2 : List (DO × Act × Value)), noOther ds = true → drawOs call all ds n0 a S pend r1 = drawOs call all ds n0 a S pend r2
  | [], _, _, _, _, _, _, _ => rfl
  | d :: ds, n0, a, S, pend, r1, r2, h => by
    simp only [noOther_cons, Bool.and_eq_true, Bool.not_eq_true'] at h
    have ih := fun a S pend r1 r2 => drawOs_forget (call := call) (all := all) ds n0 a S pend r1 r2 h.2
    unfold drawOs
    split
    · cases hc : d.cls with
      | pure =>
        simp only []
        congr 1
        funext x
        exact ih _ _ _ _ _
      | read =>
        simp only []
        congr 1
        funext x
        exact ih _ _ _ _ _
      | new =>
        simp only []
        cases d.o.i.newV a.ev (n0 + d.nm) with
        | none => rfl
        | some x => exact ih _ _ _ _ _
      | lit =>
        simp only []
        cases litP d.o a.ev (d.lit.getD 0) pend with
        | none => rfl
        | some x => exact ih _ _ _ _ _
      | other => rw [hc] at h; simp at h
    · exact ih _ _ _ _ _

@[simp high] theorem runDs_forget {G : Tab} {all ds : List DO} {n0 : Nat} {pend : Pend} {r : DO × Act × Value} {rds : Rds} {st : List Fr} {a : Act} {S : AS} {Q : Post} (h : noOther ds = true) : RunDs G all ds n0 pend (r :: rds) st a S Q = RunDs G all ds n0 pend [] st a S Q := by
  unfold RunDs
  simp only [drawOs_forget ds n0 a S pend (r :: rds) [] h]

/-- a region that only reckons and reads -/
def calmB : Cls → Bool
  | .pure => true
  | .read => true
  | _ => false
def calm : List DO → Bool
  | [] => true
  | d :: ds => calmB d.cls && !d.o.i.takes && calm ds

theorem drawOs_calm {call : Callee → AS → T (En × AS)} {all : List DO} : ∀ (ds : List DO) (n0 fr : Nat) (a : Act) (S : AS) (rds : List (DO × Act × Value)), calm ds = true → drawOs call all ds n0 a S [] rds = stepOs call (ds.map (·.o)) fr a S
  | [], _, _, _, _, _, _ => rfl
  | d :: ds, n0, fr, a, S, rds, h => by
    simp only [calm, Bool.and_eq_true, Bool.not_eq_true'] at h
    have ih := fun a rds => drawOs_calm (call := call) (all := all) ds n0 fr a S rds h.2
    unfold drawOs
    simp only [List.map_cons]
    unfold stepOs
    simp only [h.1.2, Bool.false_eq_true, if_false]
    split
    · rename_i hw
      cases hc' : d.cls with
      | pure =>
        have hc := (DO.cls_eq hc' (by simp)).2
        have hs : stepO call d.o fr a S = (d.o.i.eval a.ev fr S).bind fun (v, S') => .ret (.norm, a.put d.o.dst v, S') := by
          unfold stepO
          split <;> first | rfl | (rename_i he; rw [he] at hc; simp [I.cls] at hc)
        rw [hs]
        rcases evalPure (ev := a.ev) (fr := fr) (S := S) hc with ⟨v, hv⟩ | hv
        · have h0 := pure_any hc hv 0 S
          rw [hv, h0]
          exact ih _ _
        · have h0 : d.o.i.eval a.ev 0 S = .fail := by
            rcases evalPure (ev := a.ev) (fr := 0) (S := S) hc with ⟨v, h5⟩ | h5
            · have := pure_any hc h5 fr S
              rw [hv] at this; cases this
            · exact h5
          rw [hv, h0]
          rfl
      | read =>
        have hc := (DO.cls_eq hc' (by simp)).2
        have hs : stepO call d.o fr a S = (d.o.i.eval a.ev fr S).bind fun (v, S') => .ret (.norm, a.put d.o.dst v, S') := by
          unfold stepO
          split <;> first | rfl | (rename_i he; rw [he] at hc; simp [I.cls] at hc)
        rw [hs]
        have he : d.o.i.eval a.ev 0 S = d.o.i.eval a.ev fr S := by
          have ht := h.1.2
          revert hc ht
          cases d.o.i <;> simp [I.cls, I.takes, I.newV, I.eval]
        rw [he]
        rcases evalRead hc a.ev fr S with ⟨v, hv⟩ | hv
        · rw [hv]
          exact ih _ _
        · rw [hv]
          rfl
      | new => rw [hc'] at h; simp [calmB] at h
      | lit => rw [hc'] at h; simp [calmB] at h
      | other => rw [hc'] at h; simp [calmB] at h
    · exact ih _ _

theorem run_calm {G : Tab} {na : Nat} {ds : List DO} {st : List Fr} {a : Act} {S : AS} {Q : Post} (h : calm ds = true) (k : RunOps G (ds.map (·.o)) S.next st a (S.bump na) Q) : Run G (.draw na ds) st a S Q := by
  rw [run_draw]
  obtain ⟨n, hn⟩ := k
  refine ⟨n, ?_⟩
  rw [drawOs_calm ds S.next S.next a (S.bump na) [] h]
  exact hn
end Go.Gx
