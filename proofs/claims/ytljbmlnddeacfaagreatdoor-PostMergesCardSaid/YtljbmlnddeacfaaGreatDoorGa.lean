/-
  The abstract machine: a memory of names, a tree of choices, the operations with their types resolved, and a big-step run.
-/
import Derived.Calls
import Derived.Laws.Sem
import Derived.Laws.World
import Derived.Below

set_option linter.all false
set_option linter.deprecated false

namespace Go.Gx

/-! ## equality of values, decided -/
mutual
def vb : Value → Value → Bool
  | .bool a, .bool b => a == b
  | .int k a, .int j b => decide (k = j) && a == b
  | .float k a, .float j b => decide (k = j) && a == b
  | .complex k a b, .complex j c d => decide (k = j) && a == c && b == d
  | .string a, .string b => decide (a = b)
  | .pointer a, .pointer b => decide (a = b)
  | .slice a n c, .slice b m d => decide (a = b) && n == m && c == d
  | .map a, .map b => decide (a = b)
  | .chan a, .chan b => decide (a = b)
  | .func f a b, .func g c d => decide (f = g) && vbA a c && vbA b d
  | .nilFunc, .nilFunc => true
  | .iface t v, .iface u w => t == u && vb v w
  | .nilIface, .nilIface => true
  | .agg a, .agg b => vbA a b
  | .tuple a, .tuple b => vbA a b
  | _, _ => false
def vbA : Array Value → Array Value → Bool
  | ⟨a⟩, ⟨b⟩ => vbL a b
def vbL : List Value → List Value → Bool
  | [], [] => true
  | a :: as, b :: bs => vb a b && vbL as bs
  | _, _ => false
end

mutual
theorem vb_eq : ∀ a b : Value, vb a b = true → a = b := by
  intro a b h
  cases a <;> cases b <;> simp [vb] at h <;> first
    | rfl
    | (simp [h]; done)
    | (obtain ⟨⟨h1, h2⟩, h3⟩ := h; rw [h1, vbA_eq _ _ h2, vbA_eq _ _ h3])
    | (obtain ⟨h1, h2⟩ := h; rw [h1, vb_eq _ _ h2])
    | (rw [vbA_eq _ _ h])
theorem vbA_eq : ∀ a b : Array Value, vbA a b = true → a = b
  | ⟨a⟩, ⟨b⟩, h => by simp [vbA] at h; rw [vbL_eq a b h]
theorem vbL_eq : ∀ a b : List Value, vbL a b = true → a = b
  | [], [], _ => rfl
  | a :: as, b :: bs, h => by simp [vbL] at h; rw [vb_eq a b h.1, vbL_eq as bs h.2]
  | [], _ :: _, h => by simp [vbL] at h
  | _ :: _, [], h => by simp [vbL] at h
end

mutual
theorem vb_refl : ∀ a : Value, vb a a = true := by
  intro a
  cases a <;> simp [vb] <;> first
    | exact ⟨vbA_refl _, vbA_refl _⟩
    | exact vb_refl _
    | exact vbA_refl _
theorem vbA_refl : ∀ a : Array Value, vbA a a = true
  | ⟨a⟩ => by simp [vbA]; exact vbL_refl a
theorem vbL_refl : ∀ a : List Value, vbL a a = true
  | [] => rfl
  | a :: as => by simp [vbL]; exact ⟨vb_refl a, vbL_refl as⟩
end

instance instDecEqValue : DecidableEq Value := fun a b =>
  if h : vb a b = true then isTrue (vb_eq a b h) else isFalse fun e => h (e ▸ vb_refl a)

/-! ## a tree of choices -/
inductive T (α : Type) where
  | ret (a : α)
  | fail
  | choose (n : Nat) (k : Nat → T α)

namespace T
def bind {α β : Type} : T α → (α → T β) → T β
  | .ret a, f => f a
  | .fail, _ => .fail
  | .choose n k, f => .choose n fun i => (k i).bind f
def all {α : Type} (Q : α → Prop) : T α → Prop
  | .ret a => Q a
  | .fail => False
  | .choose n k => ∀ i, i < n → (k i).all Q
def ofOption {α : Type} : Option α → T α
  | some a => .ret a
  | none => .fail
end T

/-! ## a tree of objects by name -/
inductive Tr (α : Type) where
  | nil
  | node (v : Option α) (l r : Tr α)

namespace Tr
def val {α : Type} : Tr α → Option α
  | .nil => none
  | .node v _ _ => v
def lt {α : Type} : Tr α → Tr α
  | .nil => .nil
  | .node _ l _ => l
def rt {α : Type} : Tr α → Tr α
  | .nil => .nil
  | .node _ _ r => r
def get {α : Type} : Tr α → Nat → Option α
  | .nil, _ => none
  | .node v l r, n => if n = 0 then v else if n % 2 = 1 then l.get (n / 2) else r.get (n / 2 - 1)
def setF {α : Type} : Nat → Tr α → Nat → α → Tr α
  | 0, t, _, _ => t
  | f + 1, t, n, a =>
    if n = 0 then .node (some a) t.lt t.rt
    else if n % 2 = 1 then .node t.val (setF f t.lt (n / 2) a) t.rt
    else .node t.val t.lt (setF f t.rt (n / 2 - 1) a)
def set {α : Type} (t : Tr α) (n : Nat) (a : α) : Tr α := setF (n + 1) t n a
end Tr

/-! ## code, its types resolved -/
/-- what a cell of a comparable type holds -/
inductive K where
  | int (k : IntKind)
  | str
  | bool
  deriving DecidableEq, Inhabited

/-- what can be nil -/
inductive NK where
  | ptr | slice | map | func | iface
  deriving DecidableEq, Inhabited

inductive I where
  | mv (x : Operand)
  | pick (c a b : Operand)
  | bin (op : BinOp) (x y : Operand)
  | eqc (neg : Bool) (ks : List K) (agg : Bool) (x y : Operand)
  | eqn (nk : NK) (neg : Bool) (x y : Operand)
  | un (op : UnOp) (x : Operand)
  | conv (k : IntKind) (x : Operand)
  | cvs (x : Operand)
  | cvb (elem : TypeId) (x : Operand)
  | b2s (x : Operand)
  | s2b (elem : TypeId) (x : Operand)
  | mkif (t : TypeId) (x : Operand)
  | mkfn (fn : Fn) (first captured : List Operand)
  | build (zero : List Value) (parts : List (Nat × Nat × Operand))
  | fld (agg : Option Nat) (off : Nat) (x : Operand)
  | fldA (off : Nat) (x : Operand)
  | idxA (arr : Option Nat) (esz : Nat) (x i : Operand)
  | idx (len : Nat) (agg : Option Nat) (esz : Nat) (x i : Operand)
  | sidx (x i : Operand)
  | aslc (len esz : Nat) (x : Operand) (lo hi mx : Option Operand)
  | slc (elem : TypeId) (esz : Nat) (x : Operand) (lo hi mx : Option Operand)
  | sslc (x : Operand) (lo hi : Option Operand)
  | load (agg : Option Nat) (x : Operand)
  | store (n : Nat) (a x : Operand)
  | nilc (x : Operand)
  | alloc (elem : TypeId) (zero : List Value)
  | box (elem : TypeId) (x : Operand)
  | bslice (elem : TypeId) (esz : Nat) (cells : List Value) (len : Nat) (parts : List (Nat × Nat × Operand))
  | mkmap
  | mksl (elem : TypeId) (esz bytes : Nat) (zero : List Value) (l c : Operand)
  | look (ks : List K) (agg : Bool) (zero : Value) (ok : Bool) (x i : Operand)
  | mset (ks : List K) (agg : Bool) (m k v : Operand)
  | ment (ks : List K) (agg : Bool) (zero : Value) (m k : Operand)
  | estore (m s v : Operand)
  | rngm (x : Operand)
  | rngs (x : Operand)
  | nxtm (it : Operand)
  | nxts (it : Operand)
  | entry (it : Operand)
  | tassert (t : TypeId) (zero : Value) (ok : Bool) (x : Operand)
  | extr (x : Operand) (i : Nat)
  | ln (x : Operand)
  | sln (x : Operand)
  | lenk (n : Nat)
  | mlen (x : Operand)
  | cp (x : Operand)
  | app (elem : TypeId) (esz bytes : Nat) (zero : List Value) (x y : Operand)
  | cpy (esz : Nat) (x y : Operand)
  | clrs (zero : List Value) (x : Operand)
  | clrm (x : Operand)
  | del (ks : List K) (agg : Bool) (m k : Operand)
  | maxb (xs : List Operand)
  | minb (xs : List Operand)
  | call (f : Operand) (args : List Operand)
  | defer (f : Operand) (args : List Operand)
  | panic (x : Operand)
  | recover
  deriving Inhabited

/-- an operation: what it writes, what it does, when -/
structure O where
  dst : Option Nat
  i : I
  guard : Option (Nat × Bool)
  deriving Inhabited

/-- an operation of a region that draws its order: its place in the text, the rank of its name, what must stand before it -/
structure DO where
  id : Nat
  nm : Nat
  bef : Nat
  o : O
  /-- an entry of a map that the region makes: who makes it -/
  lit : Option Nat := none
  deriving Inhabited

inductive C where
  | skip
  | region (na : Nat) (ops : List O)
  | draw (na : Nat) (ops : List DO)
  | seq (a b : C)
  | cond (c : Operand) (thn els : C)
  | block (id : Nat) (body : C)
  | loop (body : C)
  | rangeF (f : Operand) (params : List Nat) (assign body : C)
  | exit (id : Nat)
  | ret
  deriving Inhabited

inductive RV where
  | tmp (t : Nat)
  | cell (t : Nat) (agg : Option Nat)
  deriving Inhabited

structure IFn where
  ntmps : Nat
  results : List RV
  body : C
  deriving Inhabited

/-! ## memory -/
inductive Jump where
  | exit (id : Nat)
  | ret

inductive AObj where
  | row (cells : List Value) (elem : TypeId) (wr ex : Bool)
  | map (es : List MapEntry) (clock : Nat)
  | miter (m : Option Nat) (since : Nat) (seen : List Nat) (stepped : Nat)
  | siter (s : ByteArray) (pos : Nat)
  | loop (state : LoopState) (pending : Option Jump) (env : List Value) (params : List Nat) (assign body : C) (dblk : Nat)
  | defd (ds : Option (List Deferred))
  | dead

structure AS where
  next : Nat
  mem : Tr AObj

namespace AS
def get (S : AS) (n : Nat) : Option AObj := S.mem.get n
def put (S : AS) (n : Nat) (o : AObj) : AS := { S with mem := S.mem.set n o }
def bump (S : AS) (k : Nat) : AS := { S with next := S.next + k }
def empty : AS := ⟨0, .nil⟩
end AS

structure Act where
  env : List Value
  defers : List Deferred
  /-- the panic that a deferred call may recover -/
  pan : Option Value := none
  recd : Bool := false
  /-- the round of a range over a function -/
  rnd : Option Nat := none

def Act.ev (a : Act) : Operand → Value
  | .tmp t => a.env.getD t undef
  | .const v => v
  | .global g => .pointer (some ⟨g, 0, none⟩)
  | .func f => .func (.func f) #[] #[]

def Act.put (a : Act) : Option Nat → Value → Act
  | some d, v => { a with env := a.env.set d v }
  | none, _ => a

/-! ## operations -/
def okc : Value → Bool
  | .agg _ | .tuple _ => false
  | _ => true

def notT : Value → Bool
  | .tuple _ => false
  | _ => true

def cellsL (v : Value) : List Value := v.cells.toList

def rowLoad (cells : List Value) (off : Nat) : Option Nat → Option Value
  | none => cells[off]?
  | some k => if off + k ≤ cells.length then some (.agg ((cells.drop off).take k).toArray) else none

def splice (cells : List Value) (off : Nat) (vs : List Value) : List Value :=
  cells.take off ++ vs ++ cells.drop (off + vs.length)

def rowStore (cells : List Value) (off : Nat) (vs : List Value) : Option (List Value) :=
  if off + vs.length ≤ cells.length ∧ vs.all okc = true then some (splice cells off vs) else none

def placeIn : List Value → List (Nat × List Value) → Option (List Value)
  | cells, [] => some cells
  | cells, (off, vs) :: rest => if off + vs.length ≤ cells.length then placeIn (splice cells off vs) rest else none

def partsOf (ev : Operand → Value) : List (Nat × Nat × Operand) → Option (List (Nat × List Value))
  | [] => some []
  | (off, n, x) :: rest =>
    let vs := cellsL (ev x)
    if notT (ev x) = true ∧ vs.length = n then (partsOf ev rest).map ((off, vs) :: ·) else none

/-- one cell of a comparable type -/
def ceq : K → Value → Value → Option Bool
  | .int k, .int j a, .int j' b => if j = k ∧ j' = k then some (a == b) else none
  | .str, .string a, .string b => some (decide (a = b))
  | .bool, .bool a, .bool b => some (a == b)
  | _, _, _ => none

def cseq : List K → List Value → List Value → Option Bool
  | [], [], [] => some true
  | k :: ks, x :: xs, y :: ys =>
    match ceq k x y, cseq ks xs ys with
    | some a, some b => some (a && b)
    | _, _ => none
  | _, _, _ => none

def veq (ks : List K) (agg : Bool) (x y : Value) : Option Bool :=
  match agg, x, y with
  | true, .agg xs, .agg ys => cseq ks xs.toList ys.toList
  | true, _, _ => none
  | false, x, y => cseq ks [x] [y]

/-- is it nil? only for what can be -/
def isNil : NK → Value → Option Bool
  | .ptr, .pointer a => some a.isNone
  | .slice, .slice a _ _ => some a.isNone
  | .map, .map r => some r.isNone
  | .func, .nilFunc => some true
  | .func, .func .. => some false
  | .iface, .nilIface => some true
  | .iface, .iface .. => some false
  | _, _ => none

def intBin (op : BinOp) (k : IntKind) (x y : Int) : Option Value :=
  match op with
  | .add => some (.int k (k.wrap (x + y)))
  | .sub => some (.int k (k.wrap (x - y)))
  | .mul => some (.int k (k.wrap (x * y)))
  | .quo => if y = 0 then none else some (.int k (k.wrap (x.tdiv y)))
  | .rem => if y = 0 then none else some (.int k (x.tmod y))
  | .and => some (.int k (k.wrap (BitVec.ofInt k.bits x &&& BitVec.ofInt k.bits y).toNat))
  | .or => some (.int k (k.wrap (BitVec.ofInt k.bits x ||| BitVec.ofInt k.bits y).toNat))
  | .xor => some (.int k (k.wrap (BitVec.ofInt k.bits x ^^^ BitVec.ofInt k.bits y).toNat))
  | .andNot => some (.int k (k.wrap (BitVec.ofInt k.bits x &&& ~~~(BitVec.ofInt k.bits y)).toNat))
  | .eql => some (.bool (x == y))
  | .neq => some (.bool (x != y))
  | .lss => some (.bool (decide (x < y)))
  | .leq => some (.bool (decide (x ≤ y)))
  | .gtr => some (.bool (decide (x > y)))
  | .geq => some (.bool (decide (x ≥ y)))
  | _ => none

def shBin (op : BinOp) (k : IntKind) (x y : Int) : Option Value :=
  if y < 0 then none else
  match op with
  | .shl => some (.int k (k.wrap (x * 2 ^ (min y.toNat k.bits))))
  | .shr => some (.int k (x.fdiv (2 ^ (min y.toNat k.bits))))
  | _ => none

def strBin (op : BinOp) (x y : ByteArray) : Option Value :=
  match op with
  | .add => if x.size + y.size ≤ 9223372036854775807 then some (.string (x ++ y)) else none
  | .eql => some (.bool (decide (x = y)))
  | .neq => some (.bool !(decide (x = y)))
  | .lss => some (.bool (Op.bytesLess x.data.toList y.data.toList))
  | .leq => some (.bool (Op.bytesLess x.data.toList y.data.toList || decide (x = y)))
  | .gtr => some (.bool !(Op.bytesLess x.data.toList y.data.toList || decide (x = y)))
  | .geq => some (.bool !(Op.bytesLess x.data.toList y.data.toList))
  | _ => none

def isSh : BinOp → Bool
  | .shl | .shr => true
  | _ => false

def binV (op : BinOp) (x y : Value) : Option Value :=
  match x, y with
  | .int k a, .int j b => if isSh op then shBin op k a b else if k = j then intBin op k a b else none
  | .string a, .string b => strBin op a b
  | _, _ => none

def unV (op : UnOp) (x : Value) : Option Value :=
  match op, x with
  | .neg, .int k n => some (.int k (k.wrap (0 - n)))
  | .xor, .int k n => some (.int k (k.wrap (BitVec.ofInt k.bits (if k.signed then -1 else k.max) ^^^ BitVec.ofInt k.bits n).toNat))
  | .not, .bool b => some (.bool !b)
  | _, _ => none

def bndV (x : Value) (y : Nat) : Option Nat :=
  match x with
  | .int _ i => if 0 ≤ i ∧ i ≤ (y : Int) then some i.toNat else none
  | _ => none

/-- low, high, capacity of a slice expression -/
def bndsV (len cap : Nat) (lo hi mx : Option Value) : Option (Nat × Nat × Nat) :=
  (match mx with | some v => bndV v cap | none => some cap).bind fun m =>
  (match hi with | some v => bndV v m | none => if mx.isSome then none else some len).bind fun h =>
  (match lo with | some v => bndV v h | none => some 0).bind fun l => some (l, h, m)

def max2V : Value → Value → Option Value
  | .int k x, .int j y => if k = j then some (.int k (if y > x then y else x)) else none
  | _, _ => none
def min2V : Value → Value → Option Value
  | .int k x, .int j y => if k = j then some (.int k (if y < x then y else x)) else none
  | _, _ => none
def foldV (f : Value → Value → Option Value) : List Value → Option Value
  | [] => none
  | x :: rest => rest.foldlM f x

def keyOK (ks : List K) (agg : Bool) (k : Value) : Bool := (veq ks agg k k).isSome

def findK (ks : List K) (agg : Bool) (k : Value) : List MapEntry → Nat → Option (Option (Nat × Value))
  | [], _ => some none
  | e :: es, i =>
    match veq ks agg k e.key with
    | some true => some (some (i, e.val))
    | some false => findK ks agg k es (i + 1)
    | none => none

/-- the entry with a key, the key's form looked at -/
def findC (ks : List K) (agg : Bool) (k : Value) (es : List MapEntry) : Option (Option (Nat × Value)) :=
  if keyOK ks agg k = true then findK ks agg k es 0 else none

/-- the cells of what is appended or copied: how many elements, and their cells -/
def srcCells (S : AS) (esz : Nat) : Value → Option (Nat × List Value)
  | .slice none _ _ => some (0, [])
  | .slice (some ⟨b, o, none⟩) n _ =>
    if n * esz = 0 then some (n, []) else
    match S.get b with
    | some (.row cells _ _ _) => if o + n * esz ≤ cells.length then some (n, (cells.drop o).take (n * esz)) else none
    | _ => none
  | .string s => if esz = 1 then some (s.size, s.data.toList.map fun b => .int .u8 b.toNat) else none
  | .slice (some ⟨_, _, some _⟩) n _ => if n = 0 then some (0, []) else none
  | _ => none

def vp (n o : Nat) : Value := .pointer (some ⟨n, o, none⟩)
def vs (n o len cap : Nat) : Value := .slice (some ⟨n, o, none⟩) len cap
def vi (n : Int) : Value := .int .i64 n

def appV (S : AS) (fr : Nat) (elem : TypeId) (esz bytes : Nat) (x y : Value) : Option (Value × AS) :=
  match x, srcCells S esz y with
  | .slice base len cap, some (n, ys) =>
    if len + n ≤ cap then
      if ys.isEmpty then some (.slice base (len + n) cap, S) else
      match base with
      | some ⟨b, o, none⟩ =>
        match S.get b with
        | some (.row cells e true ex) => (rowStore cells (o + len * esz) ys).map fun cells' => (.slice base (len + n) cap, S.put b (.row cells' e true ex))
        | _ => none
      | _ => none
    else if (2 * (len + n) + 192) * bytes ≤ 281474976710656 ∧ 0 < bytes ∧ 0 < esz then
      match base with
      | none => if len = 0 then some (vs fr 0 n n, S.put fr (.row ys elem true false)) else none
      | some ⟨_, _, some _⟩ => if len = 0 then some (vs fr 0 n n, S.put fr (.row ys elem true false)) else none
      | some ⟨b, o, none⟩ =>
        match S.get b with
        | some (.row cells e wr ex) =>
          if o + len * esz ≤ cells.length then
            let new := AObj.row ((cells.drop o).take (len * esz) ++ ys) elem true false
            if ex then some (vs fr 0 (len + n) (len + n), S.put fr new)
            else if wr = true ∧ e = elem ∧ ys.all okc = true then some (vs fr 0 (len + n) (len + n), (S.put b .dead).put fr new)
            else none
          else none
        | _ => none
    else none
  | _, _ => none

def cpyV (S : AS) (esz : Nat) (x y : Value) : Option (Value × AS) :=
  match x, srcCells S esz y with
  | .slice base dlen _, some (n, ys) =>
    let m := min n dlen
    if (ys.take (m * esz)).isEmpty then some (vi m, S) else
    match base with
    | some ⟨b, o, none⟩ =>
      match S.get b with
      | some (.row cells e true ex) => (rowStore cells o (ys.take (m * esz))).map fun cells' => (vi m, S.put b (.row cells' e true ex))
      | _ => none
    | _ => none
  | _, _ => none

def repCells (zero : List Value) : Nat → List Value
  | 0 => []
  | n + 1 => zero ++ repCells zero n

def bytesOfV : List Value → Option (List UInt8)
  | [] => some []
  | .int .u8 n :: cs => (bytesOfV cs).map (UInt8.ofNat n.toNat :: ·)
  | _ => none

/-- what an operation that only makes memory gives, and what it lays -/
def I.newV (i : I) (ev : Operand → Value) (fr : Nat) : Option (Value × AObj) :=
  match i with
  | .s2b elem x => match ev x with
    | .string s => some (vs fr 0 s.size s.size, .row (s.data.toList.map fun b => .int .u8 b.toNat) elem true false)
    | _ => none
  | .alloc elem zero => some (vp fr 0, .row zero elem true true)
  | .box elem x => if notT (ev x) then some (vp fr 0, .row (cellsL (ev x)) elem true true) else none
  | .bslice elem _ cells len parts => match (partsOf ev parts).bind fun ps => placeIn cells ps with
    | some cs => some (vs fr 0 len len, .row cs elem true true)
    | none => none
  | .mkmap => some (.map (some fr), .map [] 0)
  | .mksl elem _ bytes zero l c => match ev l, ev c with
    | .int .i64 l, .int .i64 c =>
      if 0 ≤ l ∧ l ≤ c ∧ bytes * c ≤ 281474976710656 ∧ c ≤ 9223372036854775807 then some (vs fr 0 l.toNat c.toNat, .row (repCells zero c.toNat) elem true true) else none
    | _, _ => none
  | _ => none

def layV (S : AS) (fr : Nat) : Option (Value × AObj) → T (Value × AS)
  | some (v, o) => .ret (v, S.put fr o)
  | none => .fail

/-- what an operation that is no call does -/
def I.eval (i : I) (ev : Operand → Value) (fr : Nat) (S : AS) : T (Value × AS) :=
  let val (v : Option Value) : T (Value × AS) := .ofOption (v.map fun v => (v, S))
  match i with
  | .mv x => .ret (ev x, S)
  | .pick c a b => match ev c with
    | .bool t => .ret (if t then ev a else ev b, S)
    | _ => .fail
  | .bin op x y => val (binV op (ev x) (ev y))
  | .eqc neg ks agg x y => val ((veq ks agg (ev x) (ev y)).map fun b => .bool (b != neg))
  | .eqn nk neg x y => val (match isNil nk (ev x), isNil nk (ev y) with
    | some a, some b => if a || b then some (.bool ((a && b) != neg)) else none
    | _, _ => none)
  | .un op x => val (unV op (ev x))
  | .conv k x => val (match ev x with | .int _ n => some (.int k (k.wrap n)) | _ => none)
  | .cvs x => val (match ev x with | .string s => some (.string s) | _ => none)
  | .cvb elem x => match ev x with
    | .slice (some ⟨b, o, none⟩) n c => match S.get b with
      | some (.row _ e true _) => if e = elem then .ret (vs b o n c, S) else .fail
      | _ => .fail
    | _ => .fail
  | .b2s x => match srcCells S 1 (ev x), ev x with
    | some (_, cs), .slice .. => val ((bytesOfV cs).map fun bs => .string ⟨bs.toArray⟩)
    | _, _ => .fail
  | .mkif t x => .ret (.iface t (ev x), S)
  | .mkfn fn first captured => .ret (.func fn (first.map ev).toArray (captured.map ev).toArray, S)
  | .build zero parts => val ((partsOf ev parts).bind fun ps => (placeIn zero ps).map fun cs => .agg cs.toArray)
  | .fld agg off x => match ev x with
    | .agg cs => val (rowLoad cs.toList off agg)
    | _ => .fail
  | .fldA off x => match ev x with
    | .pointer (some ⟨n, o, none⟩) => .ret (vp n (o + off), S)
    | _ => .fail
  | .idxA (some len) esz x i => match ev i, ev x with
    | .int _ j, .pointer (some ⟨n, o, none⟩) => if 0 ≤ j ∧ j < (len : Int) then .ret (vp n (o + j.toNat * esz), S) else .fail
    | _, _ => .fail
  | .idxA none esz x i => match ev i, ev x with
    | .int _ j, .slice (some ⟨n, o, none⟩) len _ => if 0 ≤ j ∧ j < (len : Int) then .ret (vp n (o + j.toNat * esz), S) else .fail
    | _, _ => .fail
  | .idx len agg esz x i => match ev i, ev x with
    | .int _ j, .agg cs => if 0 ≤ j ∧ j < (len : Int) then val (rowLoad cs.toList (j.toNat * esz) agg) else .fail
    | _, _ => .fail
  | .sidx x i => match ev i, ev x with
    | .int _ j, .string s => if 0 ≤ j then val ((s.data.toList[j.toNat]?).map fun b => .int .u8 b.toNat) else .fail
    | _, _ => .fail
  | .aslc len esz x lo hi mx => match ev x with
    | .pointer (some ⟨n, o, none⟩) => val ((bndsV len len (lo.map ev) (hi.map ev) (mx.map ev)).map fun b => vs n (o + b.1 * esz) (b.2.1 - b.1) (b.2.2 - b.1))
    | _ => .fail
  | .slc elem esz x lo hi mx => match ev x with
    | .slice none len cap => val ((bndsV len cap (lo.map ev) (hi.map ev) (mx.map ev)).map fun b => .slice none (b.2.1 - b.1) (b.2.2 - b.1))
    | .slice (some ⟨n, o, none⟩) len cap => match S.get n with
      | some (.row _ e _ ex) =>
        if ex = true ∨ e = elem then val ((bndsV len cap (lo.map ev) (hi.map ev) (mx.map ev)).map fun b => vs n (o + b.1 * esz) (b.2.1 - b.1) (b.2.2 - b.1)) else .fail
      | _ => .fail
    | .slice (some ⟨n, o, some s⟩) len cap => val ((bndsV len cap (lo.map ev) (hi.map ev) (mx.map ev)).map fun _ => .slice (some ⟨n, o, some s⟩) 0 0)
    | _ => .fail
  | .sslc x lo hi => match ev x with
    | .string s => val ((bndsV s.size s.size (lo.map ev) (hi.map ev) none).map fun b => .string (s.extract b.1 b.2.1))
    | _ => .fail
  | .load agg x => match ev x with
    | .pointer (some ⟨n, o, none⟩) => match S.get n with
      | some (.row cells _ _ _) => val (rowLoad cells o agg)
      | _ => .fail
    | _ => .fail
  | .store n a x => match ev a with
    | .pointer (some ⟨b, o, none⟩) => match S.get b with
      | some (.row cells e true ex) =>
        if (cellsL (ev x)).length = n then
          .ofOption ((rowStore cells o (cellsL (ev x))).map fun cells' => (undef, S.put b (.row cells' e true ex)))
        else .fail
      | _ => .fail
    | _ => .fail
  | .nilc x => match ev x with
    | .pointer (some a) => .ret (.pointer (some a), S)
    | .func (.func f) first cap => .ret (.func (.func f) first cap, S)
    | _ => .fail
  | .s2b .. | .alloc .. | .box .. | .bslice .. | .mkmap | .mksl .. => layV S fr (i.newV ev fr)
  | .look ks agg zero ok x i =>
    let res (r : Option (Option (Nat × Value))) : T (Value × AS) := val (r.map fun r =>
      let (v, b) := match r with | some (_, v) => (v, true) | none => (zero, false)
      if ok then .tuple #[v, .bool b] else v)
    match ev x with
    | .map none => res (findC ks agg (ev i) [])
    | .map (some n) => match S.get n with
      | some (.map es _) => res (findC ks agg (ev i) es)
      | _ => .fail
    | _ => .fail
  | .mset ks agg m k v => match ev m with
    | .map (some n) => match S.get n with
      | some (.map es clock) => match findC ks agg (ev k) es with
        | some (some (i, _)) => .ret (undef, S.put n (.map (es.modify i fun e => { e with val := ev v }) clock))
        | some none => .ret (undef, S.put n (.map (es ++ [{ key := ev k, val := ev v, born := clock }]) (clock + 1)))
        | none => .fail
      | _ => .fail
    | _ => .fail
  | .ment ks agg zero m k => match ev m with
    | .map (some n) => match S.get n with
      | some (.map es clock) => match findC ks agg (ev k) es with
        | some (some (i, v)) => .ret (.tuple #[v, vi (((es[i]?).map (·.born)).getD 0)], S)
        | some none => .ret (.tuple #[zero, vi clock], S.put n (.map (es ++ [{ key := ev k, val := zero, born := clock }]) (clock + 1)))
        | none => .fail
      | _ => .fail
    | _ => .fail
  | .estore m s v => match ev m, ev s with
    | .map (some n), .int _ born => match S.get n with
      | some (.map es clock) => match es.findIdx? (fun e => (e.born : Int) == born) with
        | some i => .ret (undef, S.put n (.map (es.modify i fun e => { e with val := ev v }) clock))
        | none => .fail
      | _ => .fail
    | _, _ => .fail
  | .rngm x => match ev x with
    | .map none => .ret (vp fr 0, S.put fr (.miter none 0 [] 0))
    | .map (some n) => match S.get n with
      | some (.map _ clock) => .ret (vp fr 0, S.put fr (.miter (some n) clock [] clock))
      | _ => .fail
    | _ => .fail
  | .rngs x => match ev x with
    | .string s => .ret (vp fr 0, S.put fr (.siter s 0))
    | _ => .fail
  | .nxtm it => match ev it with
    | .pointer (some ⟨r, 0, none⟩) => match S.get r with
      | some (.miter none _ _ _) => .ret (.tuple #[.bool false], S)
      | some (.miter (some m) since seen last) => match S.get m with
        | some (.map es clock) =>
          if !seen.isEmpty && !es.isEmpty && es.all (fun e => decide (e.born ≥ last)) then .fail else
          let left := es.filter fun e => !seen.contains e.born
          let old := left.filter fun e => decide (e.born < since)
          let new := left.filter fun e => decide (e.born ≥ since)
          let cands : List (Option MapEntry) := (if old.isEmpty then [none] else []) ++ (old ++ new).map some
          let go (i : Nat) : T (Value × AS) := match cands[i]? with
            | some (some e) => .ret (.tuple #[.bool true, e.key, e.val], S.put r (.miter (some m) since (seen ++ [e.born]) clock))
            | some none => .ret (.tuple #[.bool false], S)
            | none => .fail
          if cands.length ≤ 1 then go 0 else .choose cands.length go
        | _ => .fail
      | _ => .fail
    | _ => .fail
  | .nxts it => match ev it with
    | .pointer (some ⟨r, 0, none⟩) => match S.get r with
      | some (.siter s pos) =>
        if pos < s.size then
          .ret (.tuple #[.bool true, vi pos, .int .i32 (Utf8.decode s pos).1], S.put r (.siter s (pos + (Utf8.decode s pos).2)))
        else .ret (.tuple #[.bool false], S)
      | _ => .fail
    | _ => .fail
  | .entry it => match ev it with
    | .pointer (some ⟨r, 0, none⟩) => match S.get r with
      | some (.miter (some m) _ seen stepped) => match seen.getLast?, S.get m with
        | some stamp, some (.map es clock) =>
          if clock ≠ stepped then .fail else
          match es.find? (fun e => e.born == stamp) with
          | some e => .ret (.tuple #[e.key, e.val], S)
          | none => .fail
        | _, _ => .fail
      | _ => .fail
    | _ => .fail
  | .tassert t zero ok x => match ev x with
    | .nilIface => if ok then .ret (.tuple #[zero, .bool false], S) else .fail
    | .iface u v =>
      if u = t then .ret (if ok then .tuple #[v, .bool true] else v, S)
      else if ok then .ret (.tuple #[zero, .bool false], S) else .fail
    | _ => .fail
  | .extr x i => match ev x with
    | .tuple us => val (us.toList[i]?)
    | _ => .fail
  | .ln x => match ev x with
    | .slice _ n _ => .ret (vi n, S)
    | _ => .fail
  | .sln x => match ev x with
    | .string s => .ret (vi s.size, S)
    | _ => .fail
  | .lenk n => .ret (vi n, S)
  | .mlen x => match ev x with
    | .map none => .ret (vi 0, S)
    | .map (some n) => match S.get n with
      | some (.map es _) => .ret (vi es.length, S)
      | _ => .fail
    | _ => .fail
  | .cp _ => .fail
  | .app elem esz bytes _ x y => .ofOption (appV S fr elem esz bytes (ev x) (ev y))
  | .cpy esz x y => .ofOption (cpyV S esz (ev x) (ev y))
  | .clrs zero x => match ev x with
    | .slice none _ _ => .ret (.tuple #[], S)
    | .slice (some ⟨b, o, none⟩) n _ =>
      if n = 0 then .ret (.tuple #[], S) else
      match S.get b with
      | some (.row cells e true ex) => .ofOption ((rowStore cells o (repCells zero n)).map fun cells' => (.tuple #[], S.put b (.row cells' e true ex)))
      | _ => .fail
    | _ => .fail
  | .clrm x => match ev x with
    | .map none => .ret (.tuple #[], S)
    | .map (some n) => match S.get n with
      | some (.map _ clock) => .ret (.tuple #[], S.put n (.map [] clock))
      | _ => .fail
    | _ => .fail
  | .del ks agg m k => match ev m with
    | .map none => match findC ks agg (ev k) [] with
      | some _ => .ret (.tuple #[], S)
      | none => .fail
    | .map (some n) => match S.get n with
      | some (.map es clock) => match findC ks agg (ev k) es with
        | some (some (i, _)) => .ret (.tuple #[], S.put n (.map (es.eraseIdx i) clock))
        | some none => .ret (.tuple #[], S)
        | none => .fail
      | _ => .fail
    | _ => .fail
  | .maxb xs => val (foldV max2V (xs.map ev))
  | .minb xs => val (foldV min2V (xs.map ev))
  | .call .. | .defer .. | .panic _ | .recover => .fail

/-- does it take a name? -/
def I.takes : I → Bool
  | .s2b .. | .alloc .. | .box .. | .bslice .. | .mkmap | .mksl .. | .rngm _ | .rngs _ | .app .. => true
  | _ => false

/-- does it only compute, only read, only make memory? -/
inductive Cls where
  | pure | read | new | lit | other
  deriving DecidableEq

def I.cls : I → Cls
  | .mv _ | .pick .. | .bin .. | .eqc .. | .eqn .. | .un .. | .conv .. | .cvs _ | .mkif .. | .mkfn .. | .build .. | .fld .. | .fldA .. | .idxA .. | .idx .. | .sidx .. | .aslc .. | .sslc ..
  | .nilc _ | .tassert .. | .extr .. | .ln _ | .sln _ | .lenk _ | .maxb _ | .minb _ => .pure
  | .slc .. | .load .. | .look .. | .mlen _ | .b2s _ => .read
  | .alloc .. | .box .. | .bslice .. | .mkmap | .mksl .. | .s2b .. => .new
  | _ => .other

def DO.cls (d : DO) : Cls := match d.lit with
  | some _ => .lit
  | none => d.o.i.cls

/-- the first entry of a map that has been made and is not yet laid -/
def litO (o : O) (ev : Operand → Value) (n : Nat) : AObj → Option AObj
  | .map [] 0 => match o.i with
    | .mset ks agg m k v => if ev m = .map (some n) ∧ keyOK ks agg (ev k) = true then some (.map [{ key := ev k, val := ev v, born := 0 }] 1) else none
    | _ => none
  | _ => none
def litP (o : O) (ev : Operand → Value) (i : Nat) : List (Nat × Nat × AObj) → Option (List (Nat × Nat × AObj))
  | [] => none
  | (id, n, ob) :: rest => if id = i then (litO o ev n ob).map fun ob' => (id, n, ob') :: rest else (litP o ev i rest).map ((id, n, ob) :: ·)

/-- what it looks at -/
def I.opds : I → List Operand
  | .mv x | .un _ x | .conv _ x | .cvs x | .cvb _ x | .b2s x | .s2b _ x | .mkif _ x | .fld _ _ x | .fldA _ x | .load _ x | .nilc x | .box _ x | .rngm x | .rngs x | .nxtm x | .nxts x | .entry x
  | .tassert _ _ _ x | .extr x _ | .ln x | .sln x | .mlen x | .cp x | .clrs _ x | .clrm x | .panic x => [x]
  | .pick c a b => [c, a, b]
  | .bin _ x y | .eqc _ _ _ x y | .eqn _ _ x y | .idxA _ _ x y | .idx _ _ _ x y | .sidx x y | .store _ x y | .mksl _ _ _ _ x y | .look _ _ _ _ x y | .ment _ _ _ x y | .app _ _ _ _ x y | .cpy _ x y | .del _ _ x y => [x, y]
  | .mset _ _ m k v | .estore m k v => [m, k, v]
  | .mkfn _ xs ys => xs ++ ys
  | .build _ ps | .bslice _ _ _ _ ps => ps.map (·.2.2)
  | .aslc _ _ x lo hi mx | .slc _ _ x lo hi mx => x :: (lo.toList ++ hi.toList ++ mx.toList)
  | .sslc x lo hi => x :: (lo.toList ++ hi.toList)
  | .maxb xs | .minb xs => xs
  | .call f xs | .defer f xs => f :: xs
  | .alloc .. | .mkmap | .lenk _ | .recover => []

/-! ## control -/
inductive Ex where
  | norm
  | exit (id : Nat)
  | ret
  | panic (v : Value)

inductive En where
  | ret (v : Value)
  | panic (v : Value)

abbrev R := T (Ex × Act × AS)
/-- a call: the function, its arguments, the panic that it may recover -/
abbrev Caller := Nat → List Value → Option Value → AS → T (En × Bool × AS)

def wants (a : Act) : Option (Nat × Bool) → Bool
  | none => true
  | some (d, b) => match a.env[d]? with
    | some (.bool c) => c == b
    | _ => false

/-- what a call runs: a function's body, or a round -/
inductive Callee where
  | fn (f : Nat) (args : List Value)
  | round (l : Nat) (args : List Value)

def calleeOf (f : Value) (args : List Value) : Option Callee :=
  match f with
  | .func (.func k) first captured => some (.fn k (first.toList ++ args ++ captured.toList))
  | .func (.yield l) first _ => some (.round l (first.toList ++ args))
  | _ => none

/-- what is deferred -/
def deferOf (f : Value) (args : List Value) : Option Deferred :=
  match f with
  | .func (.func k) first captured => some { target := .fn (.func k) captured, args := first ++ args.toArray }
  | _ => none
/-- a call is deferred, but not in a round -/
def pushD (a : Act) (dst : Option Nat) : Option Nat → Option Deferred → Option Act
  | none, some d => some ({ a with defers := d :: a.defers }.put dst undef)
  | _, _ => none

def stepO (call : Callee → AS → T (En × AS)) (o : O) (fr : Nat) (a : Act) (S : AS) : R :=
  match o.i with
  | .call f args => match calleeOf (a.ev f) (args.map a.ev) with
    | some c => (call c S).bind fun
      | (.ret v, S') => .ret (.norm, a.put o.dst v, S')
      | (.panic v, S') => .ret (.panic v, a, S')
    | none => .fail
  | .defer f args => match pushD a o.dst a.rnd (deferOf (a.ev f) (args.map a.ev)) with
    | some a' => .ret (.norm, a', S)
    | none => .fail
  | .panic x => match a.ev x with
    | .iface t v => .ret (.panic (.iface t v), a, S)
    | _ => .fail
  | .recover => .fail
  | i => (i.eval a.ev fr S).bind fun (v, S') => .ret (.norm, a.put o.dst v, S')

def stepOs (call : Callee → AS → T (En × AS)) : List O → Nat → Act → AS → R
  | [], _, a, S => .ret (.norm, a, S)
  | o :: os, fr, a, S =>
    let fr' := if o.i.takes then fr + 1 else fr
    if wants a o.guard then
      (stepO call o fr a S).bind fun
        | (.norm, a', S') => stepOs call os fr' a' S'
        | r => .ret r
    else stepOs call os fr' (a.put o.dst undef) S

/-- lay what has been made and is asked for -/
def flush (mask : Nat) : List (Nat × Nat × AObj) → AS → List (Nat × Nat × AObj) × AS
  | [], S => ([], S)
  | (id, n, o) :: rest, S =>
    let r := flush mask rest S
    if mask.testBit id then (r.1, r.2.put n o) else ((id, n, o) :: r.1, r.2)

def flushAll : List (Nat × Nat × AObj) → AS → AS
  | [], S => S
  | (_, n, o) :: rest, S => (flushAll rest S).put n o

def still (S : AS) (mask : Nat) : List (DO × Act × Value) → Bool
  | [] => true
  | (r, a, v) :: rest =>
    (mask.testBit r.id || (match r.o.i.eval a.ev 0 S with
      | .ret (v', _) => decide (v' = v)
      | _ => false)) && still S mask rest

def forget : List DO → List Value → List Value
  | [], env => env
  | d :: ds, env => match d.o.dst with
    | some t => forget ds (env.set t undef)
    | none => forget ds env

def drawOs (call : Callee → AS → T (En × AS)) (all : List DO) : List DO → Nat → Act → AS → List (Nat × Nat × AObj) → List (DO × Act × Value) → R
  | [], _, a, S, pend, _ => .ret (.norm, a, flushAll pend S)
  | d :: ds, n0, a, S, pend, rds =>
    if wants a d.o.guard then
      match d.cls with
      | .pure => (d.o.i.eval a.ev 0 S).bind fun (v, _) => drawOs call all ds n0 (a.put d.o.dst v) S pend rds
      | .read => (d.o.i.eval a.ev 0 S).bind fun (v, _) => drawOs call all ds n0 (a.put d.o.dst v) S pend ((d, a, v) :: rds)
      | .new => match d.o.i.newV a.ev (n0 + d.nm) with
        | some (v, o) => drawOs call all ds n0 (a.put d.o.dst v) S ((d.id, n0 + d.nm, o) :: pend) rds
        | none => .fail
      | .lit => match litP d.o a.ev (d.lit.getD 0) pend with
        | some pend' => drawOs call all ds n0 (a.put d.o.dst undef) S pend' rds
        | none => .fail
      | .other =>
        (stepO call d.o (n0 + d.nm) a (flush d.bef pend S).2).bind fun
          | (.norm, a', S') => if still S' d.bef rds then drawOs call all ds n0 a' S' (flush d.bef pend S).1 rds else .fail
          | (.panic v, a', S') => .ret (.panic v, { a' with env := forget all a'.env }, S')
          | _ => .fail
    else drawOs call all ds n0 (a.put d.o.dst undef) S pend rds

def setParams : List Nat → List Value → List Value → List Value
  | p :: ps, v :: vs, env => setParams ps vs (env.set p v)
  | _, _, env => env

def loadRV (env : List Value) (S : AS) : RV → Option Value
  | .tmp t => some (env.getD t undef)
  | .cell t agg => match env.getD t undef with
    | .pointer (some ⟨n, o, none⟩) => match S.get n with
      | some (.row cells _ _ _) => rowLoad cells o agg
      | _ => none
    | _ => none

def resV (rs : List RV) (env : List Value) (S : AS) : Option Value :=
  match rs.mapM (loadRV env S) with
  | some [v] => some v
  | some us => some (.tuple us.toArray)
  | none => none

/-- what the marks of ranges over functions do when a function leaves: no call has been deferred in a round -/
def drain : List Deferred → AS → Option AS
  | [], S => some S
  | d :: ds, S => match d.target with
    | .collected r => match S.get r with
      | some (.defd (some [])) => drain ds (S.put r (.defd none))
      | _ => none
    | _ => none

/-- a body that begins with recover -/
def headRec : C → Option (Option Nat × C)
  | .seq (.region 0 [⟨d, .recover, none⟩]) y => some (d, y)
  | _ => none
/-- the body of a deferred function, of a panic or of none; has it recovered? -/
def execD (ex : C → Act → AS → R) (p : Option Value) (c : C) (a : Act) (S : AS) : T (Bool × Ex × Act × AS) :=
  match headRec c with
  | some (d, y) => (ex y (a.put d (p.getD .nilIface)) S).bind fun r => .ret (p.isSome, r)
  | none => (ex c a S).bind fun r => .ret (false, r)
/-- the deferred calls of a function that leaves: what is left of the panic -/
def leaveD (F : Nat → Option IFn) (ex : C → Act → AS → R) : List Deferred → Option Value → AS → T (Option Value × AS)
  | [], p, S => .ret (p, S)
  | d :: ds, p, S =>
    match d.target with
    | .collected r => match S.get r with
      | some (.defd (some [])) => leaveD F ex ds p (S.put r (.defd none))
      | _ => .fail
    | .fn (.func k) cap => match F k with
      | some fn =>
        (execD ex p fn.body { env := (d.args.toList ++ cap.toList) ++ List.replicate (fn.ntmps - (d.args.toList ++ cap.toList).length) undef, defers := [] } S).bind fun
          | (rc, .norm, a, S') | (rc, .ret, a, S') => match a.defers, resV fn.results a.env S' with
            | [], some _ => leaveD F ex ds (if rc then none else p) S'
            | _, _ => .fail
          | _ => .fail
      | none => .fail
    | _ => .fail
def cellsOnly : List RV → Bool
  | [] => true
  | .cell _ _ :: rs => cellsOnly rs
  | .tmp _ :: _ => false

def callFn (F : Nat → Option IFn) (ext : Nat → List Value → AS → Option (Value × AS)) (ex : C → Act → AS → R) (f : Nat) (args : List Value) (S : AS) : T (En × AS) :=
  match ext f args S with
  | some x => .ret (.ret x.1, x.2)
  | none => match F f with
    | none => .fail
    | some fn =>
      (ex fn.body { env := args ++ List.replicate (fn.ntmps - args.length) undef, defers := [] } S).bind fun
        | (.norm, a, S') | (.ret, a, S') => match drain a.defers S' with
          | some S2 => match resV fn.results a.env S2 with
            | some v => .ret (.ret v, S2)
            | none => .fail
          | none => (leaveD F ex a.defers none S').bind fun
            | (none, S2) => match resV fn.results a.env S2 with
              | some v => .ret (.ret v, S2)
              | none => .fail
            | (some _, _) => .fail
        | (.panic v, a, S') => match a.defers with
          | [] => .ret (.panic v, S')
          | d :: ds => (leaveD F ex (d :: ds) (some v) S').bind fun
            | (none, S2) => if cellsOnly fn.results then
                match resV fn.results a.env S2 with
                | some v => .ret (.ret v, S2)
                | none => .fail
              else .fail
            | (some v, S2) => .ret (.panic v, S2)
        | _ => .fail

/-- a round of a range over a function; a panic in it is not taken in -/
def callRound (ex : C → Act → AS → R) (l : Nat) (args : List Value) (S : AS) : T (En × AS) :=
  match S.get l with
  | some (.loop .ready pend env ps asg body dblk) =>
    if args.length = ps.length then
      (ex asg { env := setParams ps args env, defers := [], rnd := some l } S).bind fun
        | (.norm, a, S1) => match S1.get l with
          | some (.loop .ready pend1 env1 ps1 asg1 body1 dblk1) =>
            (ex body a (S1.put l (.loop .busy pend1 env1 ps1 asg1 body1 dblk1))).bind fun (e, _, S2) =>
              match S2.get l with
              | some (.loop _ _ env2 ps2 asg2 body2 dblk2) => match e with
                | .norm => .ret (.ret (.bool true), S2.put l (.loop .ready none env2 ps2 asg2 body2 dblk2))
                | .exit id => .ret (.ret (.bool false), S2.put l (.loop .done (some (.exit id)) env2 ps2 asg2 body2 dblk2))
                | .ret => .ret (.ret (.bool false), S2.put l (.loop .done (some .ret) env2 ps2 asg2 body2 dblk2))
                | .panic _ => .fail
              | _ => .fail
          | _ => .fail
        | _ => .fail
    else .fail
  | _ => .fail

def callAny (F : Nat → Option IFn) (ext : Nat → List Value → AS → Option (Value × AS)) (ex : C → Act → AS → R) : Callee → AS → T (En × AS)
  | .fn f args, S => callFn F ext ex f args S
  | .round l args, S => callRound ex l args S

def exec (F : Nat → Option IFn) (ext : Nat → List Value → AS → Option (Value × AS)) : Nat → C → Act → AS → R
  | 0, _, _, _ => .fail
  | n + 1, c, a, S =>
    match c with
    | .skip => .ret (.norm, a, S)
    | .region na ops => stepOs (callAny F ext (exec F ext n)) ops S.next a (S.bump na)
    | .draw na ops => drawOs (callAny F ext (exec F ext n)) ops ops S.next a (S.bump na) [] []
    | .seq x y => (exec F ext n x a S).bind fun
      | (.norm, a', S') => exec F ext n y a' S'
      | r => .ret r
    | .cond c x y => match a.ev c with
      | .bool b => exec F ext n (if b then x else y) a S
      | _ => .fail
    | .block id x => (exec F ext n x a S).bind fun
      | (.exit id', a', S') => .ret (if id' = id then .norm else .exit id', a', S')
      | r => .ret r
    | .loop x => (exec F ext n x a S).bind fun
      | (.norm, a', S') => exec F ext n (.loop x) a' S'
      | r => .ret r
    | .rangeF f ps asg body =>
      match a.rnd with
      | some _ => .fail
      | none =>
        let d := S.next
        let l := S.next + 1
        let S1 := ((S.bump 2).put d (.defd (some []))).put l (.loop .ready none a.env ps asg body d)
        let a1 := { a with defers := { target := .collected d, args := #[] } :: a.defers }
        match calleeOf (a.ev f) [.func (.yield l) #[] #[]] with
        | some (.fn k as) => (callAny F ext (exec F ext n) (.fn k as) S1).bind fun
          | (.ret _, S2) => match S2.get l with
            | some (.loop st pend env2 ps2 asg2 body2 dblk2) =>
              if st = .busy then .fail else
              let S3 := S2.put l (.loop .exhausted pend env2 ps2 asg2 body2 dblk2)
              match pend with
              | none => .ret (.norm, a1, S3)
              | some (.exit id) => .ret (.exit id, a1, S3)
              | some .ret => .ret (.ret, a1, S3)
            | _ => .fail
          | (.panic v, S2) => .ret (.panic v, a1, S2)
        | _ => .fail
    | .exit id => .ret (.exit id, a, S)
    | .ret => .ret (.ret, a, S)

end Go.Gx

/-
  From the model's code to the code of the abstract machine.
-/
namespace Go.Gx

/-- a value without an address -/
def closedV : Nat → Value → Bool
  | 0, _ => false
  | _ + 1, .bool _ | _ + 1, .int _ _ | _ + 1, .string _ | _ + 1, .pointer none | _ + 1, .map none | _ + 1, .nilFunc | _ + 1, .nilIface => true
  | _ + 1, .slice none n c => n == 0 && c == 0
  | d + 1, .iface _ v => closedV d v
  | d + 1, .agg cs | d + 1, .tuple cs => cs.toList.all (closedV d)
  | _ + 1, _ => false

def closed (v : Value) : Bool := closedV 10 v

def okO : Operand → Bool
  | .tmp _ | .func _ => true
  | .const v => closed v
  | .global _ => false

def okOs (l : List Operand) : Bool := l.all okO

def szOf (P : Program) (t : TypeId) : Option Nat := (P.info? t).map (·.size)
def zeroOf (P : Program) (t : TypeId) : Option Value := ((P.info? t).bind (·.zero)).filter fun v => closed v
def zeroCellsOf (P : Program) (t : TypeId) : Option (List Value) :=
  match zeroOf P t, szOf P t with
  | some v, some n => if (cellsL v).length = n ∧ (cellsL v).all okc = true then some (cellsL v) else none
  | _, _ => none
def aggOf (P : Program) (t : TypeId) : Option (Option Nat) :=
  match P.underlying t with
  | some (.struct _) | some (.array _ _) => (szOf P t).map some
  | some _ => some none
  | none => none

/-- the kinds of the fields, in order, without a gap -/
def fieldKinds (kinds : TypeId → Option (List K)) : List Field → Nat → Option (List K)
  | [], _ => some []
  | f :: fs, off =>
    if f.name = "_" ∨ f.offset ≠ off then none else
    match kinds f.type with
    | some ks => if ks.length = 0 then none else (fieldKinds kinds fs (off + ks.length)).map (ks ++ ·)
    | none => none

def kindsOf (P : Program) : Nat → TypeId → Option (List K)
  | 0, _ => none
  | d + 1, t =>
    match P.underlying t, szOf P t with
    | some .bool, some 1 => some [.bool]
    | some (.int k), some 1 => some [.int k]
    | some .string, some 1 => some [.str]
    | some (.struct fs), some n => if P.stoodInHeld t then none else (fieldKinds (kindsOf P d) fs.toList 0).filter fun ks => ks.length == n
    | some (.array m e), some n => ((kindsOf P d e).bind fun ks => if ks.length = 0 then none else some (List.replicate m ks).flatten).filter fun ks => ks.length == n
    | _, _ => none

/-- a map's key, or what is compared: its cells' kinds, and whether it is an aggregate -/
def keyOf (P : Program) (t : TypeId) : Option (List K × Bool) :=
  match P.underlying t with
  | some .bool => some ([.bool], false)
  | some (.int k) => some ([.int k], false)
  | some .string => some ([.str], false)
  | some (.struct _) | some (.array _ _) => if P.eqGuardType P.depth t then none else (kindsOf P 9 t).map fun ks => (ks, true)
  | _ => none

def isEqOp : BinOp → Option Bool
  | .eql => some false
  | .neq => some true
  | _ => none

def isC : Operand → Bool
  | .const _ => true
  | _ => false

def compBin (P : Program) (op : BinOp) (t : TypeId) (x y : Operand) : Option I :=
  match P.underlying t with
  | some (.int _) | some .string => some (.bin op x y)
  | some .bool | some (.struct _) | some (.array _ _) =>
    match isEqOp op, keyOf P t with
    | some neg, some (ks, agg) => some (.eqc neg ks agg x y)
    | _, _ => none
  | some (.pointer _) => (isEqOp op).bind fun neg => if isC x || isC y then some (.eqn .ptr neg x y) else none
  | some (.slice _) => (isEqOp op).bind fun neg => if isC x || isC y then some (.eqn .slice neg x y) else none
  | some (.map _ _) => (isEqOp op).bind fun neg => if isC x || isC y then some (.eqn .map neg x y) else none
  | some (.func _ _ _) => (isEqOp op).bind fun neg => if isC x || isC y then some (.eqn .func neg x y) else none
  | some (.interface _) => (isEqOp op).bind fun neg => if isC x || isC y then some (.eqn .iface neg x y) else none
  | _ => none

def isByte (P : Program) (t : TypeId) : Bool :=
  match P.underlying t, szOf P t with
  | some (.int .u8), some 1 => true
  | _, _ => false

def compConv (P : Program) (src dst : TypeId) (x : Operand) : Option I :=
  match P.underlying src, P.underlying dst with
  | some (.int _), some (.int k) => some (.conv k x)
  | some .string, some .string => some (.cvs x)
  | some .string, some (.slice e) => if isByte P e then some (.s2b e x) else none
  | some (.slice e), some .string => if isByte P e then some (.b2s x) else none
  | some (.slice _), some (.slice e) => if src == dst && isByte P e then some (.cvb e x) else none
  | _, _ => none

def fieldParts (P : Program) (fs : Array Field) : List (Nat × Operand) → Option (List (Nat × Nat × Operand))
  | [] => some []
  | (i, x) :: rest =>
    match fs[i]? with
    | some f => match szOf P f.type with
      | some n => (fieldParts P fs rest).map ((f.offset, n, x) :: ·)
      | none => none
    | none => none

def elemParts (esz : Nat) (l : List (Nat × Operand)) : List (Nat × Nat × Operand) := l.map fun (i, x) => (i * esz, esz, x)

def compBuild (P : Program) (t : TypeId) (parts : List (Nat × Operand)) : Option I :=
  match P.underlying t, zeroCellsOf P t with
  | some (.struct fs), some z => if fs.toList.all (fun f => (szOf P f.type).isSome) then (fieldParts P fs parts).map fun ps => .build z ps else none
  | some (.array _ e), some z => (szOf P e).map fun n => .build z (elemParts n parts)
  | _, _ => none

def optC (x : Option Operand) : Bool := match x with | some y => okO y | none => true

def compSlice (P : Program) (t : TypeId) (x : Operand) (lo hi mx : Option Operand) : Option I :=
  match P.underlying t with
  | some (.array n e) => (szOf P e).map fun z => .aslc n z x lo hi mx
  | some (.slice e) => (szOf P e).map fun z => .slc e z x lo hi mx
  | some .string => if mx.isNone then some (.sslc x lo hi) else none
  | some (.pointer arr) => match P.underlying arr with
    | some (.array n e) => (szOf P e).map fun z => .aslc n z x lo hi mx
    | _ => none
  | _ => none

def compBuiltin (P : Program) (b : Builtin) (ts : List TypeId) (args : List Operand) : Option I :=
  match b, ts, args with
  | .len, t :: _, [x] => match P.underlying t with
    | some .string => some (.sln x)
    | some (.slice _) => some (.ln x)
    | some (.array n _) => some (.lenk n)
    | some (.pointer arr) => match P.underlying arr with
      | some (.array n _) => some (.lenk n)
      | _ => none
    | some (.map _ _) => some (.mlen x)
    | _ => none
  | .append, [t, u], [x, y] => match P.underlying t, P.underlying u with
    | some (.slice e), some (.slice _) => match P.info? e, zeroCellsOf P e with
      | some i, some z => some (.app e i.size i.bytes z x y)
      | _, _ => none
    | some (.slice e), some .string => match P.info? e, zeroCellsOf P e with
      | some i, some z => some (.app e i.size i.bytes z x y)
      | _, _ => none
    | _, _ => none
  | .copy, t :: _, [x, y] => match P.underlying t with
    | some (.slice e) => (szOf P e).map fun z => .cpy z x y
    | _ => none
  | .clear, t :: _, [x] => match P.underlying t with
    | some (.slice e) => (zeroCellsOf P e).map fun z => .clrs z x
    | some (.map _ _) => some (.clrm x)
    | _ => none
  | .delete, t :: _, [m, k] => match P.underlying t with
    | some (.map kt _) => (keyOf P kt).map fun (ks, agg) => .del ks agg m k
    | _ => none
  | .max, _, x :: xs => some (.maxb (x :: xs))
  | .min, _, x :: xs => some (.minb (x :: xs))
  | .panic, _, [x] => some (.panic x)
  | .recover, _, [] => some .recover
  | _, _, _ => none

def comp1 (P : Program) : Op → Option I
  | .move x | .assign x => some (.mv x)
  | .pick c a b => some (.pick c a b)
  | .alloc t => (zeroCellsOf P t).map fun z => .alloc t z
  | .box t x => some (.box t x)
  | .build t parts => compBuild P t parts.toList
  | .buildSlice t len parts => match P.underlying t with
    | some (.slice e) => match zeroCellsOf P e, szOf P e with
      | some z, some n => if len * n ≤ 16777216 then some (.bslice e n (repCells z len) len (elemParts n parts.toList)) else none
      | _, _ => none
    | _ => none
  | .load t a => (aggOf P t).map fun g => .load g a
  | .store t a x => (szOf P t).map fun n => .store n a x
  | .nilCheck x => some (.nilc x)
  | .binOp op t x y _ => compBin P op t x y
  | .unOp op _ x => some (.un op x)
  | .convert src dst x => compConv P src dst x
  | .makeInterface t x => match P.underlying t with
    | some (.interface _) | none => none
    | some _ => some (.mkif t x)
  | .makeFunc (.func f) first captured => some (.mkfn (.func f) first.toList captured.toList)
  | .makeMap _ none => some .mkmap
  | .makeSlice t l c => match P.underlying t with
    | some (.slice e) => match P.info? e, zeroCellsOf P e with
      | some i, some z => some (.mksl e i.size i.bytes z l c)
      | _, _ => none
    | _ => none
  | .slice t x lo hi mx => compSlice P t x lo hi mx
  | .fieldAddr t x i => match P.underlying t with
    | some (.struct fs) => match fs[i]? with
      | some f => match szOf P f.type with
        | some n => if n = 0 then none else some (.fldA f.offset x)
        | none => none
      | none => none
    | _ => none
  | .field t x i => match P.underlying t with
    | some (.struct fs) => match fs[i]? with
      | some f => (aggOf P f.type).map fun g => .fld g f.offset x
      | none => none
    | _ => none
  | .indexAddr t x i => match P.underlying t with
    | some (.array n e) => (szOf P e).map fun z => .idxA (some n) z x i
    | some (.slice e) => (szOf P e).map fun z => .idxA none z x i
    | _ => none
  | .index t x i => match P.underlying t with
    | some (.array n e) => match aggOf P e, szOf P e with
      | some g, some z => some (.idx n g z x i)
      | _, _ => none
    | some .string => some (.sidx x i)
    | _ => none
  | .lookup t x i ok => match P.underlying t with
    | some (.map k e) => match keyOf P k, zeroOf P e with
      | some (ks, agg), some z => some (.look ks agg z ok x i)
      | _, _ => none
    | _ => none
  | .mapUpdate t m k v | .insert t m k v => match P.underlying t with
    | some (.map kt _) => (keyOf P kt).map fun (ks, agg) => .mset ks agg m k v
    | _ => none
  | .mapEntry t m k => match P.underlying t with
    | some (.map kt e) => match keyOf P kt, zeroOf P e with
      | some (ks, agg), some z => some (.ment ks agg z m k)
      | _, _ => none
    | _ => none
  | .entryStore _ m s v => some (.estore m s v)
  | .range t x => match P.underlying t with
    | some .string => some (.rngs x)
    | some (.map _ _) => some (.rngm x)
    | _ => none
  | .next it isString => some (if isString then .nxts it else .nxtm it)
  | .entry it => some (.entry it)
  | .typeAssert x _ t ok => match P.underlying t with
    | some (.interface _) | none => none
    | some _ => if ok then (zeroOf P t).map fun z => .tassert t z true x else some (.tassert t undef false x)
  | .extract t i => some (.extr t i)
  | .call { callee := .builtin b, args, argTypes } => compBuiltin P b argTypes.toList args.toList
  | .call { callee := .value f, args, .. } => some (.call f args.toList)
  | .defer { callee := .value f, args, .. } => some (.defer f args.toList)
  | .panic x => some (.panic x)
  | _ => none

def guardOf (ops : Array Oper) : Option (Nat × Bool) → Option (Option (Nat × Bool))
  | none => some none
  | some (j, b) => match (ops[j]?).bind (·.dst) with
    | some d => some (some (d, b))
    | none => none

def comp2 (P : Program) (ops : Array Oper) (o : Oper) : Option O :=
  if o.op.operands.toList.all okO then
    match comp1 P o.op, guardOf ops o.guard with
    | some i, some g => some { dst := o.dst, i, guard := g }
    | _, _ => none
  else none

def nTakes : List O → Nat
  | [] => 0
  | o :: os => (if o.i.takes then 1 else 0) + nTakes os

def tmpsOf (l : List Operand) : List Nat := l.filterMap fun | .tmp t => some t | _ => none

/-- what an operation names: what it reads -/
def readsO (o : O) : List Nat :=
  tmpsOf o.i.opds ++ (match o.guard with | some (d, _) => [d] | none => [])

/-- may two operations of a region that nothing orders change places? -/
def swapOK (o p : DO) : Bool :=
  (match o.o.dst with | some d => !(readsO p.o).contains d && p.o.dst != some d | none => true) &&
  (match p.o.dst with | some d => !(readsO o.o).contains d | none => true) &&
  !(o.cls == .other && p.cls == .other)

/-- ranks of names -/
def ranks : List O → Nat → List Nat
  | [], _ => []
  | o :: os, r => r :: ranks os (if o.i.takes then r + 1 else r)

def mkDO (b : Array Nat) : List O → List Nat → Nat → List DO
  | o :: os, r :: rs, id => { id, nm := r, bef := b.getD id 0, o } :: mkDO b os rs (id + 1)
  | _, _, _ => []

def readyD (done : Nat) (d : DO) : Bool := (d.bef &&& done) == d.bef

/-- as early as possible: all that is no 'other' first -/
def early : Nat → List DO → Nat → List DO
  | 0, _, _ => []
  | n + 1, l, done =>
    match l.find? (fun d => readyD done d && d.cls != .other) with
    | some d => d :: early n (l.filter fun e => e.id != d.id) (done ||| 2 ^ d.id)
    | none => match l.find? (readyD done) with
      | some d => d :: early n (l.filter fun e => e.id != d.id) (done ||| 2 ^ d.id)
      | none => []

/-- each stands behind what it waits for; what is no 'other' stands behind no 'other' that it does not wait for -/
def orderOK : List DO → Nat → Bool
  | [], _ => true
  | d :: ds, done => readyD done d && !done.testBit d.id &&
    (d.cls != .other || ds.all fun e => e.cls == .other || e.bef.testBit d.id) && orderOK ds (done ||| 2 ^ d.id)

def pairsOK : List DO → Bool
  | [] => true
  | d :: ds => (ds.all fun e => e.bef.testBit d.id || swapOK d e) && pairsOK ds

def isMk : I → Bool
  | .mkmap => true
  | _ => false
/-- who makes the map to which this adds -/
def litOf (l : List DO) (d : DO) : Option Nat :=
  match d.o.i, d.o.guard with
  | .mset _ _ (.tmp t) _ _, none => (l.find? fun e => e.o.dst == some t && isMk e.o.i && d.bef.testBit e.id).map (·.id)
  | _, _ => none
def litsOK (l : List DO) : Bool :=
  l.all fun d => match d.lit with
    | none => true
    | some i => d.o.guard == none && d.bef.testBit i && (l.any fun e => e.id == i && e.lit == none && isMk e.o.i) && (l.all fun e => e.lit != some i || e.id == d.id) &&
      (l.all fun c => c.cls != .other || !c.bef.testBit i || c.bef.testBit d.id)
def markL (l : List DO) : List DO :=
  let m := l.map fun d => { d with lit := litOf l d }
  if litsOK m then m else l

def isDfr : I → Bool
  | .defer _ _ => true
  | _ => false
def drawOf (ops : Array Oper) (is : List O) : Option (List DO) :=
  let l := markL (mkDO (Region.before ops) is (ranks is 0) 0)
  let r := early is.length l 0
  if (List.range ops.size).all (fun i => r.any fun d => d.id == i) = true ∧ orderOK r 0 = true ∧ pairsOK r = true ∧ litsOK r = true ∧ (r.all fun d => !isDfr d.o.i) = true then some r else none

def comp (P : Program) : Code → Option C
  | .skip => some .skip
  | .region _ ops draw => match ops.toList.mapM (comp2 P ops) with
    | some is => if draw then (drawOf ops is).map (.draw (nTakes is)) else some (.region (nTakes is) is)
    | none => none
  | .seq a b => match comp P a, comp P b with
    | some x, some y => some (.seq x y)
    | _, _ => none
  | .cond c a b => match okO c, comp P a, comp P b with
    | true, some x, some y => some (.cond c x y)
    | _, _, _ => none
  | .block id a => (comp P a).map (.block id)
  | .loop a => (comp P a).map .loop
  | .rangeFunc f ps a b => match okO f, comp P a, comp P b with
    | true, some x, some y => some (.rangeF f ps.toList x y)
    | _, _, _ => none
  | .exit id => some (.exit id)
  | .ret => some .ret
  | _ => none

def compRV (P : Program) : ResultVar → Option RV
  | .tmp t => some (.tmp t)
  | .cell a t => (aggOf P t).map fun g => .cell a g

def compF (P : Program) (f : Func) : Option IFn :=
  match f.body with
  | some c => if f.name == "runtime.NumGoroutine" then none else match comp P c, f.results.toList.mapM (compRV P) with
    | some body, some results => some { ntmps := f.ntmps, results, body }
    | _, _ => none
  | none => none

end Go.Gx

/-
  Words on trees of choices, on memory, and the relation between an abstract memory and a world.
-/
namespace Go.Gx

/-! ## trees of choices -/
namespace T
theorem all_mono {α : Type} {Q R : α → Prop} (h : ∀ a, Q a → R a) : ∀ {t : T α}, t.all Q → t.all R
  | .ret a, q => h a q
  | .fail, q => q
  | .choose _ _, q => fun i hi => all_mono h (q i hi)
theorem all_bind {α β : Type} {Q : β → Prop} {f : α → T β} : ∀ {t : T α}, (t.bind f).all Q ↔ t.all fun a => (f a).all Q
  | .ret _ => Iff.rfl
  | .fail => Iff.rfl
  | .choose n k => by
    show (∀ i, i < n → _) ↔ (∀ i, i < n → _)
    exact ⟨fun h i hi => all_bind.1 (h i hi), fun h i hi => all_bind.2 (h i hi)⟩
@[simp] theorem all_ret {α : Type} {Q : α → Prop} {a : α} : (T.ret a).all Q = Q a := rfl
@[simp] theorem all_fail {α : Type} {Q : α → Prop} : (T.fail : T α).all Q = False := rfl
@[simp] theorem bind_ret {α β : Type} {f : α → T β} {a : α} : (T.ret a).bind f = f a := rfl
@[simp] theorem bind_fail {α β : Type} {f : α → T β} : (T.fail : T α).bind f = .fail := rfl
theorem all_ofOption {α : Type} {Q : α → Prop} {o : Option α} : (T.ofOption o).all Q ↔ ∃ a, o = some a ∧ Q a := by
  cases o <;> simp [ofOption]
end T

/-! ## the tree of objects -/
namespace Tr
variable {α : Type}
theorem get_val : ∀ (t : Tr α), t.get 0 = t.val
  | .nil => rfl
  | .node _ _ _ => by simp [get, val]
theorem get_lt : ∀ (t : Tr α) (n : Nat), n ≠ 0 → n % 2 = 1 → t.get n = t.lt.get (n / 2)
  | .nil, n, _, _ => by simp [get, lt]
  | .node _ _ _, n, h, h1 => by simp [get, lt, h, h1]
theorem get_rt : ∀ (t : Tr α) (n : Nat), n ≠ 0 → n % 2 ≠ 1 → t.get n = t.rt.get (n / 2 - 1)
  | .nil, n, _, _ => by simp [get, rt]
  | .node _ _ _, n, h, h1 => by simp [get, rt, h, h1]
theorem get_setF : ∀ (f : Nat) (t : Tr α) (n m : Nat) (a : α), n < f → (setF f t n a).get m = if m = n then some a else t.get m
  | 0, _, _, _, _, h => absurd h (Nat.not_lt_zero _)
  | f + 1, t, n, m, a, h => by
    unfold setF
    by_cases hn : n = 0
    · subst hn
      simp only [if_true]
      by_cases hm : m = 0
      · subst hm; simp [get]
      · simp only [hm, if_false]
        by_cases h1 : m % 2 = 1
        · simp [get, hm, h1, get_lt t m hm h1]
        · simp [get, hm, h1, get_rt t m hm h1]
    · simp only [hn, if_false]
      by_cases h1 : n % 2 = 1
      · simp only [h1, if_true]
        by_cases hm : m = 0
        · subst hm; rw [if_neg (Ne.symm hn), get_val, get_val]; rfl
        · by_cases h2 : m % 2 = 1
          · rw [get_lt t m hm h2]
            simp only [get, hm, h2, if_false, if_true]
            rw [get_setF f t.lt (n / 2) (m / 2) a (by omega)]
            by_cases e : m = n
            · subst e; simp
            · rw [if_neg (by omega), if_neg e]
          · rw [get_rt t m hm h2]
            simp only [get, hm, h2, if_false]
            rw [if_neg (by intro e; subst e; exact h2 h1)]
      · simp only [h1, if_false]
        by_cases hm : m = 0
        · subst hm; rw [if_neg (Ne.symm hn), get_val, get_val]; rfl
        · by_cases h2 : m % 2 = 1
          · rw [get_lt t m hm h2]
            simp only [get, hm, h2, if_false, if_true]
            rw [if_neg (by intro e; subst e; exact h1 h2)]
          · rw [get_rt t m hm h2]
            simp only [get, hm, h2, if_false]
            rw [get_setF f t.rt (n / 2 - 1) (m / 2 - 1) a (by omega)]
            by_cases e : m = n
            · subst e; simp
            · rw [if_neg (by omega), if_neg e]
theorem get_set (t : Tr α) (n m : Nat) (a : α) : (t.set n a).get m = if m = n then some a else t.get m :=
  get_setF _ t n m a (Nat.lt_succ_self _)
end Tr

namespace AS
theorem get_put (S : AS) (n m : Nat) (o : AObj) : (S.put n o).get m = if m = n then some o else S.get m := Tr.get_set _ _ _ _
@[simp] theorem get_put_self (S : AS) (n : Nat) (o : AObj) : (S.put n o).get n = some o := by rw [get_put]; simp
theorem get_put_ne (S : AS) {n m : Nat} (o : AObj) (h : m ≠ n) : (S.put n o).get m = S.get m := by rw [get_put, if_neg h]
@[simp] theorem next_put (S : AS) (n : Nat) (o : AObj) : (S.put n o).next = S.next := rfl
@[simp] theorem next_bump (S : AS) (k : Nat) : (S.bump k).next = S.next + k := rfl
@[simp] theorem get_bump (S : AS) (k n : Nat) : (S.bump k).get n = S.get n := rfl
end AS

/-! ## the relation -/
/-- where a name lies: the block, the first cell, how many cells the abstract row has, how far the row may grow, the element's type -/
structure Loc where
  b : Nat
  base : Nat
  asz : Nat
  csz : Nat
  et : TypeId

abbrev Rho := Nat → Option Loc

def Rho.le (r s : Rho) : Prop := ∀ n L, r n = some L → s n = some L
theorem Rho.le.refl (r : Rho) : r.le r := fun _ _ h => h
theorem Rho.le.trans {r s t : Rho} (h : r.le s) (k : s.le t) : r.le t := fun n L e => k n L (h n L e)
def Rho.add (r : Rho) (n : Nat) (L : Loc) : Rho := fun m => if m = n then some L else r m
theorem Rho.le_add {r : Rho} {n : Nat} (L : Loc) (h : r n = none) : r.le (r.add n L) := fun m M e => by
  unfold Rho.add; split
  · rename_i e'; subst e'; rw [h] at e; cases e
  · exact e
theorem Rho.add_self (r : Rho) (n : Nat) (L : Loc) : r.add n L n = some L := by simp [Rho.add]
theorem Rho.add_ne (r : Rho) {n m : Nat} (L : Loc) (h : m ≠ n) : r.add n L m = r m := by simp [Rho.add, h]

/-- may a slice's capacity be greater than the abstract one? only at the end of a row that may grow -/
def CapR (P : Program) (L : Loc) (o cap cap' : Nat) : Prop :=
  cap' = cap ∨ (o + cap * P.cellsOf L.et = L.asz ∧ L.base + o + cap' * P.cellsOf L.et = L.csz ∧ (cap ≤ cap' ∧ (P.underlying L.et = some (.int .u8) ∨ cap' ≤ 9223372036854775807)) ∧ 0 < P.cellsOf L.et)

inductive VR (P : Program) (r : Rho) : Value → Value → Prop where
  | bool (b : Bool) : VR P r (.bool b) (.bool b)
  | int (k : IntKind) (n : Int) : VR P r (.int k n) (.int k n)
  | str (s : ByteArray) : VR P r (.string s) (.string s)
  | ptrNil : VR P r (.pointer none) (.pointer none)
  | ptr (n o : Nat) (L : Loc) : r n = some L → VR P r (.pointer (some ⟨n, o, none⟩)) (.pointer (some ⟨L.b, L.base + o, none⟩))
  | sliceNil : VR P r (.slice none 0 0) (.slice none 0 0)
  | slice (n o : Nat) (L : Loc) (len cap cap' x : Nat) : r n = some L → CapR P L o cap cap' → len ≤ cap →
      (x = L.base + o ∨ (cap = 0 ∧ cap' = 0)) → VR P r (.slice (some ⟨n, o, none⟩) len cap) (.slice (some ⟨L.b, x, none⟩) len cap')
  | slice0 (a a' : Addr) : a.spot.isSome = true → VR P r (.slice (some a) 0 0) (.slice (some a') 0 0)
  | mapNil : VR P r (.map none) (.map none)
  | map (n : Nat) (L : Loc) : r n = some L → L.base = 0 → VR P r (.map (some n)) (.map (some L.b))
  | nilFunc : VR P r .nilFunc .nilFunc
  | func (f : Nat) (a b a' b' : Array Value) : a.size = a'.size → b.size = b'.size →
      (∀ (i : Nat) (v v' : Value), a[i]? = some v → a'[i]? = some v' → VR P r v v') → (∀ (i : Nat) (v v' : Value), b[i]? = some v → b'[i]? = some v' → VR P r v v') →
      VR P r (.func (.func f) a b) (.func (.func f) a' b')
  | yield (n : Nat) (L : Loc) : r n = some L → L.base = 0 → VR P r (.func (.yield n) #[] #[]) (.func (.yield L.b) #[] #[])
  | nilIface : VR P r .nilIface .nilIface
  | iface (t : TypeId) (v v' : Value) : VR P r v v' → VR P r (.iface t v) (.iface t v')
  | agg (a a' : Array Value) : a.size = a'.size → (∀ (i : Nat) (v v' : Value), a[i]? = some v → a'[i]? = some v' → VR P r v v') → VR P r (.agg a) (.agg a')
  | tuple (a a' : Array Value) : a.size = a'.size → (∀ (i : Nat) (v v' : Value), a[i]? = some v → a'[i]? = some v' → VR P r v v') → VR P r (.tuple a) (.tuple a')

theorem CapR.mono {P : Program} {L : Loc} {o cap cap' : Nat} (h : CapR P L o cap cap') : CapR P L o cap cap' := h

theorem VR.mono {P : Program} {r s : Rho} (h : r.le s) {v v' : Value} (hv : VR P r v v') : VR P s v v' := by
  induction hv with
  | bool b => exact .bool b
  | int k n => exact .int k n
  | str s => exact .str s
  | ptrNil => exact .ptrNil
  | ptr n o L e => exact .ptr n o L (h _ _ e)
  | sliceNil => exact .sliceNil
  | slice n o L len cap cap' x e c l hx => exact .slice n o L len cap cap' x (h _ _ e) c l hx
  | slice0 a a' h => exact .slice0 a a' h
  | mapNil => exact .mapNil
  | map n L e hb => exact .map n L (h _ _ e) hb
  | nilFunc => exact .nilFunc
  | func f a b a' b' h1 h2 _ _ k1 k2 => exact .func f a b a' b' h1 h2 k1 k2
  | yield n L e hb => exact .yield n L (h _ _ e) hb
  | nilIface => exact .nilIface
  | iface t v v' _ k => exact .iface t v v' k
  | agg a a' h1 _ k => exact .agg a a' h1 k
  | tuple a a' h1 _ k => exact .tuple a a' h1 k

/-- lists, element by element -/
def LR (P : Program) (r : Rho) (l l' : List Value) : Prop := l.length = l'.length ∧ ∀ (i : Nat) (v v' : Value), l[i]? = some v → l'[i]? = some v' → VR P r v v'

theorem LR.mono {P : Program} {r s : Rho} (h : r.le s) {l l' : List Value} (hl : LR P r l l') : LR P s l l' :=
  ⟨hl.1, fun i v v' a b => (hl.2 i v v' a b).mono h⟩
theorem LR.nil {P : Program} {r : Rho} : LR P r [] [] := ⟨rfl, fun i v v' h => by simp at h⟩
theorem LR.cons {P : Program} {r : Rho} {v v' : Value} {l l' : List Value} (h : VR P r v v') (hl : LR P r l l') : LR P r (v :: l) (v' :: l') :=
  ⟨by simp [hl.1], fun i u u' a b => by
    cases i with
    | zero => simp at a b; subst a b; exact h
    | succ i => simp at a b; exact hl.2 i u u' a b⟩
theorem LR.cons_inv {P : Program} {r : Rho} {v : Value} {l : List Value} {m : List Value} (h : LR P r (v :: l) m) :
    ∃ v' l', m = v' :: l' ∧ VR P r v v' ∧ LR P r l l' := by
  cases m with
  | nil => have := h.1; simp at this
  | cons v' l' =>
    refine ⟨v', l', rfl, h.2 0 v v' rfl rfl, by have := h.1; simpa using this, fun i u u' a b => h.2 (i + 1) u u' (by simpa using a) (by simpa using b)⟩
theorem LR.nil_inv {P : Program} {r : Rho} {m : List Value} (h : LR P r [] m) : m = [] := by
  cases m with
  | nil => rfl
  | cons _ _ => have := h.1; simp at this
theorem LR.append {P : Program} {r : Rho} {a a' b b' : List Value} (h : LR P r a a') (k : LR P r b b') : LR P r (a ++ b) (a' ++ b') :=
  ⟨by simp [h.1, k.1], fun i v v' x y => by
    by_cases hi : i < a.length
    · rw [List.getElem?_append_left hi] at x
      rw [List.getElem?_append_left (h.1 ▸ hi)] at y
      exact h.2 i v v' x y
    · rw [List.getElem?_append_right (by omega)] at x
      rw [List.getElem?_append_right (by have := h.1; omega)] at y
      rw [← h.1] at y
      exact k.2 _ v v' x y⟩
theorem LR.get? {P : Program} {r : Rho} {l l' : List Value} (h : LR P r l l') {i : Nat} {v : Value} (e : l[i]? = some v) : ∃ v', l'[i]? = some v' ∧ VR P r v v' := by
  have hi : i < l'.length := by
    have := (List.getElem?_eq_some_iff.1 e).1
    rw [← h.1]; exact this
  exact ⟨l'[i], by simp [hi], h.2 i v _ e (by simp [hi])⟩
theorem LR.drop {P : Program} {r : Rho} {l l' : List Value} (h : LR P r l l') (k : Nat) : LR P r (l.drop k) (l'.drop k) :=
  ⟨by simp [h.1], fun i v v' a b => h.2 (k + i) v v' (by simpa using a) (by simpa using b)⟩
theorem LR.take {P : Program} {r : Rho} {l l' : List Value} (h : LR P r l l') (k : Nat) : LR P r (l.take k) (l'.take k) :=
  ⟨by simp [h.1], fun i v v' a b => by
    by_cases hi : i < k
    · rw [List.getElem?_take_of_lt hi] at a b; exact h.2 i v v' a b
    · rw [List.getElem?_take_eq_none (by omega)] at a; cases a⟩
theorem LR.set {P : Program} {r : Rho} {l l' : List Value} (h : LR P r l l') (k : Nat) {v v' : Value} (hv : VR P r v v') : LR P r (l.set k v) (l'.set k v') :=
  ⟨by simp [h.1], fun i u u' a b => by
    by_cases e : k = i
    · subst e
      rw [List.getElem?_set] at a b
      simp at a b
      obtain ⟨_, rfl⟩ := a; obtain ⟨_, rfl⟩ := b; exact hv
    · rw [List.getElem?_set_ne e] at a b
      exact h.2 i u u' a b⟩
theorem VR.undef {P : Program} {r : Rho} : VR P r Go.undef Go.undef := .tuple _ _ rfl fun i v v' h => by simp at h
theorem LR.getD {P : Program} {r : Rho} {l l' : List Value} (h : LR P r l l') (k : Nat) : VR P r (l.getD k undef) (l'.getD k undef) := by
  rw [List.getD_eq_getElem?_getD, List.getD_eq_getElem?_getD]
  cases e : l[k]? with
  | none =>
    have : l'[k]? = none := by
      rw [List.getElem?_eq_none_iff] at e ⊢
      rw [← h.1]; exact e
    rw [this]; exact VR.undef
  | some v =>
    obtain ⟨v', e', hv⟩ := h.get? e
    rw [e']; exact hv
theorem LR.replicate {P : Program} {r : Rho} (k : Nat) {v v' : Value} (h : VR P r v v') : LR P r (List.replicate k v) (List.replicate k v') :=
  ⟨by simp, fun i u u' a b => by
    simp [List.getElem?_replicate] at a b
    obtain ⟨_, rfl⟩ := a; obtain ⟨_, rfl⟩ := b; exact h⟩
theorem LR.map {P : Program} {r : Rho} {α : Type} (f g : α → Value) (h : ∀ a, VR P r (f a) (g a)) (l : List α) : LR P r (l.map f) (l.map g) :=
  ⟨by simp, fun i u u' a b => by
    simp only [List.getElem?_map, Option.map_eq_some_iff] at a b
    obtain ⟨x, hx, rfl⟩ := a; obtain ⟨y, hy, rfl⟩ := b
    rw [hx] at hy; cases hy; exact h x⟩

theorem LR.arr {P : Program} {r : Rho} {a a' : Array Value} (h : a.size = a'.size) (k : ∀ (i : Nat) (v v' : Value), a[i]? = some v → a'[i]? = some v' → VR P r v v') : LR P r a.toList a'.toList :=
  ⟨by simpa using h, fun i v v' x y => k i v v' (by simpa using x) (by simpa using y)⟩
theorem VR.agg_of {P : Program} {r : Rho} {l l' : List Value} (h : LR P r l l') : VR P r (.agg l.toArray) (.agg l'.toArray) :=
  .agg _ _ (by simpa using h.1) fun i v v' a b => h.2 i v v' (by simpa using a) (by simpa using b)
theorem VR.tuple_of {P : Program} {r : Rho} {l l' : List Value} (h : LR P r l l') : VR P r (.tuple l.toArray) (.tuple l'.toArray) :=
  .tuple _ _ (by simpa using h.1) fun i v v' a b => h.2 i v v' (by simpa using a) (by simpa using b)
theorem VR.func_of {P : Program} {r : Rho} {f : Nat} {l l' m m' : List Value} (h : LR P r l l') (k : LR P r m m') : VR P r (.func (.func f) l.toArray m.toArray) (.func (.func f) l'.toArray m'.toArray) :=
  .func f _ _ _ _ (by simpa using h.1) (by simpa using k.1) (fun i v v' a b => h.2 i v v' (by simpa using a) (by simpa using b)) (fun i v v' a b => k.2 i v v' (by simpa using a) (by simpa using b))

/-! inversion -/
section
variable {P : Program} {r : Rho} {v' : Value}
theorem VR.bool_inv {b : Bool} (h : VR P r (.bool b) v') : v' = .bool b := by cases h; rfl
theorem VR.int_inv {k : IntKind} {n : Int} (h : VR P r (.int k n) v') : v' = .int k n := by cases h; rfl
theorem VR.str_inv {s : ByteArray} (h : VR P r (.string s) v') : v' = .string s := by cases h; rfl
theorem VR.ptr_inv {n o : Nat} (h : VR P r (.pointer (some ⟨n, o, none⟩)) v') : ∃ L, r n = some L ∧ v' = .pointer (some ⟨L.b, L.base + o, none⟩) := by
  cases h; exact ⟨_, by assumption, rfl⟩
theorem VR.ptrNil_inv (h : VR P r (.pointer none) v') : v' = .pointer none := by cases h; rfl
theorem VR.pointer_inv {a : Addr} (h : VR P r (.pointer (some a)) v') : ∃ a', v' = .pointer (some a') := by cases h; exact ⟨_, rfl⟩
theorem VR.sliceNil_inv {n c : Nat} (h : VR P r (.slice none n c) v') : v' = .slice none 0 0 ∧ n = 0 ∧ c = 0 := by cases h; exact ⟨rfl, rfl, rfl⟩
theorem VR.slice0_inv {a : Addr} {len cap : Nat} (h : VR P r (.slice (some a) len cap) v') (ha : a.spot.isSome = true) : len = 0 ∧ cap = 0 ∧ ∃ a', v' = .slice (some a') 0 0 := by
  cases h with
  | slice n o L _ _ cap' x e c l hx => cases ha
  | slice0 _ a' _ => exact ⟨rfl, rfl, a', rfl⟩
theorem VR.slice_inv {n o len cap : Nat} (h : VR P r (.slice (some ⟨n, o, none⟩) len cap) v') :
    ∃ L cap' x, r n = some L ∧ v' = .slice (some ⟨L.b, x, none⟩) len cap' ∧ CapR P L o cap cap' ∧ len ≤ cap ∧ (x = L.base + o ∨ (cap = 0 ∧ cap' = 0)) := by
  cases h <;> first | (rename_i hh; cases hh; done) | exact ⟨_, _, _, by assumption, rfl, by assumption, by assumption, by assumption⟩
theorem VR.map_inv {n : Nat} (h : VR P r (.map (some n)) v') : ∃ L, r n = some L ∧ L.base = 0 ∧ v' = .map (some L.b) := by
  cases h; exact ⟨_, by assumption, by assumption, rfl⟩
theorem VR.mapNil_inv (h : VR P r (.map none) v') : v' = .map none := by cases h; rfl
theorem VR.agg_inv {a : Array Value} (h : VR P r (.agg a) v') : ∃ a', v' = .agg a' ∧ LR P r a.toList a'.toList := by
  cases h; exact ⟨_, rfl, LR.arr (by assumption) (by assumption)⟩
theorem VR.iface_inv {t : TypeId} {v : Value} (h : VR P r (.iface t v) v') : ∃ u, v' = .iface t u ∧ VR P r v u := by
  cases h; exact ⟨_, rfl, by assumption⟩
theorem VR.nilIface_inv (h : VR P r .nilIface v') : v' = .nilIface := by cases h; rfl
theorem VR.nilFunc_inv (h : VR P r .nilFunc v') : v' = .nilFunc := by cases h; rfl
theorem VR.func_inv {f : Nat} {a b : Array Value} (h : VR P r (.func (.func f) a b) v') :
    ∃ a' b', v' = .func (.func f) a' b' ∧ LR P r a.toList a'.toList ∧ LR P r b.toList b'.toList := by
  cases h; exact ⟨_, _, rfl, LR.arr (by assumption) (by assumption), LR.arr (by assumption) (by assumption)⟩
theorem VR.yield_inv {n : Nat} {a b : Array Value} (h : VR P r (.func (.yield n) a b) v') :
    ∃ L, r n = some L ∧ L.base = 0 ∧ v' = .func (.yield L.b) #[] #[] ∧ a = #[] ∧ b = #[] := by
  cases h; exact ⟨_, by assumption, by assumption, rfl, rfl, rfl⟩
end

theorem undef_size : ∀ {a : Array Value}, Value.tuple a ≠ undef → 0 < a.size := by
  intro a h
  rcases Nat.eq_zero_or_pos a.size with e | e
  · exact absurd (by rw [Array.eq_empty_of_size_eq_zero e]; rfl) h
  · exact e
theorem VR.tuple_inv {P : Program} {r : Rho} {a : Array Value} {v' : Value} (h : VR P r (.tuple a) v') : ∃ a', v' = .tuple a' ∧ LR P r a.toList a'.toList := by
  cases h with
  | tuple a a' h1 h2 => exact ⟨_, rfl, LR.arr h1 h2⟩

/-- a value without addresses is itself everywhere -/
theorem VR.closedV {P : Program} {r : Rho} : ∀ (d : Nat) (v : Value), Gx.closedV d v = true → VR P r v v := by
  intro d
  induction d with
  | zero => intro v h; simp [Gx.closedV] at h
  | succ d ih =>
    intro v h
    have key : ∀ cs : Array Value, cs.toList.all (Gx.closedV d) = true → ∀ (i : Nat) (v v' : Value), cs[i]? = some v → cs[i]? = some v' → VR P r v v' := by
      intro cs hc i v v' a b
      rw [a] at b; cases b
      have hm : v ∈ cs.toList := by
        obtain ⟨hi, e⟩ := Array.getElem?_eq_some_iff.1 a
        rw [← e]; simp
      exact ih v (List.all_eq_true.1 hc v hm)
    cases v with
    | bool b => exact .bool b
    | int k n => exact .int k n
    | string s => exact .str s
    | pointer a => cases a with
      | none => exact .ptrNil
      | some a => simp [Gx.closedV] at h
    | slice a n c => cases a with
      | none => simp [Gx.closedV] at h; obtain ⟨rfl, rfl⟩ := h; exact .sliceNil
      | some a => simp [Gx.closedV] at h
    | map m => cases m with
      | none => exact .mapNil
      | some a => simp [Gx.closedV] at h
    | nilFunc => exact .nilFunc
    | nilIface => exact .nilIface
    | iface t v => exact .iface t v v (ih v (by simpa [Gx.closedV] using h))
    | agg cs => exact .agg cs cs rfl (key cs (by simpa [Gx.closedV] using h))
    | tuple cs => exact .tuple cs cs rfl (key cs (by simpa [Gx.closedV] using h))
    | float _ _ => simp [Gx.closedV] at h
    | complex _ _ _ => simp [Gx.closedV] at h
    | chan _ => simp [Gx.closedV] at h
    | func _ _ _ => simp [Gx.closedV] at h
theorem VR.closed {P : Program} {r : Rho} {v : Value} (h : Gx.closed v = true) : VR P r v v := VR.closedV 10 v h

/-- the cells of related values -/
theorem VR.cells {P : Program} {r : Rho} {v v' : Value} (h : VR P r v v') : LR P r (cellsL v) (cellsL v') := by
  cases h with
  | agg a a' h1 h2 => exact LR.arr h1 h2
  | bool b => exact LR.cons (.bool b) .nil
  | int k n => exact LR.cons (.int k n) .nil
  | str s => exact LR.cons (.str s) .nil
  | ptrNil => exact LR.cons .ptrNil .nil
  | ptr n o L e => exact LR.cons (.ptr n o L e) .nil
  | sliceNil => exact LR.cons .sliceNil .nil
  | slice n o L len cap cap' x e c l hx => exact LR.cons (.slice n o L len cap cap' x e c l hx) .nil
  | slice0 a a' h => exact LR.cons (.slice0 a a' h) .nil
  | mapNil => exact LR.cons .mapNil .nil
  | map n L e hb => exact LR.cons (.map n L e hb) .nil
  | nilFunc => exact LR.cons .nilFunc .nil
  | func f a b a' b' h1 h2 k1 k2 => exact LR.cons (.func f a b a' b' h1 h2 k1 k2) .nil
  | yield n L e hb => exact LR.cons (.yield n L e hb) .nil
  | nilIface => exact LR.cons .nilIface .nil
  | iface t v v' k => exact LR.cons (.iface t v v' k) .nil
  | tuple a a' h1 h2 => exact LR.cons (.tuple a a' h1 h2) .nil

theorem VR.okc {P : Program} {r : Rho} {v v' : Value} (h : VR P r v v') (hc : Gx.okc v = true) : Gx.okc v' = true := by
  cases h <;> first | rfl | (simp [Gx.okc, undef] at hc)

theorem LR.okc {P : Program} {r : Rho} {l l' : List Value} (h : LR P r l l') (hc : l.all Gx.okc = true) : l'.all Gx.okc = true := by
  rw [List.all_eq_true] at hc ⊢
  intro v' hv'
  obtain ⟨i, hi, rfl⟩ := List.getElem_of_mem hv'
  have hi' : i < l.length := by rw [h.1]; exact hi
  exact (h.2 i l[i] _ (by simp [hi']) (by simp [hi])).okc (hc _ (List.getElem_mem hi'))

end Go.Gx

/-
  The relation between an abstract memory and a world; what making, changing and forgetting an object does to it.
-/
namespace Go.Gx

def ER (P : Program) (r : Rho) (e e' : MapEntry) : Prop := VR P r e.key e'.key ∧ VR P r e.val e'.val ∧ e.born = e'.born

def EsR (P : Program) (r : Rho) (es es' : List MapEntry) : Prop :=
  es.length = es'.length ∧ ∀ (i : Nat) (e e' : MapEntry), es[i]? = some e → es'[i]? = some e' → ER P r e e'

def TgR (r : Rho) (P : Program) : Target → Target → Prop
  | .fn (.func f) c, .fn (.func f') c' => f = f' ∧ LR P r c.toList c'.toList
  | .collected n, .collected b => ∃ L, r n = some L ∧ L.base = 0 ∧ b = L.b
  | _, _ => False

def DfR (P : Program) (r : Rho) (d d' : Deferred) : Prop := TgR r P d.target d'.target ∧ LR P r d.args.toList d'.args.toList

inductive DsR (P : Program) (r : Rho) : List Deferred → List Deferred → Prop where
  | nil : DsR P r [] []
  | cons {d d' : Deferred} {ds ds' : List Deferred} : DfR P r d d' → DsR P r ds ds' → DsR P r (d :: ds) (d' :: ds')

def JpR : Option Jump → Option Code → Prop
  | none, none => True
  | some (.exit id), some (.exit id') => id = id'
  | some .ret, some .ret => True
  | _, _ => False

/-- what may not be written lies behind the end, and that for bytes alone -/
def FzR (P : Program) (e : TypeId) (fz : Nat × Nat) (n : Nat) : Prop := fz.1 = fz.2 ∨ (P.underlying e = some (.int .u8) ∧ n ≤ fz.1)
theorem FzR.ok {P : Program} {e : TypeId} {fz : Nat × Nat} {n : Nat} (h : FzR P e fz n) : fz.1 = fz.2 ∨ n ≤ fz.1 := h.imp id (·.2)

def ObjR (P : Program) (r : Rho) (L : Loc) : AObj → Obj → Prop
  | .row cells elem wr ex, .cells c e fz =>
    e = elem ∧ L.et = elem ∧ cells.length = L.asz ∧ L.base + L.asz ≤ L.csz ∧ L.csz ≤ c.size ∧ (ex = true → L.csz = L.base + L.asz) ∧
    (wr = true → FzR P elem fz c.size) ∧ (ex = true → wr = true → L.base = 0 ∧ L.csz = c.size) ∧ ∀ (i : Nat) (v : Value), cells[i]? = some v → ∃ v', c[L.base + i]? = some v' ∧ VR P r v v'
  | .map es clock, .map es' clock' => L.base = 0 ∧ clock = clock' ∧ EsR P r es es'.toList
  | .miter m since seen stepped, .mapIter m' since' seen' stepped' =>
    L.base = 0 ∧ since = since' ∧ seen = seen'.toList ∧ stepped = stepped' ∧
    match m, m' with
    | none, none => True
    | some n, some b => ∃ M, r n = some M ∧ M.base = 0 ∧ b = M.b
    | _, _ => False
  | .siter s pos, .stringIter s' pos' => L.base = 0 ∧ s = s' ∧ pos = pos'
  | .loop st pend env ps asg body dblk, .loop l =>
    L.base = 0 ∧ l.state = st ∧ JpR pend l.pending ∧ LR P r env l.tmps.toList ∧ l.params.toList = ps ∧ comp P l.assign = some asg ∧ comp P l.body = some body ∧
    ∃ M, r dblk = some M ∧ M.base = 0 ∧ l.defers = M.b
  | .defd none, .deferred none => L.base = 0
  | .defd (some ds), .deferred (some ds') => L.base = 0 ∧ DsR P r ds ds'
  | .dead, _ => True
  | _, _ => False

/-- may what lies there be changed? -/
def AObj.own : AObj → Bool
  | .row _ _ wr _ => wr
  | .dead => false
  | _ => true

structure Rel (P : Program) (prot : Nat → Option Obj) (w0 : World) (r : Rho) (S : AS) (w : World) : Prop where
  os : w.os = w0.os
  tape : w.tape = w0.tape
  output : w.output = w0.output
  size : w0.heap.size ≤ w.heap.size
  low : ∀ b, b < w0.heap.size → w.heap[b]? = w0.heap[b]?
  live : ∀ n o, S.get n = some o → o = .dead ∨ ∃ L obj, r n = some L ∧ w.heap[L.b]? = some obj ∧ ObjR P r L o obj
  uniq : ∀ n m o o' L M, S.get n = some o → S.get m = some o' → o.own = true → o' ≠ .dead → n ≠ m → r n = some L → r m = some M → L.b ≠ M.b
  fresh : ∀ n, S.next ≤ n → r n = none
  ro : ∀ n o L, S.get n = some o → o ≠ .dead → r n = some L → (o.own = true → w0.heap.size ≤ L.b) ∧ (o.own = false → L.b < w0.heap.size)
  prot : ∀ b obj, prot b = some obj → w.heap[b]? = some obj ∧ ∀ n o L, S.get n = some o → o.own = true → r n = some L → L.b ≠ b

section mono
variable {P : Program} {r s : Rho}
theorem ER.mono (h : r.le s) {e e' : MapEntry} (k : ER P r e e') : ER P s e e' := ⟨k.1.mono h, k.2.1.mono h, k.2.2⟩
theorem EsR.mono (h : r.le s) {e e' : List MapEntry} (k : EsR P r e e') : EsR P s e e' := ⟨k.1, fun i a b x y => (k.2 i a b x y).mono h⟩
theorem TgR.mono (h : r.le s) {a b : Target} (k : TgR r P a b) : TgR s P a b := by
  unfold TgR at k ⊢
  split at k
  · exact ⟨k.1, k.2.mono h⟩
  · obtain ⟨L, a, b⟩ := k; exact ⟨L, h _ _ a, b⟩
  · exact k.elim
theorem DfR.mono (h : r.le s) {a b : Deferred} (k : DfR P r a b) : DfR P s a b := ⟨k.1.mono h, k.2.mono h⟩
theorem DsR.mono (h : r.le s) {a b : List Deferred} (k : DsR P r a b) : DsR P s a b := by
  induction k with
  | nil => exact .nil
  | cons d _ ih => exact .cons (d.mono h) ih
theorem ObjR.mono (h : r.le s) {L : Loc} {a : AObj} {b : Obj} (k : ObjR P r L a b) : ObjR P s L a b := by
  cases a with
  | row cells elem wr ex =>
    cases b <;> simp only [ObjR] at k ⊢
    obtain ⟨h1, h2, h3, h4, h5, h6, h7, h9, h8⟩ := k
    exact ⟨h1, h2, h3, h4, h5, h6, h7, h9, fun i v e => let ⟨v', a, b⟩ := h8 i v e; ⟨v', a, b.mono h⟩⟩
  | map es clock =>
    cases b <;> simp only [ObjR] at k ⊢
    exact ⟨k.1, k.2.1, k.2.2.mono h⟩
  | miter m since seen stepped =>
    cases b with
    | mapIter m' since' seen' stepped' =>
      simp only [ObjR] at k ⊢
      obtain ⟨h1, h2, h3, h4, h5⟩ := k
      refine ⟨h1, h2, h3, h4, ?_⟩
      cases m <;> cases m' <;> simp only at h5 ⊢
      obtain ⟨M, a, b⟩ := h5
      exact ⟨M, h _ _ a, b⟩
    | _ => simp only [ObjR] at k
  | siter s' pos => cases b <;> simp only [ObjR] at k ⊢; exact k
  | loop st pend env ps asg body dblk =>
    cases b <;> simp only [ObjR] at k ⊢
    obtain ⟨h1, h2, h3, h4, h5, h6, h7, M, a, b⟩ := k
    exact ⟨h1, h2, h3, h4.mono h, h5, h6, h7, M, h _ _ a, b⟩
  | defd ds =>
    cases b with
    | deferred ds' =>
      cases ds <;> cases ds' <;> simp only [ObjR] at k ⊢
      · exact k
      · exact ⟨k.1, k.2.mono h⟩
    | _ => cases ds <;> simp only [ObjR] at k
  | dead => cases b <;> simp only [ObjR]
end mono

/-- a block takes another object -/
def _root_.Go.World.upd (w : World) (b : Nat) (o : Obj) : World := { w with heap := w.heap.setIfInBounds b o }

theorem upd_same {w : World} {b : Nat} {o : Obj} (h : b < w.heap.size) : (w.upd b o).heap[b]? = some o := by
  simp [World.upd, h]
theorem upd_ne {w : World} {b c : Nat} {o : Obj} (h : c ≠ b) : (w.upd b o).heap[c]? = w.heap[c]? := by
  simp [World.upd, Array.getElem?_setIfInBounds, Ne.symm h]
theorem alloc_lt {w : World} {o : Obj} {b : Nat} (h : b < w.heap.size) : (w.alloc o).heap[b]? = w.heap[b]? := by
  show (w.heap.push o)[b]? = _
  rw [Array.getElem?_push, if_neg (by omega)]
theorem alloc_new (w : World) (o : Obj) : (w.alloc o).heap[w.heap.size]? = some o := by
  show (w.heap.push o)[w.heap.size]? = _
  simp
theorem lt_of_get {w : World} {b : Nat} {o : Obj} (h : w.heap[b]? = some o) : b < w.heap.size := (Array.getElem?_eq_some_iff.1 h).1

section
variable {P : Program} {prot : Nat → Option Obj} {w0 : World} {r : Rho} {S : AS} {w : World}

theorem roPut {n : Nat} {o : AObj} (h : ∀ n o L, S.get n = some o → o ≠ .dead → r n = some L → (o.own = true → w0.heap.size ≤ L.b) ∧ (o.own = false → L.b < w0.heap.size))
    (ho : (o.own = true ∧ ∀ L, r n = some L → w0.heap.size ≤ L.b) ∨ o = .dead) :
    ∀ m p L, (S.put n o).get m = some p → p ≠ .dead → r m = some L → (p.own = true → w0.heap.size ≤ L.b) ∧ (p.own = false → L.b < w0.heap.size) := by
  intro m p L hm hd hL
  rw [AS.get_put] at hm
  split at hm
  · rename_i e; subst e; cases hm
    rcases ho with ho | ho
    · exact ⟨fun _ => ho.2 L hL, fun h => by rw [ho.1] at h; cases h⟩
    · exact absurd ho hd
  · exact h m p L hm hd hL

theorem Rel.drew (h : Rel P prot w0 r S w) : Rel P prot w0 r S w.drew := ⟨h.os, h.tape, h.output, h.size, h.low, h.live, h.uniq, h.fresh, h.ro, h.prot⟩
theorem Rel.drawn (h : Rel P prot w0 r S w) (k : Nat) : Rel P prot w0 r S { w with drawn := k } := ⟨h.os, h.tape, h.output, h.size, h.low, h.live, h.uniq, h.fresh, h.ro, h.prot⟩

theorem Rel.bump (h : Rel P prot w0 r S w) (k : Nat) : Rel P prot w0 r (S.bump k) w :=
  ⟨h.os, h.tape, h.output, h.size, h.low, h.live, h.uniq, fun n hn => h.fresh n (by simp at hn; omega), h.ro, h.prot⟩

/-- the object that lies at a live name -/
theorem Rel.at_ (h : Rel P prot w0 r S w) {n : Nat} {o : AObj} (hg : S.get n = some o) (hd : o ≠ .dead) {L : Loc} (hL : r n = some L) : ∃ obj, w.heap[L.b]? = some obj ∧ ObjR P r L o obj := by
  rcases h.live n o hg with e | ⟨M, obj, hM, hb, ho⟩
  · exact absurd e hd
  · rw [hL] at hM; cases hM; exact ⟨obj, hb, ho⟩

/-- an object is changed -/
theorem Rel.upd (h : Rel P prot w0 r S w) {n : Nat} {o o' : AObj} {obj' : Obj} {L : Loc} (hg : S.get n = some o) (hown : o.own = true) (hL : r n = some L)
    (ho : ObjR P r L o' obj') (hown' : o'.own = true) : Rel P prot w0 r (S.put n o') (w.upd L.b obj') := by
  have hd : o ≠ .dead := by rintro rfl; cases hown
  have hd' : o' ≠ .dead := by rintro rfl; cases hown'
  obtain ⟨obj, hb, _⟩ := h.at_ hg hd hL
  have hlt := lt_of_get hb
  refine ⟨h.os, h.tape, h.output, by simpa [World.upd] using h.size, fun b hb' => (upd_ne (by have := (h.ro n o L hg hd hL).1 hown; omega)).trans (h.low b hb'), ?_, ?_, h.fresh, roPut h.ro (.inl ⟨hown', fun M hM => by rw [hL] at hM; cases hM; exact (h.ro n o L hg hd hL).1 hown⟩), ?_⟩
  · intro m p hm
    rw [AS.get_put] at hm
    split at hm
    · rename_i e; subst e; cases hm
      exact .inr ⟨L, obj', hL, upd_same hlt, ho⟩
    · rename_i e
      rcases h.live m p hm with e' | ⟨M, q, hM, hq, hpq⟩
      · exact .inl e'
      · by_cases hp : p = .dead
        · exact .inl hp
        · refine .inr ⟨M, q, hM, ?_, hpq⟩
          rw [upd_ne (Ne.symm (h.uniq n m o p L M hg hm hown hp (Ne.symm e) hL hM))]
          exact hq
  · intro a b p q M N ha hb ho1 ho2 hab hM hN
    rw [AS.get_put] at ha hb
    split at ha
    · rename_i e; subst e; cases ha
      rw [if_neg (Ne.symm hab)] at hb
      exact h.uniq a b o q M N hg hb hown ho2 hab hM hN
    · split at hb
      · rename_i e; subst e; cases hb
        exact h.uniq a b p o M N ha hg ho1 hd hab hM hN
      · exact h.uniq a b p q M N ha hb ho1 ho2 hab hM hN
  · intro b obj hp
    obtain ⟨h1, h2⟩ := h.prot b obj hp
    have hne : L.b ≠ b := h2 n o L hg hown hL
    refine ⟨by rw [upd_ne (Ne.symm hne)]; exact h1, fun m p M hm ho1 hM => ?_⟩
    rw [AS.get_put] at hm
    split at hm
    · rename_i e; subst e; rw [hL] at hM; cases hM; exact hne
    · exact h2 m p M hm ho1 hM

/-- a block changes, its abstract object does not -/
theorem Rel.touch (h : Rel P prot w0 r S w) {n : Nat} {o : AObj} {obj' : Obj} {L : Loc} (hg : S.get n = some o) (hown : o.own = true) (hL : r n = some L)
    (ho : ObjR P r L o obj') : Rel P prot w0 r S (w.upd L.b obj') := by
  have hd : o ≠ .dead := by rintro rfl; cases hown
  obtain ⟨obj, hb, _⟩ := h.at_ hg hd hL
  have hlt := lt_of_get hb
  refine ⟨h.os, h.tape, h.output, by simpa [World.upd] using h.size, fun b hb' => (upd_ne (by have := (h.ro n o L hg hd hL).1 hown; omega)).trans (h.low b hb'), ?_, h.uniq, h.fresh, h.ro, ?_⟩
  · intro m p hm
    by_cases e : m = n
    · subst e; rw [hg] at hm; cases hm
      exact .inr ⟨L, obj', hL, upd_same hlt, ho⟩
    · rcases h.live m p hm with e' | ⟨M, q, hM, hq, hpq⟩
      · exact .inl e'
      · by_cases hp : p = .dead
        · exact .inl hp
        · refine .inr ⟨M, q, hM, ?_, hpq⟩
          rw [upd_ne (Ne.symm (h.uniq n m o p L M hg hm hown hp (Ne.symm e) hL hM))]
          exact hq
  · intro b obj hp
    obtain ⟨h1, h2⟩ := h.prot b obj hp
    have hne : L.b ≠ b := h2 n o L hg hown hL
    exact ⟨by rw [upd_ne (Ne.symm hne)]; exact h1, h2⟩

/-- an object is forgotten -/
theorem Rel.kill (h : Rel P prot w0 r S w) (n : Nat) : Rel P prot w0 r (S.put n .dead) w := by
  refine ⟨h.os, h.tape, h.output, h.size, h.low, ?_, ?_, h.fresh, roPut h.ro (.inr rfl), ?_⟩
  · intro m p hm
    rw [AS.get_put] at hm
    split at hm
    · cases hm; exact .inl rfl
    · exact h.live m p hm
  · intro a b p q M N ha hb ho1 ho2 hab hM hN
    rw [AS.get_put] at ha hb
    split at ha
    · cases ha; cases ho1
    · split at hb
      · cases hb; exact absurd rfl ho2
      · exact h.uniq a b p q M N ha hb ho1 ho2 hab hM hN
  · intro b obj hp
    obtain ⟨h1, h2⟩ := h.prot b obj hp
    refine ⟨h1, fun m p M hm ho1 hM => ?_⟩
    rw [AS.get_put] at hm
    split at hm
    · cases hm; cases ho1
    · exact h2 m p M hm ho1 hM

/-- a name is laid at a block that no live name lies at -/
theorem Rel.lay (h : Rel P prot w0 r S w) {n : Nat} {o : AObj} {obj : Obj} {L : Loc} (hL : r n = some L) (hb : w.heap[L.b]? = some obj) (ho : ObjR P r L o obj) (hown : o.own = true) (hhi : w0.heap.size ≤ L.b)
    (hfree : ∀ m p M, S.get m = some p → p ≠ .dead → m ≠ n → r m = some M → M.b ≠ L.b) (hprot : ∀ obj, prot L.b = some obj → False) : Rel P prot w0 r (S.put n o) w := by
  refine ⟨h.os, h.tape, h.output, h.size, h.low, ?_, ?_, h.fresh, roPut h.ro (.inl ⟨hown, fun M hM => by rw [hL] at hM; cases hM; exact hhi⟩), ?_⟩
  · intro m p hm
    rw [AS.get_put] at hm
    split at hm
    · rename_i e; subst e; cases hm; exact .inr ⟨L, obj, hL, hb, ho⟩
    · exact h.live m p hm
  · intro a b p q M N ha hb' ho1 ho2 hab hM hN
    rw [AS.get_put] at ha hb'
    split at ha
    · rename_i e; subst e; cases ha
      rw [if_neg (Ne.symm hab)] at hb'
      rw [hL] at hM; cases hM
      exact Ne.symm (hfree b q N hb' ho2 (Ne.symm hab) hN)
    · split at hb'
      · rename_i e; subst e; cases hb'
        rw [hL] at hN; cases hN
        exact hfree a p M ha (by rintro rfl; cases ho1) hab hM
      · exact h.uniq a b p q M N ha hb' ho1 ho2 hab hM hN
  · intro b obj' hp
    obtain ⟨h1, h2⟩ := h.prot b obj' hp
    refine ⟨h1, fun m p M hm ho1 hM => ?_⟩
    rw [AS.get_put] at hm
    split at hm
    · rename_i e; subst e; rw [hL] at hM; cases hM
      intro e; subst e; exact hprot _ hp
    · exact h2 m p M hm ho1 hM

/-- the relation of names grows -/
theorem Rel.grow (h : Rel P prot w0 r S w) {s : Rho} (hs : r.le s) (hd : ∀ n o, S.get n = some o → o ≠ .dead → s n = r n) (hf : ∀ n, S.next ≤ n → s n = none) : Rel P prot w0 s S w := by
  refine ⟨h.os, h.tape, h.output, h.size, h.low, ?_, ?_, hf, fun n o L hn hd' hL => h.ro n o L hn hd' (by rwa [hd n o hn hd'] at hL), ?_⟩
  · intro n o hn
    rcases h.live n o hn with e | ⟨L, obj, hL, hb, ho⟩
    · exact .inl e
    · exact .inr ⟨L, obj, hs _ _ hL, hb, ho.mono hs⟩
  · intro a b p q M N ha hb ho1 ho2 hab hM hN
    rw [hd a p ha (by rintro rfl; cases ho1)] at hM
    rw [hd b q hb ho2] at hN
    exact h.uniq a b p q M N ha hb ho1 ho2 hab hM hN
  · intro b obj hp
    obtain ⟨h1, h2⟩ := h.prot b obj hp
    exact ⟨h1, fun m p M hm ho1 hM => h2 m p M hm ho1 (by rwa [hd m p hm (by rintro rfl; cases ho1)] at hM)⟩

/-- the world makes a block -/
theorem Rel.allocW (h : Rel P prot w0 r S w) (obj : Obj) : Rel P prot w0 r S (w.alloc obj) := by
  have key : ∀ (b : Nat) (q : Obj), w.heap[b]? = some q → (w.alloc obj).heap[b]? = some q := fun b q hb => by
    rw [alloc_lt (lt_of_get hb)]; exact hb
  refine ⟨h.os, h.tape, h.output, by rw [World.size_alloc]; have := h.size; omega, fun b hb => (alloc_lt (by have := h.size; omega)).trans (h.low b hb), ?_, h.uniq, h.fresh, h.ro, ?_⟩
  · intro n o hn
    rcases h.live n o hn with e | ⟨L, q, hL, hb, ho⟩
    · exact .inl e
    · exact .inr ⟨L, q, hL, key _ _ hb, ho⟩
  · intro b q hp
    obtain ⟨h1, h2⟩ := h.prot b q hp
    exact ⟨key _ _ h1, h2⟩

/-- a live name's block is there -/
theorem Rel.lt (h : Rel P prot w0 r S w) {m : Nat} {p : AObj} {M : Loc} (hm : S.get m = some p) (hp : p ≠ .dead) (hM : r m = some M) : M.b < w.heap.size := by
  obtain ⟨obj, hb, _⟩ := h.at_ hm hp hM
  exact lt_of_get hb

/-- a new object -/
theorem Rel.new (h : Rel P prot w0 r S w) {n : Nat} {o : AObj} {obj : Obj} {L : Loc} (hn : r n = none) (hlt : n < S.next) (hLb : L.b = w.heap.size)
    (ho : ObjR P (r.add n L) L o obj) (hown : o.own = true := by rfl) : Rel P prot w0 (r.add n L) (S.put n o) (w.alloc obj) := by
  have hle := Rho.le_add L hn
  have hdead : ∀ p, S.get n = some p → p = .dead := fun p hp => by
    rcases h.live n p hp with e | ⟨M, _, hM, _⟩
    · exact e
    · rw [hn] at hM; cases hM
  have hr : Rel P prot w0 (r.add n L) S (w.alloc obj) := (h.allocW obj).grow hle
    (fun m p hm hp => by
      unfold Rho.add; split
      · rename_i e; subst e; exact absurd (hdead p hm) hp
      · rfl)
    (fun m hm => by rw [Rho.add_ne r L (by omega)]; exact h.fresh m hm)
  refine hr.lay (Rho.add_self r n L) (by rw [hLb]; exact alloc_new w obj) ho hown (by rw [hLb]; exact h.size) ?_ ?_
  · intro m p M hm hp hmn hM
    rw [Rho.add_ne r L hmn] at hM
    have := h.lt hm hp hM
    omega
  · intro q hq
    have := lt_of_get (h.prot _ _ hq).1
    omega
end

end Go.Gx
