/-
  A program logic over abstract states, part C: the small code, and what its operations do to an abstract state.
-/
import Derived.Test.YtgmefkhincnajaaDoorAbsB
namespace Go.Abs
open Go Go.RowKit

inductive AOpd where
  | t (i : Nat)
  | c (v : AVal)

/-- Operations, their types looked up. -/
inductive AK where
  | mov | pick | nilc
  | fad (off : Nat)
  | fld (ag : Bool) (off sz : Nat)
  | iad (sz : Nat)
  | bin (op : BinOp)
  | binb (op : BinOp)
  | cstr
  | unot | uneg | ucpl
  | conv (k : IntKind)
  | slc (sz : Nat) (lo hi mx : Bool)
  | sstr (lo hi : Bool)
  | istr
  | bld (z : List AVal) (places : List (Nat × Nat))
  | ext (i : Nat)
  | lens | lent
  | min | max
  | mkf (f : FuncId) (nf : Nat)
  | mki (t : TypeId)
  | bsl (sz : Nat)
  | s2b
  | loadp (ag : Bool) (sz : Nat)
  | b2sp
  -- what reads memory
  | load (ag : Bool) (sz : Nat)
  | loadg (ag : Bool) (sz : Nat)
  | b2s
  -- what turns the state
  | store (sz : Nat)
  | alloc (z : AVal)
  | box (sz : Nat)
  | bslo (sz : Nat)
  | strish (sz : Nat)
  | isnil (neg : Bool)
  | mks (sz bytes : Nat) (z : AVal)
  | app (sz bytes : Nat)
  | apps
  | cpy (sz : Nat)
  | clip (sz : Nat)
  | call (f : FuncId)
  | callv
  -- a call that leaves all memory as9 it is; a call that leaves some blocks as9 they are (the operands behind the n-th)
  | callp (f : FuncId)
  | callk (f : FuncId) (n : Nat)
  -- what must not be come to
  | bad

def AK.quiet : AK → Bool
  | .store _ | .alloc _ | .box _ | .bslo _ | .strish _ | .isnil _ | .mks _ _ _ | .app _ _ | .apps | .cpy _ | .clip _ | .call _ | .callv | .callp _ | .callk _ _ => false
  | _ => true
def AK.reads : AK → Bool
  | .load _ _ | .loadg _ _ | .b2s => true
  | _ => false

/-! ### Operations that need no memory -/

def byte (b : UInt8) : AVal := .int .u8 b.toNat
def bytes (l : List UInt8) : List AVal := l.map byte

def toByte : AVal → Option UInt8
  | .int .u8 n => some (UInt8.ofNat n.toNat)
  | _ => none
def toBytes (l : List AVal) : Option (List UInt8) := l.mapM toByte

def intBits (op : BinOp) (k : IntKind) (x y : Int) : Int :=
  let a := BitVec.ofInt k.bits x
  let b := BitVec.ofInt k.bits y
  match op with
  | .and => k.wrap (a &&& b).toNat
  | .or => k.wrap (a ||| b).toNat
  | .xor => k.wrap (a ^^^ b).toNat
  | _ => k.wrap (a &&& ~~~b).toNat

def binInt (op : BinOp) (k : IntKind) (a b : Int) : Option AVal :=
  match op with
  | .add => some (.int k (k.wrap (a + b)))
  | .sub => some (.int k (k.wrap (a - b)))
  | .mul => some (.int k (k.wrap (a * b)))
  | .quo => if b = 0 then none else some (.int k (k.wrap (a.tdiv b)))
  | .rem => if b = 0 then none else some (.int k (a.tmod b))
  | .and => some (.int k (intBits .and k a b))
  | .or => some (.int k (intBits .or k a b))
  | .xor => some (.int k (intBits .xor k a b))
  | .andNot => some (.int k (intBits .andNot k a b))
  | .shl => none
  | .shr => none
  | .eql => some (.bool (decide (a = b)))
  | .neq => some (.bool (decide (a ≠ b)))
  | .lss => some (.bool (decide (a < b)))
  | .leq => some (.bool (decide (a ≤ b)))
  | .gtr => some (.bool (decide (b < a)))
  | .geq => some (.bool (decide (b ≤ a)))

def binShift (op : BinOp) (k : IntKind) (x y : Int) : Option AVal :=
  match op with
  | .shl => if y < 0 then none else some (.int k (k.wrap (x * 2 ^ (Nat.min y.toNat k.bits))))
  | .shr => if y < 0 then none else some (.int k (x.fdiv (2 ^ (Nat.min y.toNat k.bits))))
  | _ => none

def binStr (op : BinOp) (s t : List UInt8) : Option AVal :=
  match op with
  | .add => if s.length + t.length ≤ maxLen then some (.str (s ++ t)) else none
  | .eql => some (.bool (decide (s = t)))
  | .neq => some (.bool (decide (s ≠ t)))
  | .lss => some (.bool (Op.bytesLess s t))
  | .leq => some (.bool (Op.bytesLess s t || decide (s = t)))
  | .gtr => some (.bool (!(Op.bytesLess s t || decide (s = t))))
  | .geq => some (.bool (!Op.bytesLess s t))
  | _ => none

def binBool (op : BinOp) (a b : Bool) : Option AVal :=
  match op with
  | .eql => some (.bool (a == b))
  | .neq => some (.bool (!(a == b)))
  | _ => none

def isShift : BinOp → Bool
  | .shl | .shr => true
  | _ => false

def abin (op : BinOp) : List AVal → Option AVal
  | [.int k a, .int k' b] => if isShift op then binShift op k a b else if k = k' then binInt op k a b else none
  | [.str s, .str t] => binStr op s t
  | _ => none
def abinb (op : BinOp) : List AVal → Option AVal
  | [.bool a, .bool b] => binBool op a b
  | _ => none
def acstr : List AVal → Option AVal
  | [.str s] => some (.str s)
  | _ => none

def apick : List AVal → Option AVal
  | [.bool t, a, b] => some (if t then a else b)
  | _ => none
def amov : List AVal → Option AVal
  | [v] => some v
  | _ => none
def anilc : List AVal → Option AVal
  | [.ptr b i o] => some (.ptr b i o)
  | [.iptr cs] => some (.iptr cs)
  | [.fn f a b] => some (.fn f a b)
  | _ => none
def afad (off : Nat) : List AVal → Option AVal
  | [.ptr b i o] => some (.ptr b i (o + off))
  | [.iptr cs] => some (.iptr (cs.drop off))
  | _ => none
def part_ (ag : Bool) (sz : Nat) (cs : List AVal) : Option AVal :=
  if ag then (if sz ≤ cs.length then some (.agg (cs.take sz)) else none) else cs.head?
def afld (ag : Bool) (off sz : Nat) : List AVal → Option AVal
  | [.agg cs] => part_ ag sz (cs.drop off)
  | _ => none
def aiad (sz : Nat) : List AVal → Option AVal
  | [.slc s xs _, .int _ i] => if 0 ≤ i ∧ s = sz then (xs[i.toNat]?).map fun x => .iptr x.cells else none
  | [.arr s b off n, .int _ i] => if (0 ≤ i ∧ i < n) ∧ s = sz then some (.ptr b (off + i.toNat) 0) else none
  | _ => none
def aunot : List AVal → Option AVal
  | [.bool b] => some (.bool (!b))
  | _ => none
def auneg : List AVal → Option AVal
  | [.int k n] => some (.int k (k.wrap (0 - n)))
  | _ => none
def aucpl : List AVal → Option AVal
  | [.int k n] => some (.int k (intBits .xor k (if k.signed then -1 else k.max) n))
  | _ => none
def aconv (k : IntKind) : List AVal → Option AVal
  | [.int _ n] => some (.int k (k.wrap n))
  | _ => none

/-- The bounds of a slice expression, out of the operands behind the first. -/
def bnds (n : Int) (lo hi mx : Bool) (l : List AVal) : Option (Int × Int × Int) :=
  match lo, hi, mx with
  | false, false, false => match l with
    | [] => some (0, n, n)
    | _ => none
  | true, false, false => match l with
    | [.int _ a] => some (a, n, n)
    | _ => none
  | false, true, false => match l with
    | [.int _ b] => some (0, b, n)
    | _ => none
  | true, true, false => match l with
    | [.int _ a, .int _ b] => some (a, b, n)
    | _ => none
  | false, true, true => match l with
    | [.int _ b, .int _ c] => some (0, b, c)
    | _ => none
  | true, true, true => match l with
    | [.int _ a, .int _ b, .int _ c] => some (a, b, c)
    | _ => none
  | _, _, true => none

def asub (sz : Nat) (lo hi mx : Bool) : List AVal → Option AVal
  | .slc s xs full :: l => (bnds xs.length lo hi mx l).bind fun (a, b, c) =>
      if (0 ≤ a ∧ a ≤ b ∧ b ≤ c ∧ c ≤ xs.length) ∧ (s = sz ∨ xs = []) then
        some (.slc s ((xs.drop a.toNat).take (b - a).toNat) (if mx then decide (b = c) else (full && decide (b = xs.length)))) else none
  | .arr s n off len :: l => (bnds len lo hi mx l).bind fun (a, b, c) =>
      if (0 ≤ a ∧ a ≤ b ∧ b ≤ c ∧ c ≤ len) ∧ s = sz then
        if a = 0 then some (.arr s n off b.toNat) else if a < b then some (.arr s n (off + a.toNat) (b - a).toNat) else some (.slc s [] false) else none
  | _ => none
def asstr (lo hi : Bool) : List AVal → Option AVal
  | .str s :: l => (bnds s.length lo hi false l).bind fun (a, b, _) =>
      if 0 ≤ a ∧ a ≤ b ∧ b ≤ s.length then some (.str ((s.drop a.toNat).take (b - a).toNat)) else none
  | _ => none
def aistr : List AVal → Option AVal
  | [.str s, .int _ i] => if 0 ≤ i then (s[i.toNat]?).map byte else none
  | _ => none
def putAll : List AVal → List (Nat × Nat) → List AVal → Option (List AVal)
  | z, [], [] => some z
  | z, (off, sz) :: ps, v :: vs =>
    if v.cells.length = sz ∧ off + sz ≤ z.length ∧ v.cells.all AVal.one = true then putAll (z.take off ++ v.cells ++ z.drop (off + sz)) ps vs else none
  | _, _, _ => none
def abld (z : List AVal) (ps : List (Nat × Nat)) (vs : List AVal) : Option AVal := (putAll z ps vs).map .agg
def aext (i : Nat) : List AVal → Option AVal
  | [.tup vs] => vs[i]?
  | _ => none
def alens : List AVal → Option AVal
  | [.slc _ xs _] => some (.int .i64 xs.length)
  | [.arr _ _ _ n] => some (.int .i64 n)
  | _ => none
def alent : List AVal → Option AVal
  | [.str s] => some (.int .i64 s.length)
  | _ => none
def amin2 : AVal → AVal → Option AVal
  | .int k x, .int _ y => some (.int k (if y < x then y else x))
  | _, _ => none
def amax2 : AVal → AVal → Option AVal
  | .int k x, .int _ y => some (.int k (if y > x then y else x))
  | _, _ => none
def amin : List AVal → Option AVal
  | [] => none
  | x :: l => l.foldlM amin2 x
def amax : List AVal → Option AVal
  | [] => none
  | x :: l => l.foldlM amax2 x
def amkf (f : FuncId) (nf : Nat) (vs : List AVal) : Option AVal := some (.fn f (vs.take nf) (vs.drop nf))
def amki (t : TypeId) : List AVal → Option AVal
  | [v] => some (.iface t v)
  | _ => none

def AVal.fit (sz : Nat) (x : AVal) : Bool := (x.cells.length == sz) && x.cells.all AVal.one
theorem AVal.fit_iff {sz : Nat} {x : AVal} : x.fit sz = true ↔ x.elem sz := by simp [AVal.fit, AVal.elem]
def absl (sz : Nat) (vs : List AVal) : Option AVal := if vs.all (AVal.fit sz) = true then some (.slc sz vs true) else none
def as2b : List AVal → Option AVal
  | [.str s] => if s.length ≤ maxLen then some (.slc 1 (bytes s) false) else none
  | _ => none

/-! ### Operations that read -/

def aload (σ : AHeap) (ag : Bool) (sz : Nat) : List AVal → Option AVal
  | [.iptr cs] => part_ ag sz cs
  | [.ptr b i o] =>
    match hget σ b with
    | some (.cells _ xs) => (xs[i]?).bind fun x => part_ ag sz (x.cells.drop o)
    | none => none
  | _ => none

/-- A slice's elements. -/
def elemsOf (σ : AHeap) (sz : Nat) : AVal → Option (List AVal)
  | .slc s xs _ => if s = sz ∨ xs = [] then some xs else none
  | .arr _ b off n =>
    match hget σ b with
    | some (.cells s xs) => if s = sz ∧ off + n ≤ xs.length then some ((xs.drop off).take n) else none
    | none => none
  | _ => none

/-- Of what nobody writes: no memory is asked. -/
def aloadp (ag : Bool) (sz : Nat) : List AVal → Option AVal
  | [.iptr cs] => part_ ag sz cs
  | _ => none
def ab2sp : List AVal → Option AVal
  | [.slc s xs _] => if s = 1 ∨ xs = [] then (toBytes xs).map .str else none
  | _ => none

def ab2s (σ : AHeap) : List AVal → Option AVal
  | [x] => ((elemsOf σ 1 x).bind toBytes).map .str
  | _ => none

def gname : AVal → Option Nat
  | .ptr b _ _ => some b
  | .arr _ b _ _ => some b
  | _ => none
/-- A reading of a block that another operand names, too. -/
def aloadg (σ : AHeap) (ag : Bool) (sz : Nat) : List AVal → Option AVal
  | [.ptr b i o, w] => if gname w = some b then aload σ ag sz [.ptr b i o] else none
  | _ => none
def aquiet (k : AK) (σ : AHeap) (vs : List AVal) : Option AVal :=
  match k with
  | .mov => amov vs
  | .pick => apick vs
  | .nilc => anilc vs
  | .fad off => afad off vs
  | .fld ag off sz => afld ag off sz vs
  | .iad sz => aiad sz vs
  | .bin op => abin op vs
  | .binb op => abinb op vs
  | .cstr => acstr vs
  | .unot => aunot vs
  | .uneg => auneg vs
  | .ucpl => aucpl vs
  | .conv k => aconv k vs
  | .slc sz lo hi mx => asub sz lo hi mx vs
  | .sstr lo hi => asstr lo hi vs
  | .istr => aistr vs
  | .bld z ps => abld z ps vs
  | .ext i => aext i vs
  | .lens => alens vs
  | .lent => alent vs
  | .min => amin vs
  | .max => amax vs
  | .mkf f nf => amkf f nf vs
  | .mki t => amki t vs
  | .bsl sz => absl sz vs
  | .s2b => as2b vs
  | .loadp ag sz => aloadp ag sz vs
  | .b2sp => ab2sp vs
  | .load ag sz => aload σ ag sz vs
  | .loadg ag sz => aloadg σ ag sz vs
  | .b2s => ab2s σ vs
  | _ => none

/-! ### Calls -/

def ACalls (P : Program) (f : FuncId) (args : List AVal) (σ : AHeap) (R : AVal → AHeap → Prop) : Prop :=
  ∀ (K : Kr) (w : World) (vs : List Value), Rel K σ w → VRel K args vs →
    Calls P f vs.toArray w fun e w' => ∃ v K' r σ', e = .returned v ∧ K.le K' ∧ Rel K' σ' w' ∧ VR K' r v ∧ R r σ'

theorem ACalls.mono {P : Program} {f : FuncId} {args : List AVal} {σ : AHeap} {R R' : AVal → AHeap → Prop} (h : ACalls P f args σ R) (hR : ∀ r σ', R r σ' → R' r σ') :
    ACalls P f args σ R' :=
  fun K w vs hr hv => (h K w vs hr hv).mono fun _ _ ⟨v, K', r, σ', h1, h2, h3, h4, h5⟩ => ⟨v, K', r, σ', h1, h2, h3, h4, hR _ _ h5⟩

/-! ### Operations that turn the state -/

def putCells (x : AVal) (o : Nat) (cs : List AVal) : AVal :=
  match x with
  | .agg l => .agg (l.take o ++ cs ++ l.drop (o + cs.length))
  | x => match cs with
    | [c] => c
    | _ => x

def estore (sz : Nat) (vs : List AVal) (σ : AHeap) (R : AVal → AHeap → Prop) : Prop :=
  match vs with
  | [.ptr b i o, v] => ∃ s xs x, hget σ b = some (.cells s xs) ∧ xs[i]? = some x ∧ o + sz ≤ s ∧ v.elem sz ∧ (x.one = true → o = 0 ∧ sz = 1) ∧
      R (.tup []) (hset σ b (.cells s (xs.set i (putCells x o v.cells))))
  | _ => False

def fresh (σ : AHeap) (b : Nat) : Prop := b ∉ keys σ

def enew (sz : Nat) (xs : List AVal) (σ : AHeap) (R : Nat → AHeap → Prop) : Prop := ∀ b, fresh σ b → R b ((b, .cells sz xs) :: σ)

def ebox (sz : Nat) (vs : List AVal) (σ : AHeap) (R : AVal → AHeap → Prop) : Prop :=
  match vs with
  | [v] => v.elem sz ∧ enew sz [v] σ fun b σ' => R (.ptr b 0 0) σ'
  | _ => False

def ebslo (sz : Nat) (vs : List AVal) (σ : AHeap) (R : AVal → AHeap → Prop) : Prop :=
  (∀ v ∈ vs, v.elem sz) ∧ enew sz vs σ fun b σ' => R (.arr sz b 0 vs.length) σ'

/-- A row of the call's own is marked: nobody writes it any more. -/
def estrish (sz : Nat) (vs : List AVal) (σ : AHeap) (R : AVal → AHeap → Prop) : Prop :=
  match vs with
  | [.arr _ b 0 n] => ∃ xs, hget σ b = some (.cells sz xs) ∧ xs.length = n ∧ 0 < n ∧ R (.slc sz xs false) (hdel σ b)
  | _ => False

/-- Is a slice nil? Of one that holds something: no. -/
def eisnil (neg : Bool) (vs : List AVal) (σ : AHeap) (R : AVal → AHeap → Prop) : Prop :=
  match vs with
  | [.slc _ xs _, .slc _ [] true] => (xs ≠ [] → R (.bool neg) σ) ∧ (xs = [] → ∀ t, R (.bool t) σ)
  | [.arr _ _ _ n, .slc _ [] true] => (0 < n → R (.bool neg) σ) ∧ (n = 0 → ∀ t, R (.bool t) σ)
  | _ => False

def emks (sz byt : Nat) (z : AVal) (vs : List AVal) (σ : AHeap) (R : AVal → AHeap → Prop) : Prop :=
  match vs with
  | [.int .i64 l, .int .i64 c] => z.elem sz ∧ 0 ≤ l ∧ l ≤ c ∧ c ≤ 9223372036854775807 ∧ byt * c ≤ 281474976710656 ∧ enew sz (List.replicate l.toNat z) σ fun b σ' => R (.arr sz b 0 l.toNat) σ'
  | _ => False

/-- Elements are put behind a slice. -/
def eapp (sz byt : Nat) (s : AVal) (ys : List AVal) (σ : AHeap) (R : AVal → AHeap → Prop) : Prop :=
  match s with
  | .slc z xs true =>
    (xs.length + ys.length) * byt ≤ 140737488355328 ∧ (z = sz ∨ xs = []) ∧
    (match xs with
     | [] => enew sz ys σ fun b σ' => R (.arr sz b 0 ys.length) σ'
     | _ => (ys = [] → R (.slc z xs true) σ) ∧ (ys ≠ [] → enew sz (xs ++ ys) σ fun b σ' => R (.arr sz b 0 (xs.length + ys.length)) σ'))
  | .arr _ b 0 n => ∃ xs, hget σ b = some (.cells sz xs) ∧ xs.length = n ∧ (xs.length + ys.length) * byt ≤ 140737488355328 ∧
      ∀ b', fresh σ b' → R (.arr sz b' 0 (xs.length + ys.length)) (hren σ b b' (.cells sz (xs ++ ys)))
  | _ => False

def eappv (sz byt : Nat) (vs : List AVal) (σ : AHeap) (R : AVal → AHeap → Prop) : Prop :=
  match vs with
  | [s, x] => ∃ ys, elemsOf σ sz x = some ys ∧ eapp sz byt s ys σ R
  | _ => False
def eapps (vs : List AVal) (σ : AHeap) (R : AVal → AHeap → Prop) : Prop :=
  match vs with
  | [s, .str t] => eapp 1 1 s (bytes t) σ R
  | _ => False

def ecpy (sz : Nat) (vs : List AVal) (σ : AHeap) (R : AVal → AHeap → Prop) : Prop :=
  match vs with
  | [.arr _ b off n, x] => ∃ xs ys, hget σ b = some (.cells sz xs) ∧ elemsOf σ sz x = some ys ∧ off + n ≤ xs.length ∧
      R (.int .i64 (Nat.min ys.length n : Nat)) (hset σ b (.cells sz (xs.take off ++ ys.take (Nat.min ys.length n) ++ xs.drop (off + Nat.min ys.length n))))
  | _ => False

/-- 's[:n:n]' where nobody writes the row any more. -/
def eclip (sz : Nat) (vs : List AVal) (σ : AHeap) (R : AVal → AHeap → Prop) : Prop :=
  match vs with
  | [.arr _ b off n, .int _ h, .int _ m] => ∃ xs, hget σ b = some (.cells sz xs) ∧ off + n ≤ xs.length ∧ 0 ≤ h ∧ h = m ∧ m ≤ n ∧
      R (.slc sz ((xs.drop off).take h.toNat) true) (hdel σ b)
  | vs => ∃ v, asub sz false true true vs = some v ∧ R v σ

def goodFn (P : Program) (f : FuncId) : Bool :=
  match P.funcs[f]? with
  | some fn => fn.body.isSome && !(fn.name == "runtime.NumGoroutine")
  | none => false

def ecallv (P : Program) (vs : List AVal) (σ : AHeap) (R : AVal → AHeap → Prop) : Prop :=
  match vs with
  | .fn f first caps :: args => goodFn P f = true ∧ (∃ r σ', R r σ') ∧ ACalls P f (first ++ args ++ caps) σ R
  | _ => False

/-- A call's answer, whatever memory the caller owns. -/
def pureC (P : Program) (f : FuncId) (vs : List AVal) (v : AVal) : Prop := ∀ σ', ACalls P f vs σ' fun r τ => r = v ∧ τ = σ'
def keptG (vs : List AVal) (σ σ' : AHeap) : Prop := ∀ v ∈ vs, ∀ b, gname v = some b → hget σ' b = hget σ b
def ecallk (P : Program) (f : FuncId) (n : Nat) (vs : List AVal) (σ : AHeap) (R : AVal → AHeap → Prop) : Prop :=
  (∃ r σ', keptG (vs.drop n) σ σ' ∧ R r σ') ∧ ACalls P f (vs.take n) σ fun r σ' => keptG (vs.drop n) σ σ' ∧ R r σ'

def astep (P : Program) (k : AK) (vs : List AVal) (σ : AHeap) (R : AVal → AHeap → Prop) : Prop :=
  match k with
  | .store sz => estore sz vs σ R
  | .alloc z => vs = [] ∧ (∀ c ∈ z.cells, c.one = true) ∧ enew z.cells.length [z] σ fun b σ' => R (.ptr b 0 0) σ'
  | .box sz => ebox sz vs σ R
  | .bslo sz => ebslo sz vs σ R
  | .strish sz => estrish sz vs σ R
  | .isnil neg => eisnil neg vs σ R
  | .mks sz byt z => emks sz byt z vs σ R
  | .app sz byt => eappv sz byt vs σ R
  | .apps => eapps vs σ R
  | .cpy sz => ecpy sz vs σ R
  | .clip sz => eclip sz vs σ R
  | .call f => (∃ r σ', R r σ') ∧ ACalls P f vs σ R
  | .callv => ecallv P vs σ R
  | .callp f => ∃ v, pureC P f vs v ∧ R v σ
  | .callk f n => ecallk P f n vs σ R
  | k => ∃ v, aquiet k σ vs = some v ∧ R v σ

/-! ### Frames, regions, code -/

abbrev AFrame := Nat → Option AVal

def fset (d : Nat) (v : Option AVal) (F : AFrame) : AFrame := fun i => if i = d then v else F i
def fnone : AFrame := fun _ => none
def fkeep : List Nat → AFrame → AFrame
  | [], _ => fnone
  | i :: l, F => fset i (F i) (fkeep l F)
def fargs (vs : List AVal) : AFrame := fun i => vs[i]?

def ev (F : AFrame) : AOpd → Option AVal
  | .t i => F i
  | .c v => some v
def evs (F : AFrame) : List AOpd → Option (List AVal)
  | [] => some []
  | x :: l => match ev F x, evs F l with
    | some v, some vs => some (v :: vs)
    | _, _ => none

def fput (dst : Option Nat) (v : Option AVal) (F : AFrame) : AFrame :=
  match dst with
  | some d => fset d v F
  | none => F

structure AOper where
  dst : Option Nat
  k : AK
  args : List AOpd
  guard : Option (Nat × Bool)

def arun (P : Program) (o : AOper) (F : AFrame) (σ : AHeap) (Q : AFrame → AHeap → Prop) : Prop :=
  ∃ vs, evs F o.args = some vs ∧ astep P o.k vs σ fun r σ' => Q (fput o.dst (some r) F) σ'

/-- What a guard's slot tells: a truth; nothing, where the operation that fills it was passed over. -/
def gval : Option AVal → Option (Option Bool)
  | some (.bool b) => some (some b)
  | some (.tup []) => some none
  | _ => none

def aop (P : Program) (o : AOper) (F : AFrame) (σ : AHeap) (Q : AFrame → AHeap → Prop) : Prop :=
  match o.guard with
  | none => arun P o F σ Q
  | some (g, want) => ∃ b, gval (F g) = some b ∧ (b = some want → arun P o F σ Q) ∧ (b ≠ some want → Q (fput o.dst (some (.tup [])) F) σ)

def aops (P : Program) : List AOper → AFrame → AHeap → (AFrame → AHeap → Prop) → Prop
  | [], F, σ, Q => Q F σ
  | o :: l, F, σ, Q => aop P o F σ fun F' σ' => aops P l F' σ' Q

inductive ACode where
  | skip
  | region (ops : List AOper) (keep : List Nat)
  | seq (a b : ACode)
  | cond (c : AOpd) (a b : ACode)
  | block (id : Nat) (a : ACode)
  | loop (a : ACode)
  | range (g : AOpd) (ps : List Nat) (a b : ACode)
  | exit (id : Nat)
  | ret

end Go.Abs
