/-
  A program logic over abstract states, part D: the model's code in the small form.
-/
import Derived.Test.YtgmefkhincnajaaDoorAbsC
namespace Go.Abs
open Go Go.RowKit

def constA0 : Value → Option AVal
  | .bool b => some (.bool b)
  | .int k n => some (.int k n)
  | .string s => some (.str s.data.toList)
  | .pointer none => some .nilp
  | .slice none 0 0 => some (.slc 0 [] true)
  | .nilFunc => some .nilf
  | .nilIface => some .nili
  | _ => none
def constA : Value → Option AVal
  | .agg cs => (cs.toList.mapM constA0).map .agg
  | v => constA0 v

theorem constA0_ok {K : Kr} {v : Value} {a : AVal} (h : constA0 v = some a) : VR K a v ∧ a.one = true := by
  unfold constA0 at h
  split at h <;> simp only [Option.some.injEq, reduceCtorEq] at h <;> subst h
  · exact ⟨.bool .nil, rfl⟩
  · exact ⟨.int .nil, rfl⟩
  · exact ⟨.str .nil, rfl⟩
  · exact ⟨.nilp .nil, rfl⟩
  · exact ⟨.slc0 (fun _ => rfl) .nil, rfl⟩
  · exact ⟨.nilf .nil, rfl⟩
  · exact ⟨.nili .nil, rfl⟩

theorem constA0_list {K : Kr} : ∀ {l : List Value} {cs : List AVal}, l.mapM constA0 = some cs → VRel K cs l ∧ ∀ c ∈ cs, c.one = true
  | [], cs, h => by simp at h; subst h; exact ⟨.nil, by simp⟩
  | v :: l, cs, h => by
    simp only [List.mapM_cons, Option.bind_eq_bind, Option.bind_eq_some_iff, Option.pure_def, Option.some.injEq] at h
    obtain ⟨a, ha, cs', hl, rfl⟩ := h
    have h1 := constA0_ok (K := K) ha
    have h2 := constA0_list (K := K) hl
    exact ⟨.cons h1.1 h2.1, by 
      intro c hc
      rcases List.mem_cons.1 hc with rfl | hc
      · exact h1.2
      · exact h2.2 c hc⟩

theorem constA_ok {K : Kr} {v : Value} {a : AVal} (h : constA v = some a) : VR K a v ∧ ∀ c ∈ a.cells, c.one = true := by
  unfold constA at h
  split at h
  · rename_i cs
    simp only [Option.map_eq_some_iff] at h
    obtain ⟨l, hl, rfl⟩ := h
    have := constA0_list (K := K) hl
    have e := VRel.agg this.2 this.1 VRel.nil
    exact ⟨e, by simpa [AVal.cells] using this.2⟩
  · have := constA0_ok (K := K) h
    exact ⟨this.1, by rw [AVal.cells_of_one this.2]; simp [this.2]⟩

def opdA : Operand → Option AOpd
  | .tmp t => some (.t t)
  | .const v => (constA v).map .c
  | .func f => some (.c (.fn f [] []))
  | .global _ => none

def sizeA (P : Program) (t : TypeId) : Option Nat := (P.info? t).map (·.size)
def zeroA (P : Program) (t : TypeId) : Option AVal := (P.info? t).bind fun i => i.zero.bind constA
def aggA (P : Program) (t : TypeId) : Option Bool := (P.underlying t).map fun d => match d with | .struct _ | .array _ _ => true | _ => false

def kindA (P : Program) (t : TypeId) : Nat :=
  match P.underlying t with
  | some .bool => 1
  | some (.int _) => 2
  | some .string => 3
  | some (.slice _) => 4
  | some (.struct _) => 5
  | some (.interface _) => 6
  | _ => 0

def elemA (P : Program) (t : TypeId) : Option TypeId :=
  match P.underlying t with
  | some (.slice e) => some e
  | _ => none

def fieldA (P : Program) (t : TypeId) (i : Nat) : Option Field :=
  match P.underlying t with
  | some (.struct fs) => fs[i]?
  | _ => none

def placesA (P : Program) (t : TypeId) : List Nat → Option (List (Nat × Nat))
  | [] => some []
  | i :: l => do
    let f ← fieldA P t i
    let s ← sizeA P f.type
    let r ← placesA P t l
    pure ((f.offset, s) :: r)

/-- The kind of an operation; its operands. -/
def kOf (P : Program) (fl : Bool) (o : Oper) : Option (AK × List Operand) :=
  match o.op with
  | .move x | .assign x => some (.mov, [x])
  | .pick c a b => some (.pick, [c, a, b])
  | .alloc e => do
    let z ← zeroA P e
    pure (.alloc z, [])
  | .box e x => do
    let s ← sizeA P e
    pure (.box s, [x])
  | .build t parts => do
    let z ← zeroA P t
    let ps ← placesA P t (parts.toList.map (·.1))
    match z, P.underlying t with
    | .agg cs, some (.struct fs) => if fs.toList.all fun f => (sizeA P f.type).isSome then pure (.bld cs ps, parts.toList.map (·.2)) else none
    | _, _ => none
  | .buildSlice t len parts => do
    let e ← elemA P t
    let s ← sizeA P e
    let _z ← zeroA P e
    if parts.toList.map (·.1) = List.range len ∧ 0 < s ∧ len * s ≤ 2 ^ 24 then pure (if fl then .bslo s else .bsl s, parts.toList.map (·.2)) else none
  | .load t a => do
    let g ← aggA P t
    let s ← sizeA P t
    pure (if fl then .loadp g s else .load g s, [a])
  | .store t a x => do
    let s ← sizeA P t
    pure (.store s, [a, x])
  | .nilCheck x => some (.nilc, [x])
  | .binOp op t x y _ =>
    if kindA P t = 1 then
      match op with
      | .eql => some (.binb .eql, [x, y])
      | .neq => some (.binb .neq, [x, y])
      | _ => none
    else if kindA P t = 2 ∨ kindA P t = 3 then some (.bin op, [x, y])
    else if kindA P t = 4 then
      match op, y with
      | .eql, .const (.slice none 0 0) => some (.isnil false, [x, y])
      | .neq, .const (.slice none 0 0) => some (.isnil true, [x, y])
      | _, _ => none
    else none
  | .unOp op _ x => match op with
    | .not => some (.unot, [x])
    | .neg => some (.uneg, [x])
    | .xor => some (.ucpl, [x])
    | _ => none
  | .convert src dst x =>
    match P.underlying src, P.underlying dst with
    | some (.int _), some (.int k) => some (.conv k, [x])
    | some .string, some .string => some (.cstr, [x])
    | some (.slice e), some .string => match P.underlying e with
      | some (.int .u8) => some (if fl then .b2sp else .b2s, [x])
      | _ => none
    | some (.slice e), some (.slice _) => match P.underlying e with
      | some (.int .u8) => if src = dst ∧ sizeA P e = some 1 then some (.strish 1, [x]) else none
      | _ => none
    | _, _ => none
  | .makeInterface t x => match P.underlying t with
    | some (.interface _) => none
    | some _ => some (.mki t, [x])
    | none => none
  | .makeFunc (.func f) first captured => some (.mkf f first.size, first.toList ++ captured.toList)
  | .makeSlice t l c => do
    let e ← elemA P t
    let i ← P.info? e
    let z ← i.zero.bind constA
    if z.cells.length = i.size ∧ 0 < i.size then pure (.mks i.size i.bytes z, [l, c]) else none
  | .slice t x lo hi mx =>
    match P.underlying t with
    | some (.slice e) => do
      let s ← sizeA P e
      match lo, hi, mx with
      | none, some h, some m => pure (.clip s, [x, h, m])
      | _, _, _ => pure (.slc s lo.isSome hi.isSome mx.isSome, x :: (lo.toList ++ hi.toList ++ mx.toList))
    | some .string => if mx.isNone then some (.sstr lo.isSome hi.isSome, x :: (lo.toList ++ hi.toList)) else none
    | _ => none
  | .fieldAddr t x i => do
    let f ← fieldA P t i
    let s ← sizeA P f.type
    if s = 0 then none else pure (.fad f.offset, [x])
  | .field t x i => do
    let f ← fieldA P t i
    let g ← aggA P f.type
    let s ← sizeA P f.type
    pure (.fld g f.offset s, [x])
  | .indexAddr t x i => do
    let e ← elemA P t
    let s ← sizeA P e
    pure (.iad s, [x, i])
  | .index t x i => if kindA P t = 3 then some (.istr, [x, i]) else none
  | .extract t i => some (.ext i, [t])
  | .panic _ => some (.bad, [])
  | .call c =>
    match c.callee with
    | .value (.func f) => if goodFn P f then some (.call f, c.args.toList) else none
    | .value (.tmp t) => some (.callv, .tmp t :: c.args.toList)
    | .builtin .append => do
      let t ← c.argTypes[0]?
      let u ← c.argTypes[1]?
      let e ← elemA P t
      let i ← P.info? e
      let z ← i.zero.bind constA
      if c.args.size ≠ 2 ∨ z.cells.length ≠ i.size ∨ i.size = 0 ∨ i.bytes = 0 then none
      else if kindA P u = 4 then pure (.app i.size i.bytes, c.args.toList)
      else if kindA P u = 3 ∧ i.size = 1 ∧ i.bytes = 1 then pure (.apps, c.args.toList)
      else none
    | .builtin .copy => do
      let t ← c.argTypes[0]?
      let _ ← c.argTypes[1]?
      let e ← elemA P t
      let i ← P.info? e
      if c.args.size ≠ 2 ∨ i.size ≠ 1 then none else pure (.cpy 1, c.args.toList)
    | .builtin .len => do
      let t ← c.argTypes[0]?
      if c.args.size ≠ 1 then none
      else if kindA P t = 4 then pure (.lens, c.args.toList) else if kindA P t = 3 then pure (.lent, c.args.toList) else none
    | .builtin .min => some (.min, c.args.toList)
    | .builtin .max => some (.max, c.args.toList)
    | _ => none
  | _ => none

def guardA (ops : Array Oper) : Option (Nat × Bool) → Option (Option (Nat × Bool))
  | none => some none
  | some (j, want) => ((ops[j]?).bind (·.dst)).map fun g => some (g, want)

def dstOk (N : Nat) : Option Nat → Bool
  | some d => decide (d < N)
  | none => true

def operA (P : Program) (N : Nat) (ops : Array Oper) (fl : Bool) (o : Oper) : Option AOper :=
  (kOf P fl o).bind fun kx => (kx.2.mapM opdA).bind fun args => (guardA ops o.guard).bind fun guard =>
    if dstOk N o.dst = true then some { dst := o.dst, k := kx.1, args, guard } else none

/-- A call's other forms. -/
def modA (fl : Bool) (gs : List Nat) (o : AOper) : AOper :=
  match o.k with
  | .call f => if fl then { o with k := .callp f } else match gs with
    | [] => o
    | g :: gs => { o with k := .callk f o.args.length, args := o.args ++ (g :: gs).map .t }
  | .load ag sz => match gs with
    | [] => o
    | g :: _ => { o with k := .loadg ag sz, args := o.args ++ [.t g] }
  | _ => o

/-- Of hints n: below 10000: operation n is flagged; above: operation n % 10000 leaves the block of slot n / 10000 - 1 as9 it is. -/
def ghostsA (fl : List Nat) (i : Nat) : List Nat := (fl.filter fun n => decide (10000 ≤ n) && (n % 10000 == i)).map fun n => n / 10000 - 1

/-! ### When the order does not matter -/

def edgesOf (o : Oper) : List Nat := (o.after.toList.filter (Region.binds .any)).map (·.on)

/-- Of each operation those that must be ahead of it, a bit each. -/
def ancOf (ops : Array Oper) : Nat → List Nat
  | 0 => []
  | n + 1 =>
    let l := ancOf ops n
    l ++ [match ops[n]? with
      | some o => (edgesOf o).foldr (fun j m => (2 ^ j ||| l.getD j 0) ||| m) 0
      | none => 0]

def AK.makes : AK → Bool
  | .alloc _ | .box _ | .bslo _ | .mks _ _ _ => true
  | _ => false
def AK.apps? : AK → Bool
  | .app _ _ | .apps => true
  | _ => false

def AK.app1? : AK → Bool
  | .app _ _ => true
  | _ => false

def AOper.looks (o : AOper) : List Nat :=
  (o.args.filterMap fun | .t i => some i | _ => none) ++ (match o.guard with | some (g, _) => [g] | none => [])
def apartA (x y : AOper) : Bool :=
  (match x.dst with | some d => !y.looks.contains d && y.dst != some d | none => true) && (match y.dst with | some d => !x.looks.contains d | none => true)

def AK.calls : AK → Bool
  | .call _ | .callv | .callk _ _ => true
  | _ => false

/-- Two operations, the first ahead of the second in the text, that may change places. 'nc': the region calls nothing. -/
def AK.callp? : AK → Bool
  | .callp _ => true
  | _ => false
/-- A reading of a block that a call leaves as9 it is. -/
def ghostOk (x y : AOper) : Bool :=
  match x.k, x.args, y.k with
  | .load _ _, [.t a], .callk _ n => (y.args.drop n).any fun | .t b => a == b | _ => false
  | .loadg _ _, [_, .t a], .callk _ n => (y.args.drop n).any fun | .t b => a == b | _ => false
  | _, _, _ => false
def commuteA (nc : Bool) (x y : AOper) : Bool :=
  apartA x y && (ghostOk x y || x.k.callp? || (x.k.quiet && y.k.callp?) || (nc && (x.k.makes || x.k.app1?) && y.k.makes) || ((x.k.quiet && y.k.quiet) || (x.k.quiet && !x.k.reads) || (y.k.quiet && !y.k.reads) || (y.k.quiet && (x.k.makes || (nc && x.k.apps?))) || (x.k.quiet && y.k.makes)))

def drawOk (ops : Array Oper) (l : List AOper) : Bool :=
  let anc := ancOf ops ops.size
  let nc := l.all fun o => !o.k.calls
  (List.range ops.size).all fun j =>
    match ops[j]?, l[j]? with
    | some oj, some aj =>
      (edgesOf oj).all (· < j) &&
      (List.range j).all fun i => match l[i]? with
        | some ai => (anc.getD j 0).testBit i || commuteA nc ai aj
        | none => false
    | _, _ => false

def ACode.erase : ACode → ACode
  | .skip => .skip
  | .region ops _ => .region ops []
  | .seq a b => .seq a.erase b.erase
  | .cond c a b => .cond c a.erase b.erase
  | .block id a => .block id a.erase
  | .loop a => .loop a.erase
  | .range g ps a b => .range g ps a.erase b.erase
  | .exit id => .exit id
  | .ret => .ret

def operAs (P : Program) (N : Nat) (ops : Array Oper) (fl : List Nat) : Nat → List Oper → Option (List AOper)
  | _, [] => some []
  | i, o :: l => do
    let a ← operA P N ops (fl.contains i) o
    let r ← operAs P N ops fl (i + 1) l
    pure (modA (fl.contains i) (ghostsA fl i) a :: r)

/-- 'hs': the operations, by region and place, that are taken in their other form. -/
def comp (P : Program) (N : Nat) (hs : List (Nat × Nat)) : Code → Option ACode
  | .skip => some .skip
  | .region id ops draw => do
    let l ← operAs P N ops ((hs.filter (·.1 == id)).map (·.2)) 0 ops.toList
    if draw && !drawOk ops l then none else pure (.region l [])
  | .seq a b => do pure (.seq (← comp P N hs a) (← comp P N hs b))
  | .cond c a b => do pure (.cond (← opdA c) (← comp P N hs a) (← comp P N hs b))
  | .block id a => do pure (.block id (← comp P N hs a))
  | .loop a => do pure (.loop (← comp P N hs a))
  | .rangeFunc g ps a b => do pure (.range (← opdA g) ps.toList (← comp P N hs a) (← comp P N hs b))
  | .exit id => some (.exit id)
  | .ret => some .ret
  | _ => none

/-- A function: its code, how many slots, which hold the results (a slot; a pointer's slot with its type: an aggregate of so many cells, or one cell). -/
inductive ARes where
  | t (i : Nat)
  | cell (i : Nat) (ag : Bool) (sz : Nat)

structure AFunc where
  n : Nat
  code : ACode
  res : List ARes

def resA (P : Program) : ResultVar → Option ARes
  | .tmp t => some (.t t)
  | .cell a t => do pure (.cell a (← aggA P t) (← sizeA P t))

def compF (P : Program) (hs : List (Nat × Nat)) (f : FuncId) : Option AFunc := do
  let fn ← P.funcs[f]?
  let c ← fn.body
  let a ← comp P fn.ntmps hs c
  let r ← fn.results.toList.mapM (resA P)
  pure { n := fn.ntmps, code := a, res := r }

def AFunc.erase (f : AFunc) : AFunc := { f with code := f.code.erase }

end Go.Abs
