/- Part A of a proof: merged by program. -/
import Derived.WalkKit
/-
  A program logic over abstract states, part A: values, and what they say of memory.
  Slices that nobody writes are lists; blocks that the call owns have names.
-/
namespace Go.Abs
open Go Go.RowKit

/-- An abstract value. -/
inductive AVal where
  | bool (b : Bool)
  | int (k : IntKind) (n : Int)
  | str (s : List UInt8)
  | agg (cs : List AVal)
  | tup (vs : List AVal)
  | slc (sz : Nat) (xs : List AVal) (full : Bool)
  | arr (sz b off n : Nat)
  | ptr (b i o : Nat)
  | iptr (cs : List AVal)
  | nilp
  | fn (f : FuncId) (first caps : List AVal)
  | nilf
  | iface (t : TypeId) (v : AVal)
  | nili
  deriving Inhabited

def AVal.cells : AVal → List AVal
  | .agg cs => cs
  | .bool b => [.bool b]
  | .int k n => [.int k n]
  | .str s => [.str s]
  | .tup vs => [.tup vs]
  | .slc sz xs full => [.slc sz xs full]
  | .arr sz b off n => [.arr sz b off n]
  | .ptr b i o => [.ptr b i o]
  | .iptr cs => [.iptr cs]
  | .nilp => [.nilp]
  | .fn f first caps => [.fn f first caps]
  | .nilf => [.nilf]
  | .iface t v => [.iface t v]
  | .nili => [.nili]

/-- A value of one cell. -/
def AVal.one : AVal → Bool
  | .agg _ | .tup _ => false
  | _ => true

/-- An element of 'sz' cells. -/
def AVal.elem (sz : Nat) (x : AVal) : Prop := x.cells.length = sz ∧ ∀ c ∈ x.cells, c.one = true

/-- Where a named block lies. 'none': nowhere (it holds nothing yet). -/
structure Loc where
  blk : Option Nat
  sz : Nat
  cap : Nat

/-- Whatever is no cells lies as it lay. -/
structure Oth (w w' : World) : Prop where
  size : w.heap.size ≤ w'.heap.size
  same : ∀ (k : Nat) (o : Obj), w.heap[k]? = some o → (∀ cs ty fr, o ≠ .cells cs ty fr) → w'.heap[k]? = some o
theorem Oth.refl (w : World) : Oth w w := ⟨Nat.le_refl _, fun _ _ h _ => h⟩
theorem Oth.trans {a b c : World} (h : Oth a b) (k : Oth b c) : Oth a c := ⟨Nat.le_trans h.size k.size, fun i o hi ho => k.same i o (h.same i o hi ho) ho⟩
theorem Oth.drew {a b : World} (h : Oth a b) : Oth a b.drew := ⟨h.size, h.same⟩
theorem Oth.alloc {a b : World} (h : Oth a b) (o : Obj) : Oth a (b.alloc o) := by
  refine h.trans ⟨by simp, fun k o' hk _ => ?_⟩
  have hlt := (Array.getElem?_eq_some_iff.1 hk).1
  show (b.heap.push o)[k]? = some o'
  rw [Array.getElem?_push, if_neg (Nat.ne_of_lt hlt)]
  exact hk
theorem Oth.turn {a b c : World} (h : Oth a b) {r : Nat} {cs : Array Value} {ty : TypeId} {fr : Nat × Nat} (hr : b.heap[r]? = some (.cells cs ty fr)) (hs : b.heap.size ≤ c.heap.size) (hc : ∀ k, k ≠ r → c.heap[k]? = b.heap[k]?) : Oth a c := by
  refine h.trans ⟨hs, fun k o hk ho => ?_⟩
  by_cases e : k = r
  · subst e
    rw [hr] at hk
    simp only [Option.some.injEq] at hk
    exact absurd hk.symm (ho _ _ _)
  · rw [hc k e]; exact hk

/-- What is known of memory for good. -/
structure Kr where
  w0 : World
  wo : World
  imm : Nat → Nat → Option Value
  loc : Nat → Option Loc
  nn : Nat

structure Kr.le (K K' : Kr) : Prop where
  w0 : K'.w0 = K.w0
  wo : Oth K.wo K'.wo
  imm : ∀ b o v, K.imm b o = some v → K'.imm b o = some v
  loc : ∀ b L, K.loc b = some L → K'.loc b = some L
  nn : K.nn ≤ K'.nn

theorem Kr.le.refl (K : Kr) : K.le K := ⟨rfl, Oth.refl _, fun _ _ _ h => h, fun _ _ h => h, Nat.le_refl _⟩
theorem Kr.le.trans {K K1 K2 : Kr} (h : K.le K1) (h' : K1.le K2) : K.le K2 :=
  ⟨h'.w0.trans h.w0, h.wo.trans h'.wo, fun b o v e => h'.imm b o v (h.imm b o v e), fun b L e => h'.loc b L (h.loc b L e), Nat.le_trans h.nn h'.nn⟩

inductive VRel (K : Kr) : List AVal → List Value → Prop
  | nil : VRel K [] []
  | bool {b l m} (r : VRel K l m) : VRel K (.bool b :: l) (.bool b :: m)
  | int {k n l m} (r : VRel K l m) : VRel K (.int k n :: l) (.int k n :: m)
  | str {s l m} (r : VRel K l m) : VRel K (.str s :: l) (.string ⟨s.toArray⟩ :: m)
  | agg {cs vs l m} (h1 : ∀ c ∈ cs, c.one = true) (hv : VRel K cs vs) (r : VRel K l m) : VRel K (.agg cs :: l) (.agg vs.toArray :: m)
  | tup {cs vs l m} (hv : VRel K cs vs) (r : VRel K l m) : VRel K (.tup cs :: l) (.tuple vs.toArray :: m)
  | slc0 {sz full a cap l m} (hf : full = true → cap = 0) (r : VRel K l m) : VRel K (.slc sz [] full :: l) (.slice a 0 cap :: m)
  | slc {sz xs full a n cap vs l m} (hn : xs.length = n) (he : ∀ x ∈ xs, x.elem sz) (hs : a.spot = none)
      (hm : ∀ j v, vs[j]? = some v → K.imm a.block (a.off + j) = some v) (hv : VRel K (xs.flatMap AVal.cells) vs) (hc : n ≤ cap)
      (hf : full = true → cap = n) (r : VRel K l m) : VRel K (.slc sz xs full :: l) (.slice (some a) n cap :: m)
  | arr {b off n cb sz pcap cap l m} (hl : K.loc b = some ⟨some cb, sz, pcap⟩) (ho : off + cap ≤ pcap) (hn : n ≤ cap) (r : VRel K l m) :
      VRel K (.arr sz b off n :: l) (.slice (some ⟨cb, off * sz, none⟩) n cap :: m)
  | arr0 {b sz pcap a l m} (hl : K.loc b = some ⟨none, sz, pcap⟩) (r : VRel K l m) : VRel K (.arr sz b 0 0 :: l) (.slice a 0 0 :: m)
  | ptr {b i o cb sz pcap l m} (hl : K.loc b = some ⟨some cb, sz, pcap⟩) (r : VRel K l m) :
      VRel K (.ptr b i o :: l) (.pointer (some ⟨cb, i * sz + o, none⟩) :: m)
  | iptr {cs a vs l m} (hs : a.spot = none) (h1 : ∀ c ∈ cs, c.one = true) (hm : ∀ j v, vs[j]? = some v → K.imm a.block (a.off + j) = some v)
      (hv : VRel K cs vs) (r : VRel K l m) : VRel K (.iptr cs :: l) (.pointer (some a) :: m)
  | nilp {l m} (r : VRel K l m) : VRel K (.nilp :: l) (.pointer none :: m)
  | fn {f first caps v1 v2 l m} (h1 : VRel K first v1) (h2 : VRel K caps v2) (r : VRel K l m) :
      VRel K (.fn f first caps :: l) (.func (.func f) v1.toArray v2.toArray :: m)
  | nilf {l m} (r : VRel K l m) : VRel K (.nilf :: l) (.nilFunc :: m)
  | iface {t v x l m} (hv : VRel K [v] [x]) (r : VRel K l m) : VRel K (.iface t v :: l) (.iface t x :: m)
  | nili {l m} (r : VRel K l m) : VRel K (.nili :: l) (.nilIface :: m)

/-- One value. -/
def VR (K : Kr) (a : AVal) (v : Value) : Prop := VRel K [a] [v]

theorem VRel.mono2 {K K' : Kr} (himm : ∀ b o v, K.imm b o = some v → K'.imm b o = some v) (hloc : ∀ b L, K.loc b = some L → K'.loc b = some L) {l : List AVal} {m : List Value} (r : VRel K l m) : VRel K' l m := by
  induction r with
  | nil => exact .nil
  | bool _ ih => exact .bool ih
  | int _ ih => exact .int ih
  | str _ ih => exact .str ih
  | agg h1 _ _ ih1 ih2 => exact .agg h1 ih1 ih2
  | tup _ _ ih1 ih2 => exact .tup ih1 ih2
  | slc0 hf _ ih => exact .slc0 hf ih
  | slc hn he hs hm _ hc hf _ ih1 ih2 => exact .slc hn he hs (fun j v e => himm _ _ _ (hm j v e)) ih1 hc hf ih2
  | arr hl ho hn _ ih => exact .arr (hloc _ _ hl) ho hn ih
  | arr0 hl _ ih => exact .arr0 (hloc _ _ hl) ih
  | ptr hl _ ih => exact .ptr (hloc _ _ hl) ih
  | iptr hs h1 hm _ _ ih1 ih2 => exact .iptr hs h1 (fun j v e => himm _ _ _ (hm j v e)) ih1 ih2
  | nilp _ ih => exact .nilp ih
  | fn _ _ _ ih1 ih2 ih3 => exact .fn ih1 ih2 ih3
  | nilf _ ih => exact .nilf ih
  | iface _ _ ih1 ih2 => exact .iface ih1 ih2
  | nili _ ih => exact .nili ih

theorem VRel.mono {K K' : Kr} (h : K.le K') {l : List AVal} {m : List Value} (r : VRel K l m) : VRel K' l m := r.mono2 h.imm h.loc

theorem VRel.length {K : Kr} {l : List AVal} {m : List Value} (r : VRel K l m) : l.length = m.length := by
  induction r <;> simp_all

theorem VRel.cons {K : Kr} {a : AVal} {v : Value} {l : List AVal} {m : List Value} (h : VR K a v) (r : VRel K l m) : VRel K (a :: l) (v :: m) := by
  unfold VR at h
  cases h with
  | bool _ => exact .bool r
  | int _ => exact .int r
  | str _ => exact .str r
  | agg h1 hv _ => exact .agg h1 hv r
  | tup hv _ => exact .tup hv r
  | slc0 hf _ => exact .slc0 hf r
  | slc hn he hs hm hv hc hf _ => exact .slc hn he hs hm hv hc hf r
  | arr hl ho hn _ => exact .arr hl ho hn r
  | arr0 hl _ => exact .arr0 hl r
  | ptr hl _ => exact .ptr hl r
  | iptr hs h1 hm hv _ => exact .iptr hs h1 hm hv r
  | nilp _ => exact .nilp r
  | fn h1 h2 _ => exact .fn h1 h2 r
  | nilf _ => exact .nilf r
  | iface hv _ => exact .iface hv r
  | nili _ => exact .nili r

theorem VRel.inv {K : Kr} {a : AVal} {v : Value} {l : List AVal} {m : List Value} (h : VRel K (a :: l) (v :: m)) : VR K a v ∧ VRel K l m := by
  unfold VR
  cases h with
  | bool r => exact ⟨.bool .nil, r⟩
  | int r => exact ⟨.int .nil, r⟩
  | str r => exact ⟨.str .nil, r⟩
  | agg h1 hv r => exact ⟨.agg h1 hv .nil, r⟩
  | tup hv r => exact ⟨.tup hv .nil, r⟩
  | slc0 hf r => exact ⟨.slc0 hf .nil, r⟩
  | slc hn he hs hm hv hc hf r => exact ⟨.slc hn he hs hm hv hc hf .nil, r⟩
  | arr hl ho hn r => exact ⟨.arr hl ho hn .nil, r⟩
  | arr0 hl r => exact ⟨.arr0 hl .nil, r⟩
  | ptr hl r => exact ⟨.ptr hl .nil, r⟩
  | iptr hs h1 hm hv r => exact ⟨.iptr hs h1 hm hv .nil, r⟩
  | nilp r => exact ⟨.nilp .nil, r⟩
  | fn h1 h2 r => exact ⟨.fn h1 h2 .nil, r⟩
  | nilf r => exact ⟨.nilf .nil, r⟩
  | iface hv r => exact ⟨.iface hv .nil, r⟩
  | nili r => exact ⟨.nili .nil, r⟩

theorem VRel.cons_iff {K : Kr} {a : AVal} {v : Value} {l : List AVal} {m : List Value} : VRel K (a :: l) (v :: m) ↔ VR K a v ∧ VRel K l m :=
  ⟨VRel.inv, fun h => .cons h.1 h.2⟩

theorem VRel.nil_inv {K : Kr} {m : List Value} (h : VRel K [] m) : m = [] := by cases h; rfl

theorem VRel.ex {K : Kr} {a : AVal} {l : List AVal} {m : List Value} (h : VRel K (a :: l) m) : ∃ v m', m = v :: m' ∧ VR K a v ∧ VRel K l m' := by
  cases m with
  | nil => cases h
  | cons v m' => exact ⟨v, m', rfl, h.inv.1, h.inv.2⟩

theorem VRel.append {K : Kr} {l l' : List AVal} {m m' : List Value} (h : VRel K l m) (h' : VRel K l' m') : VRel K (l ++ l') (m ++ m') := by
  induction l generalizing m with
  | nil => rw [h.nil_inv]; exact h'
  | cons a l ih =>
    obtain ⟨v, m1, rfl, h1, h2⟩ := h.ex
    exact .cons h1 (ih h2)

theorem VRel.get {K : Kr} {l : List AVal} {m : List Value} (h : VRel K l m) : ∀ {i : Nat} {a : AVal}, l[i]? = some a → ∃ v, m[i]? = some v ∧ VR K a v := by
  induction l generalizing m with
  | nil => intro i a e; simp at e
  | cons b l ih =>
    obtain ⟨v, m1, rfl, h1, h2⟩ := h.ex
    intro i a e
    cases i with
    | zero => simp at e; subst e; exact ⟨v, by simp, h1⟩
    | succ i => simpa using ih h2 (by simpa using e)

theorem VRel.take {K : Kr} {l : List AVal} {m : List Value} (h : VRel K l m) (n : Nat) : VRel K (l.take n) (m.take n) := by
  induction n generalizing l m with
  | zero => simp; exact .nil
  | succ n ih =>
    cases l with
    | nil => rw [h.nil_inv]; simp; exact .nil
    | cons a l =>
      obtain ⟨v, m1, rfl, h1, h2⟩ := h.ex
      simp only [List.take_succ_cons]
      exact .cons h1 (ih h2)

theorem VRel.drop {K : Kr} {l : List AVal} {m : List Value} (h : VRel K l m) (n : Nat) : VRel K (l.drop n) (m.drop n) := by
  induction n generalizing l m with
  | zero => simpa using h
  | succ n ih =>
    cases l with
    | nil => rw [h.nil_inv]; simp; exact .nil
    | cons a l =>
      obtain ⟨v, m1, rfl, h1, h2⟩ := h.ex
      simpa using ih h2

theorem VRel.split {K : Kr} {l l' : List AVal} {m : List Value} (h : VRel K (l ++ l') m) : ∃ m1 m2, m = m1 ++ m2 ∧ VRel K l m1 ∧ VRel K l' m2 := by
  refine ⟨m.take l.length, m.drop l.length, (List.take_append_drop _ _).symm, ?_, ?_⟩
  · simpa using h.take l.length
  · simpa using h.drop l.length

/-- A value of one cell is one of one cell. -/
theorem VR.one {K : Kr} {a : AVal} {v : Value} (h : VR K a v) (h1 : a.one = true) : v.oneCell' = true := by
  unfold VR at h
  cases h <;> first | rfl | (simp [AVal.one] at h1)

theorem VRel.ones {K : Kr} {l : List AVal} {m : List Value} (h : VRel K l m) (h1 : ∀ c ∈ l, c.one = true) : ∀ v ∈ m, v.oneCell' = true := by
  induction l generalizing m with
  | nil => rw [h.nil_inv]; simp
  | cons a l ih =>
    obtain ⟨v, m1, rfl, h2, h3⟩ := h.ex
    intro u hu
    rcases List.mem_cons.1 hu with rfl | hu
    · exact h2.one (h1 a (by simp))
    · exact ih h3 (fun c hc => h1 c (by simp [hc])) u hu

/-- The cells of a value. -/
theorem VR.cells {K : Kr} {a : AVal} {v : Value} (h : VR K a v) : VRel K a.cells v.cells.toList := by
  have h0 := h
  unfold VR at h
  cases h with
  | agg h1 hv _ => simpa [AVal.cells, Value.cells] using hv
  | _ => exact h0

theorem AVal.cells_of_one {a : AVal} (h : a.one = true) : a.cells = [a] := by cases a <;> first | rfl | (simp [AVal.one] at h)

end Go.Abs

/-
  A program logic over abstract states, part B: the blocks that a call owns, and how the world turns.
-/
namespace Go.Abs
open Go Go.RowKit

/-! ### Rows of elements, cell by cell -/

def flat (xs : List AVal) : List AVal := xs.flatMap AVal.cells

@[simp] theorem flat_nil : flat [] = [] := rfl
@[simp] theorem flat_cons (x : AVal) (xs : List AVal) : flat (x :: xs) = x.cells ++ flat xs := rfl
@[simp] theorem flat_append (xs ys : List AVal) : flat (xs ++ ys) = flat xs ++ flat ys := by simp [flat]

theorem flat_length {sz : Nat} {xs : List AVal} (h : ∀ x ∈ xs, x.elem sz) : (flat xs).length = xs.length * sz := by
  induction xs with
  | nil => simp
  | cons x xs ih =>
    simp only [flat_cons, List.length_append, List.length_cons, ih (fun y hy => h y (by simp [hy])), (h x (by simp)).1, Nat.add_mul]
    omega

theorem flat_drop {sz : Nat} {xs : List AVal} (h : ∀ x ∈ xs, x.elem sz) (n : Nat) : flat (xs.drop n) = (flat xs).drop (n * sz) := by
  induction n generalizing xs with
  | zero => simp
  | succ n ih =>
    cases xs with
    | nil => simp
    | cons x xs =>
      simp only [List.drop_succ_cons, flat_cons, Nat.add_mul, Nat.one_mul]
      rw [ih (fun y hy => h y (by simp [hy])), Nat.add_comm (n * sz) sz, ← List.drop_drop]
      congr 1
      rw [← (h x (by simp)).1]
      simp

theorem flat_take {sz : Nat} {xs : List AVal} (h : ∀ x ∈ xs, x.elem sz) (n : Nat) : flat (xs.take n) = (flat xs).take (n * sz) := by
  induction n generalizing xs with
  | zero => simp
  | succ n ih =>
    cases xs with
    | nil => simp
    | cons x xs =>
      simp only [List.take_succ_cons, flat_cons, Nat.add_mul, Nat.one_mul]
      rw [ih (fun y hy => h y (by simp [hy])), Nat.add_comm (n * sz) sz, ← (h x (by simp)).1, List.take_append, List.take_of_length_le (l := x.cells) (by omega)]
      simp

theorem flat_at {sz : Nat} {xs : List AVal} (h : ∀ x ∈ xs, x.elem sz) {i : Nat} {x : AVal} (hx : xs[i]? = some x) :
    ((flat xs).drop (i * sz)).take sz = x.cells := by
  rw [← flat_drop h]
  have hi := (List.getElem?_eq_some_iff.1 hx)
  obtain ⟨hi, rfl⟩ := hi
  rw [List.drop_eq_getElem_cons hi, flat_cons, ← (h xs[i] (List.getElem_mem hi)).1]
  simp

theorem flat_ones {sz : Nat} {xs : List AVal} (h : ∀ x ∈ xs, x.elem sz) : ∀ c ∈ flat xs, c.one = true := by
  intro c hc
  obtain ⟨x, hx, hc⟩ := List.mem_flatMap.1 hc
  exact (h x hx).2 c hc

theorem flat_set {sz : Nat} {xs : List AVal} (h : ∀ x ∈ xs, x.elem sz) {i : Nat} {y : AVal} (hi : i < xs.length) :
    flat (xs.set i y) = (flat xs).take (i * sz) ++ y.cells ++ (flat xs).drop (i * sz + sz) := by
  rw [List.set_eq_take_append_cons_drop, if_pos hi]
  simp only [flat_append, flat_cons, flat_take h, flat_drop h, Nat.add_mul, Nat.one_mul, List.append_assoc]

theorem VRel.at_ {K : Kr} {sz : Nat} {xs : List AVal} {vs : List Value} (hv : VRel K (flat xs) vs) (h : ∀ x ∈ xs, x.elem sz) {i : Nat} {x : AVal} (hx : xs[i]? = some x) :
    VRel K x.cells ((vs.drop (i * sz)).take sz) := by
  rw [← flat_at h hx]
  exact (hv.drop _).take _

/-! ### The blocks -/

inductive ABlk where
  | cells (sz : Nat) (xs : List AVal)

abbrev AHeap := List (Nat × ABlk)

def hget : AHeap → Nat → Option ABlk
  | [], _ => none
  | (a, x) :: l, b => if a = b then some x else hget l b
def hset : AHeap → Nat → ABlk → AHeap
  | [], _, _ => []
  | (a, x) :: l, b, y => if a = b then (a, y) :: l else (a, x) :: hset l b y
def hren : AHeap → Nat → Nat → ABlk → AHeap
  | [], _, _, _ => []
  | (a, x) :: l, b, b', y => if a = b then (b', y) :: l else (a, x) :: hren l b b' y
def hdel : AHeap → Nat → AHeap
  | [], _ => []
  | (a, x) :: l, b => if a = b then l else (a, x) :: hdel l b

def keys (σ : AHeap) : List Nat := σ.map (·.1)
@[simp] theorem keys_nil : keys [] = [] := rfl
@[simp] theorem keys_cons (p : Nat × ABlk) (σ : AHeap) : keys (p :: σ) = p.1 :: keys σ := rfl

theorem hget_mem {σ : AHeap} {b : Nat} {x : ABlk} (h : hget σ b = some x) : (b, x) ∈ σ := by
  induction σ with
  | nil => simp [hget] at h
  | cons p σ ih =>
    obtain ⟨a, y⟩ := p
    simp only [hget] at h
    split at h
    · rename_i e; subst e; simp at h; subst h; simp
    · simp [ih h]

theorem mem_keys {σ : AHeap} {b : Nat} {x : ABlk} (h : (b, x) ∈ σ) : b ∈ keys σ := List.mem_map.2 ⟨(b, x), h, rfl⟩

theorem mem_hget {σ : AHeap} (nd : (keys σ).Nodup) {b : Nat} {x : ABlk} (h : (b, x) ∈ σ) : hget σ b = some x := by
  induction σ with
  | nil => simp at h
  | cons p σ ih =>
    obtain ⟨a, y⟩ := p
    simp only [keys_cons, List.nodup_cons] at nd
    simp only [hget]
    rcases List.mem_cons.1 h with e | h
    · simp only [Prod.mk.injEq] at e; obtain ⟨rfl, rfl⟩ := e; simp
    · have : a ≠ b := fun e => nd.1 (e ▸ mem_keys h)
      rw [if_neg this]
      exact ih nd.2 h

theorem keys_hset (σ : AHeap) (b : Nat) (y : ABlk) : keys (hset σ b y) = keys σ := by
  induction σ with
  | nil => rfl
  | cons p σ ih =>
    simp only [hset]
    split <;> simp [ih]

theorem mem_hset {σ : AHeap} (nd : (keys σ).Nodup) {b c : Nat} {y z : ABlk} (h : (c, z) ∈ hset σ b y) : (c = b ∧ z = y) ∨ (c ≠ b ∧ (c, z) ∈ σ) := by
  induction σ with
  | nil => simp [hset] at h
  | cons p σ ih =>
    obtain ⟨a, x⟩ := p
    simp only [keys_cons, List.nodup_cons] at nd
    simp only [hset] at h
    split at h
    · rename_i e
      subst e
      rcases List.mem_cons.1 h with e | h
      · simp only [Prod.mk.injEq] at e; exact .inl e
      · refine .inr ⟨fun e => nd.1 (e ▸ mem_keys h), List.mem_cons_of_mem _ h⟩
    · rename_i hne
      rcases List.mem_cons.1 h with e | h
      · simp only [Prod.mk.injEq] at e; obtain ⟨rfl, rfl⟩ := e; exact .inr ⟨hne, by simp⟩
      · rcases ih nd.2 h with h | h
        · exact .inl h
        · exact .inr ⟨h.1, List.mem_cons_of_mem _ h.2⟩

theorem mem_hdel {σ : AHeap} (nd : (keys σ).Nodup) {b c : Nat} {z : ABlk} (h : (c, z) ∈ hdel σ b) : c ≠ b ∧ (c, z) ∈ σ := by
  induction σ with
  | nil => simp [hdel] at h
  | cons p σ ih =>
    obtain ⟨a, x⟩ := p
    simp only [keys_cons, List.nodup_cons] at nd
    simp only [hdel] at h
    split at h
    · rename_i e
      subst e
      exact ⟨fun e => nd.1 (e ▸ mem_keys h), List.mem_cons_of_mem _ h⟩
    · rename_i hne
      rcases List.mem_cons.1 h with e | h
      · simp only [Prod.mk.injEq] at e; obtain ⟨rfl, rfl⟩ := e; exact ⟨hne, by simp⟩
      · have := ih nd.2 h
        exact ⟨this.1, List.mem_cons_of_mem _ this.2⟩

theorem keys_hdel_sub (σ : AHeap) (b : Nat) : (keys (hdel σ b)).Sublist (keys σ) := by
  induction σ with
  | nil => exact .slnil
  | cons p σ ih =>
    simp only [hdel]
    split
    · simp
    · simpa using ih

theorem mem_hren {σ : AHeap} (nd : (keys σ).Nodup) {b b' c : Nat} {y z : ABlk} (h : (c, z) ∈ hren σ b b' y) : (c = b' ∧ z = y) ∨ (c ≠ b ∧ (c, z) ∈ σ) := by
  induction σ with
  | nil => simp [hren] at h
  | cons p σ ih =>
    obtain ⟨a, x⟩ := p
    simp only [keys_cons, List.nodup_cons] at nd
    simp only [hren] at h
    split at h
    · rename_i e
      subst e
      rcases List.mem_cons.1 h with e | h
      · simp only [Prod.mk.injEq] at e; exact .inl e
      · refine .inr ⟨fun e => nd.1 (e ▸ mem_keys h), List.mem_cons_of_mem _ h⟩
    · rename_i hne
      rcases List.mem_cons.1 h with e | h
      · simp only [Prod.mk.injEq] at e; obtain ⟨rfl, rfl⟩ := e; exact .inr ⟨hne, by simp⟩
      · rcases ih nd.2 h with h | h
        · exact .inl h
        · exact .inr ⟨h.1, List.mem_cons_of_mem _ h.2⟩

theorem nodup_hren {σ : AHeap} (nd : (keys σ).Nodup) {b b' : Nat} {y : ABlk} (hb : b' ∉ keys σ) : (keys (hren σ b b' y)).Nodup := by
  induction σ with
  | nil => simp [hren]
  | cons p σ ih =>
    obtain ⟨a, x⟩ := p
    simp only [keys_cons, List.nodup_cons, List.mem_cons, not_or] at nd hb
    simp only [hren]
    split
    · simp only [keys_cons, List.nodup_cons]; exact ⟨hb.2, nd.2⟩
    · simp only [keys_cons, List.nodup_cons]
      refine ⟨fun hm => ?_, ih nd.2 hb.2⟩
      obtain ⟨⟨c, z⟩, hz, e⟩ := List.mem_map.1 hm
      rcases mem_hren nd.2 hz with h | h
      · exact hb.1 (by rw [← h.1]; exact e)
      · exact nd.1 (by rw [← e]; exact mem_keys h.2)

/-- What the world holds of a block that is owned. -/
def Own (K : Kr) (w : World) (b : Nat) : ABlk → Prop
  | .cells sz xs => (∀ x ∈ xs, x.elem sz) ∧
      ((∃ pcap, K.loc b = some ⟨none, sz, pcap⟩ ∧ xs = []) ∨
       ∃ cb pcap cs ty, K.loc b = some ⟨some cb, sz, pcap⟩ ∧ K.w0.heap.size ≤ cb ∧ (∀ o, K.imm cb o = none) ∧ w.heap[cb]? = some (.cells cs ty (0, 0)) ∧
         cs.size = pcap * sz ∧ xs.length ≤ pcap ∧ pcap ≤ maxLen ∧ VRel K (flat xs) (cs.toList.take (xs.length * sz)))

structure Rel (K : Kr) (σ : AHeap) (w : World) : Prop where
  ext : Below K.w0.heap.size K.w0 w
  oth : Oth K.wo w
  imm : ∀ b o v, K.imm b o = some v → w.cell? ⟨b, o, none⟩ = some v
  nd : (keys σ).Nodup
  bnd : ∀ b L, K.loc b = some L → b < K.nn
  lit : ∀ b L cb, K.loc b = some L → L.blk = some cb → cb < w.heap.size
  own : ∀ b blk, (b, blk) ∈ σ → Own K w b blk
  inj : ∀ b1 blk1 b2 blk2 cb s1 c1 s2 c2, (b1, blk1) ∈ σ → (b2, blk2) ∈ σ → K.loc b1 = some ⟨some cb, s1, c1⟩ → K.loc b2 = some ⟨some cb, s2, c2⟩ → b1 = b2

theorem Rel.key_lt {K : Kr} {σ : AHeap} {w : World} (r : Rel K σ w) {b : Nat} {blk : ABlk} (h : (b, blk) ∈ σ) : b < K.nn := by
  have ho := r.own b blk h
  cases blk with
  | cells sz xs =>
    rcases ho.2 with ⟨pcap, hl, _⟩ | ⟨cb, pcap, cs, ty, hl, _⟩ <;> exact r.bnd _ _ hl

theorem Rel.fresh {K : Kr} {σ : AHeap} {w : World} (r : Rel K σ w) : K.nn ∉ keys σ := by
  intro h
  obtain ⟨⟨c, z⟩, hz, e⟩ := List.mem_map.1 h
  have := r.key_lt hz
  simp at e
  omega

theorem Rel.drew {K : Kr} {σ : AHeap} {w : World} (r : Rel K σ w) : Rel K σ w.drew :=
  ⟨r.ext.drew, r.oth.drew, r.imm, r.nd, r.bnd, r.lit, fun b blk h => by
    have := r.own b blk h
    cases blk with
    | cells sz xs => exact this, r.inj⟩

theorem Rel.sub {K : Kr} {σ τ : AHeap} {w : World} (r : Rel K σ w) (nd : (keys τ).Nodup) (h : ∀ p ∈ τ, p ∈ σ) : Rel K τ w :=
  ⟨r.ext, r.oth, r.imm, nd, r.bnd, r.lit, fun b blk hb => r.own b blk (h _ hb), fun b1 blk1 b2 blk2 cb s1 c1 s2 c2 h1 h2 => r.inj b1 blk1 b2 blk2 cb s1 c1 s2 c2 (h _ h1) (h _ h2)⟩

/-- A block is not one of those that are known for good. -/
theorem Rel.imm_none {K : Kr} {σ : AHeap} {w : World} (r : Rel K σ w) {cb : Nat} (h : w.heap.size ≤ cb) (o : Nat) : K.imm cb o = none := by
  cases e : K.imm cb o with
  | none => rfl
  | some v =>
    have := block_lt_of_cell (r.imm cb o v e)
    simp at this
    omega

/-- A new name. -/
def Kr.add (K : Kr) (L : Loc) : Kr := { K with loc := fun b => if b = K.nn then some L else K.loc b, nn := K.nn + 1 }

theorem Kr.le_add {K : Kr} {σ : AHeap} {w : World} (r : Rel K σ w) (L : Loc) : K.le (K.add L) :=
  ⟨rfl, Oth.refl _, fun _ _ _ h => h, fun b L' h => by
    have := r.bnd b L' h
    simp only [Kr.add]
    rw [if_neg (by omega)]
    exact h, Nat.le_succ _⟩

theorem Kr.add_new (K : Kr) (L : Loc) : (K.add L).loc K.nn = some L := by simp [Kr.add]
theorem Kr.add_old {K : Kr} {L : Loc} {b : Nat} (h : b < K.nn) : (K.add L).loc b = K.loc b := by
  simp only [Kr.add]; rw [if_neg (by omega)]

/-- The owned blocks are as they were where their rows are. -/
theorem Own.keep {K K' : Kr} {w w' : World} {b : Nat} {blk : ABlk} (h : Own K w b blk) (hK : K.le K')
    (hrow : ∀ cb s c, K.loc b = some ⟨some cb, s, c⟩ → w'.heap[cb]? = w.heap[cb]? ∧ ((∀ o, K.imm cb o = none) → ∀ o, K'.imm cb o = none)) : Own K' w' b blk := by
  cases blk with
  | cells sz xs =>
    refine ⟨h.1, ?_⟩
    rcases h.2 with ⟨pcap, hl, hx⟩ | ⟨cb, pcap, cs, ty, hl, hb, hi, hw, hs, hx, hm, hv⟩
    · exact .inl ⟨pcap, hK.loc _ _ hl, hx⟩
    · obtain ⟨h1, h2⟩ := hrow _ _ _ hl
      refine .inr ⟨cb, pcap, cs, ty, hK.loc _ _ hl, by rw [hK.w0]; exact hb, h2 hi, by rw [h1]; exact hw, hs, hx, hm, hv.mono hK⟩

theorem halloc_new (w : World) (o : Obj) : (w.alloc o).heap[w.heap.size]? = some o := by
  show (w.heap.push o)[w.heap.size]? = some o
  simp
theorem halloc_old (w : World) (o : Obj) {i : Nat} (h : i < w.heap.size) : (w.alloc o).heap[i]? = w.heap[i]? := by
  show (w.heap.push o)[i]? = w.heap[i]?
  rw [Array.getElem?_push, if_neg (Nat.ne_of_lt h)]

theorem cell?_of_heap {w w' : World} {b o : Nat} (h : w'.heap[b]? = w.heap[b]?) : w'.cell? ⟨b, o, none⟩ = w.cell? ⟨b, o, none⟩ := by simp [World.cell?, h]

/-- A new row, owned. -/
theorem Rel.newOwned {K : Kr} {σ : AHeap} {w : World} (r : Rel K σ w) (sz pcap : Nat) (cs : Array Value) (ty : TypeId) (xs : List AVal) (he : ∀ x ∈ xs, x.elem sz)
    (hs : cs.size = pcap * sz) (hx : xs.length ≤ pcap) (hm : pcap ≤ maxLen) (hv : VRel K (flat xs) (cs.toList.take (xs.length * sz))) :
    Rel (K.add ⟨some w.heap.size, sz, pcap⟩) ((K.nn, .cells sz xs) :: σ) (w.alloc (.cells cs ty)) := by
  have hle := Kr.le_add r ⟨some w.heap.size, sz, pcap⟩
  have hext : Below K.w0.heap.size K.w0 (w.alloc (.cells cs ty)) := r.ext.alloc r.ext.size _
  refine ⟨hext, r.oth.alloc _, fun b o v h => ?_, ?_, fun b L h => ?_, fun b L cb h hb => ?_, fun b blk h => ?_, fun b1 blk1 b2 blk2 cb s1 c1 s2 c2 h1 h2 l1 l2 => ?_⟩
  · have hc := r.imm b o v h
    have hlt := block_lt_of_cell hc
    rw [cell?_of_heap (w := w) (halloc_old _ _ hlt)]
    exact hc
  · simp only [keys_cons, List.nodup_cons]; exact ⟨r.fresh, r.nd⟩
  · simp only [Kr.add] at h ⊢
    split at h
    · omega
    · have := r.bnd b L h; omega
  · simp only [Kr.add] at h
    split at h
    · simp only [Option.some.injEq] at h; subst h; simp at hb; subst hb; simp
    · have := r.lit b L cb h hb; simp; omega
  · rcases List.mem_cons.1 h with e | h
    · simp only [Prod.mk.injEq] at e
      obtain ⟨rfl, rfl⟩ := e
      refine ⟨he, .inr ⟨w.heap.size, pcap, cs, ty, Kr.add_new _ _, r.ext.size, fun o => r.imm_none (Nat.le_refl _) o, halloc_new _ _, hs, hx, hm, hv.mono hle⟩⟩
    · exact (r.own b blk h).keep hle fun cb s c hl => ⟨halloc_old _ _ (r.lit b _ cb hl rfl), fun h => h⟩
  · rcases List.mem_cons.1 h1 with e1 | h1 <;> rcases List.mem_cons.1 h2 with e2 | h2
    · simp only [Prod.mk.injEq] at e1 e2; rw [e1.1, e2.1]
    · exfalso
      simp only [Prod.mk.injEq] at e1
      rw [e1.1, Kr.add_new] at l1
      rw [Kr.add_old (r.key_lt h2)] at l2
      simp at l1
      have := r.lit _ _ _ l2 rfl
      omega
    · exfalso
      simp only [Prod.mk.injEq] at e2
      rw [e2.1, Kr.add_new] at l2
      rw [Kr.add_old (r.key_lt h1)] at l1
      simp at l2
      have := r.lit _ _ _ l1 rfl
      omega
    · rw [Kr.add_old (r.key_lt h1)] at l1
      rw [Kr.add_old (r.key_lt h2)] at l2
      exact r.inj _ _ _ _ _ _ _ _ _ h1 h2 l1 l2

/-- A name for nothing yet. -/
theorem Rel.newNone {K : Kr} {σ : AHeap} {w : World} (r : Rel K σ w) (sz : Nat) : Rel (K.add ⟨none, sz, 0⟩) ((K.nn, .cells sz []) :: σ) w := by
  have hle := Kr.le_add r ⟨none, sz, 0⟩
  refine ⟨r.ext, r.oth, r.imm, ?_, fun b L h => ?_, fun b L cb h hb => ?_, fun b blk h => ?_, fun b1 blk1 b2 blk2 cb s1 c1 s2 c2 h1 h2 l1 l2 => ?_⟩
  · simp only [keys_cons, List.nodup_cons]; exact ⟨r.fresh, r.nd⟩
  · simp only [Kr.add] at h ⊢
    split at h
    · omega
    · have := r.bnd b L h; omega
  · simp only [Kr.add] at h
    split at h
    · simp only [Option.some.injEq] at h; subst h; simp at hb
    · exact r.lit b L cb h hb
  · rcases List.mem_cons.1 h with e | h
    · simp only [Prod.mk.injEq] at e
      obtain ⟨rfl, rfl⟩ := e
      exact ⟨by simp, .inl ⟨0, Kr.add_new _ _, rfl⟩⟩
    · exact (r.own b blk h).keep hle fun cb s c hl => ⟨rfl, fun h => h⟩
  · rcases List.mem_cons.1 h1 with e1 | h1 <;> rcases List.mem_cons.1 h2 with e2 | h2
    · simp only [Prod.mk.injEq] at e1 e2; rw [e1.1, e2.1]
    · exfalso
      simp only [Prod.mk.injEq] at e1
      rw [e1.1, Kr.add_new] at l1
      simp at l1
    · exfalso
      simp only [Prod.mk.injEq] at e2
      rw [e2.1, Kr.add_new] at l2
      simp at l2
    · rw [Kr.add_old (r.key_lt h1)] at l1
      rw [Kr.add_old (r.key_lt h2)] at l2
      exact r.inj _ _ _ _ _ _ _ _ _ h1 h2 l1 l2

/-- Cells that are known for good, one block more. -/
def Kr.addImm (K : Kr) (cb : Nat) (cs : List Value) : Kr := { K with imm := fun b o => if b = cb then cs[o]? else K.imm b o }

/-- A new row that nobody will write. -/
theorem Rel.newImm {K : Kr} {σ : AHeap} {w : World} (r : Rel K σ w) (cs : Array Value) (ty : TypeId) (fr : Nat × Nat) :
    K.le (K.addImm w.heap.size cs.toList) ∧ Rel (K.addImm w.heap.size cs.toList) σ (w.alloc (.cells cs ty fr)) := by
  have hle : K.le (K.addImm w.heap.size cs.toList) := by
    refine ⟨rfl, Oth.refl _, fun b o v h => ?_, fun _ _ h => h, Nat.le_refl _⟩
    have := block_lt_of_cell (r.imm b o v h)
    simp only [Kr.addImm] at this ⊢
    rw [if_neg (by omega)]
    exact h
  refine ⟨hle, ⟨r.ext.alloc r.ext.size _, r.oth.alloc _, fun b o v h => ?_, r.nd, r.bnd, fun b L cb h hb => ?_, fun b blk h => ?_, r.inj⟩⟩
  · simp only [Kr.addImm] at h
    split at h
    · rename_i e
      subst e
      rw [cell_of_row (w.alloc (.cells cs ty fr)) _ o cs ty fr (halloc_new _ _)]
      simpa using h
    · have hc := r.imm b o v h
      have hlt := block_lt_of_cell hc
      rw [cell?_of_heap (w := w) (halloc_old _ _ hlt)]
      exact hc
  · have := r.lit b L cb h hb; simp; omega
  · refine (r.own b blk h).keep hle fun cb s c hl => ?_
    have hlt := r.lit b _ cb hl rfl
    refine ⟨halloc_old _ _ hlt, fun h o => ?_⟩
    simp only [Kr.addImm]
    rw [if_neg (by omega)]
    exact h o

/-- An owned row is written. -/
theorem Rel.write {K : Kr} {σ : AHeap} {w : World} (r : Rel K σ w) {b sz : Nat} {xs xs' : List AVal} (hb : (b, ABlk.cells sz xs) ∈ σ) {cb pcap : Nat}
    (hl : K.loc b = some ⟨some cb, sz, pcap⟩) (he : ∀ x ∈ xs', x.elem sz) (cs' : Array Value) (hs : cs'.size = pcap * sz) (hx : xs'.length ≤ pcap)
    (hv : VRel K (flat xs') (cs'.toList.take (xs'.length * sz))) : Rel K (hset σ b (.cells sz xs')) (w.setRow cb cs') := by
  have ho := r.own b _ hb
  have hnone : ∀ o, K.imm cb o = none := by
    rcases ho.2 with ⟨p, h1, _⟩ | ⟨cb', p, cs, ty, h1, _, hi, _⟩
    · rw [hl] at h1; simp at h1
    · rw [hl] at h1; simp at h1; obtain ⟨rfl, _⟩ := h1; exact hi
  obtain ⟨cs, ty, hw, hbase, hmax⟩ : ∃ cs ty, w.heap[cb]? = some (.cells cs ty (0, 0)) ∧ K.w0.heap.size ≤ cb ∧ pcap ≤ maxLen := by
    rcases ho.2 with ⟨p, h1, _⟩ | ⟨cb', p, cs, ty, h1, h2, _, h3, _, _, h4, _⟩
    · rw [hl] at h1; simp at h1
    · rw [hl] at h1; simp at h1; obtain ⟨rfl, rfl⟩ := h1; exact ⟨cs, ty, h3, h2, h4⟩
  refine ⟨?_, r.oth.turn hw (by rw [size_setRow]; exact Nat.le_refl _) (fun k hk => setRow_other _ _ _ _ hk), fun c o v h => ?_, by rw [keys_hset]; exact r.nd, r.bnd, fun c L d h hd => ?_, fun c blk h => ?_, fun b1 blk1 b2 blk2 c s1 c1 s2 c2 h1 h2 l1 l2 => ?_⟩
  · refine r.ext.trans ⟨rfl, rfl, rfl, by simp, fun k hk => setRow_other _ _ _ _ (by omega)⟩
  · have hne : c ≠ cb := by rintro rfl; rw [hnone] at h; cases h
    rw [cell?_of_heap (w := w) (setRow_other _ _ _ _ hne)]
    exact r.imm c o v h
  · rw [size_setRow]; exact r.lit c L d h hd
  · rcases mem_hset r.nd h with ⟨rfl, rfl⟩ | ⟨hne, h⟩
    · refine ⟨he, .inr ⟨cb, pcap, cs', ty, hl, hbase, hnone, setRow_heap _ _ _ _ _ _ hw, hs, hx, hmax, hv⟩⟩
    · refine (r.own c blk h).keep (Kr.le.refl K) fun d s c' hl' => ⟨setRow_other _ _ _ _ ?_, fun h => h⟩
      rintro rfl
      exact hne (r.inj _ _ _ _ _ _ _ _ _ h hb hl' hl)
  · have m1 : ∃ z, (b1, z) ∈ σ := by
      rcases mem_hset r.nd h1 with ⟨rfl, _⟩ | ⟨_, h⟩
      · exact ⟨_, hb⟩
      · exact ⟨_, h⟩
    have m2 : ∃ z, (b2, z) ∈ σ := by
      rcases mem_hset r.nd h2 with ⟨rfl, _⟩ | ⟨_, h⟩
      · exact ⟨_, hb⟩
      · exact ⟨_, h⟩
    obtain ⟨z1, m1⟩ := m1
    obtain ⟨z2, m2⟩ := m2
    exact r.inj _ _ _ _ _ _ _ _ _ m1 m2 l1 l2

/-- An owned block gets a new name, at the place where it lies. -/
theorem Rel.rename {K : Kr} {σ : AHeap} {w : World} (r : Rel K σ w) {b : Nat} {blk : ABlk} (hb : (b, blk) ∈ σ) {L : Loc} (hl : K.loc b = some L) :
    Rel (K.add L) (hren σ b K.nn blk) w := by
  have hle := Kr.le_add r L
  have hown : ∀ c z, (c, z) ∈ hren σ b K.nn blk → (c = K.nn ∧ z = blk) ∨ (c ≠ b ∧ (c, z) ∈ σ) := fun c z h => mem_hren r.nd h
  refine ⟨r.ext, r.oth, r.imm, nodup_hren r.nd r.fresh, fun c M h => ?_, fun c M d h hd => ?_, fun c z h => ?_, fun b1 z1 b2 z2 d s1 c1 s2 c2 h1 h2 l1 l2 => ?_⟩
  · simp only [Kr.add] at h ⊢
    split at h
    · omega
    · have := r.bnd c M h; omega
  · simp only [Kr.add] at h
    split at h
    · simp only [Option.some.injEq] at h; subst h; exact r.lit b _ d hl hd
    · exact r.lit c M d h hd
  · rcases hown c z h with ⟨rfl, rfl⟩ | ⟨hne, h⟩
    · have ho := r.own b _ hb
      cases z with
      | cells sz xs =>
        refine ⟨ho.1, ?_⟩
        rcases ho.2 with ⟨p, h1, hx⟩ | ⟨cb, p, cs, ty, h1, h2, h3, h4, h5, h6, h7, h8⟩
        · rw [hl] at h1; simp only [Option.some.injEq] at h1; subst h1
          exact .inl ⟨p, Kr.add_new _ _, hx⟩
        · rw [hl] at h1; simp only [Option.some.injEq] at h1; subst h1
          exact .inr ⟨cb, p, cs, ty, Kr.add_new _ _, h2, h3, h4, h5, h6, h7, h8.mono hle⟩
    · exact (r.own c z h).keep hle fun cb s c hl => ⟨rfl, fun h => h⟩
  · rcases hown _ _ h1 with ⟨e1, _⟩ | ⟨n1, h1⟩ <;> rcases hown _ _ h2 with ⟨e2, _⟩ | ⟨n2, h2⟩
    · rw [e1, e2]
    · exfalso
      rw [e1, Kr.add_new] at l1
      simp only [Option.some.injEq] at l1; subst l1
      rw [Kr.add_old (r.key_lt h2)] at l2
      exact n2 (r.inj _ _ _ _ _ _ _ _ _ h2 hb l2 hl)
    · exfalso
      rw [e2, Kr.add_new] at l2
      simp only [Option.some.injEq] at l2; subst l2
      rw [Kr.add_old (r.key_lt h1)] at l1
      exact n1 (r.inj _ _ _ _ _ _ _ _ _ h1 hb l1 hl)
    · rw [Kr.add_old (r.key_lt h1)] at l1
      rw [Kr.add_old (r.key_lt h2)] at l2
      exact r.inj _ _ _ _ _ _ _ _ _ h1 h2 l1 l2

/-- Nobody writes an owned block any more: its cells are known for good. -/
theorem Rel.freeze {K : Kr} {σ : AHeap} {w : World} (r : Rel K σ w) {b sz : Nat} {xs : List AVal} (hb : (b, ABlk.cells sz xs) ∈ σ) {cb pcap : Nat} (hl : K.loc b = some ⟨some cb, sz, pcap⟩) :
    ∃ vs, VRel K (flat xs) vs ∧ K.le (K.addImm cb vs) ∧ Rel (K.addImm cb vs) (hdel σ b) w := by
  have ho := r.own b _ hb
  rcases ho.2 with ⟨p, h1, hx⟩ | ⟨cb', p, cs, ty, h1, h2, h3, h4, h5, h6, h7, h8⟩
  · rw [hl] at h1; simp at h1
  · rw [hl] at h1
    simp at h1
    obtain ⟨rfl, rfl⟩ := h1
    have hle : K.le (K.addImm cb (cs.toList.take (xs.length * sz))) := by
      refine ⟨rfl, Oth.refl _, fun b o v h => ?_, fun _ _ h => h, Nat.le_refl _⟩
      simp only [Kr.addImm]
      split
      · rename_i e; subst e; rw [h3] at h; cases h
      · exact h
    refine ⟨_, h8, hle, ⟨r.ext, r.oth, fun c o v h => ?_, (keys_hdel_sub σ b).nodup r.nd, r.bnd, r.lit, fun c z h => ?_, fun b1 z1 b2 z2 d s1 c1 s2 c2 m1 m2 => ?_⟩⟩
    · simp only [Kr.addImm] at h
      split at h
      · rename_i e
        subst e
        rw [cell_of_row w c o cs ty _ h4]
        rw [List.getElem?_take] at h
        split at h
        · simpa using h
        · cases h
      · exact r.imm c o v h
    · obtain ⟨hne, h⟩ := mem_hdel r.nd h
      refine (r.own c z h).keep hle fun d s c' hl' => ⟨rfl, fun h' o => ?_⟩
      simp only [Kr.addImm]
      rw [if_neg ?_]
      · exact h' o
      · rintro rfl
        exact hne (r.inj _ _ _ _ _ _ _ _ _ h hb hl' hl)
    · exact r.inj _ _ _ _ _ _ _ _ _ (mem_hdel r.nd m1).2 (mem_hdel r.nd m2).2

end Go.Abs

/-
  A program logic over abstract states, part C: the small code, and what its operations do to an abstract state.
-/
namespace Go.Abs
open Go Go.RowKit

inductive AOpd where
  | t (i : Nat)
  | c (v : AVal)

/-- Operations, their types looked up. -/
inductive AK where
  | mov | pick | nilc
  | fad (off : Nat)
  | fld (ag : Bool) (off sz : Nat)
  | iad (sz : Nat)
  | bin (op : BinOp)
  | binb (op : BinOp)
  | cstr
  | unot | uneg | ucpl
  | conv (k : IntKind)
  | slc (sz : Nat) (lo hi mx : Bool)
  | sstr (lo hi : Bool)
  | istr
  | bld (z : List AVal) (places : List (Nat × Nat))
  | ext (i : Nat)
  | lens | lent
  | min | max
  | mkf (f : FuncId) (nf : Nat)
  | mki (t : TypeId)
  | bsl (sz : Nat)
  | s2b
  | loadp (ag : Bool) (sz : Nat)
  | b2sp
  -- what reads memory
  | load (ag : Bool) (sz : Nat)
  | b2s
  -- what turns the state
  | store (sz : Nat)
  | alloc (z : AVal)
  | box (sz : Nat)
  | bslo (sz : Nat)
  | strish (sz : Nat)
  | isnil (neg : Bool)
  | mks (sz bytes : Nat) (z : AVal)
  | app (sz bytes : Nat)
  | apps
  | cpy (sz : Nat)
  | clip (sz : Nat)
  | call (f : FuncId)
  | callv
  -- a call that leaves all memory as it is; a call that leaves some blocks as they are (the operands behind the n-th)
  | callp (f : FuncId)
  | callk (f : FuncId) (n : Nat)

def AK.quiet : AK → Bool
  | .store _ | .alloc _ | .box _ | .bslo _ | .strish _ | .isnil _ | .mks _ _ _ | .app _ _ | .apps | .cpy _ | .clip _ | .call _ | .callv | .callp _ | .callk _ _ => false
  | _ => true
def AK.reads : AK → Bool
  | .load _ _ | .b2s => true
  | _ => false

/-! ### Operations that need no memory -/

def byte (b : UInt8) : AVal := .int .u8 b.toNat
def bytes (l : List UInt8) : List AVal := l.map byte

def toByte : AVal → Option UInt8
  | .int .u8 n => some (UInt8.ofNat n.toNat)
  | _ => none
def toBytes (l : List AVal) : Option (List UInt8) := l.mapM toByte

def intBits (op : BinOp) (k : IntKind) (x y : Int) : Int :=
  let a := BitVec.ofInt k.bits x
  let b := BitVec.ofInt k.bits y
  match op with
  | .and => k.wrap (a &&& b).toNat
  | .or => k.wrap (a ||| b).toNat
  | .xor => k.wrap (a ^^^ b).toNat
  | _ => k.wrap (a &&& ~~~b).toNat

def binInt (op : BinOp) (k : IntKind) (a b : Int) : Option AVal :=
  match op with
  | .add => some (.int k (k.wrap (a + b)))
  | .sub => some (.int k (k.wrap (a - b)))
  | .mul => some (.int k (k.wrap (a * b)))
  | .quo => if b = 0 then none else some (.int k (k.wrap (a.tdiv b)))
  | .rem => if b = 0 then none else some (.int k (a.tmod b))
  | .and => some (.int k (intBits .and k a b))
  | .or => some (.int k (intBits .or k a b))
  | .xor => some (.int k (intBits .xor k a b))
  | .andNot => some (.int k (intBits .andNot k a b))
  | .shl => none
  | .shr => none
  | .eql => some (.bool (decide (a = b)))
  | .neq => some (.bool (decide (a ≠ b)))
  | .lss => some (.bool (decide (a < b)))
  | .leq => some (.bool (decide (a ≤ b)))
  | .gtr => some (.bool (decide (b < a)))
  | .geq => some (.bool (decide (b ≤ a)))

def binShift (op : BinOp) (k : IntKind) (x y : Int) : Option AVal :=
  match op with
  | .shl => if y < 0 then none else some (.int k (k.wrap (x * 2 ^ (Nat.min y.toNat k.bits))))
  | .shr => if y < 0 then none else some (.int k (x.fdiv (2 ^ (Nat.min y.toNat k.bits))))
  | _ => none

def binStr (op : BinOp) (s t : List UInt8) : Option AVal :=
  match op with
  | .add => if s.length + t.length ≤ maxLen then some (.str (s ++ t)) else none
  | .eql => some (.bool (decide (s = t)))
  | .neq => some (.bool (decide (s ≠ t)))
  | .lss => some (.bool (Op.bytesLess s t))
  | .leq => some (.bool (Op.bytesLess s t || decide (s = t)))
  | .gtr => some (.bool (!(Op.bytesLess s t || decide (s = t))))
  | .geq => some (.bool (!Op.bytesLess s t))
  | _ => none

def binBool (op : BinOp) (a b : Bool) : Option AVal :=
  match op with
  | .eql => some (.bool (a == b))
  | .neq => some (.bool (!(a == b)))
  | _ => none

def isShift : BinOp → Bool
  | .shl | .shr => true
  | _ => false

def abin (op : BinOp) : List AVal → Option AVal
  | [.int k a, .int k' b] => if isShift op then binShift op k a b else if k = k' then binInt op k a b else none
  | [.str s, .str t] => binStr op s t
  | _ => none
def abinb (op : BinOp) : List AVal → Option AVal
  | [.bool a, .bool b] => binBool op a b
  | _ => none
def acstr : List AVal → Option AVal
  | [.str s] => some (.str s)
  | _ => none

def apick : List AVal → Option AVal
  | [.bool t, a, b] => some (if t then a else b)
  | _ => none
def amov : List AVal → Option AVal
  | [v] => some v
  | _ => none
def anilc : List AVal → Option AVal
  | [.ptr b i o] => some (.ptr b i o)
  | [.iptr cs] => some (.iptr cs)
  | [.fn f a b] => some (.fn f a b)
  | _ => none
def afad (off : Nat) : List AVal → Option AVal
  | [.ptr b i o] => some (.ptr b i (o + off))
  | [.iptr cs] => some (.iptr (cs.drop off))
  | _ => none
def part_ (ag : Bool) (sz : Nat) (cs : List AVal) : Option AVal :=
  if ag then (if sz ≤ cs.length then some (.agg (cs.take sz)) else none) else cs.head?
def afld (ag : Bool) (off sz : Nat) : List AVal → Option AVal
  | [.agg cs] => part_ ag sz (cs.drop off)
  | _ => none
def aiad (sz : Nat) : List AVal → Option AVal
  | [.slc s xs _, .int _ i] => if 0 ≤ i ∧ s = sz then (xs[i.toNat]?).map fun x => .iptr x.cells else none
  | [.arr s b off n, .int _ i] => if (0 ≤ i ∧ i < n) ∧ s = sz then some (.ptr b (off + i.toNat) 0) else none
  | _ => none
def aunot : List AVal → Option AVal
  | [.bool b] => some (.bool (!b))
  | _ => none
def auneg : List AVal → Option AVal
  | [.int k n] => some (.int k (k.wrap (0 - n)))
  | _ => none
def aucpl : List AVal → Option AVal
  | [.int k n] => some (.int k (intBits .xor k (if k.signed then -1 else k.max) n))
  | _ => none
def aconv (k : IntKind) : List AVal → Option AVal
  | [.int _ n] => some (.int k (k.wrap n))
  | _ => none

/-- The bounds of a slice expression, out of the operands behind the first. -/
def bnds (n : Int) (lo hi mx : Bool) (l : List AVal) : Option (Int × Int × Int) :=
  match lo, hi, mx with
  | false, false, false => match l with
    | [] => some (0, n, n)
    | _ => none
  | true, false, false => match l with
    | [.int _ a] => some (a, n, n)
    | _ => none
  | false, true, false => match l with
    | [.int _ b] => some (0, b, n)
    | _ => none
  | true, true, false => match l with
    | [.int _ a, .int _ b] => some (a, b, n)
    | _ => none
  | false, true, true => match l with
    | [.int _ b, .int _ c] => some (0, b, c)
    | _ => none
  | true, true, true => match l with
    | [.int _ a, .int _ b, .int _ c] => some (a, b, c)
    | _ => none
  | _, _, true => none

def asub (sz : Nat) (lo hi mx : Bool) : List AVal → Option AVal
  | .slc s xs full :: l => (bnds xs.length lo hi mx l).bind fun (a, b, c) =>
      if (0 ≤ a ∧ a ≤ b ∧ b ≤ c ∧ c ≤ xs.length) ∧ (s = sz ∨ xs = []) then
        some (.slc s ((xs.drop a.toNat).take (b - a).toNat) (if mx then decide (b = c) else (full && decide (b = xs.length)))) else none
  | .arr s n off len :: l => (bnds len lo hi mx l).bind fun (a, b, c) =>
      if (0 ≤ a ∧ a ≤ b ∧ b ≤ c ∧ c ≤ len) ∧ s = sz then
        if a = 0 then some (.arr s n off b.toNat) else if a < b then some (.arr s n (off + a.toNat) (b - a).toNat) else some (.slc s [] false) else none
  | _ => none
def asstr (lo hi : Bool) : List AVal → Option AVal
  | .str s :: l => (bnds s.length lo hi false l).bind fun (a, b, _) =>
      if 0 ≤ a ∧ a ≤ b ∧ b ≤ s.length then some (.str ((s.drop a.toNat).take (b - a).toNat)) else none
  | _ => none
def aistr : List AVal → Option AVal
  | [.str s, .int _ i] => if 0 ≤ i then (s[i.toNat]?).map byte else none
  | _ => none
def putAll : List AVal → List (Nat × Nat) → List AVal → Option (List AVal)
  | z, [], [] => some z
  | z, (off, sz) :: ps, v :: vs =>
    if v.cells.length = sz ∧ off + sz ≤ z.length ∧ v.cells.all AVal.one = true then putAll (z.take off ++ v.cells ++ z.drop (off + sz)) ps vs else none
  | _, _, _ => none
def abld (z : List AVal) (ps : List (Nat × Nat)) (vs : List AVal) : Option AVal := (putAll z ps vs).map .agg
def aext (i : Nat) : List AVal → Option AVal
  | [.tup vs] => vs[i]?
  | _ => none
def alens : List AVal → Option AVal
  | [.slc _ xs _] => some (.int .i64 xs.length)
  | [.arr _ _ _ n] => some (.int .i64 n)
  | _ => none
def alent : List AVal → Option AVal
  | [.str s] => some (.int .i64 s.length)
  | _ => none
def amin2 : AVal → AVal → Option AVal
  | .int k x, .int _ y => some (.int k (if y < x then y else x))
  | _, _ => none
def amax2 : AVal → AVal → Option AVal
  | .int k x, .int _ y => some (.int k (if y > x then y else x))
  | _, _ => none
def amin : List AVal → Option AVal
  | [] => none
  | x :: l => l.foldlM amin2 x
def amax : List AVal → Option AVal
  | [] => none
  | x :: l => l.foldlM amax2 x
def amkf (f : FuncId) (nf : Nat) (vs : List AVal) : Option AVal := some (.fn f (vs.take nf) (vs.drop nf))
def amki (t : TypeId) : List AVal → Option AVal
  | [v] => some (.iface t v)
  | _ => none

def AVal.fit (sz : Nat) (x : AVal) : Bool := (x.cells.length == sz) && x.cells.all AVal.one
theorem AVal.fit_iff {sz : Nat} {x : AVal} : x.fit sz = true ↔ x.elem sz := by simp [AVal.fit, AVal.elem]
def absl (sz : Nat) (vs : List AVal) : Option AVal := if vs.all (AVal.fit sz) = true then some (.slc sz vs true) else none
def as2b : List AVal → Option AVal
  | [.str s] => if s.length ≤ maxLen then some (.slc 1 (bytes s) false) else none
  | _ => none

/-! ### Operations that read -/

def aload (σ : AHeap) (ag : Bool) (sz : Nat) : List AVal → Option AVal
  | [.iptr cs] => part_ ag sz cs
  | [.ptr b i o] =>
    match hget σ b with
    | some (.cells _ xs) => (xs[i]?).bind fun x => part_ ag sz (x.cells.drop o)
    | none => none
  | _ => none

/-- A slice's elements. -/
def elemsOf (σ : AHeap) (sz : Nat) : AVal → Option (List AVal)
  | .slc s xs _ => if s = sz ∨ xs = [] then some xs else none
  | .arr _ b off n =>
    match hget σ b with
    | some (.cells s xs) => if s = sz ∧ off + n ≤ xs.length then some ((xs.drop off).take n) else none
    | none => none
  | _ => none

/-- Of what nobody writes: no memory is asked. -/
def aloadp (ag : Bool) (sz : Nat) : List AVal → Option AVal
  | [.iptr cs] => part_ ag sz cs
  | _ => none
def ab2sp : List AVal → Option AVal
  | [.slc s xs _] => if s = 1 ∨ xs = [] then (toBytes xs).map .str else none
  | _ => none

def ab2s (σ : AHeap) : List AVal → Option AVal
  | [x] => ((elemsOf σ 1 x).bind toBytes).map .str
  | _ => none

def aquiet (k : AK) (σ : AHeap) (vs : List AVal) : Option AVal :=
  match k with
  | .mov => amov vs
  | .pick => apick vs
  | .nilc => anilc vs
  | .fad off => afad off vs
  | .fld ag off sz => afld ag off sz vs
  | .iad sz => aiad sz vs
  | .bin op => abin op vs
  | .binb op => abinb op vs
  | .cstr => acstr vs
  | .unot => aunot vs
  | .uneg => auneg vs
  | .ucpl => aucpl vs
  | .conv k => aconv k vs
  | .slc sz lo hi mx => asub sz lo hi mx vs
  | .sstr lo hi => asstr lo hi vs
  | .istr => aistr vs
  | .bld z ps => abld z ps vs
  | .ext i => aext i vs
  | .lens => alens vs
  | .lent => alent vs
  | .min => amin vs
  | .max => amax vs
  | .mkf f nf => amkf f nf vs
  | .mki t => amki t vs
  | .bsl sz => absl sz vs
  | .s2b => as2b vs
  | .loadp ag sz => aloadp ag sz vs
  | .b2sp => ab2sp vs
  | .load ag sz => aload σ ag sz vs
  | .b2s => ab2s σ vs
  | _ => none

/-! ### Calls -/

def ACalls (P : Program) (f : FuncId) (args : List AVal) (σ : AHeap) (R : AVal → AHeap → Prop) : Prop :=
  ∀ (K : Kr) (w : World) (vs : List Value), Rel K σ w → VRel K args vs →
    Calls P f vs.toArray w fun e w' => ∃ v K' r σ', e = .returned v ∧ K.le K' ∧ Rel K' σ' w' ∧ VR K' r v ∧ R r σ'

theorem ACalls.mono {P : Program} {f : FuncId} {args : List AVal} {σ : AHeap} {R R' : AVal → AHeap → Prop} (h : ACalls P f args σ R) (hR : ∀ r σ', R r σ' → R' r σ') :
    ACalls P f args σ R' :=
  fun K w vs hr hv => (h K w vs hr hv).mono fun _ _ ⟨v, K', r, σ', h1, h2, h3, h4, h5⟩ => ⟨v, K', r, σ', h1, h2, h3, h4, hR _ _ h5⟩

/-! ### Operations that turn the state -/

def putCells (x : AVal) (o : Nat) (cs : List AVal) : AVal :=
  match x with
  | .agg l => .agg (l.take o ++ cs ++ l.drop (o + cs.length))
  | x => match cs with
    | [c] => c
    | _ => x

def estore (sz : Nat) (vs : List AVal) (σ : AHeap) (R : AVal → AHeap → Prop) : Prop :=
  match vs with
  | [.ptr b i o, v] => ∃ s xs x, hget σ b = some (.cells s xs) ∧ xs[i]? = some x ∧ o + sz ≤ s ∧ v.elem sz ∧ (x.one = true → o = 0 ∧ sz = 1) ∧
      R (.tup []) (hset σ b (.cells s (xs.set i (putCells x o v.cells))))
  | _ => False

def fresh (σ : AHeap) (b : Nat) : Prop := b ∉ keys σ

def enew (sz : Nat) (xs : List AVal) (σ : AHeap) (R : Nat → AHeap → Prop) : Prop := ∀ b, fresh σ b → R b ((b, .cells sz xs) :: σ)

def ebox (sz : Nat) (vs : List AVal) (σ : AHeap) (R : AVal → AHeap → Prop) : Prop :=
  match vs with
  | [v] => v.elem sz ∧ enew sz [v] σ fun b σ' => R (.ptr b 0 0) σ'
  | _ => False

def ebslo (sz : Nat) (vs : List AVal) (σ : AHeap) (R : AVal → AHeap → Prop) : Prop :=
  (∀ v ∈ vs, v.elem sz) ∧ enew sz vs σ fun b σ' => R (.arr sz b 0 vs.length) σ'

/-- A row of the call's own is marked: nobody writes it any more. -/
def estrish (sz : Nat) (vs : List AVal) (σ : AHeap) (R : AVal → AHeap → Prop) : Prop :=
  match vs with
  | [.arr _ b 0 n] => ∃ xs, hget σ b = some (.cells sz xs) ∧ xs.length = n ∧ 0 < n ∧ R (.slc sz xs false) (hdel σ b)
  | _ => False

/-- Is a slice nil? Of one that holds something: no. -/
def eisnil (neg : Bool) (vs : List AVal) (σ : AHeap) (R : AVal → AHeap → Prop) : Prop :=
  match vs with
  | [.slc _ xs _, .slc _ [] true] => (xs ≠ [] → R (.bool neg) σ) ∧ (xs = [] → ∀ t, R (.bool t) σ)
  | [.arr _ _ _ n, .slc _ [] true] => (0 < n → R (.bool neg) σ) ∧ (n = 0 → ∀ t, R (.bool t) σ)
  | _ => False

def emks (sz byt : Nat) (z : AVal) (vs : List AVal) (σ : AHeap) (R : AVal → AHeap → Prop) : Prop :=
  match vs with
  | [.int .i64 l, .int .i64 c] => z.elem sz ∧ 0 ≤ l ∧ l ≤ c ∧ c ≤ 9223372036854775807 ∧ byt * c ≤ 281474976710656 ∧ enew sz (List.replicate l.toNat z) σ fun b σ' => R (.arr sz b 0 l.toNat) σ'
  | _ => False

/-- Elements are put behind a slice. -/
def eapp (sz byt : Nat) (s : AVal) (ys : List AVal) (σ : AHeap) (R : AVal → AHeap → Prop) : Prop :=
  match s with
  | .slc z xs true =>
    (xs.length + ys.length) * byt ≤ 140737488355328 ∧ (z = sz ∨ xs = []) ∧
    (match xs with
     | [] => enew sz ys σ fun b σ' => R (.arr sz b 0 ys.length) σ'
     | _ => (ys = [] → R (.slc z xs true) σ) ∧ (ys ≠ [] → enew sz (xs ++ ys) σ fun b σ' => R (.arr sz b 0 (xs.length + ys.length)) σ'))
  | .arr _ b 0 n => ∃ xs, hget σ b = some (.cells sz xs) ∧ xs.length = n ∧ (xs.length + ys.length) * byt ≤ 140737488355328 ∧
      ∀ b', fresh σ b' → R (.arr sz b' 0 (xs.length + ys.length)) (hren σ b b' (.cells sz (xs ++ ys)))
  | _ => False

def eappv (sz byt : Nat) (vs : List AVal) (σ : AHeap) (R : AVal → AHeap → Prop) : Prop :=
  match vs with
  | [s, x] => ∃ ys, elemsOf σ sz x = some ys ∧ eapp sz byt s ys σ R
  | _ => False
def eapps (vs : List AVal) (σ : AHeap) (R : AVal → AHeap → Prop) : Prop :=
  match vs with
  | [s, .str t] => eapp 1 1 s (bytes t) σ R
  | _ => False

def ecpy (sz : Nat) (vs : List AVal) (σ : AHeap) (R : AVal → AHeap → Prop) : Prop :=
  match vs with
  | [.arr _ b off n, x] => ∃ xs ys, hget σ b = some (.cells sz xs) ∧ elemsOf σ sz x = some ys ∧ off + n ≤ xs.length ∧
      R (.int .i64 (Nat.min ys.length n : Nat)) (hset σ b (.cells sz (xs.take off ++ ys.take (Nat.min ys.length n) ++ xs.drop (off + Nat.min ys.length n))))
  | _ => False

/-- 's[:n:n]' where nobody writes the row any more. -/
def eclip (sz : Nat) (vs : List AVal) (σ : AHeap) (R : AVal → AHeap → Prop) : Prop :=
  match vs with
  | [.arr _ b off n, .int _ h, .int _ m] => ∃ xs, hget σ b = some (.cells sz xs) ∧ off + n ≤ xs.length ∧ 0 ≤ h ∧ h = m ∧ m ≤ n ∧
      R (.slc sz ((xs.drop off).take h.toNat) true) (hdel σ b)
  | vs => ∃ v, asub sz false true true vs = some v ∧ R v σ

def goodFn (P : Program) (f : FuncId) : Bool :=
  match P.funcs[f]? with
  | some fn => fn.body.isSome && !(fn.name == "runtime.NumGoroutine")
  | none => false

def ecallv (P : Program) (vs : List AVal) (σ : AHeap) (R : AVal → AHeap → Prop) : Prop :=
  match vs with
  | .fn f first caps :: args => goodFn P f = true ∧ (∃ r σ', R r σ') ∧ ACalls P f (first ++ args ++ caps) σ R
  | _ => False

/-- A call's answer, whatever memory the caller owns. -/
def pureC (P : Program) (f : FuncId) (vs : List AVal) (v : AVal) : Prop := ∀ σ', ACalls P f vs σ' fun r τ => r = v ∧ τ = σ'
def gname : AVal → Option Nat
  | .ptr b _ _ => some b
  | .arr _ b _ _ => some b
  | _ => none
def keptG (vs : List AVal) (σ σ' : AHeap) : Prop := ∀ v ∈ vs, ∀ b, gname v = some b → hget σ' b = hget σ b
def ecallk (P : Program) (f : FuncId) (n : Nat) (vs : List AVal) (σ : AHeap) (R : AVal → AHeap → Prop) : Prop :=
  (∃ r σ', keptG (vs.drop n) σ σ' ∧ R r σ') ∧ ACalls P f (vs.take n) σ fun r σ' => keptG (vs.drop n) σ σ' ∧ R r σ'

def astep (P : Program) (k : AK) (vs : List AVal) (σ : AHeap) (R : AVal → AHeap → Prop) : Prop :=
  match k with
  | .store sz => estore sz vs σ R
  | .alloc z => vs = [] ∧ (∀ c ∈ z.cells, c.one = true) ∧ enew z.cells.length [z] σ fun b σ' => R (.ptr b 0 0) σ'
  | .box sz => ebox sz vs σ R
  | .bslo sz => ebslo sz vs σ R
  | .strish sz => estrish sz vs σ R
  | .isnil neg => eisnil neg vs σ R
  | .mks sz byt z => emks sz byt z vs σ R
  | .app sz byt => eappv sz byt vs σ R
  | .apps => eapps vs σ R
  | .cpy sz => ecpy sz vs σ R
  | .clip sz => eclip sz vs σ R
  | .call f => (∃ r σ', R r σ') ∧ ACalls P f vs σ R
  | .callv => ecallv P vs σ R
  | .callp f => ∃ v, pureC P f vs v ∧ R v σ
  | .callk f n => ecallk P f n vs σ R
  | k => ∃ v, aquiet k σ vs = some v ∧ R v σ

/-! ### Frames, regions, code -/

abbrev AFrame := Nat → Option AVal

def fset (d : Nat) (v : Option AVal) (F : AFrame) : AFrame := fun i => if i = d then v else F i
def fnone : AFrame := fun _ => none
def fkeep : List Nat → AFrame → AFrame
  | [], _ => fnone
  | i :: l, F => fset i (F i) (fkeep l F)
def fargs (vs : List AVal) : AFrame := fun i => vs[i]?

def ev (F : AFrame) : AOpd → Option AVal
  | .t i => F i
  | .c v => some v
def evs (F : AFrame) : List AOpd → Option (List AVal)
  | [] => some []
  | x :: l => match ev F x, evs F l with
    | some v, some vs => some (v :: vs)
    | _, _ => none

def fput (dst : Option Nat) (v : Option AVal) (F : AFrame) : AFrame :=
  match dst with
  | some d => fset d v F
  | none => F

structure AOper where
  dst : Option Nat
  k : AK
  args : List AOpd
  guard : Option (Nat × Bool)

def arun (P : Program) (o : AOper) (F : AFrame) (σ : AHeap) (Q : AFrame → AHeap → Prop) : Prop :=
  ∃ vs, evs F o.args = some vs ∧ astep P o.k vs σ fun r σ' => Q (fput o.dst (some r) F) σ'

/-- What a guard's slot tells: a truth; nothing, where the operation that fills it was passed over. -/
def gval : Option AVal → Option (Option Bool)
  | some (.bool b) => some (some b)
  | some (.tup []) => some none
  | _ => none

def aop (P : Program) (o : AOper) (F : AFrame) (σ : AHeap) (Q : AFrame → AHeap → Prop) : Prop :=
  match o.guard with
  | none => arun P o F σ Q
  | some (g, want) => ∃ b, gval (F g) = some b ∧ (b = some want → arun P o F σ Q) ∧ (b ≠ some want → Q (fput o.dst (some (.tup [])) F) σ)

def aops (P : Program) : List AOper → AFrame → AHeap → (AFrame → AHeap → Prop) → Prop
  | [], F, σ, Q => Q F σ
  | o :: l, F, σ, Q => aop P o F σ fun F' σ' => aops P l F' σ' Q

inductive ACode where
  | skip
  | region (ops : List AOper) (keep : List Nat)
  | seq (a b : ACode)
  | cond (c : AOpd) (a b : ACode)
  | block (id : Nat) (a : ACode)
  | loop (a : ACode)
  | range (g : AOpd) (ps : List Nat) (a b : ACode)
  | exit (id : Nat)
  | ret

end Go.Abs

/-
  A program logic over abstract states, part D: the model's code in the small form.
-/
namespace Go.Abs
open Go Go.RowKit

def constA0 : Value → Option AVal
  | .bool b => some (.bool b)
  | .int k n => some (.int k n)
  | .string s => some (.str s.data.toList)
  | .pointer none => some .nilp
  | .slice none 0 0 => some (.slc 0 [] true)
  | .nilFunc => some .nilf
  | .nilIface => some .nili
  | _ => none
def constA : Value → Option AVal
  | .agg cs => (cs.toList.mapM constA0).map .agg
  | v => constA0 v

theorem constA0_ok {K : Kr} {v : Value} {a : AVal} (h : constA0 v = some a) : VR K a v ∧ a.one = true := by
  unfold constA0 at h
  split at h <;> simp only [Option.some.injEq, reduceCtorEq] at h <;> subst h
  · exact ⟨.bool .nil, rfl⟩
  · exact ⟨.int .nil, rfl⟩
  · exact ⟨.str .nil, rfl⟩
  · exact ⟨.nilp .nil, rfl⟩
  · exact ⟨.slc0 (fun _ => rfl) .nil, rfl⟩
  · exact ⟨.nilf .nil, rfl⟩
  · exact ⟨.nili .nil, rfl⟩

theorem constA0_list {K : Kr} : ∀ {l : List Value} {cs : List AVal}, l.mapM constA0 = some cs → VRel K cs l ∧ ∀ c ∈ cs, c.one = true
  | [], cs, h => by simp at h; subst h; exact ⟨.nil, by simp⟩
  | v :: l, cs, h => by
    simp only [List.mapM_cons, Option.bind_eq_bind, Option.bind_eq_some_iff, Option.pure_def, Option.some.injEq] at h
    obtain ⟨a, ha, cs', hl, rfl⟩ := h
    have h1 := constA0_ok (K := K) ha
    have h2 := constA0_list (K := K) hl
    exact ⟨.cons h1.1 h2.1, by 
      intro c hc
      rcases List.mem_cons.1 hc with rfl | hc
      · exact h1.2
      · exact h2.2 c hc⟩

theorem constA_ok {K : Kr} {v : Value} {a : AVal} (h : constA v = some a) : VR K a v ∧ ∀ c ∈ a.cells, c.one = true := by
  unfold constA at h
  split at h
  · rename_i cs
    simp only [Option.map_eq_some_iff] at h
    obtain ⟨l, hl, rfl⟩ := h
    have := constA0_list (K := K) hl
    have e := VRel.agg this.2 this.1 VRel.nil
    exact ⟨e, by simpa [AVal.cells] using this.2⟩
  · have := constA0_ok (K := K) h
    exact ⟨this.1, by rw [AVal.cells_of_one this.2]; simp [this.2]⟩

def opdA : Operand → Option AOpd
  | .tmp t => some (.t t)
  | .const v => (constA v).map .c
  | .func f => some (.c (.fn f [] []))
  | .global _ => none

def sizeA (P : Program) (t : TypeId) : Option Nat := (P.info? t).map (·.size)
def zeroA (P : Program) (t : TypeId) : Option AVal := (P.info? t).bind fun i => i.zero.bind constA
def aggA (P : Program) (t : TypeId) : Option Bool := (P.underlying t).map fun d => match d with | .struct _ | .array _ _ => true | _ => false

def kindA (P : Program) (t : TypeId) : Nat :=
  match P.underlying t with
  | some .bool => 1
  | some (.int _) => 2
  | some .string => 3
  | some (.slice _) => 4
  | some (.struct _) => 5
  | some (.interface _) => 6
  | _ => 0

def elemA (P : Program) (t : TypeId) : Option TypeId :=
  match P.underlying t with
  | some (.slice e) => some e
  | _ => none

def fieldA (P : Program) (t : TypeId) (i : Nat) : Option Field :=
  match P.underlying t with
  | some (.struct fs) => fs[i]?
  | _ => none

def placesA (P : Program) (t : TypeId) : List Nat → Option (List (Nat × Nat))
  | [] => some []
  | i :: l => do
    let f ← fieldA P t i
    let s ← sizeA P f.type
    let r ← placesA P t l
    pure ((f.offset, s) :: r)

/-- The kind of an operation; its operands. -/
def kOf (P : Program) (fl : Bool) (o : Oper) : Option (AK × List Operand) :=
  match o.op with
  | .move x | .assign x => some (.mov, [x])
  | .pick c a b => some (.pick, [c, a, b])
  | .alloc e => do
    let z ← zeroA P e
    pure (.alloc z, [])
  | .box e x => do
    let s ← sizeA P e
    pure (.box s, [x])
  | .build t parts => do
    let z ← zeroA P t
    let ps ← placesA P t (parts.toList.map (·.1))
    match z, P.underlying t with
    | .agg cs, some (.struct fs) => if fs.toList.all fun f => (sizeA P f.type).isSome then pure (.bld cs ps, parts.toList.map (·.2)) else none
    | _, _ => none
  | .buildSlice t len parts => do
    let e ← elemA P t
    let s ← sizeA P e
    let _z ← zeroA P e
    if parts.toList.map (·.1) = List.range len ∧ 0 < s ∧ len * s ≤ 2 ^ 24 then pure (if fl then .bslo s else .bsl s, parts.toList.map (·.2)) else none
  | .load t a => do
    let g ← aggA P t
    let s ← sizeA P t
    pure (if fl then .loadp g s else .load g s, [a])
  | .store t a x => do
    let s ← sizeA P t
    pure (.store s, [a, x])
  | .nilCheck x => some (.nilc, [x])
  | .binOp op t x y _ =>
    if kindA P t = 1 then
      match op with
      | .eql => some (.binb .eql, [x, y])
      | .neq => some (.binb .neq, [x, y])
      | _ => none
    else if kindA P t = 2 ∨ kindA P t = 3 then some (.bin op, [x, y])
    else if kindA P t = 4 then
      match op, y with
      | .eql, .const (.slice none 0 0) => some (.isnil false, [x, y])
      | .neq, .const (.slice none 0 0) => some (.isnil true, [x, y])
      | _, _ => none
    else none
  | .unOp op _ x => match op with
    | .not => some (.unot, [x])
    | .neg => some (.uneg, [x])
    | .xor => some (.ucpl, [x])
    | _ => none
  | .convert src dst x =>
    match P.underlying src, P.underlying dst with
    | some (.int _), some (.int k) => some (.conv k, [x])
    | some .string, some .string => some (.cstr, [x])
    | some (.slice e), some .string => match P.underlying e with
      | some (.int .u8) => some (if fl then .b2sp else .b2s, [x])
      | _ => none
    | some (.slice e), some (.slice _) => match P.underlying e with
      | some (.int .u8) => if src = dst ∧ sizeA P e = some 1 then some (.strish 1, [x]) else none
      | _ => none
    | _, _ => none
  | .makeInterface t x => match P.underlying t with
    | some (.interface _) => none
    | some _ => some (.mki t, [x])
    | none => none
  | .makeFunc (.func f) first captured => some (.mkf f first.size, first.toList ++ captured.toList)
  | .makeSlice t l c => do
    let e ← elemA P t
    let i ← P.info? e
    let z ← i.zero.bind constA
    if z.cells.length = i.size ∧ 0 < i.size then pure (.mks i.size i.bytes z, [l, c]) else none
  | .slice t x lo hi mx =>
    match P.underlying t with
    | some (.slice e) => do
      let s ← sizeA P e
      match lo, hi, mx with
      | none, some h, some m => pure (.clip s, [x, h, m])
      | _, _, _ => pure (.slc s lo.isSome hi.isSome mx.isSome, x :: (lo.toList ++ hi.toList ++ mx.toList))
    | some .string => if mx.isNone then some (.sstr lo.isSome hi.isSome, x :: (lo.toList ++ hi.toList)) else none
    | _ => none
  | .fieldAddr t x i => do
    let f ← fieldA P t i
    let s ← sizeA P f.type
    if s = 0 then none else pure (.fad f.offset, [x])
  | .field t x i => do
    let f ← fieldA P t i
    let g ← aggA P f.type
    let s ← sizeA P f.type
    pure (.fld g f.offset s, [x])
  | .indexAddr t x i => do
    let e ← elemA P t
    let s ← sizeA P e
    pure (.iad s, [x, i])
  | .index t x i => if kindA P t = 3 then some (.istr, [x, i]) else none
  | .extract t i => some (.ext i, [t])
  | .call c =>
    match c.callee with
    | .value (.func f) => if goodFn P f then some (.call f, c.args.toList) else none
    | .value (.tmp t) => some (.callv, .tmp t :: c.args.toList)
    | .builtin .append => do
      let t ← c.argTypes[0]?
      let u ← c.argTypes[1]?
      let e ← elemA P t
      let i ← P.info? e
      let z ← i.zero.bind constA
      if c.args.size ≠ 2 ∨ z.cells.length ≠ i.size ∨ i.size = 0 ∨ i.bytes = 0 then none
      else if kindA P u = 4 then pure (.app i.size i.bytes, c.args.toList)
      else if kindA P u = 3 ∧ i.size = 1 ∧ i.bytes = 1 then pure (.apps, c.args.toList)
      else none
    | .builtin .len => do
      let t ← c.argTypes[0]?
      if c.args.size ≠ 1 then none
      else if kindA P t = 4 then pure (.lens, c.args.toList) else if kindA P t = 3 then pure (.lent, c.args.toList) else none
    | .builtin .min => some (.min, c.args.toList)
    | .builtin .max => some (.max, c.args.toList)
    | _ => none
  | _ => none

def guardA (ops : Array Oper) : Option (Nat × Bool) → Option (Option (Nat × Bool))
  | none => some none
  | some (j, want) => ((ops[j]?).bind (·.dst)).map fun g => some (g, want)

def dstOk (N : Nat) : Option Nat → Bool
  | some d => decide (d < N)
  | none => true

def operA (P : Program) (N : Nat) (ops : Array Oper) (fl : Bool) (o : Oper) : Option AOper :=
  (kOf P fl o).bind fun kx => (kx.2.mapM opdA).bind fun args => (guardA ops o.guard).bind fun guard =>
    if dstOk N o.dst = true then some { dst := o.dst, k := kx.1, args, guard } else none

/-- A call's other forms. -/
def modA (fl : Bool) (gs : List Nat) (o : AOper) : AOper :=
  match o.k with
  | .call f => if fl then { o with k := .callp f } else match gs with
    | [] => o
    | g :: gs => { o with k := .callk f o.args.length, args := o.args ++ (g :: gs).map .t }
  | _ => o

/-- Of hints n: below 10000: operation n is flagged; above: operation n % 10000 leaves the block of slot n / 10000 - 1 as it is. -/
def ghostsA (fl : List Nat) (i : Nat) : List Nat := (fl.filter fun n => decide (10000 ≤ n) && (n % 10000 == i)).map fun n => n / 10000 - 1

/-! ### When the order does not matter -/

def edgesOf (o : Oper) : List Nat := (o.after.toList.filter (Region.binds .any)).map (·.on)

/-- Of each operation those that must be ahead of it, a bit each. -/
def ancOf (ops : Array Oper) : Nat → List Nat
  | 0 => []
  | n + 1 =>
    let l := ancOf ops n
    l ++ [match ops[n]? with
      | some o => (edgesOf o).foldr (fun j m => (2 ^ j ||| l.getD j 0) ||| m) 0
      | none => 0]

def AK.makes : AK → Bool
  | .alloc _ | .box _ | .bslo _ | .mks _ _ _ => true
  | _ => false
def AK.apps? : AK → Bool
  | .app _ _ | .apps => true
  | _ => false

def AOper.looks (o : AOper) : List Nat :=
  (o.args.filterMap fun | .t i => some i | _ => none) ++ (match o.guard with | some (g, _) => [g] | none => [])
def apartA (x y : AOper) : Bool :=
  (match x.dst with | some d => !y.looks.contains d && y.dst != some d | none => true) && (match y.dst with | some d => !x.looks.contains d | none => true)

def AK.calls : AK → Bool
  | .call _ | .callv | .callk _ _ => true
  | _ => false

/-- Two operations, the first ahead of the second in the text, that may change places. 'nc': the region calls nothing. -/
def AK.callp? : AK → Bool
  | .callp _ => true
  | _ => false
/-- A reading of a block that a call leaves as it is. -/
def ghostOk (x y : AOper) : Bool :=
  match x.k, x.args, y.k with
  | .load _ _, [.t a], .callk _ n => (y.args.drop n).any fun | .t b => a == b | _ => false
  | _, _, _ => false
def commuteA (nc : Bool) (x y : AOper) : Bool :=
  apartA x y && (ghostOk x y || x.k.callp? || (x.k.quiet && y.k.callp?) || (nc && x.k.makes && y.k.makes) || ((x.k.quiet && y.k.quiet) || (x.k.quiet && !x.k.reads) || (y.k.quiet && !y.k.reads) || (y.k.quiet && (x.k.makes || (nc && x.k.apps?))) || (x.k.quiet && y.k.makes)))

def drawOk (ops : Array Oper) (l : List AOper) : Bool :=
  let anc := ancOf ops ops.size
  let nc := l.all fun o => !o.k.calls
  (List.range ops.size).all fun j =>
    match ops[j]?, l[j]? with
    | some oj, some aj =>
      (edgesOf oj).all (· < j) &&
      (List.range j).all fun i => match l[i]? with
        | some ai => (anc.getD j 0).testBit i || commuteA nc ai aj
        | none => false
    | _, _ => false

def ACode.erase : ACode → ACode
  | .skip => .skip
  | .region ops _ => .region ops []
  | .seq a b => .seq a.erase b.erase
  | .cond c a b => .cond c a.erase b.erase
  | .block id a => .block id a.erase
  | .loop a => .loop a.erase
  | .range g ps a b => .range g ps a.erase b.erase
  | .exit id => .exit id
  | .ret => .ret

def operAs (P : Program) (N : Nat) (ops : Array Oper) (fl : List Nat) : Nat → List Oper → Option (List AOper)
  | _, [] => some []
  | i, o :: l => do
    let a ← operA P N ops (fl.contains i) o
    let r ← operAs P N ops fl (i + 1) l
    pure (modA (fl.contains i) (ghostsA fl i) a :: r)

/-- 'hs': the operations, by region and place, that are taken in their other form. -/
def comp (P : Program) (N : Nat) (hs : List (Nat × Nat)) : Code → Option ACode
  | .skip => some .skip
  | .region id ops draw => do
    let l ← operAs P N ops ((hs.filter (·.1 == id)).map (·.2)) 0 ops.toList
    if draw && !drawOk ops l then none else pure (.region l [])
  | .seq a b => do pure (.seq (← comp P N hs a) (← comp P N hs b))
  | .cond c a b => do pure (.cond (← opdA c) (← comp P N hs a) (← comp P N hs b))
  | .block id a => do pure (.block id (← comp P N hs a))
  | .loop a => do pure (.loop (← comp P N hs a))
  | .rangeFunc g ps a b => do pure (.range (← opdA g) ps.toList (← comp P N hs a) (← comp P N hs b))
  | .exit id => some (.exit id)
  | .ret => some .ret
  | _ => none

/-- A function: its code, how many slots, which hold the results (a slot; a pointer's slot with its type: an aggregate of so many cells, or one cell). -/
inductive ARes where
  | t (i : Nat)
  | cell (i : Nat) (ag : Bool) (sz : Nat)

structure AFunc where
  n : Nat
  code : ACode
  res : List ARes

def resA (P : Program) : ResultVar → Option ARes
  | .tmp t => some (.t t)
  | .cell a t => do pure (.cell a (← aggA P t) (← sizeA P t))

def compF (P : Program) (hs : List (Nat × Nat)) (f : FuncId) : Option AFunc := do
  let fn ← P.funcs[f]?
  let c ← fn.body
  let a ← comp P fn.ntmps hs c
  let r ← fn.results.toList.mapM (resA P)
  pure { n := fn.ntmps, code := a, res := r }

def AFunc.erase (f : AFunc) : AFunc := { f with code := f.code.erase }

end Go.Abs

/-
  A program logic over abstract states, part E: what an operation does to the world is what it does to the abstract state. Operations that keep the state.
-/
namespace Go.Abs
open Go Go.RowKit

theorem VRel.one_inv {K : Kr} {x : AVal} {m : List Value} (h : VRel K [x] m) : ∃ u, m = [u] ∧ VR K x u := by
  obtain ⟨u, m', rfl, h1, h2⟩ := h.ex
  exact ⟨u, by rw [h2.nil_inv], h1⟩
theorem VRel.two_inv {K : Kr} {x y : AVal} {m : List Value} (h : VRel K [x, y] m) : ∃ u v, m = [u, v] ∧ VR K x u ∧ VR K y v := by
  obtain ⟨u, m', rfl, h1, h2⟩ := h.ex
  obtain ⟨v, rfl, h3⟩ := h2.one_inv
  exact ⟨u, v, rfl, h1, h3⟩
theorem VRel.three_inv {K : Kr} {x y z : AVal} {m : List Value} (h : VRel K [x, y, z] m) : ∃ u v t, m = [u, v, t] ∧ VR K x u ∧ VR K y v ∧ VR K z t := by
  obtain ⟨u, m', rfl, h1, h2⟩ := h.ex
  obtain ⟨v, t, rfl, h3, h4⟩ := h2.two_inv
  exact ⟨u, v, t, rfl, h1, h3, h4⟩

theorem VR.int_inv {K : Kr} {k : IntKind} {n : Int} {v : Value} (h : VR K (.int k n) v) : v = .int k n := by unfold VR at h; cases h; rfl
theorem VR.bool_inv {K : Kr} {b : Bool} {v : Value} (h : VR K (.bool b) v) : v = .bool b := by unfold VR at h; cases h; rfl
theorem VR.str_inv {K : Kr} {s : List UInt8} {v : Value} (h : VR K (.str s) v) : v = .string ⟨s.toArray⟩ := by unfold VR at h; cases h; rfl
theorem VR.agg_inv {K : Kr} {cs : List AVal} {v : Value} (h : VR K (.agg cs) v) : ∃ vs, v = .agg vs.toArray ∧ VRel K cs vs ∧ ∀ c ∈ cs, c.one = true := by
  unfold VR at h; cases h with | agg h1 hv _ => exact ⟨_, rfl, hv, h1⟩
theorem VR.tup_inv {K : Kr} {cs : List AVal} {v : Value} (h : VR K (.tup cs) v) : ∃ vs, v = .tuple vs.toArray ∧ VRel K cs vs := by
  unfold VR at h; cases h with | tup hv _ => exact ⟨_, rfl, hv⟩
theorem VR.fn_inv {K : Kr} {f : FuncId} {a b : List AVal} {v : Value} (h : VR K (.fn f a b) v) : ∃ va vb, v = .func (.func f) va.toArray vb.toArray ∧ VRel K a va ∧ VRel K b vb := by
  unfold VR at h; cases h with | fn h1 h2 _ => exact ⟨_, _, rfl, h1, h2⟩

theorem VR.int {K : Kr} {k : IntKind} {n : Int} : VR K (.int k n) (.int k n) := VRel.int .nil
theorem VR.bool {K : Kr} {b : Bool} : VR K (.bool b) (.bool b) := VRel.bool .nil
theorem VR.str {K : Kr} {s : List UInt8} : VR K (.str s) (.string ⟨s.toArray⟩) := VRel.str .nil

/-- What a run of an operation's own part must come to. -/
def GoodV (K : Kr) (R : AVal → AHeap → Prop) : Result Value → Prop
  | .ok v w' => ∃ K' r σ', K.le K' ∧ Rel K' σ' w' ∧ VR K' r v ∧ R r σ'
  | _ => False

theorem GoodV.same {K : Kr} {R : AVal → AHeap → Prop} {σ : AHeap} {w : World} {x : AVal} {v : Value} {res : Result Value} (e : res = .ok v w) (r : Rel K σ w) (h : VR K x v) (hR : R x σ) : GoodV K R res := by
  subst e
  exact ⟨K, x, σ, Kr.le.refl K, r, h, hR⟩

def Good (P : Program) (K : Kr) (R : AVal → AHeap → Prop) : Result Next → Prop
  | .ok (.value v) w' => ∃ K' r σ', K.le K' ∧ Rel K' σ' w' ∧ VR K' r v ∧ R r σ'
  | .ok .skip w' => ∃ K' σ', K.le K' ∧ Rel K' σ' w' ∧ R (.tup []) σ'
  | .ok (.enter f args) w' => Calls P f args w' fun e w'' => ∃ v K' r σ', e = .returned v ∧ K.le K' ∧ Rel K' σ' w'' ∧ VR K' r v ∧ R r σ'
  | _ => False

theorem Good.value {P : Program} {K : Kr} {R : AVal → AHeap → Prop} {s : Sem Value} {w : World} (h : GoodV K R (s.run P w)) :
    Good P K R ((do pure (Next.value (← s)) : Sem Next).run P w) := by
  simp only [Sem.run_bind, Sem.run_pure]
  cases hr : s.run P w with
  | ok v w' => rw [hr] at h; exact h
  | halt x w' => rw [hr] at h; exact h.elim

theorem Good.skip {P : Program} {K : Kr} {R : AVal → AHeap → Prop} {s : Sem Unit} {w w' : World} (e : s.run P w = .ok () w') {K' : Kr} {σ' : AHeap} (hK : K.le K') (r : Rel K' σ' w') (h : R (.tup []) σ') :
    Good P K R ((do s; pure Next.skip : Sem Next).run P w) := by
  simp only [Sem.run_bind, e, Result.andThen_ok, Sem.run_pure]
  exact ⟨K', σ', hK, r, h⟩

/-! ### Numbers, strings, bools -/

theorem bits_eq (op : BinOp) (h : op = .and ∨ op = .or ∨ op = .xor ∨ op = .andNot) (P : Program) (k : IntKind) (a b : Int) (w : World) :
    (Op.intBits op k a b).run P w = .ok (.int k (intBits op k a b)) w := by
  rcases h with rfl | rfl | rfl | rfl <;> rfl

theorem beq_dec (a b : List UInt8) : (a == b) = decide (a = b) := by rw [Bool.eq_iff_iff]; simp

theorem run_binOp_int {K : Kr} (P : Program) (op : BinOp) (t : TypeId) (k k' : IntKind) (a b : Int) (x : AVal) (h : abin op [.int k a, .int k' b] = some x) (w : World) :
    ∃ v, (binOp op t (.int k a) (.int k' b)).run P w = .ok v w ∧ VR K x v := by
  simp only [abin] at h
  split at h
  · rename_i hs
    cases op <;> simp [isShift] at hs
    · simp only [binShift] at h
      split at h
      · cases h
      · rename_i hn
        simp only [Option.some.injEq] at h; subst h
        exact ⟨_, by simp [binOp, Op.shift, hn], .int⟩
    · simp only [binShift] at h
      split at h
      · cases h
      · rename_i hn
        simp only [Option.some.injEq] at h; subst h
        exact ⟨_, by simp [binOp, Op.shift, hn], .int⟩
  · rename_i hs
    split at h
    · rename_i hk
      subst hk
      cases op <;> simp only [isShift, Bool.false_eq_true, not_false_eq_true, not_true_eq_false] at hs <;> simp only [binInt] at h
      case quo =>
        split at h
        · cases h
        · rename_i hb
          simp only [Option.some.injEq] at h; subst h
          exact ⟨_, by simp [binOp, Op.intDiv, hb], .int⟩
      case rem =>
        split at h
        · cases h
        · rename_i hb
          simp only [Option.some.injEq] at h; subst h
          exact ⟨_, by simp [binOp, Op.intDiv, hb], .int⟩
      all_goals (simp only [Option.some.injEq] at h; subst h)
      case and => exact ⟨_, by simp only [binOp, ne_eq, not_true_eq_false, if_false]; exact bits_eq _ (by simp) _ _ _ _ _, .int⟩
      case or => exact ⟨_, by simp only [binOp, ne_eq, not_true_eq_false, if_false]; exact bits_eq _ (by simp) _ _ _ _ _, .int⟩
      case xor => exact ⟨_, by simp only [binOp, ne_eq, not_true_eq_false, if_false]; exact bits_eq _ (by simp) _ _ _ _ _, .int⟩
      case andNot => exact ⟨_, by simp only [binOp, ne_eq, not_true_eq_false, if_false]; exact bits_eq _ (by simp) _ _ _ _ _, .int⟩
      case eql => exact ⟨.bool (decide (a = b)), by simp [binOp, Op.intCmp]; rfl, .bool⟩
      case neq => exact ⟨.bool (decide (a ≠ b)), by simp [binOp, Op.intCmp, bne]; rfl, .bool⟩
      all_goals first
        | exact ⟨_, by simp [binOp, Op.intArith], .int⟩
        | exact ⟨_, by simp [binOp, Op.intCmp], .bool⟩
    · cases h

theorem run_binOp_str {K : Kr} (P : Program) (op : BinOp) (t : TypeId) (a b : List UInt8) (x : AVal) (h : abin op [.str a, .str b] = some x) (w : World) :
    ∃ v, (binOp op t (.string ⟨a.toArray⟩) (.string ⟨b.toArray⟩)).run P w = .ok v w ∧ VR K x v := by
  simp only [abin] at h
  cases op <;> simp only [binStr, Option.some.injEq, reduceCtorEq] at h
  case add =>
    split at h
    · rename_i hl
      simp only [Option.some.injEq] at h; subst h
      refine ⟨.string ⟨(a ++ b).toArray⟩, ?_, .str⟩
      simp only [maxLen] at hl
      have hs : ¬ ((((⟨a.toArray⟩ : ByteArray).size + (⟨b.toArray⟩ : ByteArray).size : Nat) : Int) > IntKind.i64.max) := by
        simp [ByteArray.size, IntKind.max, IntKind.signed, IntKind.bits]; omega
      simp only [binOp, Op.stringOp]
      rw [if_neg hs]
      simp only [Sem.run_pure]
      congr 2
    · cases h
  all_goals
    subst h
    refine ⟨_, ?_, .bool⟩
    simp [binOp, Op.stringOp, beq_dec]

theorem run_equalIn_bool (P : Program) (d : Nat) (t : TypeId) (ht : P.underlying t = some .bool) (a b : Bool) (w : World) : (Op.equalIn (d + 1) t (.bool a) (.bool b)).run P w = .ok (a == b) w := by
  simp only [Op.equalIn, Sem.run_bind, run_underlying ht, Result.andThen_ok, Sem.run_pure]

theorem run_binOp_bool {K : Kr} (P : Program) (op : BinOp) (t : TypeId) (ht : P.underlying t = some .bool) (a b : Bool) (x : AVal) (h : abinb op [.bool a, .bool b] = some x) (w : World) :
    ∃ v, (binOp op t (.bool a) (.bool b)).run P w = .ok v w ∧ VR K x v := by
  simp only [abinb] at h
  cases op <;> simp only [binBool, Option.some.injEq, reduceCtorEq] at h
  all_goals
    subst h
    refine ⟨_, ?_, .bool⟩
    have e := run_equalIn_bool P 9999 t ht a b w
    simp only [binOp, Op.equal, Sem.run_bind, show Op.maxDepth = 9999 + 1 from rfl, e, Result.andThen_ok, Sem.run_pure]

theorem run_eqGuard (P : Program) (op : BinOp) (t : TypeId) (x y : Operand) (a b : Value) (w : World)
    (h : (∃ k n, a = .int k n) ∨ (∃ s, a = .string s) ∨ (∃ s, a = .bool s) ∨ (∃ p n c, a = .slice p n c)) : (eqGuard op t x y a b).run P w = .ok () w := by
  unfold eqGuard
  rcases h with ⟨k, n, rfl⟩ | ⟨s, rfl⟩ | ⟨s, rfl⟩ | ⟨p, n, c, rfl⟩ <;> cases op <;> simp

/-! ### Cells -/

def CellsAt (w : World) (a : Addr) (vs : List Value) : Prop := ∀ j v, vs[j]? = some v → w.cell? (a.add j) = some v

theorem addr_add (a : Addr) (n : Nat) (h : a.spot = none) : a.add n = ⟨a.block, a.off + n, none⟩ := by
  obtain ⟨b, o, s⟩ := a
  simp at h
  subst h
  exact Addr.add_lit b o n

theorem CellsAt.take {w : World} {a : Addr} {vs : List Value} (h : CellsAt w a vs) (n : Nat) : CellsAt w a (vs.take n) := by
  intro j v e
  rw [List.getElem?_take] at e
  split at e
  · exact h j v e
  · cases e

theorem CellsAt.drop {w : World} {b o : Nat} {vs : List Value} (h : CellsAt w ⟨b, o, none⟩ vs) (n : Nat) : CellsAt w ⟨b, o + n, none⟩ (vs.drop n) := by
  intro j v e
  rw [List.getElem?_drop] at e
  have := h _ v e
  rw [addr_add _ _ rfl] at this ⊢
  simpa [Nat.add_assoc] using this

theorem imm_cells {K : Kr} {σ : AHeap} {w : World} (r : Rel K σ w) {a : Addr} {vs : List Value} (hs : a.spot = none) (hm : ∀ j v, vs[j]? = some v → K.imm a.block (a.off + j) = some v) : CellsAt w a vs := by
  intro j v e
  rw [addr_add _ _ hs]
  exact r.imm _ _ _ (hm j v e)

/-- An owned row's cells. -/
theorem Rel.ownCells {K : Kr} {σ : AHeap} {w : World} (r : Rel K σ w) {b sz : Nat} {xs : List AVal} (h : hget σ b = some (.cells sz xs)) {cb s c : Nat} (hl : K.loc b = some ⟨some cb, s, c⟩) :
    s = sz ∧ (∀ x ∈ xs, x.elem sz) ∧ xs.length ≤ c ∧ c ≤ maxLen ∧ K.w0.heap.size ≤ cb ∧ ∃ cs ty, w.heap[cb]? = some (.cells cs ty (0, 0)) ∧ cs.size = c * sz ∧ VRel K (flat xs) (cs.toList.take (xs.length * sz)) ∧
      CellsAt w ⟨cb, 0, none⟩ (cs.toList.take (xs.length * sz)) := by
  have ho := r.own b _ (hget_mem h)
  rcases ho.2 with ⟨p, h1, hx⟩ | ⟨cb', p, cs, ty, h1, h2, h3, h4, h5, h6, h7, h8⟩
  · rw [hl] at h1; simp at h1
  · rw [hl] at h1
    simp at h1
    obtain ⟨rfl, rfl, rfl⟩ := h1
    refine ⟨rfl, ho.1, h6, h7, h2, cs, ty, h4, h5, h8, fun j v e => ?_⟩
    rw [addr_add _ _ rfl, cell_of_row w cb _ cs ty _ h4]
    rw [List.getElem?_take] at e
    split at e
    · simpa using e
    · cases e

def ptrCells (σ : AHeap) : AVal → Option (List AVal)
  | .iptr cs => some cs
  | .ptr b i o =>
    match hget σ b with
    | some (.cells _ xs) => (xs[i]?).map fun x => x.cells.drop o
    | none => none
  | _ => none

theorem ptr_cells {K : Kr} {σ : AHeap} {w : World} (r : Rel K σ w) {p : AVal} {v : Value} (hv : VR K p v) {cs : List AVal} (h : ptrCells σ p = some cs) :
    ∃ a vs, v = .pointer (some a) ∧ VRel K cs vs ∧ CellsAt w a vs ∧ ∀ c ∈ cs, c.one = true := by
  unfold VR at hv
  cases hv with
  | iptr hs h1 hm hv _ =>
    simp only [ptrCells, Option.some.injEq] at h
    subst h
    exact ⟨_, _, rfl, hv, imm_cells r hs hm, h1⟩
  | @ptr b i o cb sz pcap _ _ hl _ =>
    simp only [ptrCells] at h
    split at h
    · rename_i s xs hg
      obtain ⟨rfl, he, hx, hm, _, cs', ty, hw, hs, hv, hc⟩ := r.ownCells hg hl
      simp only [Option.map_eq_some_iff] at h
      obtain ⟨x, hxi, rfl⟩ := h
      have hx' := hv.at_ he hxi
      refine ⟨_, _, rfl, hx'.drop o, ?_, fun c hc => (he x (List.mem_of_getElem? hxi)).2 c (List.mem_of_mem_drop hc)⟩
      have := ((hc.drop (i * sz)).take sz).drop o
      simpa using this
    · cases h
  | _ => simp [ptrCells] at h

theorem part_cells {K : Kr} {ag : Bool} {sz : Nat} {cs : List AVal} {x : AVal} (h : part_ ag sz cs = some x) {vs : List Value} (hv : VRel K cs vs) (h1 : ∀ c ∈ cs, c.one = true) :
    (ag = true ∧ sz ≤ vs.length ∧ VR K x (.agg (vs.take sz).toArray)) ∨ (ag = false ∧ ∃ v, vs[0]? = some v ∧ VR K x v) := by
  unfold part_ at h
  split at h
  · rename_i ha
    split at h
    · rename_i hl
      simp only [Option.some.injEq] at h
      subst h
      refine .inl ⟨ha, by rw [← hv.length]; exact hl, .agg (fun c hc => h1 c (List.mem_of_mem_take hc)) (hv.take sz) .nil⟩
    · cases h
  · rename_i ha
    refine .inr ⟨by simpa using ha, ?_⟩
    rw [List.head?_eq_getElem?] at h
    obtain ⟨v, h2, h3⟩ := hv.get h
    exact ⟨v, h2, h3⟩

theorem run_isAgg {P : Program} {t : TypeId} {ag : Bool} (h : aggA P t = some ag) (w : World) : (isAgg t).run P w = .ok ag w := by
  unfold aggA at h
  simp only [Option.map_eq_some_iff] at h
  obtain ⟨d, hd, rfl⟩ := h
  unfold isAgg
  simp only [Sem.run_bind, run_underlying hd, Result.andThen_ok]
  cases d <;> rfl

theorem run_sizeOf' {P : Program} {t : TypeId} {s : Nat} (h : sizeA P t = some s) (w : World) : (sizeOf t).run P w = .ok s w := by
  unfold sizeA at h
  simp only [Option.map_eq_some_iff] at h
  obtain ⟨i, hi, rfl⟩ := h
  simp [sizeOf, typeInfo, hi]

theorem run_load' {P : Program} {w : World} {a : Addr} {v : Value} (h : w.cell? a = some v) : (load a).run P w = .ok v w := by simp [h]

theorem run_loadVar {P : Program} {K : Kr} {w : World} {t : TypeId} {ag : Bool} {sz : Nat} (hag : aggA P t = some ag) (hsz : sizeA P t = some sz) {a : Addr} {cs : List AVal} {vs : List Value} {x : AVal}
    (hp : part_ ag sz cs = some x) (hv : VRel K cs vs) (h1 : ∀ c ∈ cs, c.one = true) (hc : CellsAt w a vs) : ∃ v, (loadVar t a).run P w = .ok v w ∧ VR K x v := by
  unfold loadVar
  simp only [Sem.run_bind, run_isAgg hag, Result.andThen_ok]
  rcases part_cells hp hv h1 with ⟨rfl, hl, hx⟩ | ⟨rfl, v, h0, hx⟩
  · have hl' := run_loadCells_list (P := P) w a (vs.take sz) (hc.take sz)
    have hlen : (vs.take sz).length = sz := by simp; omega
    rw [hlen] at hl'
    refine ⟨_, ?_, hx⟩
    simp only [if_true, Sem.run_bind, run_sizeOf' hsz, Result.andThen_ok, hl', Sem.run_pure]
  · refine ⟨v, ?_, hx⟩
    have := hc 0 v h0
    rw [Addr.add_zero'] at this
    simp only [Bool.false_eq_true, if_false]
    exact run_load' this

theorem aload_eq (σ : AHeap) (ag : Bool) (sz : Nat) (p : AVal) : aload σ ag sz [p] = (ptrCells σ p).bind (part_ ag sz) := by
  cases p <;> simp only [aload, ptrCells, Option.bind_none, Option.bind_some]
  split <;> simp [*, Option.bind_map, Function.comp_def]

/-- The elements of a slice, in memory. -/
theorem elems_cells {K : Kr} {σ : AHeap} {w : World} (r : Rel K σ w) {sz : Nat} {x : AVal} {v : Value} (hv : VR K x v) {ys : List AVal} (h : elemsOf σ sz x = some ys) :
    ∃ a cap vs, v = .slice a ys.length cap ∧ VRel K (flat ys) vs ∧ (∀ y ∈ ys, y.elem sz) ∧ ys.length ≤ cap ∧ (ys = [] ∨ ∃ a', a = some a' ∧ a'.spot = none ∧ CellsAt w a' vs) := by
  unfold VR at hv
  cases hv with
  | slc0 hf _ =>
    simp only [elemsOf] at h
    split at h
    · simp only [Option.some.injEq] at h; subst h
      exact ⟨_, _, [], rfl, .nil, by simp, Nat.zero_le _, .inl rfl⟩
    · cases h
  | @slc s xs full a n cap vs _ _ hn he hs hm hv hc hf _ =>
    simp only [elemsOf] at h
    split at h
    · rename_i hor
      simp only [Option.some.injEq] at h; subst h
      subst hn
      refine ⟨_, _, vs, rfl, hv, ?_, hc, .inr ⟨a, rfl, hs, imm_cells r hs hm⟩⟩
      rcases hor with rfl | rfl
      · exact he
      · simp
    · cases h
  | @arr b off n cb s pcap cap _ _ hl ho hn _ =>
    simp only [elemsOf] at h
    split at h
    · rename_i s' xs hg
      split at h
      · rename_i hc
        obtain ⟨rfl, hc⟩ := hc
        simp only [Option.some.injEq] at h; subst h
        obtain ⟨rfl, he, hx, hm, _, cs', ty, hw, hs, hv, hcell⟩ := r.ownCells hg hl
        have hlen : ((xs.drop off).take n).length = n := by simp; omega
        refine ⟨_, _, ((cs'.toList.take (xs.length * s)).drop (off * s)).take (n * s), by rw [hlen], ?_, fun y hy => he y (List.mem_of_mem_drop (List.mem_of_mem_take hy)), by rw [hlen]; exact hn, .inr ⟨_, rfl, rfl, ?_⟩⟩
        · rw [flat_take (fun y hy => he y (List.mem_of_mem_drop hy)), flat_drop he]
          exact (hv.drop _).take _
        · have := (hcell.drop (off * s)).take (n * s)
          simpa using this
      · cases h
    · cases h
  | @arr0 b s pcap a _ _ hl _ =>
    simp only [elemsOf] at h
    split at h
    · rename_i s' xs hg
      split at h
      · rename_i hc
        simp only [Option.some.injEq] at h; subst h
        exact ⟨a, 0, [], by simp, by simpa using VRel.nil, by simp, by simp, .inl (by simp)⟩
      · cases h
    · cases h
  | _ => simp [elemsOf] at h

theorem run_loadCells_zero (P : Program) (w : World) (a : Addr) : (loadCells a 0).run P w = .ok #[] w := by
  simpa using run_loadCells_list (P := P) w a [] (by simp)

theorem run_firstCells {P : Program} {K : Kr} {w : World} {sz : Nat} {ys : List AVal} {vs : List Value} (he : ∀ y ∈ ys, y.elem sz) (hv : VRel K (flat ys) vs) {a : Option Addr} {cap n : Nat}
    (h : ys = [] ∨ ∃ a', a = some a' ∧ a'.spot = none ∧ CellsAt w a' vs) : (Builtin.firstCells sz ys.length (.slice a n cap)).run P w = .ok vs.toArray w := by
  have hl : vs.length = ys.length * sz := by rw [← hv.length, flat_length he]
  rcases h with rfl | ⟨a', rfl, _, hc⟩
  · have : vs = [] := by simpa using hl
    subst this
    cases a with
    | none => simp [Builtin.firstCells]
    | some a => simp only [Builtin.firstCells, List.length_nil, Nat.zero_mul]; exact run_loadCells_zero P w a
  · simp only [Builtin.firstCells]
    rw [← hl]
    exact run_loadCells_list (P := P) w a' vs hc

theorem toByte_some {c : AVal} {u : UInt8} (h : toByte c = some u) : ∃ n, c = .int .u8 n ∧ u = UInt8.ofNat n.toNat := by
  unfold toByte at h
  split at h
  · rename_i n
    simp only [Option.some.injEq] at h
    exact ⟨n, rfl, h.symm⟩
  · cases h

theorem toBytes_vals {K : Kr} : ∀ {l : List AVal} {bs : List UInt8} {m : List Value}, toBytes l = some bs → VRel K l m →
    ∃ ns : List Int, m = ns.map (Value.int .u8) ∧ bs = ns.map fun n => UInt8.ofNat n.toNat
  | [], bs, m, h, hv => by
    simp [toBytes] at h; subst h
    exact ⟨[], hv.nil_inv, rfl⟩
  | c :: l, bs, m, h, hv => by
    simp only [toBytes, List.mapM_cons, Option.bind_eq_bind, Option.bind_eq_some_iff, Option.pure_def, Option.some.injEq] at h
    obtain ⟨u, hu, bs', hbs, rfl⟩ := h
    obtain ⟨v, m', rfl, h1, h2⟩ := hv.ex
    obtain ⟨n, rfl, rfl⟩ := toByte_some hu
    obtain ⟨ns, rfl, rfl⟩ := toBytes_vals hbs h2
    exact ⟨n :: ns, by rw [h1.int_inv]; rfl, rfl⟩

theorem foldl_push (ns : List Int) : ∀ s : ByteArray, ns.foldl (fun r n => r.push (UInt8.ofNat n.toNat)) s = ⟨s.data ++ (ns.map fun n => UInt8.ofNat n.toNat).toArray⟩ := by
  induction ns with
  | nil => intro s; simp
  | cons n ns ih =>
    intro s
    simp only [List.foldl_cons, ih, List.map_cons]
    apply ByteArray.ext
    simp

end Go.Abs

/-
  A program logic over abstract states, part F: operations that keep the state.
-/
namespace Go.Abs
open Go Go.RowKit

variable {P : Program} {K : Kr} {σ : AHeap} {w : World}

theorem sliceBound_ok (x : Int) (k : IntKind) (y : Nat) (code : BoundsCode) (h : 0 ≤ x ∧ x ≤ y) : (Instr.sliceBound (.int k x) y code).run P w = .ok x.toNat w := by
  unfold Instr.sliceBound
  simp [asIntOf, h]

theorem run_sliceBounds {lo hi mx : Bool} {l : List AVal} {vlo vhi vmx : Option Value} {isS : Bool} {len cap : Nat} {a b c : Int}
    (hlen : len ≤ cap) (hb : bnds len lo hi mx l = some (a, b, c)) (hlo : vlo.isSome = lo) (hhi : vhi.isSome = hi) (hmx : vmx.isSome = mx)
    (hv : VRel K l (vlo.toList ++ vhi.toList ++ vmx.toList)) (h : 0 ≤ a ∧ a ≤ b ∧ b ≤ c ∧ c ≤ len) :
    (Instr.sliceBounds isS len cap vlo vhi vmx).run P w = .ok (a.toNat, b.toNat, if mx then c.toNat else cap) w := by
  obtain ⟨h1, h2, h3, h4⟩ := h
  have e1 : ∀ {y : Nat} {code : BoundsCode} {k : IntKind} {x : Int}, 0 ≤ x → x ≤ (y : Int) → (Instr.sliceBound (.int k x) y code).run P w = .ok x.toNat w := fun p q => sliceBound_ok _ _ _ _ ⟨p, q⟩
  cases vlo <;> cases vhi <;> cases vmx <;> simp at hlo hhi hmx <;> subst hlo hhi hmx <;> simp only [bnds, reduceCtorEq] at hb
  · split at hb
    · simp only [Option.some.injEq, Prod.mk.injEq] at hb
      obtain ⟨rfl, rfl, rfl⟩ := hb
      simp [Instr.sliceBounds]
    · cases hb
  · split at hb
    · simp only [Option.some.injEq, Prod.mk.injEq] at hb
      obtain ⟨rfl, rfl, rfl⟩ := hb
      obtain ⟨v, e, h5⟩ := hv.one_inv
      simp at e; subst e
      rw [h5.int_inv]
      rename_i k1 x1
      have q := e1 (y := cap) (code := (if isS then BoundsCode.sliceAcap else BoundsCode.sliceAlen)) (k := k1) (x := x1) (by omega) (by omega)
      simp [Instr.sliceBounds, q]
    · cases hb
  · split at hb
    · simp only [Option.some.injEq, Prod.mk.injEq] at hb
      obtain ⟨rfl, rfl, rfl⟩ := hb
      obtain ⟨u, v, e, h5, h6⟩ := hv.two_inv
      simp at e; obtain ⟨rfl, rfl⟩ := e
      rw [h5.int_inv, h6.int_inv]
      rename_i k1 x1 k2 x2
      have q1 := e1 (y := cap) (code := (if isS then BoundsCode.slice3Acap else BoundsCode.slice3Alen)) (k := k2) (x := x2) (by omega) (by omega)
      have q2 := e1 (y := x2.toNat) (code := BoundsCode.slice3B) (k := k1) (x := x1) (by omega) (by omega)
      simp [Instr.sliceBounds, q1, q2]
    · cases hb
  · split at hb
    · simp only [Option.some.injEq, Prod.mk.injEq] at hb
      obtain ⟨rfl, rfl, rfl⟩ := hb
      obtain ⟨v, e, h5⟩ := hv.one_inv
      simp at e; subst e
      rw [h5.int_inv]
      rename_i k1 x1
      have q := e1 (y := len) (code := BoundsCode.sliceB) (k := k1) (x := x1) (by omega) (by omega)
      simp [Instr.sliceBounds, q]
    · cases hb
  · split at hb
    · simp only [Option.some.injEq, Prod.mk.injEq] at hb
      obtain ⟨rfl, rfl, rfl⟩ := hb
      obtain ⟨u, v, e, h5, h6⟩ := hv.two_inv
      simp at e; obtain ⟨rfl, rfl⟩ := e
      rw [h5.int_inv, h6.int_inv]
      rename_i k1 x1 k2 x2
      have q1 := e1 (y := cap) (code := (if isS then BoundsCode.sliceAcap else BoundsCode.sliceAlen)) (k := k2) (x := x2) (by omega) (by omega)
      have q2 := e1 (y := x2.toNat) (code := BoundsCode.sliceB) (k := k1) (x := x1) (by omega) (by omega)
      simp [Instr.sliceBounds, q1, q2]
    · cases hb
  · split at hb
    · simp only [Option.some.injEq, Prod.mk.injEq] at hb
      obtain ⟨rfl, rfl, rfl⟩ := hb
      obtain ⟨u, v, t, e, h5, h6, h7⟩ := hv.three_inv
      simp at e; obtain ⟨rfl, rfl, rfl⟩ := e
      rw [h5.int_inv, h6.int_inv, h7.int_inv]
      rename_i k1 x1 k2 x2 k3 x3
      have q1 := e1 (y := cap) (code := (if isS then BoundsCode.slice3Acap else BoundsCode.slice3Alen)) (k := k3) (x := x3) (by omega) (by omega)
      have q2 := e1 (y := x3.toNat) (code := BoundsCode.slice3B) (k := k2) (x := x2) (by omega) (by omega)
      have q3 := e1 (y := x2.toNat) (code := BoundsCode.slice3C) (k := k1) (x := x1) (by omega) (by omega)
      simp [Instr.sliceBounds, q1, q2, q3]
    · cases hb

/-- A slice of a slice that nobody writes. -/
theorem run_sub {sz : Nat} {lo hi mx : Bool} {x : AVal} {l : List AVal} {v : AVal} (h : asub sz lo hi mx (x :: l) = some v) {u : Value} (hx : VR K x u) {t e : TypeId} (ht : P.underlying t = some (.slice e))
    (hsz : sizeA P e = some sz) {vlo vhi vmx : Option Value} (hlo : vlo.isSome = lo) (hhi : vhi.isSome = hi) (hmx : vmx.isSome = mx)
    (hv : VRel K l (vlo.toList ++ vhi.toList ++ vmx.toList)) : ∃ r, (Instr.slice t u vlo vhi vmx).run P w = .ok r w ∧ VR K v r := by
  unfold VR at hx
  cases hx with
  | @slc0 s full a cap _ _ hf _ =>
    simp only [asub, Option.bind_eq_some_iff] at h
    obtain ⟨⟨p, q, c⟩, hb, h⟩ := h
    simp only at h
    split at h
    · rename_i hc
      simp only [Option.some.injEq] at h; subst h
      replace hc := hc.1
      have hr := run_sliceBounds (P := P) (w := w) (isS := true) (len := 0) (cap := cap) (Nat.zero_le _) (by simpa using hb) hlo hhi hmx hv (by simpa using hc)
      have hp : p = 0 := by simp at hc; omega
      have hq : q = 0 := by simp at hc; omega
      have hcc : c = 0 := by simp at hc; omega
      subst hp hq hcc
      refine ⟨_, by simp [Instr.slice, run_underlying ht, hr, run_sizeOf' hsz]; rfl, ?_⟩
      cases mx with
      | true => exact VRel.slc0 (fun _ => by simp) .nil
      | false =>
        cases full with
        | true => have := hf rfl; subst this; exact VRel.slc0 (fun _ => by simp) .nil
        | false => exact VRel.slc0 (by simp) .nil
    · cases h
  | @slc s xs full a n cap vs _ _ hn he hs hm hvv hc hf _ =>
    simp only [asub, Option.bind_eq_some_iff] at h
    obtain ⟨⟨p, q, c⟩, hb, h⟩ := h
    simp only at h
    split at h
    · rename_i hcnd
      simp only [Option.some.injEq] at h; subst h
      subst hn
      obtain ⟨hcnd, hsz'⟩ := hcnd
      have hr := run_sliceBounds (P := P) (w := w) (isS := true) (cap := cap) hc hb hlo hhi hmx hv hcnd
      obtain ⟨c1, c2, c3, c4⟩ := hcnd
      have hmm : ∃ m, m = (if mx then c.toNat else cap) ∧ q.toNat ≤ m ∧ (mx = true → m = c.toNat) ∧ (mx = false → m = cap) := by
        refine ⟨_, rfl, ?_, ?_, ?_⟩ <;> cases mx <;> simp <;> omega
      obtain ⟨m, hmm, hqm, hm1, hm2⟩ := hmm
      rw [← hmm] at hr
      refine ⟨_, by simp [Instr.slice, run_underlying ht, hr, run_sizeOf' hsz]; rfl, ?_⟩
      have hlen : ((xs.drop p.toNat).take (q - p).toNat).length = q.toNat - p.toNat := by simp; omega
      have hfull : (if mx = true then decide (q = c) else full && decide (q = (xs.length : Int))) = true → m - p.toNat = q.toNat - p.toNat := by
        cases mx with
        | true => simp; rw [hm1 rfl]; omega
        | false => simp; intro hfl hq; have := hf hfl; rw [hm2 rfl]; omega
      by_cases hemp : q.toNat - p.toNat = 0
      · have hnil : (xs.drop p.toNat).take (q - p).toNat = [] := List.eq_nil_of_length_eq_zero (by rw [hlen]; exact hemp)
        rw [hnil, hemp]
        exact VRel.slc0 (fun hfu => by have := hfull hfu; omega) .nil
      · have hmp : ¬ m = p.toNat := by omega
        have hsz2 : s = sz := by
          rcases hsz' with h | h
          · exact h
          · subst h; simp at hlen; omega
        subst hsz2
        rw [if_neg hmp, addr_add _ _ hs]
        refine VRel.slc hlen (fun y hy => he y (List.mem_of_mem_drop (List.mem_of_mem_take hy))) rfl (vs := (vs.drop (p.toNat * s)).take ((q - p).toNat * s)) ?_ ?_ (by omega) hfull .nil
        · intro j u hj
          rw [List.getElem?_take] at hj
          split at hj
          · rw [List.getElem?_drop] at hj
            have := hm _ _ hj
            simpa [Nat.add_assoc] using this
          · cases hj
        · have e := flat_take (xs := xs.drop p.toNat) (fun y hy => he y (List.mem_of_mem_drop hy)) (q - p).toNat
          rw [flat_drop he] at e
          unfold flat at e
          rw [e]
          exact (hvv.drop _).take _
    · cases h
  | @arr b off n cb s pcap cap _ _ hl ho hn _ =>
    simp only [asub, Option.bind_eq_some_iff] at h
    obtain ⟨⟨p, q, c⟩, hb, h⟩ := h
    simp only at h
    split at h
    · rename_i hcnd
      obtain ⟨hcnd, hs⟩ := hcnd
      have hr := run_sliceBounds (P := P) (w := w) (isS := true) (cap := cap) hn hb hlo hhi hmx hv hcnd
      obtain ⟨c1, c2, c3, c4⟩ := hcnd
      replace hsz : sizeA P e = some s := by rw [hsz, hs]
      clear hs
      have hmm : ∃ m, m = (if mx then c.toNat else cap) ∧ q.toNat ≤ m ∧ m ≤ cap := by
        refine ⟨_, rfl, ?_, ?_⟩ <;> cases mx <;> simp <;> omega
      obtain ⟨m, hmm, hqm, hmc⟩ := hmm
      rw [← hmm] at hr
      refine ⟨_, by simp [Instr.slice, run_underlying ht, hr, run_sizeOf' hsz]; rfl, ?_⟩
      split at h
      · rename_i hp
        subst hp
        simp only [Option.some.injEq] at h; subst h
        have hadd : (if m = (0 : Int).toNat then some (⟨cb, off * s, none⟩ : Addr) else some ((⟨cb, off * s, none⟩ : Addr).add ((0 : Int).toNat * s))) = some ⟨cb, off * s, none⟩ := by
          split
          · rfl
          · rw [addr_add _ _ rfl]; simp
        rw [hadd]
        have := VRel.arr (K := K) (off := off) (n := q.toNat) (cap := m) hl (by omega) hqm .nil
        simpa [VR] using this
      · split at h
        · simp only [Option.some.injEq] at h; subst h
          rw [if_neg (by omega), addr_add _ _ rfl]
          have e : (⟨cb, off * s + p.toNat * s, none⟩ : Addr) = ⟨cb, (off + p.toNat) * s, none⟩ := by rw [Nat.add_mul]
          simp only
          rw [e, show (q - p).toNat = q.toNat - p.toNat by omega]
          exact VRel.arr (K := K) hl (by omega) (by omega) .nil
        · simp only [Option.some.injEq] at h; subst h
          rw [show q.toNat - p.toNat = 0 by omega]
          exact VRel.slc0 (by simp) .nil
    · cases h
  | @arr0 b s pcap a _ _ hl _ =>
    simp only [asub, Option.bind_eq_some_iff] at h
    obtain ⟨⟨p, q, c⟩, hb, h⟩ := h
    simp only at h
    split at h
    · rename_i hc
      replace hc := hc.1
      have hr := run_sliceBounds (P := P) (w := w) (isS := true) (len := 0) (cap := 0) (Nat.zero_le _) (by simpa using hb) hlo hhi hmx hv (by simpa using hc)
      have hp : p = 0 := by simp at hc; omega
      have hq : q = 0 := by simp at hc; omega
      have hcc : c = 0 := by simp at hc; omega
      subst hp hq hcc
      simp at h; subst h
      refine ⟨_, by simp [Instr.slice, run_underlying ht, hr, run_sizeOf' hsz]; rfl, ?_⟩
      exact VRel.arr0 hl .nil
    · cases h
  | _ => simp [asub] at h

end Go.Abs

/-
  A program logic over abstract states, part G: every operation that keeps the state.
-/
namespace Go.Abs
open Go Go.RowKit

set_option linter.unusedVariables false
set_option linter.unusedSimpArgs false
variable {P : Program} {K : Kr} {σ : AHeap} {w : World}

/-- What a quiet operation must come to. -/
def QOk (P : Program) (K : Kr) (σ : AHeap) (w : World) (x : AVal) (res : Result Value) : Prop :=
  ∃ v w' K', res = .ok v w' ∧ K.le K' ∧ Rel K' σ w' ∧ VR K' x v

theorem QOk.same {x : AVal} {v : Value} {res : Result Value} (r : Rel K σ w) (e : res = .ok v w) (h : VR K x v) : QOk P K σ w x res :=
  ⟨v, w, K, e, Kr.le.refl K, r, h⟩

theorem q_mov {vs : List AVal} {m : List Value} (hv : VRel K vs m) {x : AVal} (h : amov vs = some x) : ∃ v, m = [v] ∧ VR K x v := by
  unfold amov at h
  split at h
  · simp only [Option.some.injEq] at h; subst h
    exact hv.one_inv
  · cases h

theorem q_pick {vs : List AVal} {c a b : Value} (hv : VRel K vs [c, a, b]) {x : AVal} (h : apick vs = some x) (r : Rel K σ w) :
    QOk P K σ w x ((do pure (if ← asBool c then a else b) : Sem Value).run P w) := by
  unfold apick at h
  split at h
  · rename_i t y z
    simp only [Option.some.injEq] at h; subst h
    obtain ⟨u1, u2, u3, e, h1, h2, h3⟩ := hv.three_inv
    simp at e; obtain ⟨rfl, rfl, rfl⟩ := e
    rw [h1.bool_inv]
    refine QOk.same r (by simp [asBool] <;> rfl) ?_
    cases t
    · exact h3
    · exact h2
  · cases h

theorem q_fad {t : TypeId} {i : Nat} {f : Field} {s : Nat} (hf : fieldA P t i = some f) (hs : sizeA P f.type = some s) (h0 : s ≠ 0) {vs : List AVal} {p : Value} (hv : VRel K vs [p]) {x : AVal} (h : afad f.offset vs = some x) (r : Rel K σ w) :
    QOk P K σ w x ((Instr.fieldAt t p i).run P w) := by
  have hu : ∃ fs, P.underlying t = some (.struct fs) ∧ fs[i]? = some f := by
    unfold fieldA at hf
    split at hf
    · exact ⟨_, by assumption, hf⟩
    · cases hf
  obtain ⟨fs, hu, hfs⟩ := hu
  unfold afad at h
  split at h
  · rename_i b j o
    simp only [Option.some.injEq] at h; subst h
    obtain ⟨u, e, h1⟩ := hv.one_inv
    simp at e; subst e
    unfold VR at h1
    cases h1 with
    | ptr hl _ =>
      refine QOk.same r (by simp [Instr.fieldAt, run_underlying hu, hfs, Instr.sureAddr, fieldPlace, run_sizeOf' hs, h0, addr_add] <;> rfl) ?_
      have := VRel.ptr (K := K) (i := j) (o := o + f.offset) hl .nil
      simpa [VR, Nat.add_assoc] using this
  · rename_i cs
    simp only [Option.some.injEq] at h; subst h
    obtain ⟨u, e, h1⟩ := hv.one_inv
    simp at e; subst e
    unfold VR at h1
    cases h1 with
    | @iptr _ a vs' _ _ hsp h1 hm hvv _ =>
      refine QOk.same r (by simp [Instr.fieldAt, run_underlying hu, hfs, Instr.sureAddr, fieldPlace, run_sizeOf' hs, h0, addr_add a _ hsp] <;> rfl) ?_
      refine VRel.iptr (vs := vs'.drop f.offset) rfl (fun c hc => h1 c (List.mem_of_mem_drop hc)) (fun j v e => ?_) (hvv.drop _) .nil
      rw [List.getElem?_drop] at e
      have := hm _ _ e
      simpa [Nat.add_assoc] using this
  · cases h

theorem run_part {t : TypeId} {ag : Bool} {sz off : Nat} (hag : aggA P t = some ag) (hsz : sizeA P t = some sz) {cs : List AVal} {vs : List Value} {x : AVal} (hp : part_ ag sz (cs.drop off) = some x)
    (hv : VRel K cs vs) (h1 : ∀ c ∈ cs, c.one = true) : ∃ v, (part t vs.toArray off).run P w = .ok v w ∧ VR K x v := by
  unfold part
  simp only [Sem.run_bind, run_isAgg hag, Result.andThen_ok]
  rcases part_cells hp (hv.drop off) (fun c hc => h1 c (List.mem_of_mem_drop hc)) with ⟨rfl, hl, hx⟩ | ⟨rfl, v, h0, hx⟩
  · refine ⟨_, by simp only [if_true, Sem.run_bind, run_sizeOf' hsz, Result.andThen_ok, Sem.run_pure]; rfl, ?_⟩
    have e : ((vs.drop off).take sz).toArray = vs.toArray.extract off (off + sz) := by
      apply Array.ext'
      simp [List.extract_eq_take_drop]
    rw [← e]
    exact hx
  · refine ⟨v, ?_, hx⟩
    have e : vs.toArray[off]? = some v := by simpa using h0
    simp [e]

theorem q_fld {t : TypeId} {i : Nat} {f : Field} {ag : Bool} {s : Nat} (hf : fieldA P t i = some f) (hg : aggA P f.type = some ag) (hs : sizeA P f.type = some s) {vs : List AVal} {p : Value} (hv : VRel K vs [p]) {x : AVal}
    (h : afld ag f.offset s vs = some x) (r : Rel K σ w) : QOk P K σ w x ((Instr.field t p i).run P w) := by
  have hu : ∃ fs, P.underlying t = some (.struct fs) ∧ fs[i]? = some f := by
    unfold fieldA at hf
    split at hf
    · exact ⟨_, by assumption, hf⟩
    · cases hf
  obtain ⟨fs, hu, hfs⟩ := hu
  unfold afld at h
  split at h
  · rename_i cs
    obtain ⟨u, e, h1⟩ := hv.one_inv
    simp at e; subst e
    obtain ⟨vs', rfl, h2, h3⟩ := h1.agg_inv
    obtain ⟨v, hr, hx⟩ := run_part (P := P) (w := w) hg hs h h2 h3
    refine QOk.same r ?_ hx
    simp [Instr.field, run_underlying hu, hfs, asAgg, hr]
  · cases h

theorem q_iad {t e : TypeId} {sz : Nat} (ht : P.underlying t = some (.slice e)) (hs : sizeA P e = some sz) {vs : List AVal} {p q : Value} (hv : VRel K vs [p, q]) {x : AVal}
    (h : aiad sz vs = some x) (r : Rel K σ w) : QOk P K σ w x ((Instr.indexAt t p q).run P w) := by
  unfold aiad at h
  split at h
  · rename_i s xs full k i
    split at h
    · rename_i hc
      obtain ⟨h0, rfl⟩ := hc
      simp only [Option.map_eq_some_iff] at h
      obtain ⟨y, hy, rfl⟩ := h
      obtain ⟨u1, u2, e1, h1, h2⟩ := hv.two_inv
      simp at e1; obtain ⟨rfl, rfl⟩ := e1
      rw [h2.int_inv]
      have hlt := (List.getElem?_eq_some_iff.1 hy).1
      unfold VR at h1
      cases h1 with
      | slc0 _ _ => simp at hy
      | @slc _ _ _ a n cap vs' _ _ hn he hsp hm hvv hc hf _ =>
        subst hn
        have hi : 0 ≤ i ∧ i < (xs.length : Int) := ⟨h0, by omega⟩
        refine QOk.same r (by simp [Instr.indexAt, asIntOf, run_underlying ht, hi, run_sizeOf' hs, addr_add a _ hsp] <;> rfl) ?_
        have hx := (VRel.at_ hvv he hy)
        refine VRel.iptr rfl (he y (List.mem_of_getElem? hy)).2 (fun j v e => ?_) hx .nil
        rw [List.getElem?_take] at e
        split at e
        · rw [List.getElem?_drop] at e
          have := hm _ _ e
          simpa [Nat.add_assoc] using this
        · cases e
    · cases h
  · rename_i s b off n k i
    split at h
    · rename_i hc
      obtain ⟨⟨h0, h9⟩, hss⟩ := hc
      simp only [Option.some.injEq] at h; subst h
      obtain ⟨u1, u2, e1, h1, h2⟩ := hv.two_inv
      simp at e1; obtain ⟨rfl, rfl⟩ := e1
      rw [h2.int_inv]
      unfold VR at h1
      cases h1 with
      | @arr _ _ _ cb s' pcap cap _ _ hl ho hn _ =>
        have hi : 0 ≤ i ∧ i < (n : Int) := ⟨h0, h9⟩
        refine QOk.same r (by simp [Instr.indexAt, asIntOf, run_underlying ht, hi, run_sizeOf' hs, addr_add] <;> rfl) ?_
        have := VRel.ptr (K := K) (i := off + i.toNat) (o := 0) hl .nil
        simpa [VR, Nat.add_mul, hss] using this
      | arr0 _ _ => simp at h9; omega
    · cases h
  · cases h

theorem q_conv {k : IntKind} {src dst : TypeId} (hd : P.underlying dst = some (.int k)) {d : TypeDesc} (hsrc : P.underlying src = some d) {vs : List AVal} {p : Value} (hv : VRel K vs [p]) {x : AVal} (h : aconv k vs = some x) (r : Rel K σ w) :
    QOk P K σ w x ((convert src dst p).run P w) := by
  unfold aconv at h
  split at h
  · simp only [Option.some.injEq] at h; subst h
    obtain ⟨u, e, h1⟩ := hv.one_inv
    simp at e; subst e
    rw [h1.int_inv]
    refine QOk.same r ?_ VR.int
    cases d <;> simp [convert, run_underlying hd, run_underlying hsrc, Conv.intToInt]
  · cases h

theorem q_bin {t : TypeId} {op : BinOp} (y z : Operand) {vs : List AVal} {p q : Value} (hv : VRel K vs [p, q]) {x : AVal} (h : abin op vs = some x) (r : Rel K σ w) :
    QOk P K σ w x ((do eqGuard op t y z p q; binOp op t p q : Sem Value).run P w) := by
  have h' := h
  unfold abin at h'
  split at h'
  · obtain ⟨u1, u2, e1, h1, h2⟩ := hv.two_inv
    simp at e1; obtain ⟨rfl, rfl⟩ := e1
    rw [h1.int_inv, h2.int_inv]
    obtain ⟨v, hr, hx⟩ := run_binOp_int (K := K) P op t _ _ _ _ x h w
    refine QOk.same r ?_ hx
    simp [run_eqGuard P op t y z _ _ w (.inl ⟨_, _, rfl⟩), hr]
  · obtain ⟨u1, u2, e1, h1, h2⟩ := hv.two_inv
    simp at e1; obtain ⟨rfl, rfl⟩ := e1
    rw [h1.str_inv, h2.str_inv]
    obtain ⟨v, hr, hx⟩ := run_binOp_str (K := K) P op t _ _ x h w
    refine QOk.same r ?_ hx
    simp [run_eqGuard P op t y z _ _ w (.inr (.inl ⟨_, rfl⟩)), hr]
  · cases h'

theorem q_binb {t : TypeId} {op : BinOp} (hk : kindA P t = 1) (y z : Operand) {vs : List AVal} {p q : Value} (hv : VRel K vs [p, q]) {x : AVal} (h : abinb op vs = some x) (r : Rel K σ w) :
    QOk P K σ w x ((do eqGuard op t y z p q; binOp op t p q : Sem Value).run P w) := by
  have ht : P.underlying t = some .bool := by
    unfold kindA at hk
    split at hk <;> first | assumption | (simp at hk)
  have h' := h
  unfold abinb at h'
  split at h'
  · obtain ⟨u1, u2, e1, h1, h2⟩ := hv.two_inv
    simp at e1; obtain ⟨rfl, rfl⟩ := e1
    rw [h1.bool_inv, h2.bool_inv]
    obtain ⟨v, hr, hx⟩ := run_binOp_bool (K := K) P op t ht _ _ x h w
    refine QOk.same r ?_ hx
    simp [run_eqGuard P op t y z _ _ w (.inr (.inr (.inl ⟨_, rfl⟩))), hr]
  · cases h'

theorem q_cstr {src dst : TypeId} (hs : P.underlying src = some .string) (hd : P.underlying dst = some .string) {vs : List AVal} {p : Value} (hv : VRel K vs [p]) {x : AVal} (h : acstr vs = some x) (r : Rel K σ w) :
    QOk P K σ w x ((convert src dst p).run P w) := by
  unfold acstr at h
  split at h
  · simp only [Option.some.injEq] at h; subst h
    obtain ⟨u, e, h1⟩ := hv.one_inv
    simp at e; subst e
    rw [h1.str_inv]
    exact QOk.same r (by simp [convert, run_underlying hs, run_underlying hd] <;> rfl) VR.str
  · cases h

theorem run_sub_q {sz : Nat} {t e : TypeId} (ht : P.underlying t = some (.slice e)) (hsz : sizeA P e = some sz) {lo hi mx : Bool} {vs : List AVal} {u : Value} {vlo vhi vmx : Option Value} (hlo : vlo.isSome = lo) (hhi : vhi.isSome = hi) (hmx : vmx.isSome = mx)
    (hv : VRel K vs (u :: (vlo.toList ++ vhi.toList ++ vmx.toList))) {x : AVal} (h : asub sz lo hi mx vs = some x) (r : Rel K σ w) : QOk P K σ w x ((Instr.slice t u vlo vhi vmx).run P w) := by
  cases vs with
  | nil => cases hv
  | cons y l =>
    obtain ⟨h1, h2⟩ := hv.inv
    obtain ⟨v, hr, hx⟩ := run_sub (P := P) (w := w) h h1 ht hsz hlo hhi hmx h2
    exact QOk.same r hr hx

theorem q_unot {vs : List AVal} {p : Value} (hv : VRel K vs [p]) {x : AVal} (h : aunot vs = some x) (r : Rel K σ w) : QOk P K σ w x ((Op.unary .not p).run P w) := by
  unfold aunot at h
  split at h
  · simp only [Option.some.injEq] at h; subst h
    obtain ⟨u, e, h1⟩ := hv.one_inv
    simp at e; subst e
    rw [h1.bool_inv]
    exact QOk.same r (by simp [Op.unary] <;> rfl) VR.bool
  · cases h
theorem q_uneg {vs : List AVal} {p : Value} (hv : VRel K vs [p]) {x : AVal} (h : auneg vs = some x) (r : Rel K σ w) : QOk P K σ w x ((Op.unary .neg p).run P w) := by
  unfold auneg at h
  split at h
  · simp only [Option.some.injEq] at h; subst h
    obtain ⟨u, e, h1⟩ := hv.one_inv
    simp at e; subst e
    rw [h1.int_inv]
    exact QOk.same r (by simp [Op.unary, Op.intArith] <;> rfl) VR.int
  · cases h
theorem q_ucpl {vs : List AVal} {p : Value} (hv : VRel K vs [p]) {x : AVal} (h : aucpl vs = some x) (r : Rel K σ w) : QOk P K σ w x ((Op.unary .xor p).run P w) := by
  unfold aucpl at h
  split at h
  · simp only [Option.some.injEq] at h; subst h
    obtain ⟨u, e, h1⟩ := hv.one_inv
    simp at e; subst e
    rw [h1.int_inv]
    exact QOk.same r (by simp only [Op.unary]; exact bits_eq .xor (by simp) P _ _ _ w) VR.int
  · cases h

theorem q_istr {t : TypeId} (hk : kindA P t = 3) {vs : List AVal} {p q : Value} (hv : VRel K vs [p, q]) {x : AVal} (h : aistr vs = some x) (r : Rel K σ w) : QOk P K σ w x ((Instr.index t p q).run P w) := by
  have ht : P.underlying t = some .string := by
    unfold kindA at hk
    split at hk <;> first | assumption | (simp at hk)
  unfold aistr at h
  split at h
  · rename_i s k i
    split at h
    · rename_i h0
      simp only [Option.map_eq_some_iff] at h
      obtain ⟨y, hy, rfl⟩ := h
      obtain ⟨u1, u2, e1, h1, h2⟩ := hv.two_inv
      simp at e1; obtain ⟨rfl, rfl⟩ := e1
      rw [h1.str_inv, h2.int_inv]
      have hlt := (List.getElem?_eq_some_iff.1 hy)
      obtain ⟨hlt, hy'⟩ := hlt
      have e : (⟨s.toArray⟩ : ByteArray)[i.toNat]? = some y := by
        have hsz : (⟨s.toArray⟩ : ByteArray).size = s.length := by simp [ByteArray.size]
        rw [getElem?_pos _ _ (by rw [hsz]; exact hlt)]
        simp only [Option.some.injEq]
        rw [← hy']
        simp [ByteArray.getElem_eq_getElem_data]
      refine QOk.same r (by simp [Instr.index, asIntOf, run_underlying ht, h0, e] <;> rfl) VR.int
    · cases h
  · cases h

theorem q_sstr {t : TypeId} (ht : P.underlying t = some .string) {lo hi : Bool} {y : AVal} {l : List AVal} {u : Value} (hy : VR K y u) {vlo vhi : Option Value} (hlo : vlo.isSome = lo) (hhi : vhi.isSome = hi)
    (hv : VRel K l (vlo.toList ++ vhi.toList)) {x : AVal} (h : asstr lo hi (y :: l) = some x) (r : Rel K σ w) : QOk P K σ w x ((Instr.slice t u vlo vhi none).run P w) := by
  unfold asstr at h
  split at h
  · rename_i s l' he
    simp only [List.cons.injEq] at he
    obtain ⟨rfl, rfl⟩ := he
    simp only [Option.bind_eq_some_iff] at h
    obtain ⟨⟨p, q, c⟩, hb, h⟩ := h
    simp only at h
    split at h
    · rename_i hc
      simp only [Option.some.injEq] at h; subst h
      rw [hy.str_inv]
      have hsz : (⟨s.toArray⟩ : ByteArray).size = s.length := by simp [ByteArray.size]
      have hcc : c = s.length := by
        cases lo <;> cases hi <;> simp only [bnds] at hb <;> split at hb <;> simp only [Option.some.injEq, Prod.mk.injEq, reduceCtorEq] at hb <;> exact hb.2.2.symm
      subst hcc
      have hr := run_sliceBounds (P := P) (w := w) (isS := false) (len := s.length) (cap := s.length) (Nat.le_refl _) hb hlo hhi (vmx := none) (by simp) (by simpa using hv) (by omega)
      refine QOk.same r (by simp [Instr.slice, run_underlying ht, hsz, hr] <;> rfl) ?_
      have e : (⟨s.toArray⟩ : ByteArray).extract p.toNat q.toNat = ⟨((s.drop p.toNat).take (q - p).toNat).toArray⟩ := by
        apply ByteArray.ext
        apply Array.ext'
        simp [ByteArray.data_extract, List.extract_eq_take_drop]
        rw [show q.toNat - p.toNat = (q - p).toNat by omega]
      rw [e]
      exact VR.str
    · cases h
  · cases h

theorem q_ext {i : Nat} {vs : List AVal} {p : Value} (hv : VRel K vs [p]) {x : AVal} (h : aext i vs = some x) (r : Rel K σ w) : QOk P K σ w x ((Instr.extract p i).run P w) := by
  unfold aext at h
  split at h
  · obtain ⟨u, e, h1⟩ := hv.one_inv
    simp at e; subst e
    obtain ⟨vs', rfl, h2⟩ := h1.tup_inv
    obtain ⟨v, hv', hx⟩ := h2.get h
    exact QOk.same r (by simp [Instr.extract, hv'] <;> rfl) hx
  · cases h

theorem q_lens {t ty : TypeId} {ats : Array TypeId} (h0 : ats[0]? = some t) (hk : kindA P t = 4) {vs : List AVal} {p : Value} (hv : VRel K vs [p]) {x : AVal} (h : alens vs = some x) (r : Rel K σ w) : QOk P K σ w x ((Builtin.len_ ats ty #[p]).run P w) := by
  have ht : ∃ e, P.underlying t = some (.slice e) := by
    unfold kindA at hk
    split at hk <;> first | exact ⟨_, by assumption⟩ | (simp at hk)
  obtain ⟨e, ht⟩ := ht
  unfold alens at h
  split at h
  · simp only [Option.some.injEq] at h; subst h
    obtain ⟨u, e, h1⟩ := hv.one_inv
    simp at e; subst e
    unfold VR at h1
    cases h1 with
    | slc0 _ _ => exact QOk.same r (by simp [Builtin.len_, h0, run_underlying ht] <;> rfl) VR.int
    | slc hn _ _ _ _ _ _ _ => subst hn; exact QOk.same r (by simp [Builtin.len_, h0, run_underlying ht] <;> rfl) VR.int
  · simp only [Option.some.injEq] at h; subst h
    obtain ⟨u, e, h1⟩ := hv.one_inv
    simp at e; subst e
    unfold VR at h1
    cases h1 with
    | arr _ _ _ _ => exact QOk.same r (by simp [Builtin.len_, h0, run_underlying ht] <;> rfl) VR.int
    | arr0 _ _ => exact QOk.same r (by simp [Builtin.len_, h0, run_underlying ht] <;> rfl) VR.int
  · cases h

theorem q_lent {t ty : TypeId} {ats : Array TypeId} (h0 : ats[0]? = some t) (hk : kindA P t = 3) {vs : List AVal} {p : Value} (hv : VRel K vs [p]) {x : AVal} (h : alent vs = some x) (r : Rel K σ w) : QOk P K σ w x ((Builtin.len_ ats ty #[p]).run P w) := by
  have ht : P.underlying t = some .string := by
    unfold kindA at hk
    split at hk <;> first | assumption | (simp at hk)
  unfold alent at h
  split at h
  · simp only [Option.some.injEq] at h; subst h
    obtain ⟨u, e, h1⟩ := hv.one_inv
    simp at e; subst e
    rw [h1.str_inv]
    exact QOk.same r (by simp [Builtin.len_, h0, run_underlying ht] <;> rfl) VR.int
  · cases h

theorem q_fold (f2 : AVal → AVal → Option AVal) (g2 : Value → Value → Sem Value) (hg : ∀ a b x u v, f2 a b = some x → VR K a u → VR K b v → ∃ y, (g2 u v).run P w = .ok y w ∧ VR K x y) :
    ∀ (l : List AVal) (m : List Value) (a x : AVal) (u : Value), VRel K l m → VR K a u → l.foldlM f2 a = some x → ∃ y, (m.foldlM g2 u).run P w = .ok y w ∧ VR K x y
  | [], m, a, x, u, hv, ha, h => by
    rw [hv.nil_inv]
    simp at h; subst h
    exact ⟨u, by simp, ha⟩
  | b :: l, m, a, x, u, hv, ha, h => by
    obtain ⟨v, m', rfl, h1, h2⟩ := hv.ex
    simp only [List.foldlM_cons, Option.bind_eq_bind, Option.bind_eq_some_iff] at h
    obtain ⟨c, hc, h⟩ := h
    obtain ⟨y, hy, hyv⟩ := hg _ _ _ _ _ hc ha h1
    obtain ⟨z, hz, hzv⟩ := q_fold f2 g2 hg l m' c x y h2 hyv h
    exact ⟨z, by simp [hy, hz], hzv⟩

theorem q_min {ats : Array TypeId} {ty : TypeId} {vs : List AVal} {m : List Value} (hv : VRel K vs m) {x : AVal} (h : amin vs = some x) (r : Rel K σ w) : QOk P K σ w x ((Builtin.min_ ats ty m.toArray).run P w) := by
  unfold amin at h
  split at h
  · cases h
  · rename_i a l
    obtain ⟨u, m', rfl, h1, h2⟩ := hv.ex
    obtain ⟨y, hy, hx⟩ := q_fold (P := P) (w := w) amin2 Builtin.min2 (fun a b x u v hf ha hb => by
      unfold amin2 at hf
      split at hf
      · simp only [Option.some.injEq] at hf; subst hf
        rw [ha.int_inv, hb.int_inv]
        exact ⟨_, by simp [Builtin.min2] <;> rfl, VR.int⟩
      · cases hf) l m' a x u h2 h1 h
    exact QOk.same r (by simp [Builtin.min_, hy]) hx

theorem q_max {ats : Array TypeId} {ty : TypeId} {vs : List AVal} {m : List Value} (hv : VRel K vs m) {x : AVal} (h : amax vs = some x) (r : Rel K σ w) : QOk P K σ w x ((Builtin.max_ ats ty m.toArray).run P w) := by
  unfold amax at h
  split at h
  · cases h
  · rename_i a l
    obtain ⟨u, m', rfl, h1, h2⟩ := hv.ex
    obtain ⟨y, hy, hx⟩ := q_fold (P := P) (w := w) amax2 Builtin.max2 (fun a b x u v hf ha hb => by
      unfold amax2 at hf
      split at hf
      · simp only [Option.some.injEq] at hf; subst hf
        rw [ha.int_inv, hb.int_inv]
        exact ⟨_, by simp [Builtin.max2] <;> rfl, VR.int⟩
      · cases hf) l m' a x u h2 h1 h
    exact QOk.same r (by simp [Builtin.max_, hy]) hx

theorem flat_of_bytes : ∀ {ys : List AVal} {bs : List UInt8}, toBytes ys = some bs → flat ys = ys
  | [], _, _ => rfl
  | y :: ys, bs, h => by
    simp only [toBytes, List.mapM_cons, Option.bind_eq_bind, Option.bind_eq_some_iff, Option.pure_def, Option.some.injEq] at h
    obtain ⟨u, hu, bs', hbs, rfl⟩ := h
    obtain ⟨n, rfl, rfl⟩ := toByte_some hu
    rw [flat_cons, flat_of_bytes hbs]
    rfl

theorem run_bytes {ys : List AVal} {bs : List UInt8} (hb : toBytes ys = some bs) {a : Option Addr} {n cap : Nat} {vs : List Value} (hn : n = ys.length) (hv : VRel K (flat ys) vs)
    (hc : ys = [] ∨ ∃ a', a = some a' ∧ a'.spot = none ∧ CellsAt w a' vs) : (Conv.bytesToString (.slice a n cap)).run P w = .ok (.string ⟨bs.toArray⟩) w := by
  subst hn
  rw [flat_of_bytes hb] at hv
  rcases hc with rfl | ⟨a', rfl, hs, hc⟩
  · simp [toBytes] at hb
    subst hb
    cases a with
    | none => rfl
    | some a =>
      have e := run_bytesToString (P := P) w a 0 cap [] (by simp; exact run_loadCells_zero P w a)
      exact e
  · obtain ⟨ns, rfl, rfl⟩ := toBytes_vals hb hv
    have hl := run_loadCells_list (P := P) w a' _ hc
    have hlen : ys.length = (ns.map (Value.int .u8)).length := hv.length
    have e := run_bytesToString (P := P) w a' ys.length cap ns (by rw [hlen]; simpa using hl)
    rw [e, foldl_push]
    simp

theorem q_b2s {src dst e : TypeId} (hs : P.underlying src = some (.slice e)) (hd : P.underlying dst = some .string) (he : P.underlying e = some (.int .u8)) {vs : List AVal} {p : Value} (hv : VRel K vs [p]) {x : AVal} (h : ab2s σ vs = some x) (r : Rel K σ w) :
    QOk P K σ w x ((convert src dst p).run P w) := by
  unfold ab2s at h
  split at h
  · rename_i y
    simp only [Option.map_eq_some_iff, Option.bind_eq_some_iff] at h
    obtain ⟨bs, ⟨ys, h1, h2⟩, rfl⟩ := h
    obtain ⟨u, e1, h3⟩ := hv.one_inv
    simp at e1; subst e1
    obtain ⟨a, cap, vs', rfl, h4, h5, h6, h7⟩ := elems_cells r h3 h1
    refine QOk.same r ?_ VR.str
    rw [run_convert_bytes_string w src dst e a ys.length cap hs he hd]
    exact run_bytes h2 rfl h4 h7
  · cases h

theorem ab2sp_ab2s {vs : List AVal} {x : AVal} (h : ab2sp vs = some x) (σ : AHeap) : ab2s σ vs = some x := by
  unfold ab2sp at h
  split at h
  · rename_i s xs f
    split at h
    · rename_i hc
      simpa [ab2s, elemsOf, hc] using h
    · cases h
  · cases h

theorem aloadp_aload {ag : Bool} {sz : Nat} {vs : List AVal} {x : AVal} (h : aloadp ag sz vs = some x) (σ : AHeap) : aload σ ag sz vs = some x := by
  unfold aloadp at h
  split at h
  · simpa [aload] using h
  · cases h

theorem q_load {t : TypeId} {ag : Bool} {sz : Nat} (hg : aggA P t = some ag) (hs : sizeA P t = some sz) {vs : List AVal} {p : Value} (hv : VRel K vs [p]) {x : AVal} (h : aload σ ag sz vs = some x) (r : Rel K σ w) :
    QOk P K σ w x ((Instr.loadAt t p).run P w) := by
  obtain ⟨y, rfl⟩ : ∃ y, vs = [y] := by
    have := hv.length
    match vs, this with
    | [y], _ => exact ⟨y, rfl⟩
  rw [aload_eq] at h
  simp only [Option.bind_eq_some_iff] at h
  obtain ⟨cs, h1, h2⟩ := h
  obtain ⟨u, e, h3⟩ := hv.one_inv
  simp at e; subst e
  obtain ⟨a, vs', rfl, h4, h5, h6⟩ := ptr_cells r h3 h1
  obtain ⟨v, hr, hx⟩ := run_loadVar (P := P) hg hs h2 h4 h6 h5
  exact QOk.same r (by simp [Instr.loadAt, Instr.sureAddr, hr]) hx

theorem q_anilc {vs : List AVal} {p : Value} (hv : VRel K vs [p]) {x : AVal} (h : anilc vs = some x) :
    VR K x p ∧ ((∃ a, p = .pointer (some a)) ∨ ∃ f a b, p = .func (.func f) a b) := by
  unfold anilc at h
  split at h <;> simp only [Option.some.injEq, reduceCtorEq] at h <;> subst h <;> obtain ⟨u, e, h1⟩ := hv.one_inv <;> simp at e <;> subst e <;> refine ⟨h1, ?_⟩ <;> unfold VR at h1 <;> cases h1
  · exact .inl ⟨_, rfl⟩
  · exact .inl ⟨_, rfl⟩
  · exact .inr ⟨_, _, _, rfl⟩

/-! ### Values made of parts -/

theorem fold_put (zs : List Value) (cs : Array Value) (off : Nat) (h : off + cs.size ≤ zs.length) :
    cs.zipIdx.foldl (fun (cs : Array Value) (p : Value × Nat) => cs.setIfInBounds (off + p.2) p.1) zs.toArray = (zs.take off ++ cs.toList ++ zs.drop (off + cs.size)).toArray := by
  have key : ∀ (l : List Value) (k : Nat) (acc : List Value), off + k + l.length ≤ acc.length →
      (l.zipIdx k).foldl (fun (cs : Array Value) (p : Value × Nat) => cs.setIfInBounds (off + p.2) p.1) acc.toArray = (acc.take (off + k) ++ l ++ acc.drop (off + k + l.length)).toArray := by
    intro l
    induction l with
    | nil => intro k acc _; simp
    | cons x l ih =>
      intro k acc hk
      simp only [List.zipIdx_cons, List.foldl_cons]
      have hk' : off + k < acc.length := by simp at hk; omega
      rw [List.setIfInBounds_toArray, ih (k + 1) (acc.set (off + k) x) (by simp at hk ⊢; omega)]
      congr 1
      have e := list_seg_step acc (off + k) x l (by simp at hk; omega)
      simpa [Nat.add_assoc] using e
  have := key cs.toList 0 zs (by simp; omega)
  rw [← Array.foldl_toList, Array.toList_zipIdx]
  simpa using this

theorem fill_sound (places : Nat → Option (Nat × Nat)) : ∀ (ps : List (Nat × Nat)) (ids : List Nat) (vs : List AVal) (us : List Value) (z : List AVal) (zs : List Value) (cs : List AVal),
    ps.length = ids.length → (∀ (j : Nat) i p, ids[j]? = some i → ps[j]? = some p → places i = some p) → VRel K vs us → VRel K z zs → (∀ c ∈ z, c.one = true) → putAll z ps vs = some cs →
    ∃ ws, Instr.fill places zs.toArray (ids.zip us) = some ws.toArray ∧ VRel K cs ws ∧ ∀ c ∈ cs, c.one = true
  | [], ids, vs, us, z, zs, cs, hl, hp, hv, hz, h1, h => by
    have hids : ids = [] := List.eq_nil_of_length_eq_zero (by simpa using hl.symm)
    subst hids
    cases vs with
    | cons _ _ => simp [putAll] at h
    | nil =>
      simp [putAll] at h; subst h
      exact ⟨zs, by simp [Instr.fill], hz, h1⟩
  | (off, sz) :: ps, ids, vs, us, z, zs, cs, hl, hp, hv, hz, h1, h => by
    cases ids with
    | nil => simp at hl
    | cons i ids =>
      cases vs with
      | nil => simp [putAll] at h
      | cons v vs =>
        obtain ⟨u, us', rfl, hvu, hvs⟩ := hv.ex
        simp only [putAll] at h
        split at h
        · rename_i hc
          obtain ⟨c1, c2, c3⟩ := hc
          have hpl := hp 0 i (off, sz) (by simp) (by simp)
          have hcells := hvu.cells
          have hul : u.cells.size = sz := by rw [← Array.length_toList, ← hcells.length]; exact c1
          have hzl : zs.length = z.length := hz.length.symm
          have hfold := fold_put zs u.cells off (by rw [hul]; omega)
          rw [hul] at hfold
          have hnew : VRel K (z.take off ++ v.cells ++ z.drop (off + sz)) (zs.take off ++ u.cells.toList ++ zs.drop (off + sz)) := ((hz.take off).append hcells).append (hz.drop _)
          have hone : ∀ c ∈ z.take off ++ v.cells ++ z.drop (off + sz), c.one = true := by
            intro c hc
            simp only [List.mem_append] at hc
            rcases hc with (hc | hc) | hc
            · exact h1 c (List.mem_of_mem_take hc)
            · exact List.all_eq_true.1 c3 c hc
            · exact h1 c (List.mem_of_mem_drop hc)
          obtain ⟨ws, hf, hw, ho⟩ := fill_sound places ps ids vs us' _ _ cs (by simpa using hl) (fun j i p e1 e2 => hp (j + 1) i p (by simpa using e1) (by simpa using e2)) hvs hnew hone h
          refine ⟨ws, ?_, hw, ho⟩
          simp only [List.zip_cons_cons, Instr.fill, hpl]
          rw [if_neg (by rw [hul]; simp; omega), hfold]
          exact hf
        · cases h

end Go.Abs

/-
  A program logic over abstract states, part H: an operation that keeps the state, whichever it is.
-/
namespace Go.Abs
open Go Go.RowKit

set_option linter.unusedVariables false
set_option linter.unusedSimpArgs false
variable {P : Program} {K : Kr} {σ : AHeap} {w : World}

def QNext (P : Program) (K : Kr) (σ : AHeap) (w : World) (x : AVal) (res : Result Next) : Prop :=
  ∃ v w' K', res = .ok (.value v) w' ∧ K.le K' ∧ Rel K' σ w' ∧ VR K' x v

theorem QOk.next {s : Sem Value} {x : AVal} (h : QOk P K σ w x (s.run P w)) : QNext P K σ w x ((do pure (Next.value (← s)) : Sem Next).run P w) := by
  obtain ⟨v, w', K', e, h1, h2, h3⟩ := h
  exact ⟨v, w', K', by simp [e], h1, h2, h3⟩

theorem elemA_some {t e : TypeId} (h : elemA P t = some e) : P.underlying t = some (.slice e) := by
  unfold elemA at h
  split at h
  · simp only [Option.some.injEq] at h; subst h; assumption
  · cases h

theorem zeroA_some {t : TypeId} {z : AVal} (h : zeroA P t = some z) : ∃ i zv, P.info? t = some i ∧ i.zero = some zv ∧ constA zv = some z := by
  unfold zeroA at h
  simp only [Option.bind_eq_some_iff] at h
  obtain ⟨i, hi, zv, hz, hc⟩ := h
  exact ⟨i, zv, hi, hz, hc⟩

theorem run_zeroValue {t : TypeId} {i : TypeInfo} {zv : Value} (hi : P.info? t = some i) (hz : i.zero = some zv) : (zeroValue t).run P w = .ok zv w := by
  simp [zeroValue, typeInfo, hi, hz]

theorem placesA_some {t : TypeId} : ∀ {l : List Nat} {ps : List (Nat × Nat)}, placesA P t l = some ps → ps.length = l.length ∧ ∀ (j : Nat) i p, l[j]? = some i → ps[j]? = some p →
    ∃ f, fieldA P t i = some f ∧ sizeA P f.type = some p.2 ∧ p.1 = f.offset
  | [], ps, h => by
    simp [placesA] at h; subst h
    exact ⟨rfl, by simp⟩
  | i :: l, ps, h => by
    simp only [placesA, Option.bind_eq_bind, Option.bind_eq_some_iff, Option.pure_def, Option.some.injEq] at h
    obtain ⟨f, hf, s, hs, r, hr, rfl⟩ := h
    obtain ⟨h1, h2⟩ := placesA_some hr
    refine ⟨by simp [h1], fun j i' p e1 e2 => ?_⟩
    cases j with
    | zero => simp at e1 e2; subst e1 e2; exact ⟨f, hf, hs, rfl⟩
    | succ j => exact h2 j i' p (by simpa using e1) (by simpa using e2)

theorem run_places (fs : List Field) {w : World} (h : ∀ f ∈ fs, ∃ s, sizeA P f.type = some s) :
    (fs.mapM (fun f => do pure (f.offset, ← sizeOf f.type) : Field → Sem (Nat × Nat))).run P w = .ok (fs.map fun f => (f.offset, (sizeA P f.type).getD 0)) w := by
  induction fs with
  | nil => simp
  | cons f fs ih =>
    obtain ⟨s, hs⟩ := h f (by simp)
    simp only [List.mapM_cons, Sem.run_bind, run_sizeOf' hs, Result.andThen_ok, Sem.run_pure, ih (fun g hg => h g (by simp [hg])), hs, List.map_cons, Option.getD_some]

theorem q_bld {t : TypeId} {z : List AVal} {ps : List (Nat × Nat)} {ids : List Nat} (hz : zeroA P t = some (.agg z)) (hp : placesA P t ids = some ps) (hall : ∀ f ∈ (match P.underlying t with | some (.struct fs) => fs.toList | _ => []), ∃ s, sizeA P f.type = some s)
    (hstr : ∃ fs, P.underlying t = some (.struct fs))
    {vs : List AVal} {us : List Value} (hv : VRel K vs us) (hlen : us.length = ids.length) {x : AVal} (h : abld z ps vs = some x) (r : Rel K σ w) :
    QOk P K σ w x ((Instr.build t (ids.zip us).toArray).run P w) := by
  obtain ⟨fs, hu⟩ := hstr
  obtain ⟨i, zv, hi, hzz, hc⟩ := zeroA_some hz
  have hzr := constA_ok (K := K) hc
  obtain ⟨zs, rfl, h1, h2⟩ := hzr.1.agg_inv
  obtain ⟨hl, hpl⟩ := placesA_some hp
  unfold abld at h
  simp only [Option.map_eq_some_iff] at h
  obtain ⟨cs, hcs, rfl⟩ := h
  rw [hu] at hall
  simp only at hall
  have hrun := run_places (P := P) (w := w) fs.toList hall
  obtain ⟨ws, hf, hw, ho⟩ := fill_sound (K := K) (fun i => (fs.toList.map fun f => (f.offset, (sizeA P f.type).getD 0)).toArray[i]?) ps ids vs us z zs cs hl (by
    intro j i p e1 e2
    obtain ⟨f, hf, hs, hp1⟩ := hpl j i p e1 e2
    unfold fieldA at hf
    rw [hu] at hf
    simp only at hf
    have : fs.toList[i]? = some f := by simpa using hf
    simp only [List.getElem?_toArray, List.getElem?_map, this, Option.map_some, hs, Option.getD_some, ← hp1]) hv h1 h2 hcs
  refine QOk.same (v := .agg ws.toArray) r ?_ (VRel.agg ho hw .nil)
  have hm : (fs.mapM (fun f => do pure (f.offset, ← sizeOf f.type) : Field → Sem (Nat × Nat))).run P w = .ok (fs.toList.map fun f => (f.offset, (sizeA P f.type).getD 0)).toArray w := by
    rw [Array.mapM_eq_mapM_toList]
    simp only [Sem.run_map, hrun, Result.andThen_ok]
  unfold Instr.build
  simp only [Sem.run_bind, run_zeroValue hi hzz, Result.andThen_ok, run_underlying hu, hm]
  have hf' : Instr.fill (fun x => (fs.toList.map fun f => (f.offset, (sizeA P f.type).getD 0)).toArray[x]?) (Value.agg zs.toArray).cells (ids.zip us) = some ws.toArray := hf
  simp only [hf', Sem.run_pure]

/-- Parts in order, one behind the other. -/
theorem fill_seq (sz : Nat) : ∀ (us : List Value) (k : Nat) (acc : List Value), (∀ u ∈ us, u.cells.size = sz) → acc.length = (k + us.length) * sz →
    Instr.fill (fun i => some (i * sz, sz)) acc.toArray ((List.range' k us.length).zip us) = some (acc.take (k * sz) ++ us.flatMap fun u => u.cells.toList).toArray
  | [], k, acc, _, hl => by
    simp only [List.length_nil, List.range'_zero, List.zip_nil_left, Instr.fill, List.flatMap_nil, List.append_nil, Nat.add_zero] at hl ⊢
    rw [List.take_of_length_le (by omega)]
  | u :: us, k, acc, hu, hl => by
    have h1 := hu u (by simp)
    have hle : k * sz + sz ≤ acc.length := by rw [hl]; simp only [List.length_cons, Nat.add_mul]; omega
    simp only [List.length_cons, List.range'_succ, List.zip_cons_cons, Instr.fill]
    rw [if_neg (by rw [h1]; simp; omega), fold_put acc u.cells (k * sz) (by rw [h1]; exact hle)]
    rw [fill_seq sz us (k + 1) _ (fun v hv => hu v (by simp [hv])) (by
      simp only [List.length_append, List.length_take, Array.length_toList, List.length_drop, h1]
      rw [Nat.min_eq_left (by omega)]
      simp only [List.length_cons] at hl
      have : (k + 1 + us.length) * sz = (k + (us.length + 1)) * sz := by congr 1; omega
      omega)]
    congr 2
    have e : ((acc.take (k * sz) ++ u.cells.toList ++ acc.drop (k * sz + u.cells.size)).take ((k + 1) * sz)) = acc.take (k * sz) ++ u.cells.toList := by
      rw [List.take_append_of_le_length (by simp [h1, Nat.add_mul]; omega)]
      exact List.take_of_length_le (by simp [h1, Nat.add_mul]; omega)
    rw [e]
    simp

theorem flat_vals {sz : Nat} : ∀ {vs : List AVal} {us : List Value}, VRel K vs us → (∀ v ∈ vs, v.elem sz) → VRel K (flat vs) (us.flatMap fun u => u.cells.toList) ∧ ∀ u ∈ us, u.cells.size = sz
  | [], us, hv, _ => by rw [hv.nil_inv]; exact ⟨.nil, by simp⟩
  | v :: vs, us, hv, he => by
    obtain ⟨u, us', rfl, h1, h2⟩ := hv.ex
    obtain ⟨h3, h4⟩ := flat_vals (sz := sz) h2 (fun x hx => he x (by simp [hx]))
    refine ⟨by rw [flat_cons, List.flatMap_cons]; exact h1.cells.append h3, ?_⟩
    intro x hx
    rcases List.mem_cons.1 hx with rfl | hx
    · rw [← Array.length_toList, ← h1.cells.length]; exact (he v (by simp)).1
    · exact h4 x hx

theorem run_buildSlice {t e : TypeId} {sz n : Nat} {z : AVal} (ht : P.underlying t = some (.slice e)) (hs : sizeA P e = some sz) (hz : zeroA P e = some z) {us : List Value} (hn : us.length = n) (hu : ∀ u ∈ us, u.cells.size = sz)
    (hsz : n * sz ≤ 2 ^ 24) : (Instr.buildSlice t n ((List.range n).zip us).toArray).run P w = .ok (.slice (some ⟨w.heap.size, 0, none⟩) n n) (w.alloc (.cells (us.flatMap fun u => u.cells.toList).toArray e)) := by
  obtain ⟨i, zv, hi, hzz, hc⟩ := zeroA_some hz
  have hf := fill_seq sz us 0 ((Array.range (n * sz)).map (zv.cells[· % zv.cells.size]!)).toList hu (by simp [hn])
  rw [hn] at hf
  rw [← List.range_eq_range', Array.toArray_toList] at hf
  simp only [Nat.zero_mul, List.take_zero, List.nil_append] at hf
  have hnot : ¬ (n * sz > 2 ^ 24) := by omega
  by_cases h0 : n * sz = 0
  · have hf' : Instr.fill (fun i => some (i * sz, sz)) ((Array.range (n * sz)).map ((#[] : Array Value)[· % (#[] : Array Value).size]!)) ((List.range n).zip us) = some (us.flatMap fun u => u.cells.toList).toArray := by
      rw [h0] at hf ⊢
      simpa [show Array.range 0 = #[] from rfl] using hf
    unfold Instr.buildSlice
    simp only [Sem.run_bind, run_underlying ht, Result.andThen_ok, run_sizeOf' hs, if_neg hnot, if_pos h0, Sem.run_pure, hf']
    simp [newRow]
  · have hf' : Instr.fill (fun i => some (i * sz, sz)) ((Array.range (n * sz)).map (zv.cells[· % zv.cells.size]!)) ((List.range n).zip us) = some (us.flatMap fun u => u.cells.toList).toArray := hf
    unfold Instr.buildSlice
    simp only [Sem.run_bind, run_underlying ht, Result.andThen_ok, run_sizeOf' hs, if_neg hnot, if_neg h0, Sem.run_pure, run_zeroValue hi hzz, hf']
    simp [newRow]

end Go.Abs

/-
  A program logic over abstract states, part I: an operation that keeps the state, whichever it is.
-/
namespace Go.Abs
open Go Go.RowKit

set_option linter.unusedVariables false
set_option linter.unusedSimpArgs false
variable {P : Program} {K : Kr} {σ : AHeap} {w : World}

theorem kindA_slice {t : TypeId} (h : kindA P t = 4) : ∃ e, P.underlying t = some (.slice e) := by
  unfold kindA at h
  split at h <;> first | exact ⟨_, by assumption⟩ | (simp at h)

theorem q_bsl {t e : TypeId} {sz n : Nat} {z : AVal} (ht : P.underlying t = some (.slice e)) (hs : sizeA P e = some sz) (hz : zeroA P e = some z) {vs : List AVal} {us : List Value} (hv : VRel K vs us) (hn : us.length = n)
    (hsz : n * sz ≤ 2 ^ 24) {x : AVal} (h : absl sz vs = some x) (r : Rel K σ w) : QOk P K σ w x ((Instr.buildSlice t n ((List.range n).zip us).toArray).run P w) := by
  unfold absl at h
  split at h
  · rename_i hc
    simp only [Option.some.injEq] at h; subst h
    have he : ∀ v ∈ vs, v.elem sz := fun v hv => AVal.fit_iff.1 (List.all_eq_true.1 hc v hv)
    obtain ⟨hf, hsize⟩ := flat_vals hv he
    obtain ⟨hK, hR⟩ := r.newImm (us.flatMap fun u => u.cells.toList).toArray e (0, 0)
    refine ⟨_, _, _, run_buildSlice ht hs hz hn hsize hsz, hK, hR, ?_⟩
    have hl : vs.length = n := by rw [hv.length, hn]
    by_cases hnil : vs = []
    · subst hnil
      simp at hl; subst hl
      exact VRel.slc0 (fun _ => rfl) .nil
    · refine VRel.slc hl he rfl (vs := us.flatMap fun u => u.cells.toList) (fun j v e => ?_) (by have := hf.mono hK; simpa [flat] using this) (Nat.le_refl _) (fun _ => rfl) .nil
      simpa [Kr.addImm] using e
  · cases h

theorem q_mki {t : TypeId} {d : TypeDesc} (ht : P.underlying t = some d) (hd : ∀ ms, d ≠ .interface ms) {vs : List AVal} {p : Value} (hv : VRel K vs [p]) {x : AVal} (h : amki t vs = some x) (r : Rel K σ w) :
    QOk P K σ w x ((Instr.makeInterface t p).run P w) := by
  unfold amki at h
  split at h
  · simp only [Option.some.injEq] at h; subst h
    obtain ⟨u, e, h1⟩ := hv.one_inv
    simp at e; subst e
    refine QOk.same r ?_ (VRel.iface h1 .nil)
    unfold Instr.makeInterface
    simp only [Sem.run_bind, run_underlying ht, Result.andThen_ok]
    cases d <;> first | rfl | exact absurd rfl (hd _)
  · cases h

theorem zip_parts {α β γ : Type} (f : β → γ) : ∀ l : List (α × β), (l.map fun (p : α × β) => (p.1, f p.2)) = (l.map (·.1)).zip ((l.map (·.2)).map f)
  | [] => rfl
  | p :: l => by simp only [List.map_cons, List.zip_cons_cons, zip_parts f l]

theorem list_of_len1 {α : Type} {l : List α} (h : l.length = 1) : ∃ a, l = [a] := by
  match l, h with
  | [a], _ => exact ⟨a, rfl⟩
theorem list_of_len2 {α : Type} {l : List α} (h : l.length = 2) : ∃ a b, l = [a, b] := by
  match l, h with
  | [a, b], _ => exact ⟨a, b, rfl⟩

theorem quiet_sound {fl : Bool} {o : Oper} {k : AK} {xs : List Operand} (hk : kOf P fl o = some (k, xs)) (hq : k.quiet = true) {ρ : Operand → Value} {vs : List AVal} (hv : VRel K vs (xs.map ρ)) (r : Rel K σ w) {x : AVal}
    (h : aquiet k σ vs = some x) : QNext P K σ w x ((execOp ρ o).run P w) := by
  obtain ⟨dst, op, type, pos, after, guard⟩ := o
  cases op <;> simp only [kOf, reduceCtorEq, Option.some.injEq, Prod.mk.injEq] at hk
  case move y =>
    obtain ⟨rfl, rfl⟩ := hk
    obtain ⟨v, e, h1⟩ := q_mov hv h
    simp at e; subst e
    exact ⟨ρ y, w, K, rfl, Kr.le.refl K, r, h1⟩
  case assign y =>
    obtain ⟨rfl, rfl⟩ := hk
    obtain ⟨v, e, h1⟩ := q_mov hv h
    simp at e; subst e
    exact ⟨ρ y, w, K, rfl, Kr.le.refl K, r, h1⟩
  case pick c a b =>
    obtain ⟨rfl, rfl⟩ := hk
    have := q_pick (P := P) hv h r
    obtain ⟨v, w', K', e, h1, h2, h3⟩ := this
    refine ⟨v, w', K', ?_, h1, h2, h3⟩
    simp only [Sem.run_bind, Sem.run_pure] at e
    simp only [execOp, Sem.run_bind, Sem.run_pure]
    cases hh : (asBool (ρ c)).run P w with
    | ok t w1 => rw [hh] at e; simp only [Result.andThen_ok, Result.ok.injEq] at e ⊢; obtain ⟨rfl, rfl⟩ := e; exact ⟨rfl, rfl⟩
    | halt y w1 => rw [hh] at e; simp at e
  case alloc e =>
    simp only [Option.bind_eq_bind, Option.bind_eq_some_iff, Option.pure_def, Option.some.injEq, Prod.mk.injEq] at hk
    obtain ⟨z, _, rfl, _⟩ := hk
    cases hq
  case box e y =>
    simp only [Option.bind_eq_bind, Option.bind_eq_some_iff, Option.pure_def, Option.some.injEq, Prod.mk.injEq] at hk
    obtain ⟨z, _, rfl, _⟩ := hk
    cases hq
  case build t parts =>
    simp only [Option.bind_eq_bind, Option.bind_eq_some_iff, Option.pure_def] at hk
    obtain ⟨z, hz, ps, hp, hk⟩ := hk
    split at hk
    · rename_i cs fs hu
      split at hk
      · rename_i hall
        simp only [Option.some.injEq, Prod.mk.injEq] at hk
        obtain ⟨rfl, rfl⟩ := hk
        have hzip : (parts.map fun (i, x) => (i, ρ x)) = ((parts.toList.map (·.1)).zip ((parts.toList.map (·.2)).map ρ)).toArray := by
          apply Array.ext'
          rw [Array.toList_map]
          exact zip_parts ρ parts.toList
        have := q_bld (P := P) hz hp (by rw [hu]; intro f hf; have := List.all_eq_true.1 hall f hf; simpa [Option.isSome_iff_exists] using this) ⟨fs, hu⟩ hv (by simp) h r
        rw [← hzip] at this
        exact this.next
      · cases hk
    · cases hk
  case buildSlice t n parts =>
    simp only [Option.bind_eq_bind, Option.bind_eq_some_iff, Option.pure_def] at hk
    obtain ⟨e, he, s, hs, z, hz, hk⟩ := hk
    split at hk
    · rename_i hc
      simp only [Option.some.injEq, Prod.mk.injEq] at hk
      obtain ⟨rfl, rfl⟩ := hk
      cases fl
      · obtain ⟨c1, c2, c3⟩ := hc
        have hlen : (parts.toList.map (·.2)).length = n := by
          have := congrArg List.length c1
          simpa using this
        have hzip : (parts.map fun (i, x) => (i, ρ x)) = ((List.range n).zip ((parts.toList.map (·.2)).map ρ)).toArray := by
          rw [← c1]
          apply Array.ext'
          rw [Array.toList_map]
          exact zip_parts ρ parts.toList
        have := q_bsl (P := P) (elemA_some he) hs hz hv (by simpa using hlen) c3 h r
        rw [← hzip] at this
        exact this.next
      · cases hq
    · cases hk
  case load t y =>
    simp only [Option.bind_eq_bind, Option.bind_eq_some_iff, Option.pure_def, Option.some.injEq, Prod.mk.injEq] at hk
    obtain ⟨g, hg, s, hs, rfl, rfl⟩ := hk
    cases fl
    · exact (q_load hg hs hv h r).next
    · exact (q_load hg hs hv (aloadp_aload h σ) r).next
  case store t y z =>
    simp only [Option.bind_eq_bind, Option.bind_eq_some_iff, Option.pure_def, Option.some.injEq, Prod.mk.injEq] at hk
    obtain ⟨s, hs, rfl, _⟩ := hk
    cases hq
  case nilCheck y =>
    obtain ⟨rfl, rfl⟩ := hk
    obtain ⟨h1, h2⟩ := q_anilc hv h
    refine ⟨ρ y, w, K, ?_, Kr.le.refl K, r, h1⟩
    rcases h2 with ⟨a, e⟩ | ⟨f, a, b, e⟩ <;> simp only [execOp, e, Sem.run_pure]
  case binOp op t y z yt =>
    split at hk
    · rename_i h1
      have : k = .binb op ∧ xs = [y, z] := by
        split at hk <;> simp only [Option.some.injEq, Prod.mk.injEq, reduceCtorEq] at hk
        · exact ⟨hk.1.symm, hk.2.symm⟩
        · exact ⟨hk.1.symm, hk.2.symm⟩
      obtain ⟨rfl, rfl⟩ := this
      exact (q_binb (P := P) h1 y z hv h r).next
    · split at hk
      · rename_i h0 h1
        simp only [Option.some.injEq, Prod.mk.injEq] at hk
        obtain ⟨rfl, rfl⟩ := hk
        exact (q_bin (P := P) y z hv h r).next
      · split at hk
        · split at hk <;> simp only [Option.some.injEq, Prod.mk.injEq, reduceCtorEq] at hk <;> obtain ⟨rfl, rfl⟩ := hk <;> cases hq
        · cases hk
  case unOp op t y =>
    split at hk <;> simp only [Option.some.injEq, Prod.mk.injEq, reduceCtorEq] at hk <;> obtain ⟨rfl, rfl⟩ := hk
    · exact (q_unot hv h r).next
    · exact (q_uneg hv h r).next
    · exact (q_ucpl hv h r).next
  case convert src dst y =>
    split at hk
    · rename_i k1 k2 h1 h2
      simp only [Option.some.injEq, Prod.mk.injEq] at hk
      obtain ⟨rfl, rfl⟩ := hk
      exact (q_conv h2 h1 hv h r).next
    · rename_i h1 h2
      simp only [Option.some.injEq, Prod.mk.injEq] at hk
      obtain ⟨rfl, rfl⟩ := hk
      exact (q_cstr h1 h2 hv h r).next
    · rename_i e h1 h2
      split at hk
      · rename_i h3
        simp only [Option.some.injEq, Prod.mk.injEq] at hk
        obtain ⟨rfl, rfl⟩ := hk
        cases fl
        · exact (q_b2s h1 h2 h3 hv h r).next
        · exact (q_b2s h1 h2 h3 hv (ab2sp_ab2s h σ) r).next
      · cases hk
    · split at hk
      · split at hk
        · simp only [Option.some.injEq, Prod.mk.injEq] at hk
          obtain ⟨rfl, rfl⟩ := hk
          cases hq
        · cases hk
      · cases hk
    · cases hk
  case makeInterface t y =>
    split at hk
    · cases hk
    · rename_i d hn hd
      simp only [Option.some.injEq, Prod.mk.injEq] at hk
      obtain ⟨rfl, rfl⟩ := hk
      exact (q_mki hd (fun ms e => by subst e; exact hn _ rfl) hv h r).next
    · cases hk
  case makeFunc fn first captured =>
    cases fn <;> simp only [kOf, reduceCtorEq, Option.some.injEq, Prod.mk.injEq] at hk
    obtain ⟨rfl, rfl⟩ := hk
    simp only [aquiet, amkf, Option.some.injEq] at h
    subst h
    rename_i f
    refine ⟨_, w, K, rfl, Kr.le.refl K, r, ?_⟩
    rw [List.map_append] at hv
    have h1 := hv.take first.size
    have h2 := hv.drop first.size
    have e1 : ((first.toList.map ρ ++ captured.toList.map ρ).take first.size) = first.toList.map ρ := by
      rw [List.take_append_of_le_length (by simp)]; exact List.take_of_length_le (by simp)
    have e2 : ((first.toList.map ρ ++ captured.toList.map ρ).drop first.size) = captured.toList.map ρ := by
      rw [List.drop_append_of_le_length (by simp), List.drop_of_length_le (by simp)]; rfl
    rw [e1] at h1
    rw [e2] at h2
    have := VRel.fn (f := f) h1 h2 .nil
    have e3 : (first.toList.map ρ).toArray = first.map ρ := by apply Array.ext'; simp
    have e4 : (captured.toList.map ρ).toArray = captured.map ρ := by apply Array.ext'; simp
    rw [e3, e4] at this
    exact this
  case makeSlice t l c =>
    simp only [Option.bind_eq_bind, Option.bind_eq_some_iff, Option.pure_def] at hk
    obtain ⟨e, _, i, _, z, _, hk⟩ := hk
    split at hk
    · simp only [Option.some.injEq, Prod.mk.injEq] at hk; obtain ⟨rfl, _⟩ := hk; cases hq
    · cases hk
  case slice t y lo hi mx =>
    split at hk
    · rename_i e he
      simp only [Option.bind_eq_bind, Option.bind_eq_some_iff, Option.pure_def] at hk
      obtain ⟨s, hs, hk⟩ := hk
      split at hk
      · simp only [Option.some.injEq, Prod.mk.injEq] at hk; obtain ⟨rfl, _⟩ := hk; cases hq
      · simp only [Option.some.injEq, Prod.mk.injEq] at hk
        obtain ⟨rfl, rfl⟩ := hk
        have hrun : QOk P K σ w x ((Instr.sliceAt t (ρ y) (lo.map ρ) (hi.map ρ) (mx.map ρ)).run P w) := by
          have hh := run_sub_q (P := P) he hs (vlo := lo.map ρ) (vhi := hi.map ρ) (vmx := mx.map ρ) (by simp) (by simp) (by simp) (u := ρ y) (by
            have e1 : (y :: (lo.toList ++ hi.toList ++ mx.toList)).map ρ = ρ y :: ((lo.map ρ).toList ++ (hi.map ρ).toList ++ (mx.map ρ).toList) := by
              cases lo <;> cases hi <;> cases mx <;> rfl
            rw [← e1]; exact hv) h r
          unfold Instr.sliceAt
          simp only [Sem.run_bind, run_underlying he, Result.andThen_ok]
          exact hh
        exact hrun.next
    · rename_i he
      split at hk
      · rename_i hm
        simp only [Option.some.injEq, Prod.mk.injEq] at hk
        obtain ⟨rfl, rfl⟩ := hk
        have hmn : mx = none := by simpa using hm
        subst hmn
        have hrun : QOk P K σ w x ((Instr.sliceAt t (ρ y) (lo.map ρ) (hi.map ρ) none).run P w) := by
          have e1 : (y :: (lo.toList ++ hi.toList)).map ρ = ρ y :: ((lo.map ρ).toList ++ (hi.map ρ).toList) := by
            cases lo <;> cases hi <;> rfl
          rw [e1] at hv
          cases vs with
          | nil => cases hv
          | cons a l =>
            obtain ⟨h1, h2⟩ := hv.inv
            have hh := q_sstr (P := P) he h1 (vlo := lo.map ρ) (vhi := hi.map ρ) (by simp) (by simp) h2 h r
            unfold Instr.sliceAt
            simp only [Sem.run_bind, run_underlying he, Result.andThen_ok]
            exact hh
        exact hrun.next
      · cases hk
    · cases hk
  case fieldAddr t y i =>
    simp only [Option.bind_eq_bind, Option.bind_eq_some_iff, Option.pure_def] at hk
    obtain ⟨f, hf, s, hs, hk⟩ := hk
    split at hk
    · cases hk
    · rename_i h0
      simp only [Option.some.injEq, Prod.mk.injEq] at hk
      obtain ⟨rfl, rfl⟩ := hk
      exact (q_fad hf hs h0 hv h r).next
  case field t y i =>
    simp only [Option.bind_eq_bind, Option.bind_eq_some_iff, Option.pure_def, Option.some.injEq, Prod.mk.injEq] at hk
    obtain ⟨f, hf, g, hg, s, hs, rfl, rfl⟩ := hk
    exact (q_fld hf hg hs hv h r).next
  case indexAddr t y i =>
    simp only [Option.bind_eq_bind, Option.bind_eq_some_iff, Option.pure_def, Option.some.injEq, Prod.mk.injEq] at hk
    obtain ⟨e, he, s, hs, rfl, rfl⟩ := hk
    exact (q_iad (elemA_some he) hs hv h r).next
  case index t y i =>
    split at hk
    · rename_i h3
      simp only [Option.some.injEq, Prod.mk.injEq] at hk
      obtain ⟨rfl, rfl⟩ := hk
      exact (q_istr h3 hv h r).next
    · cases hk
  case extract t i =>
    obtain ⟨rfl, rfl⟩ := hk
    exact (q_ext hv h r).next
  case call c =>
    obtain ⟨callee, args, ats⟩ := c
    cases callee with
    | value f => cases f <;> simp only [kOf, reduceCtorEq, Option.some.injEq, Prod.mk.injEq] at hk
                 · obtain ⟨rfl, _⟩ := hk; cases hq
                 · split at hk
                   · simp only [Option.some.injEq, Prod.mk.injEq] at hk; obtain ⟨rfl, _⟩ := hk; cases hq
                   · cases hk
    | invoke a b => simp only [kOf, reduceCtorEq] at hk
    | builtin b =>
      cases b <;> simp only [kOf, reduceCtorEq, Option.some.injEq, Prod.mk.injEq] at hk
      case append =>
        simp only [Option.bind_eq_bind, Option.bind_eq_some_iff, Option.pure_def] at hk
        obtain ⟨t, _, u, _, e, _, i, _, z, _, hk⟩ := hk
        split at hk
        · cases hk
        · split at hk
          · simp only [Option.some.injEq, Prod.mk.injEq] at hk; obtain ⟨rfl, _⟩ := hk; cases hq
          · split at hk
            · simp only [Option.some.injEq, Prod.mk.injEq] at hk; obtain ⟨rfl, _⟩ := hk; cases hq
            · cases hk
      case len =>
        simp only [Option.bind_eq_bind, Option.bind_eq_some_iff, Option.pure_def] at hk
        obtain ⟨t, ht, hk⟩ := hk
        split at hk
        · cases hk
        · rename_i hsz
          obtain ⟨y, hy⟩ := list_of_len1 (l := args.toList) (by simpa using hsz)
          have hargs : args.map ρ = #[ρ y] := by apply Array.ext'; simp [hy]
          split at hk
          · rename_i h4
            simp only [Option.some.injEq, Prod.mk.injEq] at hk
            obtain ⟨rfl, rfl⟩ := hk
            rw [hy] at hv
            have := (q_lens (P := P) (ty := type) ht h4 hv h r).next
            rw [← hargs] at this
            exact this
          · split at hk
            · rename_i h4
              simp only [Option.some.injEq, Prod.mk.injEq] at hk
              obtain ⟨rfl, rfl⟩ := hk
              rw [hy] at hv
              have := (q_lent (P := P) (ty := type) ht h4 hv h r).next
              rw [← hargs] at this
              exact this
            · cases hk
      case min =>
        obtain ⟨rfl, rfl⟩ := hk
        have := (q_min (P := P) (ats := ats) (ty := type) hv h r).next
        have e : (args.toList.map ρ).toArray = args.map ρ := by apply Array.ext'; simp
        rw [e] at this
        exact this
      case max =>
        obtain ⟨rfl, rfl⟩ := hk
        have := (q_max (P := P) (ats := ats) (ty := type) hv h r).next
        have e : (args.toList.map ρ).toArray = args.map ρ := by apply Array.ext'; simp
        rw [e] at this
        exact this

end Go.Abs

/-
  A program logic over abstract states, part J: operations that turn the state.
-/
namespace Go.Abs
open Go Go.RowKit

set_option linter.unusedVariables false
set_option linter.unusedSimpArgs false
variable {P : Program} {K : Kr} {σ : AHeap} {w : World} {R : AVal → AHeap → Prop}

theorem AVal.elem_cells_one {sz : Nat} {x : AVal} (h : x.elem sz) : (∃ l, x = .agg l ∧ l.length = sz) ∨ (x.one = true ∧ sz = 1) := by
  obtain ⟨h1, h2⟩ := h
  cases x <;> first
    | (simp only [AVal.cells] at h1 h2; exact .inl ⟨_, rfl, h1⟩)
    | (simp only [AVal.cells, List.length_cons, List.length_nil] at h1 h2; exact .inr ⟨h2 _ (by simp), h1.symm⟩)

theorem putCells_cells {sz : Nat} {x : AVal} (hx : x.elem sz) {o : Nat} {vc : List AVal} (h1 : ∀ c ∈ vc, c.one = true) (ho : x.one = true → o = 0 ∧ vc.length = 1) :
    (putCells x o vc).cells = x.cells.take o ++ vc ++ x.cells.drop (o + vc.length) := by
  rcases AVal.elem_cells_one hx with ⟨l, rfl, _⟩ | ⟨h, _⟩
  · rfl
  · obtain ⟨rfl, hl⟩ := ho h
    obtain ⟨c, rfl⟩ := list_of_len1 hl
    have hc := h1 c (by simp)
    rw [AVal.cells_of_one h]
    have e : putCells x 0 [c] = c := by cases x <;> first | rfl | (simp [AVal.one] at h)
    rw [e, AVal.cells_of_one hc]
    simp

theorem good_new {sz pcap : Nat} {cs : Array Value} {ty : TypeId} {xs : List AVal} {f : Nat → AVal} {v : Value} (r : Rel K σ w) (h : enew sz xs σ fun b σ' => R (f b) σ') (he : ∀ x ∈ xs, x.elem sz)
    (hs : cs.size = pcap * sz) (hx : xs.length ≤ pcap) (hm : pcap ≤ maxLen) (hv : VRel K (flat xs) (cs.toList.take (xs.length * sz)))
    (hval : ∀ K' : Kr, K'.loc K.nn = some ⟨some w.heap.size, sz, pcap⟩ → VR K' (f K.nn) v) :
    ∃ K' r' σ', K.le K' ∧ Rel K' σ' (w.alloc (.cells cs ty)) ∧ VR K' r' v ∧ R r' σ' :=
  ⟨K.add ⟨some w.heap.size, sz, pcap⟩, f K.nn, _, Kr.le_add r _, r.newOwned sz pcap cs ty xs he hs hx hm hv, hval _ (Kr.add_new _ _), h K.nn r.fresh⟩

theorem e_store {t : TypeId} {sz : Nat} (hs : sizeA P t = some sz) {vs : List AVal} {p q : Value} (hv : VRel K vs [p, q]) (h : estore sz vs σ R) (r : Rel K σ w) : ∃ w' K' σ', (Instr.storeAt t p q).run P w = .ok () w' ∧ K.le K' ∧ Rel K' σ' w' ∧ R (.tup []) σ' := by
  unfold estore at h
  split at h
  · rename_i b i o v
    obtain ⟨s, xs, x, hg, hxi, hos, hve, hone, hR⟩ := h
    obtain ⟨u1, u2, e1, h1, h2⟩ := hv.two_inv
    simp at e1; obtain ⟨rfl, rfl⟩ := e1
    unfold VR at h1
    cases h1 with
    | @ptr _ _ _ cb s' pcap _ _ hl _ =>
      obtain ⟨rfl, he, hx, hm, hbase, cs, ty, hw, hsz, hvv, hc⟩ := r.ownCells hg hl
      have hxe := he x (List.mem_of_getElem? hxi)
      have hcells := h2.cells
      have hus : q.cells.size = sz := by rw [← Array.length_toList, ← hcells.length]; exact hve.1
      have hilt := (List.getElem?_eq_some_iff.1 hxi).1
      have hfit : i * s' + o + sz ≤ xs.length * s' := by
        have : (i + 1) * s' ≤ xs.length * s' := Nat.mul_le_mul_right _ hilt
        rw [Nat.add_mul] at this
        omega
      have hfl : (flat xs).length = xs.length * s' := flat_length he
      have hcap : xs.length * s' ≤ cs.size := by rw [hsz]; exact Nat.mul_le_mul_right _ hx
      have hst := run_storeCells_at P cb (i * s' + o) ty q.cells.toList 0 cs w hw (by simp [hus]; omega) (hcells.ones hve.2)
      refine ⟨w.setRow cb (cs.toList.take (i * s' + o) ++ q.cells.toList ++ cs.toList.drop (i * s' + o + sz)).toArray, K, _, ?_, Kr.le.refl K, ?_, hR⟩
      · simp only [Instr.storeAt, Instr.sureAddr, storeVar, Sem.run_bind, Sem.run_pure, Result.andThen_ok, run_sizeOf' hs, hus, ne_eq, not_true_eq_false, if_false, hst]
        simp [hus]
      · have hput := putCells_cells hxe hve.2 (fun h => ⟨(hone h).1, by rw [hve.1]; exact (hone h).2⟩)
        rw [hve.1] at hput
        have hpe : (putCells x o v.cells).elem s' := by
          refine ⟨?_, ?_⟩
          · rw [hput]; simp [hxe.1, hve.1]; omega
          · rw [hput]
            intro c hc
            simp only [List.mem_append] at hc
            rcases hc with (hc | hc) | hc
            · exact hxe.2 c (List.mem_of_mem_take hc)
            · exact hve.2 c hc
            · exact hxe.2 c (List.mem_of_mem_drop hc)
        refine r.write (hget_mem hg) hl (fun y hy => ?_) _ ?_ (by simpa using hx) ?_
        · rcases List.mem_or_eq_of_mem_set hy with hy | rfl
          · exact he y hy
          · exact hpe
        · simp [hus]; omega
        · have hfs : flat (xs.set i (putCells x o v.cells)) = (flat xs).take (i * s' + o) ++ v.cells ++ (flat xs).drop (i * s' + o + sz) := by
            rw [flat_set he hilt, hput]
            have hA := flat_at he hxi
            have e1 : (flat xs).take (i * s' + o) = (flat xs).take (i * s') ++ x.cells.take o := by
              rw [List.take_add, ← hA, List.take_take, Nat.min_eq_left (by omega)]
            have e2 : (flat xs).drop (i * s' + o + sz) = x.cells.drop (o + sz) ++ (flat xs).drop (i * s' + s') := by
              rw [← hA, List.drop_take, List.drop_drop, Nat.add_assoc]
              have hh : (flat xs).drop (i * s' + s') = ((flat xs).drop (i * s' + (o + sz))).drop (s' - (o + sz)) := by
                rw [List.drop_drop]; congr 1; omega
              rw [hh, List.take_append_drop]
            rw [e1, e2]
            simp [List.append_assoc]
          rw [hfs]
          simp only [List.length_set]
          have e3 : (cs.toList.take (i * s' + o) ++ q.cells.toList ++ cs.toList.drop (i * s' + o + sz)).take (xs.length * s') =
              (cs.toList.take (xs.length * s')).take (i * s' + o) ++ q.cells.toList ++ (cs.toList.take (xs.length * s')).drop (i * s' + o + sz) := by
            rw [List.take_take, Nat.min_eq_left (by omega), List.take_append, List.take_of_length_le (by simp [hus]; omega)]
            congr 1
            rw [List.drop_take]
            congr 1
            simp [hus]
            omega
          rw [e3]
          exact ((hvv.take _).append hcells).append (hvv.drop _)
  · exact h.elim

theorem e_alloc {e : TypeId} {z : AVal} (hz : zeroA P e = some z) (hone : ∀ c ∈ z.cells, c.one = true) (h : enew z.cells.length [z] σ fun b σ' => R (.ptr b 0 0) σ') (r : Rel K σ w) : GoodV K R ((Instr.alloc e true (.tuple #[])).run P w) := by
  obtain ⟨i, zv, hi, hzz, hc⟩ := zeroA_some hz
  have hzr := (constA_ok (K := K) hc).1.cells
  have e1 : (Instr.alloc e true (.tuple #[])).run P w = .ok (.pointer (some ⟨w.heap.size, 0, none⟩)) (w.alloc (.cells zv.cells e)) := by
    unfold Instr.alloc
    simp only [Sem.run_bind, run_zeroValue hi hzz, Result.andThen_ok]
    simp [newVar, newRow]
  rw [e1]
  exact good_new r h (by simp [AVal.elem]; exact hone) (pcap := 1) (by rw [← Array.length_toList, ← hzr.length]; simp) (by simp) (by decide) (by
    have hl : zv.cells.toList.length = z.cells.length := hzr.length.symm
    simp only [flat_cons, flat_nil, List.append_nil, List.length_cons, List.length_nil, Nat.zero_add, Nat.one_mul]
    rw [List.take_of_length_le (by omega)]
    exact hzr) (fun K' hl => by
      have := VRel.ptr (K := K') (i := 0) (o := 0) hl .nil
      simpa [VR] using this)

theorem e_box {e : TypeId} {sz : Nat} (hs : sizeA P e = some sz) {vs : List AVal} {p : Value} (hv : VRel K vs [p]) (h : ebox sz vs σ R) (r : Rel K σ w) : GoodV K R ((Instr.box e p).run P w) := by
  unfold ebox at h
  split at h
  · rename_i v
    obtain ⟨he, h⟩ := h
    obtain ⟨u, e1, h1⟩ := hv.one_inv
    simp at e1; subst e1
    have hc := h1.cells
    have e1 : (Instr.box e p).run P w = .ok (.pointer (some ⟨w.heap.size, 0, none⟩)) (w.alloc (.cells p.cells e)) := by
      simp [Instr.box, newVar, newRow]
    rw [e1]
    have hl : p.cells.size = sz := by rw [← Array.length_toList, ← hc.length]; exact he.1
    exact good_new r h (by simp; exact he) (pcap := 1) (by rw [hl]; simp) (by simp) (by decide) (by
      simp only [flat_cons, flat_nil, List.append_nil, List.length_cons, List.length_nil, Nat.zero_add, Nat.one_mul]
      rw [List.take_of_length_le (by simp [hl])]
      exact hc) (fun K' hl => by
        have := VRel.ptr (K := K') (i := 0) (o := 0) hl .nil
        simpa [VR] using this)
  · exact h.elim

theorem e_bslo {t e : TypeId} {sz n : Nat} {z : AVal} (ht : P.underlying t = some (.slice e)) (hs : sizeA P e = some sz) (hz : zeroA P e = some z) {vs : List AVal} {us : List Value} (hv : VRel K vs us) (hn : us.length = n)
    (hsz : n * sz ≤ 2 ^ 24) (h0 : 0 < sz) (h : ebslo sz vs σ R) (r : Rel K σ w) : GoodV K R ((Instr.buildSlice t n ((List.range n).zip us).toArray).run P w) := by
  obtain ⟨he, h⟩ := h
  obtain ⟨hf, hsize⟩ := flat_vals hv he
  rw [run_buildSlice ht hs hz hn hsize hsz]
  have hl : vs.length = n := by rw [hv.length, hn]
  have hfl : (us.flatMap fun u => u.cells.toList).length = n * sz := by rw [← hf.length, flat_length he, hl]
  have hnn : n ≤ maxLen := by
    have : n * 1 ≤ n * sz := Nat.mul_le_mul_left _ h0
    simp only [maxLen]; omega
  exact good_new r h he (pcap := n) (by simpa using hfl) (by omega) hnn (by
    rw [hl]
    rw [List.take_of_length_le (by simp [hfl])]
    exact hf) (fun K' hl' => by
      have := VRel.arr (K := K') (off := 0) (n := vs.length) (cap := n) hl' (by omega) (by omega) .nil
      simpa [VR, hl] using this)

/-- A block that nobody owns is marked behind its end. -/
theorem Rel.mark (r : Rel K σ w) {cb : Nat} (hb : K.w0.heap.size ≤ cb) (hno : ∀ c blk s p, (c, blk) ∈ σ → K.loc c ≠ some ⟨some cb, s, p⟩) {cs0 : Array Value} {ty0 : TypeId} {fr0 : Nat × Nat} (hw0 : w.heap[cb]? = some (.cells cs0 ty0 fr0)) (n m : Nat) : Rel K σ (w.freeze ⟨cb, n, none⟩ m) := by
  have hne : ∀ k, k ≠ cb → (w.freeze ⟨cb, n, none⟩ m).heap[k]? = w.heap[k]? := by
    intro k hk
    unfold World.freeze
    split
    · rfl
    · simp only [Array.getElem?_modify]
      rw [if_neg (fun e => hk e.symm)]
  have hsize : (w.freeze ⟨cb, n, none⟩ m).heap.size = w.heap.size := by
    unfold World.freeze
    split <;> simp
  have hos : (w.freeze ⟨cb, n, none⟩ m).os = w.os ∧ (w.freeze ⟨cb, n, none⟩ m).tape = w.tape ∧ (w.freeze ⟨cb, n, none⟩ m).output = w.output := by
    unfold World.freeze
    split <;> exact ⟨rfl, rfl, rfl⟩
  have hcell : ∀ b o, (w.freeze ⟨cb, n, none⟩ m).cell? ⟨b, o, none⟩ = w.cell? ⟨b, o, none⟩ := by
    intro b o
    by_cases hk : b = cb
    · subst hk
      unfold World.freeze
      split
      · rfl
      · simp only [World.cell?, Array.getElem?_modify, if_true]
        cases w.heap[b]? with
        | none => rfl
        | some ob => cases ob <;> rfl
    · exact cell?_of_heap (hne b hk)
  refine ⟨r.ext.trans ⟨hos.1, hos.2.1, hos.2.2, by omega, fun k hk => hne k (by omega)⟩, r.oth.turn hw0 (by omega) hne, fun b o v h => ?_, r.nd, r.bnd, fun b L d h hd => by rw [hsize]; exact r.lit b L d h hd, fun b blk h => ?_, r.inj⟩
  · rw [hcell]; exact r.imm b o v h
  · refine (r.own b blk h).keep (Kr.le.refl K) fun d s c hl => ⟨hne d ?_, fun h => h⟩
    rintro rfl
    exact hno b blk s c h hl

theorem VR.slc_of_arr {K' : Kr} {cb sz n cap : Nat} {xs : List AVal} {vs : List Value} {full : Bool} (hn : xs.length = n) (he : ∀ x ∈ xs, x.elem sz) (hv : VRel K' (flat xs) vs) (off : Nat)
    (hm : ∀ j v, vs[j]? = some v → K'.imm cb (off + j) = some v) (hc : n ≤ cap) (hf : full = true → cap = n) : VR K' (.slc sz xs full) (.slice (some ⟨cb, off, none⟩) n cap) := by
  by_cases hx : xs = []
  · subst hx
    simp at hn; subst hn
    exact VRel.slc0 hf .nil
  · exact VRel.slc hn he rfl hm hv hc hf .nil

theorem e_strish {t e : TypeId} {sz : Nat} (ht : P.underlying t = some (.slice e)) (he : P.underlying e = some (.int .u8)) {vs : List AVal} {p : Value} (hv : VRel K vs [p]) (h : estrish sz vs σ R) (r : Rel K σ w) : GoodV K R ((convert t t p).run P w) := by
  unfold estrish at h
  split at h
  · rename_i s b n
    obtain ⟨xs, hg, hl, h0, hR⟩ := h
    obtain ⟨u, e1, h1⟩ := hv.one_inv
    simp at e1; subst e1
    unfold VR at h1
    cases h1 with
    | @arr _ _ _ cb _ pcap cap _ _ hloc ho hn _ =>
      obtain ⟨hss, hel, hx, hm, hbase, cs, ty, hw, hsz, hvv, hc⟩ := r.ownCells hg hloc
      have hmem := hget_mem hg
      obtain ⟨vs', hvs, hK, hR'⟩ := r.freeze hmem (by rw [hloc, hss])
      have hmark := hR'.mark (cb := cb) hbase (fun c blk s1 p1 hcm hlc => by
        obtain ⟨hne, hcm⟩ := mem_hdel r.nd hcm
        exact hne (r.inj _ _ _ _ _ _ _ _ _ hcm hmem hlc hloc)) hw cs.size 1
      have hrun : (convert t t (.slice (some ⟨cb, 0 * s, none⟩) n cap)).run P w = .ok (.slice (some ⟨cb, 0 * s, none⟩) n cap) (w.freeze ⟨cb, cs.size, none⟩ 1) := by
        have hsh : w.shape? cb = some (ty, cs.size) := by simp [World.shape?, hw]
        simp [convert, run_underlying ht, run_underlying he, markStringish, hsh]
      rw [hrun]
      refine ⟨_, _, _, hK, hmark, ?_, hR⟩
      have := VR.slc_of_arr (K' := K.addImm cb vs') (cb := cb) (cap := cap) (full := false) hl hel (hvs.mono hK) 0 (fun j v e => by simpa [Kr.addImm] using e) hn (by simp)
      simpa using this
    | arr0 _ _ => omega
  · exact h.elim

theorem run_equalIn_nil (d : Nat) {t e : TypeId} (ht : P.underlying t = some (.slice e)) (a : Option Addr) (n c : Nat) : (Op.equalIn (d + 1) t (.slice a n c) (.slice none 0 0)).run P w = .ok a.isNone w := by
  cases a <;> simp only [Op.equalIn, Sem.run_bind, run_underlying ht, Result.andThen_ok] <;> rfl

theorem e_isnil {t e : TypeId} {op : BinOp} {neg : Bool} (hop : (op = .eql ∧ neg = false) ∨ (op = .neq ∧ neg = true)) (ht : P.underlying t = some (.slice e)) (y z : Operand) {vs : List AVal} {p : Value} (hv : VRel K vs [p, .slice none 0 0]) (h : eisnil neg vs σ R) (r : Rel K σ w) :
    GoodV K R ((do eqGuard op t y z p (.slice none 0 0); binOp op t p (.slice none 0 0) : Sem Value).run P w) := by
  have hrun : ∀ a n c, (do eqGuard op t y z (.slice a n c) (.slice none 0 0); binOp op t (.slice a n c) (.slice none 0 0) : Sem Value).run P w = .ok (.bool (if neg then a.isSome else a.isNone)) w := by
    intro a n c
    have e1 : (Op.equal t (.slice a n c) (.slice none 0 0)).run P w = .ok a.isNone w := by
      exact run_equalIn_nil 9999 ht a n c
    rcases hop with ⟨rfl, rfl⟩ | ⟨rfl, rfl⟩
    · simp only [Sem.run_bind, run_eqGuard P _ t y z _ _ w (.inr (.inr (.inr ⟨_, _, _, rfl⟩))), Result.andThen_ok, binOp, e1, Sem.run_pure]; rfl
    · simp only [Sem.run_bind, run_eqGuard P _ t y z _ _ w (.inr (.inr (.inr ⟨_, _, _, rfl⟩))), Result.andThen_ok, binOp, e1, Sem.run_pure]
      cases a <;> rfl
  unfold eisnil at h
  split at h
  · rename_i s xs f s'
    obtain ⟨u1, u2, e1, h1, h2⟩ := hv.two_inv
    simp at e1; obtain ⟨rfl, rfl⟩ := e1
    unfold VR at h1
    cases h1 with
    | slc0 _ _ => rw [hrun]; exact ⟨K, _, σ, Kr.le.refl K, r, VR.bool, h.2 rfl _⟩
    | slc _ _ _ _ _ _ _ _ =>
      rw [hrun]
      by_cases hx : xs = []
      · exact ⟨K, _, σ, Kr.le.refl K, r, VR.bool, h.2 hx _⟩
      · have := h.1 hx
        refine ⟨K, .bool neg, σ, Kr.le.refl K, r, ?_, this⟩
        cases neg <;> exact VR.bool
  · rename_i s b o n s'
    obtain ⟨u1, u2, e1, h1, h2⟩ := hv.two_inv
    simp at e1; obtain ⟨rfl, rfl⟩ := e1
    unfold VR at h1
    cases h1 with
    | arr0 _ _ => rw [hrun]; exact ⟨K, _, σ, Kr.le.refl K, r, VR.bool, h.2 rfl _⟩
    | arr _ _ _ _ =>
      rw [hrun]
      by_cases hx : n = 0
      · exact ⟨K, _, σ, Kr.le.refl K, r, VR.bool, h.2 hx _⟩
      · have := h.1 (by omega)
        refine ⟨K, .bool neg, σ, Kr.le.refl K, r, ?_, this⟩
        cases neg <;> exact VR.bool
  · exact h.elim

end Go.Abs

