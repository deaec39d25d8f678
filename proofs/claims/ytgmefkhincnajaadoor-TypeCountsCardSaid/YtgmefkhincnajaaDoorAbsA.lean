/-
  A program logic over abstract states, part A: values, and what they say of memory.
  Slices that nobody writes are lists; blocks that the call owns have names.
-/
import Derived.WalkKit
import Derived.Test.YtgmefkhincnajaaDoorTab
namespace Go.Abs
open Go Go.RowKit

/-- An abstract value. -/
inductive AVal where
  | bool (b : Bool)
  | int (k : IntKind) (n : Int)
  | str (s : List UInt8)
  | agg (cs : List AVal)
  | tup (vs : List AVal)
  | slc (sz : Nat) (xs : List AVal) (full : Bool)
  | arr (sz b off n : Nat)
  | ptr (b i o : Nat)
  | iptr (cs : List AVal)
  | nilp
  | fn (f : FuncId) (first caps : List AVal)
  | nilf
  | iface (t : TypeId) (v : AVal)
  | nili
  deriving Inhabited

def AVal.cells : AVal → List AVal
  | .agg cs => cs
  | .bool b => [.bool b]
  | .int k n => [.int k n]
  | .str s => [.str s]
  | .tup vs => [.tup vs]
  | .slc sz xs full => [.slc sz xs full]
  | .arr sz b off n => [.arr sz b off n]
  | .ptr b i o => [.ptr b i o]
  | .iptr cs => [.iptr cs]
  | .nilp => [.nilp]
  | .fn f first caps => [.fn f first caps]
  | .nilf => [.nilf]
  | .iface t v => [.iface t v]
  | .nili => [.nili]

/-- A value of one cell. -/
def AVal.one : AVal → Bool
  | .agg _ | .tup _ => false
  | _ => true

/-- An element of 'sz' cells. -/
def AVal.elem (sz : Nat) (x : AVal) : Prop := x.cells.length = sz ∧ ∀ c ∈ x.cells, c.one = true

/-- Where a named block lies. 'none': nowhere (it holds nothing yet). -/
structure Loc where
  blk : Option Nat
  sz : Nat
  cap : Nat

/-- Whatever is no cells lies as9 it lay. -/
structure Oth (w w' : World) : Prop where
  size : w.heap.size ≤ w'.heap.size
  same : ∀ (k : Nat) (o : Obj), w.heap[k]? = some o → (∀ cs ty fr, o ≠ .cells cs ty fr) → w'.heap[k]? = some o
theorem Oth.refl (w : World) : Oth w w := ⟨Nat.le_refl _, fun _ _ h _ => h⟩
theorem Oth.trans {a b c : World} (h : Oth a b) (k : Oth b c) : Oth a c := ⟨Nat.le_trans h.size k.size, fun i o hi ho => k.same i o (h.same i o hi ho) ho⟩
theorem Oth.drew {a b : World} (h : Oth a b) : Oth a b.drew := ⟨h.size, h.same⟩
theorem Oth.alloc {a b : World} (h : Oth a b) (o : Obj) : Oth a (b.alloc o) := by
  refine h.trans ⟨by simp, fun k o' hk _ => ?_⟩
  have hlt := (Array.getElem?_eq_some_iff.1 hk).1
  show (b.heap.push o)[k]? = some o'
  rw [Array.getElem?_push, if_neg (Nat.ne_of_lt hlt)]
  exact hk
theorem Oth.turn {a b c : World} (h : Oth a b) {r : Nat} {cs : Array Value} {ty : TypeId} {fr : Nat × Nat} (hr : b.heap[r]? = some (.cells cs ty fr)) (hs : b.heap.size ≤ c.heap.size) (hc : ∀ k, k ≠ r → c.heap[k]? = b.heap[k]?) : Oth a c := by
  refine h.trans ⟨hs, fun k o hk ho => ?_⟩
  by_cases e : k = r
  · subst e
    rw [hr] at hk
    simp only [Option.some.injEq] at hk
    exact absurd hk.symm (ho _ _ _)
  · rw [hc k e]; exact hk

/-- What is known of memory for good. -/
structure Kr where
  w0 : World
  tab : TabW w0
  wo : World
  imm : Nat → Nat → Option Value
  loc : Nat → Option Loc
  nn : Nat

structure Kr.le (K K' : Kr) : Prop where
  w0 : K'.w0 = K.w0
  wo : Oth K.wo K'.wo
  imm : ∀ b o v, K.imm b o = some v → K'.imm b o = some v
  loc : ∀ b L, K.loc b = some L → K'.loc b = some L
  nn : K.nn ≤ K'.nn

theorem Kr.le.refl (K : Kr) : K.le K := ⟨rfl, Oth.refl _, fun _ _ _ h => h, fun _ _ h => h, Nat.le_refl _⟩
theorem Kr.le.trans {K K1 K2 : Kr} (h : K.le K1) (h' : K1.le K2) : K.le K2 :=
  ⟨h'.w0.trans h.w0, h.wo.trans h'.wo, fun b o v e => h'.imm b o v (h.imm b o v e), fun b L e => h'.loc b L (h.loc b L e), Nat.le_trans h.nn h'.nn⟩

inductive VRel (K : Kr) : List AVal → List Value → Prop
  | nil : VRel K [] []
  | bool {b l m} (r : VRel K l m) : VRel K (.bool b :: l) (.bool b :: m)
  | int {k n l m} (r : VRel K l m) : VRel K (.int k n :: l) (.int k n :: m)
  | str {s l m} (r : VRel K l m) : VRel K (.str s :: l) (.string ⟨s.toArray⟩ :: m)
  | agg {cs vs l m} (h1 : ∀ c ∈ cs, c.one = true) (hv : VRel K cs vs) (r : VRel K l m) : VRel K (.agg cs :: l) (.agg vs.toArray :: m)
  | tup {cs vs l m} (hv : VRel K cs vs) (r : VRel K l m) : VRel K (.tup cs :: l) (.tuple vs.toArray :: m)
  | slc0 {sz full a cap l m} (hf : full = true → cap = 0) (r : VRel K l m) : VRel K (.slc sz [] full :: l) (.slice a 0 cap :: m)
  | slc {sz xs full a n cap vs l m} (hn : xs.length = n) (he : ∀ x ∈ xs, x.elem sz) (hs : a.spot = none)
      (hm : ∀ j v, vs[j]? = some v → K.imm a.block (a.off + j) = some v) (hv : VRel K (xs.flatMap AVal.cells) vs) (hc : n ≤ cap)
      (hf : full = true → cap = n) (r : VRel K l m) : VRel K (.slc sz xs full :: l) (.slice (some a) n cap :: m)
  | arr {b off n cb sz pcap cap l m} (hl : K.loc b = some ⟨some cb, sz, pcap⟩) (ho : off + cap ≤ pcap) (hn : n ≤ cap) (r : VRel K l m) :
      VRel K (.arr sz b off n :: l) (.slice (some ⟨cb, off * sz, none⟩) n cap :: m)
  | arr0 {b sz pcap a l m} (hl : K.loc b = some ⟨none, sz, pcap⟩) (r : VRel K l m) : VRel K (.arr sz b 0 0 :: l) (.slice a 0 0 :: m)
  | ptr {b i o cb sz pcap l m} (hl : K.loc b = some ⟨some cb, sz, pcap⟩) (r : VRel K l m) :
      VRel K (.ptr b i o :: l) (.pointer (some ⟨cb, i * sz + o, none⟩) :: m)
  | iptr {cs a vs l m} (hs : a.spot = none) (h1 : ∀ c ∈ cs, c.one = true) (hm : ∀ j v, vs[j]? = some v → K.imm a.block (a.off + j) = some v)
      (hv : VRel K cs vs) (r : VRel K l m) : VRel K (.iptr cs :: l) (.pointer (some a) :: m)
  | nilp {l m} (r : VRel K l m) : VRel K (.nilp :: l) (.pointer none :: m)
  | fn {f first caps v1 v2 l m} (h1 : VRel K first v1) (h2 : VRel K caps v2) (r : VRel K l m) :
      VRel K (.fn f first caps :: l) (.func (.func f) v1.toArray v2.toArray :: m)
  | nilf {l m} (r : VRel K l m) : VRel K (.nilf :: l) (.nilFunc :: m)
  | iface {t v x l m} (hv : VRel K [v] [x]) (r : VRel K l m) : VRel K (.iface t v :: l) (.iface t x :: m)
  | nili {l m} (r : VRel K l m) : VRel K (.nili :: l) (.nilIface :: m)

/-- One value. -/
def VR (K : Kr) (a : AVal) (v : Value) : Prop := VRel K [a] [v]

theorem VRel.mono2 {K K' : Kr} (himm : ∀ b o v, K.imm b o = some v → K'.imm b o = some v) (hloc : ∀ b L, K.loc b = some L → K'.loc b = some L) {l : List AVal} {m : List Value} (r : VRel K l m) : VRel K' l m := by
  induction r with
  | nil => exact .nil
  | bool _ ih => exact .bool ih
  | int _ ih => exact .int ih
  | str _ ih => exact .str ih
  | agg h1 _ _ ih1 ih2 => exact .agg h1 ih1 ih2
  | tup _ _ ih1 ih2 => exact .tup ih1 ih2
  | slc0 hf _ ih => exact .slc0 hf ih
  | slc hn he hs hm _ hc hf _ ih1 ih2 => exact .slc hn he hs (fun j v e => himm _ _ _ (hm j v e)) ih1 hc hf ih2
  | arr hl ho hn _ ih => exact .arr (hloc _ _ hl) ho hn ih
  | arr0 hl _ ih => exact .arr0 (hloc _ _ hl) ih
  | ptr hl _ ih => exact .ptr (hloc _ _ hl) ih
  | iptr hs h1 hm _ _ ih1 ih2 => exact .iptr hs h1 (fun j v e => himm _ _ _ (hm j v e)) ih1 ih2
  | nilp _ ih => exact .nilp ih
  | fn _ _ _ ih1 ih2 ih3 => exact .fn ih1 ih2 ih3
  | nilf _ ih => exact .nilf ih
  | iface _ _ ih1 ih2 => exact .iface ih1 ih2
  | nili _ ih => exact .nili ih

theorem VRel.mono {K K' : Kr} (h : K.le K') {l : List AVal} {m : List Value} (r : VRel K l m) : VRel K' l m := r.mono2 h.imm h.loc

theorem VRel.length {K : Kr} {l : List AVal} {m : List Value} (r : VRel K l m) : l.length = m.length := by
  induction r <;> simp_all

theorem VRel.cons {K : Kr} {a : AVal} {v : Value} {l : List AVal} {m : List Value} (h : VR K a v) (r : VRel K l m) : VRel K (a :: l) (v :: m) := by
  unfold VR at h
  cases h with
  | bool _ => exact .bool r
  | int _ => exact .int r
  | str _ => exact .str r
  | agg h1 hv _ => exact .agg h1 hv r
  | tup hv _ => exact .tup hv r
  | slc0 hf _ => exact .slc0 hf r
  | slc hn he hs hm hv hc hf _ => exact .slc hn he hs hm hv hc hf r
  | arr hl ho hn _ => exact .arr hl ho hn r
  | arr0 hl _ => exact .arr0 hl r
  | ptr hl _ => exact .ptr hl r
  | iptr hs h1 hm hv _ => exact .iptr hs h1 hm hv r
  | nilp _ => exact .nilp r
  | fn h1 h2 _ => exact .fn h1 h2 r
  | nilf _ => exact .nilf r
  | iface hv _ => exact .iface hv r
  | nili _ => exact .nili r

theorem VRel.inv {K : Kr} {a : AVal} {v : Value} {l : List AVal} {m : List Value} (h : VRel K (a :: l) (v :: m)) : VR K a v ∧ VRel K l m := by
  unfold VR
  cases h with
  | bool r => exact ⟨.bool .nil, r⟩
  | int r => exact ⟨.int .nil, r⟩
  | str r => exact ⟨.str .nil, r⟩
  | agg h1 hv r => exact ⟨.agg h1 hv .nil, r⟩
  | tup hv r => exact ⟨.tup hv .nil, r⟩
  | slc0 hf r => exact ⟨.slc0 hf .nil, r⟩
  | slc hn he hs hm hv hc hf r => exact ⟨.slc hn he hs hm hv hc hf .nil, r⟩
  | arr hl ho hn r => exact ⟨.arr hl ho hn .nil, r⟩
  | arr0 hl r => exact ⟨.arr0 hl .nil, r⟩
  | ptr hl r => exact ⟨.ptr hl .nil, r⟩
  | iptr hs h1 hm hv r => exact ⟨.iptr hs h1 hm hv .nil, r⟩
  | nilp r => exact ⟨.nilp .nil, r⟩
  | fn h1 h2 r => exact ⟨.fn h1 h2 .nil, r⟩
  | nilf r => exact ⟨.nilf .nil, r⟩
  | iface hv r => exact ⟨.iface hv .nil, r⟩
  | nili r => exact ⟨.nili .nil, r⟩

theorem VRel.cons_iff {K : Kr} {a : AVal} {v : Value} {l : List AVal} {m : List Value} : VRel K (a :: l) (v :: m) ↔ VR K a v ∧ VRel K l m :=
  ⟨VRel.inv, fun h => .cons h.1 h.2⟩

theorem VRel.nil_inv {K : Kr} {m : List Value} (h : VRel K [] m) : m = [] := by cases h; rfl

theorem VRel.ex {K : Kr} {a : AVal} {l : List AVal} {m : List Value} (h : VRel K (a :: l) m) : ∃ v m', m = v :: m' ∧ VR K a v ∧ VRel K l m' := by
  cases m with
  | nil => cases h
  | cons v m' => exact ⟨v, m', rfl, h.inv.1, h.inv.2⟩

theorem VRel.append {K : Kr} {l l' : List AVal} {m m' : List Value} (h : VRel K l m) (h' : VRel K l' m') : VRel K (l ++ l') (m ++ m') := by
  induction l generalizing m with
  | nil => rw [h.nil_inv]; exact h'
  | cons a l ih =>
    obtain ⟨v, m1, rfl, h1, h2⟩ := h.ex
    exact .cons h1 (ih h2)

theorem VRel.get {K : Kr} {l : List AVal} {m : List Value} (h : VRel K l m) : ∀ {i : Nat} {a : AVal}, l[i]? = some a → ∃ v, m[i]? = some v ∧ VR K a v := by
  induction l generalizing m with
  | nil => intro i a e; simp at e
  | cons b l ih =>
    obtain ⟨v, m1, rfl, h1, h2⟩ := h.ex
    intro i a e
    cases i with
    | zero => simp at e; subst e; exact ⟨v, by simp, h1⟩
    | succ i => simpa using ih h2 (by simpa using e)

theorem VRel.take {K : Kr} {l : List AVal} {m : List Value} (h : VRel K l m) (n : Nat) : VRel K (l.take n) (m.take n) := by
  induction n generalizing l m with
  | zero => simp; exact .nil
  | succ n ih =>
    cases l with
    | nil => rw [h.nil_inv]; simp; exact .nil
    | cons a l =>
      obtain ⟨v, m1, rfl, h1, h2⟩ := h.ex
      simp only [List.take_succ_cons]
      exact .cons h1 (ih h2)

theorem VRel.drop {K : Kr} {l : List AVal} {m : List Value} (h : VRel K l m) (n : Nat) : VRel K (l.drop n) (m.drop n) := by
  induction n generalizing l m with
  | zero => simpa using h
  | succ n ih =>
    cases l with
    | nil => rw [h.nil_inv]; simp; exact .nil
    | cons a l =>
      obtain ⟨v, m1, rfl, h1, h2⟩ := h.ex
      simpa using ih h2

theorem VRel.split {K : Kr} {l l' : List AVal} {m : List Value} (h : VRel K (l ++ l') m) : ∃ m1 m2, m = m1 ++ m2 ∧ VRel K l m1 ∧ VRel K l' m2 := by
  refine ⟨m.take l.length, m.drop l.length, (List.take_append_drop _ _).symm, ?_, ?_⟩
  · simpa using h.take l.length
  · simpa using h.drop l.length

/-- A value of one cell is one of one cell. -/
theorem VR.one {K : Kr} {a : AVal} {v : Value} (h : VR K a v) (h1 : a.one = true) : v.oneCell' = true := by
  unfold VR at h
  cases h <;> first | rfl | (simp [AVal.one] at h1)

theorem VRel.ones {K : Kr} {l : List AVal} {m : List Value} (h : VRel K l m) (h1 : ∀ c ∈ l, c.one = true) : ∀ v ∈ m, v.oneCell' = true := by
  induction l generalizing m with
  | nil => rw [h.nil_inv]; simp
  | cons a l ih =>
    obtain ⟨v, m1, rfl, h2, h3⟩ := h.ex
    intro u hu
    rcases List.mem_cons.1 hu with rfl | hu
    · exact h2.one (h1 a (by simp))
    · exact ih h3 (fun c hc => h1 c (by simp [hc])) u hu

/-- The cells of a value. -/
theorem VR.cells {K : Kr} {a : AVal} {v : Value} (h : VR K a v) : VRel K a.cells v.cells.toList := by
  have h0 := h
  unfold VR at h
  cases h with
  | agg h1 hv _ => simpa [AVal.cells, Value.cells] using hv
  | _ => exact h0

theorem AVal.cells_of_one {a : AVal} (h : a.one = true) : a.cells = [a] := by cases a <;> first | rfl | (simp [AVal.one] at h)

end Go.Abs
