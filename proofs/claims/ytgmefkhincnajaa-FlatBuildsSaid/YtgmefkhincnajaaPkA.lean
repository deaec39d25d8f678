/- Part A of a proof: merged by program. -/
import Derived.WalkKit
set_option linter.unusedVariables false
set_option linter.unusedSimpArgs false
namespace Go.Abs
open Go Go.RowKit
inductive Z0 where
 | bool (b : Bool)
 | int (k : IntKind) (n : Int)
 | str (s : List UInt8)
 | agg (cs : List Z0)
 | tup (vs : List Z0)
 | slc (sz : Nat) (xs : List Z0) (full : Bool)
 | arr (sz b off n : Nat)
 | ptr (b i o : Nat)
 | iptr (cs : List Z0)
 | nilp
 | fn (f : FuncId) (first caps : List Z0)
 | nilf
 | iface (t : TypeId) (v : Z0)
 | nili
 deriving Inhabited
def Z0.cells : Z0 → List Z0
 | .agg cs => cs
 | .bool b => [.bool b]
 | .int k n => [.int k n]
 | .str s => [.str s]
 | .tup vs => [.tup vs]
 | .slc sz xs full => [.slc sz xs full]
 | .arr sz b off n => [.arr sz b off n]
 | .ptr b i o => [.ptr b i o]
 | .iptr cs => [.iptr cs]
 | .nilp => [.nilp]
 | .fn f first caps => [.fn f first caps]
 | .nilf => [.nilf]
 | .iface t v => [.iface t v]
 | .nili => [.nili]
def Z0.one : Z0 → Bool
 | .agg _ | .tup _ => false
 | _ => true
def Z0.elem (sz : Nat) (x : Z0) : Prop := x.cells.length = sz ∧ ∀ c ∈ x.cells, c.one = true
structure Loc where
 blk : Option Nat
 sz : Nat
 cap : Nat
structure Oth (w w' : World) : Prop where
 size : w.heap.size ≤ w'.heap.size
 same : ∀ (k : Nat) (o : Obj), w.heap[k]? = some o → (∀ cs ty fr, o ≠ .cells cs ty fr) → w'.heap[k]? = some o
theorem Oth.refl (w : World) : Oth w w := ⟨Nat.le_refl _, fun _ _ h _ => h⟩
theorem Oth.trans {a b c : World} (h : Oth a b) (k : Oth b c) : Oth a c := ⟨Nat.le_trans h.size k.size, fun i o hi ho => k.same i o (h.same i o hi ho) ho⟩
theorem Oth.drew {a b : World} (h : Oth a b) : Oth a b.drew := ⟨h.size, h.same⟩
theorem Oth.alloc {a b : World} (h : Oth a b) (o : Obj) : Oth a (b.alloc o) := by
 refine h.trans ⟨by simp, fun k o' hk _ => ?_⟩
 have hlt := (Array.getElem?_eq_some_iff.1 hk).1
 show (b.heap.push o)[k]? = some o'
 rw [Array.getElem?_push, if_neg (Nat.ne_of_lt hlt)]
 exact hk
theorem Oth.turn {a b c : World} (h : Oth a b) {r : Nat} {cs : Array Value} {ty : TypeId} {fr : Nat × Nat} (hr : b.heap[r]? = some (.cells cs ty fr)) (hs : b.heap.size ≤ c.heap.size) (hc : ∀ k, k ≠ r → c.heap[k]? = b.heap[k]?) : Oth a c := by
 refine h.trans ⟨hs, fun k o hk ho => ?_⟩
 by_cases e : k = r
 ·subst e
  rw [hr] at hk
  simp only [Option.some.injEq] at hk
  exact absurd hk.symm (ho _ _ _)
 ·rw [hc k e]; exact hk
structure Kr where
 w0 : World
 wo : World
 imm : Nat → Nat → Option Value
 loc : Nat → Option Loc
 nn : Nat
structure Kr.le (K K' : Kr) : Prop where
 w0 : K'.w0 = K.w0
 wo : Oth K.wo K'.wo
 imm : ∀ b o v, K.imm b o = some v → K'.imm b o = some v
 loc : ∀ b L, K.loc b = some L → K'.loc b = some L
 nn : K.nn ≤ K'.nn
theorem Kr.le.refl (K : Kr) : K.le K := ⟨rfl, Oth.refl _, fun _ _ _ h => h, fun _ _ h => h, Nat.le_refl _⟩
theorem Kr.le.trans {K K1 K2 : Kr} (h : K.le K1) (h' : K1.le K2) : K.le K2 :=
 ⟨h'.w0.trans h.w0, h.wo.trans h'.wo, fun b o v e => h'.imm b o v (h.imm b o v e), fun b L e => h'.loc b L (h.loc b L e), Nat.le_trans h.nn h'.nn⟩
inductive Z1 (K : Kr) : List Z0 → List Value → Prop
 | nil : Z1 K [] []
 | bool {b l m} (r : Z1 K l m) : Z1 K (.bool b :: l) (.bool b :: m)
 | int {k n l m} (r : Z1 K l m) : Z1 K (.int k n :: l) (.int k n :: m)
 | str {s l m} (r : Z1 K l m) : Z1 K (.str s :: l) (.string ⟨s.toArray⟩ :: m)
 | agg {cs vs l m} (h1 : ∀ c ∈ cs, c.one = true) (hv : Z1 K cs vs) (r : Z1 K l m) : Z1 K (.agg cs :: l) (.agg vs.toArray :: m)
 | tup {cs vs l m} (hv : Z1 K cs vs) (r : Z1 K l m) : Z1 K (.tup cs :: l) (.tuple vs.toArray :: m)
 | slc0 {sz full a cap l m} (hf : full = true → cap = 0) (r : Z1 K l m) : Z1 K (.slc sz [] full :: l) (.slice a 0 cap :: m)
 | slc {sz xs full a n cap vs l m} (hn : xs.length = n) (he : ∀ x ∈ xs, x.elem sz) (hs : a.spot = none)
   (hm : ∀ j v, vs[j]? = some v → K.imm a.block (a.off + j) = some v) (hv : Z1 K (xs.flatMap Z0.cells) vs) (hc : n ≤ cap)
   (hf : full = true → cap = n) (r : Z1 K l m) : Z1 K (.slc sz xs full :: l) (.slice (some a) n cap :: m)
 | arr {b off n cb sz pcap cap l m} (hl : K.loc b = some ⟨some cb, sz, pcap⟩) (ho : off + cap ≤ pcap) (hn : n ≤ cap) (r : Z1 K l m) :
   Z1 K (.arr sz b off n :: l) (.slice (some ⟨cb, off * sz, none⟩) n cap :: m)
 | arr0 {b sz pcap a l m} (hl : K.loc b = some ⟨none, sz, pcap⟩) (r : Z1 K l m) : Z1 K (.arr sz b 0 0 :: l) (.slice a 0 0 :: m)
 | ptr {b i o cb sz pcap l m} (hl : K.loc b = some ⟨some cb, sz, pcap⟩) (r : Z1 K l m) :
   Z1 K (.ptr b i o :: l) (.pointer (some ⟨cb, i * sz + o, none⟩) :: m)
 | iptr {cs a vs l m} (hs : a.spot = none) (h1 : ∀ c ∈ cs, c.one = true) (hm : ∀ j v, vs[j]? = some v → K.imm a.block (a.off + j) = some v)
   (hv : Z1 K cs vs) (r : Z1 K l m) : Z1 K (.iptr cs :: l) (.pointer (some a) :: m)
 | nilp {l m} (r : Z1 K l m) : Z1 K (.nilp :: l) (.pointer none :: m)
 | fn {f first caps v1 v2 l m} (h1 : Z1 K first v1) (h2 : Z1 K caps v2) (r : Z1 K l m) :
   Z1 K (.fn f first caps :: l) (.func (.func f) v1.toArray v2.toArray :: m)
 | nilf {l m} (r : Z1 K l m) : Z1 K (.nilf :: l) (.nilFunc :: m)
 | iface {t v x l m} (hv : Z1 K [v] [x]) (r : Z1 K l m) : Z1 K (.iface t v :: l) (.iface t x :: m)
 | nili {l m} (r : Z1 K l m) : Z1 K (.nili :: l) (.nilIface :: m)
def VR (K : Kr) (a : Z0) (v : Value) : Prop := Z1 K [a] [v]
theorem Z1.mono2 {K K' : Kr} (himm : ∀ b o v, K.imm b o = some v → K'.imm b o = some v) (hloc : ∀ b L, K.loc b = some L → K'.loc b = some L) {l : List Z0} {m : List Value} (r : Z1 K l m) : Z1 K' l m := by
 induction r with
 | nil => exact .nil
 | bool _ ih => exact .bool ih
 | int _ ih => exact .int ih
 | str _ ih => exact .str ih
 | agg h1 _ _ ih1 ih2 => exact .agg h1 ih1 ih2
 | tup _ _ ih1 ih2 => exact .tup ih1 ih2
 | slc0 hf _ ih => exact .slc0 hf ih
 | slc hn he hs hm _ hc hf _ ih1 ih2 => exact .slc hn he hs (fun j v e => himm _ _ _ (hm j v e)) ih1 hc hf ih2
 | arr hl ho hn _ ih => exact .arr (hloc _ _ hl) ho hn ih
 | arr0 hl _ ih => exact .arr0 (hloc _ _ hl) ih
 | ptr hl _ ih => exact .ptr (hloc _ _ hl) ih
 | iptr hs h1 hm _ _ ih1 ih2 => exact .iptr hs h1 (fun j v e => himm _ _ _ (hm j v e)) ih1 ih2
 | nilp _ ih => exact .nilp ih
 | fn _ _ _ ih1 ih2 ih3 => exact .fn ih1 ih2 ih3
 | nilf _ ih => exact .nilf ih
 | iface _ _ ih1 ih2 => exact .iface ih1 ih2
 | nili _ ih => exact .nili ih
theorem Z1.mono {K K' : Kr} (h : K.le K') {l : List Z0} {m : List Value} (r : Z1 K l m) : Z1 K' l m := r.mono2 h.imm h.loc
theorem Z1.length {K : Kr} {l : List Z0} {m : List Value} (r : Z1 K l m) : l.length = m.length := by
 induction r <;> simp_all
theorem Z1.cons {K : Kr} {a : Z0} {v : Value} {l : List Z0} {m : List Value} (h : VR K a v) (r : Z1 K l m) : Z1 K (a :: l) (v :: m) := by
 unfold VR at h
 cases h with
 | bool _ => exact .bool r
 | int _ => exact .int r
 | str _ => exact .str r
 | agg h1 hv _ => exact .agg h1 hv r
 | tup hv _ => exact .tup hv r
 | slc0 hf _ => exact .slc0 hf r
 | slc hn he hs hm hv hc hf _ => exact .slc hn he hs hm hv hc hf r
 | arr hl ho hn _ => exact .arr hl ho hn r
 | arr0 hl _ => exact .arr0 hl r
 | ptr hl _ => exact .ptr hl r
 | iptr hs h1 hm hv _ => exact .iptr hs h1 hm hv r
 | nilp _ => exact .nilp r
 | fn h1 h2 _ => exact .fn h1 h2 r
 | nilf _ => exact .nilf r
 | iface hv _ => exact .iface hv r
 | nili _ => exact .nili r
theorem Z1.inv {K : Kr} {a : Z0} {v : Value} {l : List Z0} {m : List Value} (h : Z1 K (a :: l) (v :: m)) : VR K a v ∧ Z1 K l m := by
 unfold VR
 cases h with
 | bool r => exact ⟨.bool .nil, r⟩
 | int r => exact ⟨.int .nil, r⟩
 | str r => exact ⟨.str .nil, r⟩
 | agg h1 hv r => exact ⟨.agg h1 hv .nil, r⟩
 | tup hv r => exact ⟨.tup hv .nil, r⟩
 | slc0 hf r => exact ⟨.slc0 hf .nil, r⟩
 | slc hn he hs hm hv hc hf r => exact ⟨.slc hn he hs hm hv hc hf .nil, r⟩
 | arr hl ho hn r => exact ⟨.arr hl ho hn .nil, r⟩
 | arr0 hl r => exact ⟨.arr0 hl .nil, r⟩
 | ptr hl r => exact ⟨.ptr hl .nil, r⟩
 | iptr hs h1 hm hv r => exact ⟨.iptr hs h1 hm hv .nil, r⟩
 | nilp r => exact ⟨.nilp .nil, r⟩
 | fn h1 h2 r => exact ⟨.fn h1 h2 .nil, r⟩
 | nilf r => exact ⟨.nilf .nil, r⟩
 | iface hv r => exact ⟨.iface hv .nil, r⟩
 | nili r => exact ⟨.nili .nil, r⟩
theorem Z1.nil_inv {K : Kr} {m : List Value} (h : Z1 K [] m) : m = [] := by cases h; rfl
theorem Z1.ex {K : Kr} {a : Z0} {l : List Z0} {m : List Value} (h : Z1 K (a :: l) m) : ∃ v m', m = v :: m' ∧ VR K a v ∧ Z1 K l m' := by
 cases m with
 | nil => cases h
 | cons v m' => exact ⟨v, m', rfl, h.inv.1, h.inv.2⟩
theorem Z1.append {K : Kr} {l l' : List Z0} {m m' : List Value} (h : Z1 K l m) (h' : Z1 K l' m') : Z1 K (l ++ l') (m ++ m') := by
 induction l generalizing m with
 | nil => rw [h.nil_inv]; exact h'
 | cons a l ih =>
  obtain ⟨v, m1, rfl, h1, h2⟩ := h.ex
  exact .cons h1 (ih h2)
theorem Z1.get {K : Kr} {l : List Z0} {m : List Value} (h : Z1 K l m) : ∀ {i : Nat} {a : Z0}, l[i]? = some a → ∃ v, m[i]? = some v ∧ VR K a v := by
 induction l generalizing m with
 | nil => intro i a e; simp at e
 | cons b l ih =>
  obtain ⟨v, m1, rfl, h1, h2⟩ := h.ex
  intro i a e
  cases i with
  | zero => simp at e; subst e; exact ⟨v, by simp, h1⟩
  | succ i => simpa using ih h2 (by simpa using e)
theorem Z1.take {K : Kr} {l : List Z0} {m : List Value} (h : Z1 K l m) (n : Nat) : Z1 K (l.take n) (m.take n) := by
 induction n generalizing l m with
 | zero => simp; exact .nil
 | succ n ih =>
  cases l with
  | nil => rw [h.nil_inv]; simp; exact .nil
  | cons a l =>
   obtain ⟨v, m1, rfl, h1, h2⟩ := h.ex
   simp only [List.take_succ_cons]
   exact .cons h1 (ih h2)
theorem Z1.drop {K : Kr} {l : List Z0} {m : List Value} (h : Z1 K l m) (n : Nat) : Z1 K (l.drop n) (m.drop n) := by
 induction n generalizing l m with
 | zero => simpa using h
 | succ n ih =>
  cases l with
  | nil => rw [h.nil_inv]; simp; exact .nil
  | cons a l =>
   obtain ⟨v, m1, rfl, h1, h2⟩ := h.ex
   simpa using ih h2
theorem Z1.split {K : Kr} {l l' : List Z0} {m : List Value} (h : Z1 K (l ++ l') m) : ∃ m1 m2, m = m1 ++ m2 ∧ Z1 K l m1 ∧ Z1 K l' m2 := by
 refine ⟨m.take l.length, m.drop l.length, (List.take_append_drop _ _).symm, ?_, ?_⟩
 ·simpa using h.take l.length
 ·simpa using h.drop l.length
theorem VR.one {K : Kr} {a : Z0} {v : Value} (h : VR K a v) (h1 : a.one = true) : v.oneCell' = true := by
 unfold VR at h
 cases h <;> first | rfl | (simp [Z0.one] at h1)
theorem Z1.ones {K : Kr} {l : List Z0} {m : List Value} (h : Z1 K l m) (h1 : ∀ c ∈ l, c.one = true) : ∀ v ∈ m, v.oneCell' = true := by
 induction l generalizing m with
 | nil => rw [h.nil_inv]; simp
 | cons a l ih =>
  obtain ⟨v, m1, rfl, h2, h3⟩ := h.ex
  intro u hu
  rcases List.mem_cons.1 hu with rfl | hu
  ·exact h2.one (h1 a (by simp))
  ·exact ih h3 (fun c hc => h1 c (by simp [hc])) u hu
theorem VR.cells {K : Kr} {a : Z0} {v : Value} (h : VR K a v) : Z1 K a.cells v.cells.toList := by
 have h0 := h
 unfold VR at h
 cases h with
 | agg h1 hv _ => simpa [Z0.cells, Value.cells] using hv
 | _ => exact h0
theorem Z0.cells_of_one {a : Z0} (h : a.one = true) : a.cells = [a] := by cases a <;> first | rfl | (simp [Z0.one] at h)
end Go.Abs
namespace Go.Abs
open Go Go.RowKit
def flat (xs : List Z0) : List Z0 := xs.flatMap Z0.cells
@[simp] theorem Z2 : flat [] = [] := rfl
@[simp] theorem Z3 (x : Z0) (xs : List Z0) : flat (x :: xs) = x.cells ++ flat xs := rfl
@[simp] theorem Z4 (xs ys : List Z0) : flat (xs ++ ys) = flat xs ++ flat ys := by simp [flat]
theorem Z5 {sz : Nat} {xs : List Z0} (h : ∀ x ∈ xs, x.elem sz) : (flat xs).length = xs.length * sz := by
 induction xs with
 | nil => simp
 | cons x xs ih =>
  simp only [Z3, List.length_append, List.length_cons, ih (fun y hy => h y (by simp [hy])), (h x (by simp)).1, Nat.add_mul]
  omega
theorem Z6 {sz : Nat} {xs : List Z0} (h : ∀ x ∈ xs, x.elem sz) (n : Nat) : flat (xs.drop n) = (flat xs).drop (n * sz) := by
 induction n generalizing xs with
 | zero => simp
 | succ n ih =>
  cases xs with
  | nil => simp
  | cons x xs =>
   simp only [List.drop_succ_cons, Z3, Nat.add_mul, Nat.one_mul]
   rw [ih (fun y hy => h y (by simp [hy])), Nat.add_comm (n * sz) sz, ← List.drop_drop]
   congr 1
   rw [← (h x (by simp)).1]
   simp
theorem Z7 {sz : Nat} {xs : List Z0} (h : ∀ x ∈ xs, x.elem sz) (n : Nat) : flat (xs.take n) = (flat xs).take (n * sz) := by
 induction n generalizing xs with
 | zero => simp
 | succ n ih =>
  cases xs with
  | nil => simp
  | cons x xs =>
   simp only [List.take_succ_cons, Z3, Nat.add_mul, Nat.one_mul]
   rw [ih (fun y hy => h y (by simp [hy])), Nat.add_comm (n * sz) sz, ← (h x (by simp)).1, List.take_append, List.take_of_length_le (l := x.cells) (by omega)]
   simp
theorem Z8 {sz : Nat} {xs : List Z0} (h : ∀ x ∈ xs, x.elem sz) {i : Nat} {x : Z0} (hx : xs[i]? = some x) :
  ((flat xs).drop (i * sz)).take sz = x.cells := by
 rw [← Z6 h]
 have hi := (List.getElem?_eq_some_iff.1 hx)
 obtain ⟨hi, rfl⟩ := hi
 rw [List.drop_eq_getElem_cons hi, Z3, ← (h xs[i] (List.getElem_mem hi)).1]
 simp
theorem Z9 {sz : Nat} {xs : List Z0} (h : ∀ x ∈ xs, x.elem sz) : ∀ c ∈ flat xs, c.one = true := by
 intro c hc
 obtain ⟨x, hx, hc⟩ := List.mem_flatMap.1 hc
 exact (h x hx).2 c hc
theorem Za {sz : Nat} {xs : List Z0} (h : ∀ x ∈ xs, x.elem sz) {i : Nat} {y : Z0} (hi : i < xs.length) :
  flat (xs.set i y) = (flat xs).take (i * sz) ++ y.cells ++ (flat xs).drop (i * sz + sz) := by
 rw [List.set_eq_take_append_cons_drop, if_pos hi]
 simp only [Z4, Z3, Z7 h, Z6 h, Nat.add_mul, Nat.one_mul, List.append_assoc]
theorem Z1.at_ {K : Kr} {sz : Nat} {xs : List Z0} {vs : List Value} (hv : Z1 K (flat xs) vs) (h : ∀ x ∈ xs, x.elem sz) {i : Nat} {x : Z0} (hx : xs[i]? = some x) :
  Z1 K x.cells ((vs.drop (i * sz)).take sz) := by
 rw [← Z8 h hx]
 exact (hv.drop _).take _
inductive Zb where
 | cells (sz : Nat) (xs : List Z0)
abbrev Zc := List (Nat × Zb)
def Zd : Zc → Nat → Option Zb
 | [], _ => none
 | (a, x) :: l, b => if a = b then some x else Zd l b
def Ze : Zc → Nat → Zb → Zc
 | [], _, _ => []
 | (a, x) :: l, b, y => if a = b then (a, y) :: l else (a, x) :: Ze l b y
def Zf : Zc → Nat → Nat → Zb → Zc
 | [], _, _, _ => []
 | (a, x) :: l, b, b', y => if a = b then (b', y) :: l else (a, x) :: Zf l b b' y
def Zg : Zc → Nat → Zc
 | [], _ => []
 | (a, x) :: l, b => if a = b then l else (a, x) :: Zg l b
def Zh (σ : Zc) : List Nat := σ.map (·.1)
@[simp] theorem Zi : Zh [] = [] := rfl
@[simp] theorem Zj (p : Nat × Zb) (σ : Zc) : Zh (p :: σ) = p.1 :: Zh σ := rfl
theorem Zk {σ : Zc} {b : Nat} {x : Zb} (h : Zd σ b = some x) : (b, x) ∈ σ := by
 induction σ with
 | nil => simp [Zd] at h
 | cons p σ ih =>
  obtain ⟨a, y⟩ := p
  simp only [Zd] at h
  split at h
  ·rename_i e; subst e; simp at h; subst h; simp
  ·simp [ih h]
theorem Zl {σ : Zc} {b : Nat} {x : Zb} (h : (b, x) ∈ σ) : b ∈ Zh σ := List.mem_map.2 ⟨(b, x), h, rfl⟩
theorem Zm {σ : Zc} (nd : (Zh σ).Nodup) {b : Nat} {x : Zb} (h : (b, x) ∈ σ) : Zd σ b = some x := by
 induction σ with
 | nil => simp at h
 | cons p σ ih =>
  obtain ⟨a, y⟩ := p
  simp only [Zj, List.nodup_cons] at nd
  simp only [Zd]
  rcases List.mem_cons.1 h with e | h
  ·simp only [Prod.mk.injEq] at e; obtain ⟨rfl, rfl⟩ := e; simp
  ·have : a ≠ b := fun e => nd.1 (e ▸ Zl h)
   rw [if_neg this]
   exact ih nd.2 h
theorem Zn (σ : Zc) (b : Nat) (y : Zb) : Zh (Ze σ b y) = Zh σ := by
 induction σ with
 | nil => rfl
 | cons p σ ih =>
  simp only [Ze]
  split <;> simp [ih]
theorem Zo {σ : Zc} (nd : (Zh σ).Nodup) {b c : Nat} {y z : Zb} (h : (c, z) ∈ Ze σ b y) : (c = b ∧ z = y) ∨ (c ≠ b ∧ (c, z) ∈ σ) := by
 induction σ with
 | nil => simp [Ze] at h
 | cons p σ ih =>
  obtain ⟨a, x⟩ := p
  simp only [Zj, List.nodup_cons] at nd
  simp only [Ze] at h
  split at h
  ·rename_i e
   subst e
   rcases List.mem_cons.1 h with e | h
   ·simp only [Prod.mk.injEq] at e; exact .inl e
   ·refine .inr ⟨fun e => nd.1 (e ▸ Zl h), List.mem_cons_of_mem _ h⟩
  ·rename_i hne
   rcases List.mem_cons.1 h with e | h
   ·simp only [Prod.mk.injEq] at e; obtain ⟨rfl, rfl⟩ := e; exact .inr ⟨hne, by simp⟩
   ·rcases ih nd.2 h with h | h
    ·exact .inl h
    ·exact .inr ⟨h.1, List.mem_cons_of_mem _ h.2⟩
theorem Zp {σ : Zc} (nd : (Zh σ).Nodup) {b c : Nat} {z : Zb} (h : (c, z) ∈ Zg σ b) : c ≠ b ∧ (c, z) ∈ σ := by
 induction σ with
 | nil => simp [Zg] at h
 | cons p σ ih =>
  obtain ⟨a, x⟩ := p
  simp only [Zj, List.nodup_cons] at nd
  simp only [Zg] at h
  split at h
  ·rename_i e
   subst e
   exact ⟨fun e => nd.1 (e ▸ Zl h), List.mem_cons_of_mem _ h⟩
  ·rename_i hne
   rcases List.mem_cons.1 h with e | h
   ·simp only [Prod.mk.injEq] at e; obtain ⟨rfl, rfl⟩ := e; exact ⟨hne, by simp⟩
   ·have := ih nd.2 h
    exact ⟨this.1, List.mem_cons_of_mem _ this.2⟩
theorem Zq (σ : Zc) (b : Nat) : (Zh (Zg σ b)).Sublist (Zh σ) := by
 induction σ with
 | nil => exact .slnil
 | cons p σ ih =>
  simp only [Zg]
  split
  ·simp
  ·simpa using ih
theorem Zr {σ : Zc} (nd : (Zh σ).Nodup) {b b' c : Nat} {y z : Zb} (h : (c, z) ∈ Zf σ b b' y) : (c = b' ∧ z = y) ∨ (c ≠ b ∧ (c, z) ∈ σ) := by
 induction σ with
 | nil => simp [Zf] at h
 | cons p σ ih =>
  obtain ⟨a, x⟩ := p
  simp only [Zj, List.nodup_cons] at nd
  simp only [Zf] at h
  split at h
  ·rename_i e
   subst e
   rcases List.mem_cons.1 h with e | h
   ·simp only [Prod.mk.injEq] at e; exact .inl e
   ·refine .inr ⟨fun e => nd.1 (e ▸ Zl h), List.mem_cons_of_mem _ h⟩
  ·rename_i hne
   rcases List.mem_cons.1 h with e | h
   ·simp only [Prod.mk.injEq] at e; obtain ⟨rfl, rfl⟩ := e; exact .inr ⟨hne, by simp⟩
   ·rcases ih nd.2 h with h | h
    ·exact .inl h
    ·exact .inr ⟨h.1, List.mem_cons_of_mem _ h.2⟩
theorem Zs {σ : Zc} (nd : (Zh σ).Nodup) {b b' : Nat} {y : Zb} (hb : b' ∉ Zh σ) : (Zh (Zf σ b b' y)).Nodup := by
 induction σ with
 | nil => simp [Zf]
 | cons p σ ih =>
  obtain ⟨a, x⟩ := p
  simp only [Zj, List.nodup_cons, List.mem_cons, not_or] at nd hb
  simp only [Zf]
  split
  ·simp only [Zj, List.nodup_cons]; exact ⟨hb.2, nd.2⟩
  ·simp only [Zj, List.nodup_cons]
   refine ⟨fun hm => ?_, ih nd.2 hb.2⟩
   obtain ⟨⟨c, z⟩, hz, e⟩ := List.mem_map.1 hm
   rcases Zr nd.2 hz with h | h
   ·exact hb.1 (by rw [← h.1]; exact e)
   ·exact nd.1 (by rw [← e]; exact Zl h.2)
def Own (K : Kr) (w : World) (b : Nat) : Zb → Prop
  | .cells sz xs => (∀ x ∈ xs, x.elem sz) ∧
      ((∃ pcap, K.loc b = some ⟨none, sz, pcap⟩ ∧ xs = []) ∨
       ∃ cb pcap cs ty, K.loc b = some ⟨some cb, sz, pcap⟩ ∧ K.w0.heap.size ≤ cb ∧ (∀ o, K.imm cb o = none) ∧ w.heap[cb]? = some (.cells cs ty (0, 0)) ∧
         cs.size = pcap * sz ∧ xs.length ≤ pcap ∧ pcap ≤ maxLen ∧ Z1 K (flat xs) (cs.toList.take (xs.length * sz)))
structure Rel (K : Kr) (σ : Zc) (w : World) : Prop where
 ext : Below K.w0.heap.size K.w0 w
 oth : Oth K.wo w
 imm : ∀ b o v, K.imm b o = some v → w.cell? ⟨b, o, none⟩ = some v
 nd : (Zh σ).Nodup
 bnd : ∀ b L, K.loc b = some L → b < K.nn
 lit : ∀ b L cb, K.loc b = some L → L.blk = some cb → cb < w.heap.size
 own : ∀ b blk, (b, blk) ∈ σ → Own K w b blk
 inj : ∀ b1 blk1 b2 blk2 cb s1 c1 s2 c2, (b1, blk1) ∈ σ → (b2, blk2) ∈ σ → K.loc b1 = some ⟨some cb, s1, c1⟩ → K.loc b2 = some ⟨some cb, s2, c2⟩ → b1 = b2
theorem Rel.key_lt {K : Kr} {σ : Zc} {w : World} (r : Rel K σ w) {b : Nat} {blk : Zb} (h : (b, blk) ∈ σ) : b < K.nn := by
 have ho := r.own b blk h
 cases blk with
 | cells sz xs =>
  rcases ho.2 with ⟨pcap, hl, _⟩ | ⟨cb, pcap, cs, ty, hl, _⟩ <;> exact r.bnd _ _ hl
theorem Rel.fresh {K : Kr} {σ : Zc} {w : World} (r : Rel K σ w) : K.nn ∉ Zh σ := by
 intro h
 obtain ⟨⟨c, z⟩, hz, e⟩ := List.mem_map.1 h
 have := r.key_lt hz
 simp at e
 omega
theorem Rel.drew {K : Kr} {σ : Zc} {w : World} (r : Rel K σ w) : Rel K σ w.drew :=
 ⟨r.ext.drew, r.oth.drew, r.imm, r.nd, r.bnd, r.lit, fun b blk h => by
  have := r.own b blk h
  cases blk with
  | cells sz xs => exact this, r.inj⟩
theorem Rel.sub {K : Kr} {σ τ : Zc} {w : World} (r : Rel K σ w) (nd : (Zh τ).Nodup) (h : ∀ p ∈ τ, p ∈ σ) : Rel K τ w :=
 ⟨r.ext, r.oth, r.imm, nd, r.bnd, r.lit, fun b blk hb => r.own b blk (h _ hb), fun b1 blk1 b2 blk2 cb s1 c1 s2 c2 h1 h2 => r.inj b1 blk1 b2 blk2 cb s1 c1 s2 c2 (h _ h1) (h _ h2)⟩
theorem Rel.imm_none {K : Kr} {σ : Zc} {w : World} (r : Rel K σ w) {cb : Nat} (h : w.heap.size ≤ cb) (o : Nat) : K.imm cb o = none := by
 cases e : K.imm cb o with
 | none => rfl
 | some v =>
  have := block_lt_of_cell (r.imm cb o v e)
  simp at this
  omega
def Kr.add (K : Kr) (L : Loc) : Kr := { K with loc := fun b => if b = K.nn then some L else K.loc b, nn := K.nn + 1 }
theorem Kr.le_add {K : Kr} {σ : Zc} {w : World} (r : Rel K σ w) (L : Loc) : K.le (K.add L) :=
 ⟨rfl, Oth.refl _, fun _ _ _ h => h, fun b L' h => by
  have := r.bnd b L' h
  simp only [Kr.add]
  rw [if_neg (by omega)]
  exact h, Nat.le_succ _⟩
theorem Kr.add_new (K : Kr) (L : Loc) : (K.add L).loc K.nn = some L := by simp [Kr.add]
theorem Kr.add_old {K : Kr} {L : Loc} {b : Nat} (h : b < K.nn) : (K.add L).loc b = K.loc b := by
 simp only [Kr.add]; rw [if_neg (by omega)]
theorem Own.keep {K K' : Kr} {w w' : World} {b : Nat} {blk : Zb} (h : Own K w b blk) (hK : K.le K')
  (hrow : ∀ cb s c, K.loc b = some ⟨some cb, s, c⟩ → w'.heap[cb]? = w.heap[cb]? ∧ ((∀ o, K.imm cb o = none) → ∀ o, K'.imm cb o = none)) : Own K' w' b blk := by
 cases blk with
 | cells sz xs =>
  refine ⟨h.1, ?_⟩
  rcases h.2 with ⟨pcap, hl, hx⟩ | ⟨cb, pcap, cs, ty, hl, hb, hi, hw, hs, hx, hm, hv⟩
  ·exact .inl ⟨pcap, hK.loc _ _ hl, hx⟩
  ·obtain ⟨h1, h2⟩ := hrow _ _ _ hl
   refine .inr ⟨cb, pcap, cs, ty, hK.loc _ _ hl, by rw [hK.w0]; exact hb, h2 hi, by rw [h1]; exact hw, hs, hx, hm, hv.mono hK⟩
theorem Zt (w : World) (o : Obj) : (w.alloc o).heap[w.heap.size]? = some o := by
 show (w.heap.push o)[w.heap.size]? = some o
 simp
theorem Zu (w : World) (o : Obj) {i : Nat} (h : i < w.heap.size) : (w.alloc o).heap[i]? = w.heap[i]? := by
 show (w.heap.push o)[i]? = w.heap[i]?
 rw [Array.getElem?_push, if_neg (Nat.ne_of_lt h)]
theorem Zv {w w' : World} {b o : Nat} (h : w'.heap[b]? = w.heap[b]?) : w'.cell? ⟨b, o, none⟩ = w.cell? ⟨b, o, none⟩ := by simp [World.cell?, h]
theorem Rel.newOwned {K : Kr} {σ : Zc} {w : World} (r : Rel K σ w) (sz pcap : Nat) (cs : Array Value) (ty : TypeId) (xs : List Z0) (he : ∀ x ∈ xs, x.elem sz)
  (hs : cs.size = pcap * sz) (hx : xs.length ≤ pcap) (hm : pcap ≤ maxLen) (hv : Z1 K (flat xs) (cs.toList.take (xs.length * sz))) :
  Rel (K.add ⟨some w.heap.size, sz, pcap⟩) ((K.nn, .cells sz xs) :: σ) (w.alloc (.cells cs ty)) := by
 have hle := Kr.le_add r ⟨some w.heap.size, sz, pcap⟩
 have hext : Below K.w0.heap.size K.w0 (w.alloc (.cells cs ty)) := r.ext.alloc r.ext.size _
 refine ⟨hext, r.oth.alloc _, fun b o v h => ?_, ?_, fun b L h => ?_, fun b L cb h hb => ?_, fun b blk h => ?_, fun b1 blk1 b2 blk2 cb s1 c1 s2 c2 h1 h2 l1 l2 => ?_⟩
 ·have hc := r.imm b o v h
  have hlt := block_lt_of_cell hc
  rw [Zv (w := w) (Zu _ _ hlt)]
  exact hc
 ·simp only [Zj, List.nodup_cons]; exact ⟨r.fresh, r.nd⟩
 ·simp only [Kr.add] at h ⊢
  split at h
  ·omega
  ·have := r.bnd b L h; omega
 ·simp only [Kr.add] at h
  split at h
  ·simp only [Option.some.injEq] at h; subst h; simp at hb; subst hb; simp
  ·have := r.lit b L cb h hb; simp; omega
 ·rcases List.mem_cons.1 h with e | h
  ·simp only [Prod.mk.injEq] at e
   obtain ⟨rfl, rfl⟩ := e
   refine ⟨he, .inr ⟨w.heap.size, pcap, cs, ty, Kr.add_new _ _, r.ext.size, fun o => r.imm_none (Nat.le_refl _) o, Zt _ _, hs, hx, hm, hv.mono hle⟩⟩
  ·exact (r.own b blk h).keep hle fun cb s c hl => ⟨Zu _ _ (r.lit b _ cb hl rfl), fun h => h⟩
 ·rcases List.mem_cons.1 h1 with e1 | h1 <;> rcases List.mem_cons.1 h2 with e2 | h2
  ·simp only [Prod.mk.injEq] at e1 e2; rw [e1.1, e2.1]
  ·exfalso
   simp only [Prod.mk.injEq] at e1
   rw [e1.1, Kr.add_new] at l1
   rw [Kr.add_old (r.key_lt h2)] at l2
   simp at l1
   have := r.lit _ _ _ l2 rfl
   omega
  ·exfalso
   simp only [Prod.mk.injEq] at e2
   rw [e2.1, Kr.add_new] at l2
   rw [Kr.add_old (r.key_lt h1)] at l1
   simp at l2
   have := r.lit _ _ _ l1 rfl
   omega
  ·rw [Kr.add_old (r.key_lt h1)] at l1
   rw [Kr.add_old (r.key_lt h2)] at l2
   exact r.inj _ _ _ _ _ _ _ _ _ h1 h2 l1 l2
theorem Rel.newNone {K : Kr} {σ : Zc} {w : World} (r : Rel K σ w) (sz : Nat) : Rel (K.add ⟨none, sz, 0⟩) ((K.nn, .cells sz []) :: σ) w := by
 have hle := Kr.le_add r ⟨none, sz, 0⟩
 refine ⟨r.ext, r.oth, r.imm, ?_, fun b L h => ?_, fun b L cb h hb => ?_, fun b blk h => ?_, fun b1 blk1 b2 blk2 cb s1 c1 s2 c2 h1 h2 l1 l2 => ?_⟩
 ·simp only [Zj, List.nodup_cons]; exact ⟨r.fresh, r.nd⟩
 ·simp only [Kr.add] at h ⊢
  split at h
  ·omega
  ·have := r.bnd b L h; omega
 ·simp only [Kr.add] at h
  split at h
  ·simp only [Option.some.injEq] at h; subst h; simp at hb
  ·exact r.lit b L cb h hb
 ·rcases List.mem_cons.1 h with e | h
  ·simp only [Prod.mk.injEq] at e
   obtain ⟨rfl, rfl⟩ := e
   exact ⟨by simp, .inl ⟨0, Kr.add_new _ _, rfl⟩⟩
  ·exact (r.own b blk h).keep hle fun cb s c hl => ⟨rfl, fun h => h⟩
 ·rcases List.mem_cons.1 h1 with e1 | h1 <;> rcases List.mem_cons.1 h2 with e2 | h2
  ·simp only [Prod.mk.injEq] at e1 e2; rw [e1.1, e2.1]
  ·exfalso
   simp only [Prod.mk.injEq] at e1
   rw [e1.1, Kr.add_new] at l1
   simp at l1
  ·exfalso
   simp only [Prod.mk.injEq] at e2
   rw [e2.1, Kr.add_new] at l2
   simp at l2
  ·rw [Kr.add_old (r.key_lt h1)] at l1
   rw [Kr.add_old (r.key_lt h2)] at l2
   exact r.inj _ _ _ _ _ _ _ _ _ h1 h2 l1 l2
def Kr.addImm (K : Kr) (cb : Nat) (cs : List Value) : Kr := { K with imm := fun b o => if b = cb then cs[o]? else K.imm b o }
theorem Rel.newImm {K : Kr} {σ : Zc} {w : World} (r : Rel K σ w) (cs : Array Value) (ty : TypeId) (fr : Nat × Nat) :
  K.le (K.addImm w.heap.size cs.toList) ∧ Rel (K.addImm w.heap.size cs.toList) σ (w.alloc (.cells cs ty fr)) := by
 have hle : K.le (K.addImm w.heap.size cs.toList) := by
  refine ⟨rfl, Oth.refl _, fun b o v h => ?_, fun _ _ h => h, Nat.le_refl _⟩
  have := block_lt_of_cell (r.imm b o v h)
  simp only [Kr.addImm] at this ⊢
  rw [if_neg (by omega)]
  exact h
 refine ⟨hle, ⟨r.ext.alloc r.ext.size _, r.oth.alloc _, fun b o v h => ?_, r.nd, r.bnd, fun b L cb h hb => ?_, fun b blk h => ?_, r.inj⟩⟩
 ·simp only [Kr.addImm] at h
  split at h
  ·rename_i e
   subst e
   rw [cell_of_row (w.alloc (.cells cs ty fr)) _ o cs ty fr (Zt _ _)]
   simpa using h
  ·have hc := r.imm b o v h
   have hlt := block_lt_of_cell hc
   rw [Zv (w := w) (Zu _ _ hlt)]
   exact hc
 ·have := r.lit b L cb h hb; simp; omega
 ·refine (r.own b blk h).keep hle fun cb s c hl => ?_
  have hlt := r.lit b _ cb hl rfl
  refine ⟨Zu _ _ hlt, fun h o => ?_⟩
  simp only [Kr.addImm]
  rw [if_neg (by omega)]
  exact h o
theorem Rel.write {K : Kr} {σ : Zc} {w : World} (r : Rel K σ w) {b sz : Nat} {xs xs' : List Z0} (hb : (b, Zb.cells sz xs) ∈ σ) {cb pcap : Nat}
  (hl : K.loc b = some ⟨some cb, sz, pcap⟩) (he : ∀ x ∈ xs', x.elem sz) (cs' : Array Value) (hs : cs'.size = pcap * sz) (hx : xs'.length ≤ pcap)
  (hv : Z1 K (flat xs') (cs'.toList.take (xs'.length * sz))) : Rel K (Ze σ b (.cells sz xs')) (w.setRow cb cs') := by
 have ho := r.own b _ hb
 have hnone : ∀ o, K.imm cb o = none := by
  rcases ho.2 with ⟨p, h1, _⟩ | ⟨cb', p, cs, ty, h1, _, hi, _⟩
  ·rw [hl] at h1; simp at h1
  ·rw [hl] at h1; simp at h1; obtain ⟨rfl, _⟩ := h1; exact hi
 obtain ⟨cs, ty, hw, hbase, hmax⟩ : ∃ cs ty, w.heap[cb]? = some (.cells cs ty (0, 0)) ∧ K.w0.heap.size ≤ cb ∧ pcap ≤ maxLen := by
  rcases ho.2 with ⟨p, h1, _⟩ | ⟨cb', p, cs, ty, h1, h2, _, h3, _, _, h4, _⟩
  ·rw [hl] at h1; simp at h1
  ·rw [hl] at h1; simp at h1; obtain ⟨rfl, rfl⟩ := h1; exact ⟨cs, ty, h3, h2, h4⟩
 refine ⟨?_, r.oth.turn hw (by rw [size_setRow]; exact Nat.le_refl _) (fun k hk => setRow_other _ _ _ _ hk), fun c o v h => ?_, by rw [Zn]; exact r.nd, r.bnd, fun c L d h hd => ?_, fun c blk h => ?_, fun b1 blk1 b2 blk2 c s1 c1 s2 c2 h1 h2 l1 l2 => ?_⟩
 ·refine r.ext.trans ⟨rfl, rfl, rfl, by simp, fun k hk => setRow_other _ _ _ _ (by omega)⟩
 ·have hne : c ≠ cb := by rintro rfl; rw [hnone] at h; cases h
  rw [Zv (w := w) (setRow_other _ _ _ _ hne)]
  exact r.imm c o v h
 ·rw [size_setRow]; exact r.lit c L d h hd
 ·rcases Zo r.nd h with ⟨rfl, rfl⟩ | ⟨hne, h⟩
  ·refine ⟨he, .inr ⟨cb, pcap, cs', ty, hl, hbase, hnone, setRow_heap _ _ _ _ _ _ hw, hs, hx, hmax, hv⟩⟩
  ·refine (r.own c blk h).keep (Kr.le.refl K) fun d s c' hl' => ⟨setRow_other _ _ _ _ ?_, fun h => h⟩
   rintro rfl
   exact hne (r.inj _ _ _ _ _ _ _ _ _ h hb hl' hl)
 ·have m1 : ∃ z, (b1, z) ∈ σ := by
   rcases Zo r.nd h1 with ⟨rfl, _⟩ | ⟨_, h⟩
   ·exact ⟨_, hb⟩
   ·exact ⟨_, h⟩
  have m2 : ∃ z, (b2, z) ∈ σ := by
   rcases Zo r.nd h2 with ⟨rfl, _⟩ | ⟨_, h⟩
   ·exact ⟨_, hb⟩
   ·exact ⟨_, h⟩
  obtain ⟨z1, m1⟩ := m1
  obtain ⟨z2, m2⟩ := m2
  exact r.inj _ _ _ _ _ _ _ _ _ m1 m2 l1 l2
theorem Rel.rename {K : Kr} {σ : Zc} {w : World} (r : Rel K σ w) {b : Nat} {blk : Zb} (hb : (b, blk) ∈ σ) {L : Loc} (hl : K.loc b = some L) :
  Rel (K.add L) (Zf σ b K.nn blk) w := by
 have hle := Kr.le_add r L
 have hown : ∀ c z, (c, z) ∈ Zf σ b K.nn blk → (c = K.nn ∧ z = blk) ∨ (c ≠ b ∧ (c, z) ∈ σ) := fun c z h => Zr r.nd h
 refine ⟨r.ext, r.oth, r.imm, Zs r.nd r.fresh, fun c M h => ?_, fun c M d h hd => ?_, fun c z h => ?_, fun b1 z1 b2 z2 d s1 c1 s2 c2 h1 h2 l1 l2 => ?_⟩
 ·simp only [Kr.add] at h ⊢
  split at h
  ·omega
  ·have := r.bnd c M h; omega
 ·simp only [Kr.add] at h
  split at h
  ·simp only [Option.some.injEq] at h; subst h; exact r.lit b _ d hl hd
  ·exact r.lit c M d h hd
 ·rcases hown c z h with ⟨rfl, rfl⟩ | ⟨hne, h⟩
  ·have ho := r.own b _ hb
   cases z with
   | cells sz xs =>
    refine ⟨ho.1, ?_⟩
    rcases ho.2 with ⟨p, h1, hx⟩ | ⟨cb, p, cs, ty, h1, h2, h3, h4, h5, h6, h7, h8⟩
    ·rw [hl] at h1; simp only [Option.some.injEq] at h1; subst h1
     exact .inl ⟨p, Kr.add_new _ _, hx⟩
    ·rw [hl] at h1; simp only [Option.some.injEq] at h1; subst h1
     exact .inr ⟨cb, p, cs, ty, Kr.add_new _ _, h2, h3, h4, h5, h6, h7, h8.mono hle⟩
  ·exact (r.own c z h).keep hle fun cb s c hl => ⟨rfl, fun h => h⟩
 ·rcases hown _ _ h1 with ⟨e1, _⟩ | ⟨n1, h1⟩ <;> rcases hown _ _ h2 with ⟨e2, _⟩ | ⟨n2, h2⟩
  ·rw [e1, e2]
  ·exfalso
   rw [e1, Kr.add_new] at l1
   simp only [Option.some.injEq] at l1; subst l1
   rw [Kr.add_old (r.key_lt h2)] at l2
   exact n2 (r.inj _ _ _ _ _ _ _ _ _ h2 hb l2 hl)
  ·exfalso
   rw [e2, Kr.add_new] at l2
   simp only [Option.some.injEq] at l2; subst l2
   rw [Kr.add_old (r.key_lt h1)] at l1
   exact n1 (r.inj _ _ _ _ _ _ _ _ _ h1 hb l1 hl)
  ·rw [Kr.add_old (r.key_lt h1)] at l1
   rw [Kr.add_old (r.key_lt h2)] at l2
   exact r.inj _ _ _ _ _ _ _ _ _ h1 h2 l1 l2
theorem Rel.freeze {K : Kr} {σ : Zc} {w : World} (r : Rel K σ w) {b sz : Nat} {xs : List Z0} (hb : (b, Zb.cells sz xs) ∈ σ) {cb pcap : Nat} (hl : K.loc b = some ⟨some cb, sz, pcap⟩) :
  ∃ vs, Z1 K (flat xs) vs ∧ K.le (K.addImm cb vs) ∧ Rel (K.addImm cb vs) (Zg σ b) w := by
 have ho := r.own b _ hb
 rcases ho.2 with ⟨p, h1, hx⟩ | ⟨cb', p, cs, ty, h1, h2, h3, h4, h5, h6, h7, h8⟩
 ·rw [hl] at h1; simp at h1
 ·rw [hl] at h1
  simp at h1
  obtain ⟨rfl, rfl⟩ := h1
  have hle : K.le (K.addImm cb (cs.toList.take (xs.length * sz))) := by
   refine ⟨rfl, Oth.refl _, fun b o v h => ?_, fun _ _ h => h, Nat.le_refl _⟩
   simp only [Kr.addImm]
   split
   ·rename_i e; subst e; rw [h3] at h; cases h
   ·exact h
  refine ⟨_, h8, hle, ⟨r.ext, r.oth, fun c o v h => ?_, (Zq σ b).nodup r.nd, r.bnd, r.lit, fun c z h => ?_, fun b1 z1 b2 z2 d s1 c1 s2 c2 m1 m2 => ?_⟩⟩
  ·simp only [Kr.addImm] at h
   split at h
   ·rename_i e
    subst e
    rw [cell_of_row w c o cs ty _ h4]
    rw [List.getElem?_take] at h
    split at h
    ·simpa using h
    ·cases h
   ·exact r.imm c o v h
  ·obtain ⟨hne, h⟩ := Zp r.nd h
   refine (r.own c z h).keep hle fun d s c' hl' => ⟨rfl, fun h' o => ?_⟩
   simp only [Kr.addImm]
   rw [if_neg ?_]
   ·exact h' o
   ·rintro rfl
    exact hne (r.inj _ _ _ _ _ _ _ _ _ h hb hl' hl)
  ·exact r.inj _ _ _ _ _ _ _ _ _ (Zp r.nd m1).2 (Zp r.nd m2).2
end Go.Abs
namespace Go.Abs
open Go Go.RowKit
inductive Zw where
 | t (i : Nat)
 | c (v : Z0)
inductive AK where
 | mov | pick | nilc
 | fad (off : Nat)
 | fld (ag : Bool) (off sz : Nat)
 | iad (sz : Nat)
 | bin (op : BinOp)
 | binb (op : BinOp)
 | cstr
 | unot | uneg | ucpl
 | conv (k : IntKind)
 | slc (sz : Nat) (lo hi mx : Bool)
 | sstr (lo hi : Bool)
 | istr
 | bld (z : List Z0) (places : List (Nat × Nat))
 | ext (i : Nat)
 | lens | lent
 | min | max
 | mkf (f : FuncId) (nf : Nat)
 | mki (t : TypeId)
 | bsl (sz : Nat)
 | s2b
 | loadp (ag : Bool) (sz : Nat)
 | b2sp
 | load (ag : Bool) (sz : Nat)
 | loadg (ag : Bool) (sz : Nat)
 | b2s
 | store (sz : Nat)
 | alloc (z : Z0)
 | box (sz : Nat)
 | bslo (sz : Nat)
 | strish (sz : Nat)
 | isnil (neg : Bool)
 | mks (sz bytes : Nat) (z : Z0)
 | app (sz bytes : Nat)
 | apps
 | cpy (sz : Nat)
 | clip (sz : Nat)
 | call (f : FuncId)
 | callv
 | callp (f : FuncId)
 | callk (f : FuncId) (n : Nat)
 | bad
def AK.quiet : AK → Bool
 | .store _ | .alloc _ | .box _ | .bslo _ | .strish _ | .isnil _ | .mks _ _ _ | .app _ _ | .apps | .cpy _ | .clip _ | .call _ | .callv | .callp _ | .callk _ _ => false
 | _ => true
def AK.reads : AK → Bool
 | .load _ _ | .loadg _ _ | .b2s => true
 | _ => false
def Zx (b : UInt8) : Z0 := .int .u8 b.toNat
def bytes (l : List UInt8) : List Z0 := l.map Zx
def Zy : Z0 → Option UInt8
 | .int .u8 n => some (UInt8.ofNat n.toNat)
 | _ => none
def Zz (l : List Z0) : Option (List UInt8) := l.mapM Zy
def intBits (op : BinOp) (k : IntKind) (x y : Int) : Int :=
 let a := BitVec.ofInt k.bits x
 let b := BitVec.ofInt k.bits y
 match op with
 | .and => k.wrap (a &&& b).toNat
 | .or => k.wrap (a ||| b).toNat
 | .xor => k.wrap (a ^^^ b).toNat
 | _ => k.wrap (a &&& ~~~b).toNat
def Z10 (op : BinOp) (k : IntKind) (a b : Int) : Option Z0 :=
 match op with
 | .add => some (.int k (k.wrap (a + b)))
 | .sub => some (.int k (k.wrap (a - b)))
 | .mul => some (.int k (k.wrap (a * b)))
 | .quo => if b = 0 then none else some (.int k (k.wrap (a.tdiv b)))
 | .rem => if b = 0 then none else some (.int k (a.tmod b))
 | .and => some (.int k (intBits .and k a b))
 | .or => some (.int k (intBits .or k a b))
 | .xor => some (.int k (intBits .xor k a b))
 | .andNot => some (.int k (intBits .andNot k a b))
 | .shl => none
 | .shr => none
 | .eql => some (.bool (decide (a = b)))
 | .neq => some (.bool (decide (a ≠ b)))
 | .lss => some (.bool (decide (a < b)))
 | .leq => some (.bool (decide (a ≤ b)))
 | .gtr => some (.bool (decide (b < a)))
 | .geq => some (.bool (decide (b ≤ a)))
def Z11 (op : BinOp) (k : IntKind) (x y : Int) : Option Z0 :=
 match op with
 | .shl => if y < 0 then none else some (.int k (k.wrap (x * 2 ^ (Nat.min y.toNat k.bits))))
 | .shr => if y < 0 then none else some (.int k (x.fdiv (2 ^ (Nat.min y.toNat k.bits))))
 | _ => none
def Z12 (op : BinOp) (s t : List UInt8) : Option Z0 :=
 match op with
 | .add => if s.length + t.length ≤ maxLen then some (.str (s ++ t)) else none
 | .eql => some (.bool (decide (s = t)))
 | .neq => some (.bool (decide (s ≠ t)))
 | .lss => some (.bool (Op.bytesLess s t))
 | .leq => some (.bool (Op.bytesLess s t || decide (s = t)))
 | .gtr => some (.bool (!(Op.bytesLess s t || decide (s = t))))
 | .geq => some (.bool (!Op.bytesLess s t))
 | _ => none
def Z13 (op : BinOp) (a b : Bool) : Option Z0 :=
 match op with
 | .eql => some (.bool (a == b))
 | .neq => some (.bool (!(a == b)))
 | _ => none
def Z14 : BinOp → Bool
 | .shl | .shr => true
 | _ => false
def abin (op : BinOp) : List Z0 → Option Z0
 | [.int k a, .int k' b] => if Z14 op then Z11 op k a b else if k = k' then Z10 op k a b else none
 | [.str s, .str t] => Z12 op s t
 | _ => none
def Z15 (op : BinOp) : List Z0 → Option Z0
 | [.bool a, .bool b] => Z13 op a b
 | _ => none
def Z16 : List Z0 → Option Z0
 | [.str s] => some (.str s)
 | _ => none
def Z17 : List Z0 → Option Z0
 | [.bool t, a, b] => some (if t then a else b)
 | _ => none
def amov : List Z0 → Option Z0
 | [v] => some v
 | _ => none
def Z18 : List Z0 → Option Z0
 | [.ptr b i o] => some (.ptr b i o)
 | [.iptr cs] => some (.iptr cs)
 | [.fn f a b] => some (.fn f a b)
 | _ => none
def afad (off : Nat) : List Z0 → Option Z0
 | [.ptr b i o] => some (.ptr b i (o + off))
 | [.iptr cs] => some (.iptr (cs.drop off))
 | _ => none
def Z19 (ag : Bool) (sz : Nat) (cs : List Z0) : Option Z0 :=
 if ag then (if sz ≤ cs.length then some (.agg (cs.take sz)) else none) else cs.head?
def afld (ag : Bool) (off sz : Nat) : List Z0 → Option Z0
 | [.agg cs] => Z19 ag sz (cs.drop off)
 | _ => none
def aiad (sz : Nat) : List Z0 → Option Z0
 | [.slc s xs _, .int _ i] => if 0 ≤ i ∧ s = sz then (xs[i.toNat]?).map fun x => .iptr x.cells else none
 | [.arr s b off n, .int _ i] => if (0 ≤ i ∧ i < n) ∧ s = sz then some (.ptr b (off + i.toNat) 0) else none
 | _ => none
def Z1a : List Z0 → Option Z0
 | [.bool b] => some (.bool (!b))
 | _ => none
def Z1b : List Z0 → Option Z0
 | [.int k n] => some (.int k (k.wrap (0 - n)))
 | _ => none
def Z1c : List Z0 → Option Z0
 | [.int k n] => some (.int k (intBits .xor k (if k.signed then -1 else k.max) n))
 | _ => none
def Z1d (k : IntKind) : List Z0 → Option Z0
 | [.int _ n] => some (.int k (k.wrap n))
 | _ => none
def bnds (n : Int) (lo hi mx : Bool) (l : List Z0) : Option (Int × Int × Int) :=
 match lo, hi, mx with
 | false, false, false => match l with
  | [] => some (0, n, n)
  | _ => none
 | true, false, false => match l with
  | [.int _ a] => some (a, n, n)
  | _ => none
 | false, true, false => match l with
  | [.int _ b] => some (0, b, n)
  | _ => none
 | true, true, false => match l with
  | [.int _ a, .int _ b] => some (a, b, n)
  | _ => none
 | false, true, true => match l with
  | [.int _ b, .int _ c] => some (0, b, c)
  | _ => none
 | true, true, true => match l with
  | [.int _ a, .int _ b, .int _ c] => some (a, b, c)
  | _ => none
 | _, _, true => none
def asub (sz : Nat) (lo hi mx : Bool) : List Z0 → Option Z0
 | .slc s xs full :: l => (bnds xs.length lo hi mx l).bind fun (a, b, c) =>
   if (0 ≤ a ∧ a ≤ b ∧ b ≤ c ∧ c ≤ xs.length) ∧ (s = sz ∨ xs = []) then
    some (.slc s ((xs.drop a.toNat).take (b - a).toNat) (if mx then decide (b = c) else (full && decide (b = xs.length)))) else none
 | .arr s n off len :: l => (bnds len lo hi mx l).bind fun (a, b, c) =>
   if (0 ≤ a ∧ a ≤ b ∧ b ≤ c ∧ c ≤ len) ∧ s = sz then
    if a = 0 then some (.arr s n off b.toNat) else if a < b then some (.arr s n (off + a.toNat) (b - a).toNat) else some (.slc s [] false) else none
 | _ => none
def Z1e (lo hi : Bool) : List Z0 → Option Z0
 | .str s :: l => (bnds s.length lo hi false l).bind fun (a, b, _) =>
   if 0 ≤ a ∧ a ≤ b ∧ b ≤ s.length then some (.str ((s.drop a.toNat).take (b - a).toNat)) else none
 | _ => none
def Z1f : List Z0 → Option Z0
 | [.str s, .int _ i] => if 0 ≤ i then (s[i.toNat]?).map Zx else none
 | _ => none
def Z1g : List Z0 → List (Nat × Nat) → List Z0 → Option (List Z0)
 | z, [], [] => some z
 | z, (off, sz) :: ps, v :: vs =>
  if v.cells.length = sz ∧ off + sz ≤ z.length ∧ v.cells.all Z0.one = true then Z1g (z.take off ++ v.cells ++ z.drop (off + sz)) ps vs else none
 | _, _, _ => none
def abld (z : List Z0) (ps : List (Nat × Nat)) (vs : List Z0) : Option Z0 := (Z1g z ps vs).map .agg
def aext (i : Nat) : List Z0 → Option Z0
 | [.tup vs] => vs[i]?
 | _ => none
def Z1h : List Z0 → Option Z0
 | [.slc _ xs _] => some (.int .i64 xs.length)
 | [.arr _ _ _ n] => some (.int .i64 n)
 | _ => none
def Z1i : List Z0 → Option Z0
 | [.str s] => some (.int .i64 s.length)
 | _ => none
def Z1j : Z0 → Z0 → Option Z0
 | .int k x, .int _ y => some (.int k (if y < x then y else x))
 | _, _ => none
def Z1k : Z0 → Z0 → Option Z0
 | .int k x, .int _ y => some (.int k (if y > x then y else x))
 | _, _ => none
def amin : List Z0 → Option Z0
 | [] => none
 | x :: l => l.foldlM Z1j x
def amax : List Z0 → Option Z0
 | [] => none
 | x :: l => l.foldlM Z1k x
def amkf (f : FuncId) (nf : Nat) (vs : List Z0) : Option Z0 := some (.fn f (vs.take nf) (vs.drop nf))
def amki (t : TypeId) : List Z0 → Option Z0
 | [v] => some (.iface t v)
 | _ => none
def Z0.fit (sz : Nat) (x : Z0) : Bool := (x.cells.length == sz) && x.cells.all Z0.one
theorem Z0.fit_iff {sz : Nat} {x : Z0} : x.fit sz = true ↔ x.elem sz := by simp [Z0.fit, Z0.elem]
def absl (sz : Nat) (vs : List Z0) : Option Z0 := if vs.all (Z0.fit sz) = true then some (.slc sz vs true) else none
def as2b : List Z0 → Option Z0
 | [.str s] => if s.length ≤ maxLen then some (.slc 1 (bytes s) false) else none
 | _ => none
def Z1l (σ : Zc) (ag : Bool) (sz : Nat) : List Z0 → Option Z0
 | [.iptr cs] => Z19 ag sz cs
 | [.ptr b i o] =>
  match Zd σ b with
  | some (.cells _ xs) => (xs[i]?).bind fun x => Z19 ag sz (x.cells.drop o)
  | none => none
 | _ => none
def Z1m (σ : Zc) (sz : Nat) : Z0 → Option (List Z0)
 | .slc s xs _ => if s = sz ∨ xs = [] then some xs else none
 | .arr _ b off n =>
  match Zd σ b with
  | some (.cells s xs) => if s = sz ∧ off + n ≤ xs.length then some ((xs.drop off).take n) else none
  | none => none
 | _ => none
def Z1n (ag : Bool) (sz : Nat) : List Z0 → Option Z0
 | [.iptr cs] => Z19 ag sz cs
 | _ => none
def Z1o : List Z0 → Option Z0
 | [.slc s xs _] => if s = 1 ∨ xs = [] then (Zz xs).map .str else none
 | _ => none
def ab2s (σ : Zc) : List Z0 → Option Z0
 | [x] => ((Z1m σ 1 x).bind Zz).map .str
 | _ => none
def Z1p : Z0 → Option Nat
 | .ptr b _ _ => some b
 | .arr _ b _ _ => some b
 | _ => none
def Z1q (σ : Zc) (ag : Bool) (sz : Nat) : List Z0 → Option Z0
 | [.ptr b i o, w] => if Z1p w = some b then Z1l σ ag sz [.ptr b i o] else none
 | _ => none
def Z1r (k : AK) (σ : Zc) (vs : List Z0) : Option Z0 :=
 match k with
 | .mov => amov vs
 | .pick => Z17 vs
 | .nilc => Z18 vs
 | .fad off => afad off vs
 | .fld ag off sz => afld ag off sz vs
 | .iad sz => aiad sz vs
 | .bin op => abin op vs
 | .binb op => Z15 op vs
 | .cstr => Z16 vs
 | .unot => Z1a vs
 | .uneg => Z1b vs
 | .ucpl => Z1c vs
 | .conv k => Z1d k vs
 | .slc sz lo hi mx => asub sz lo hi mx vs
 | .sstr lo hi => Z1e lo hi vs
 | .istr => Z1f vs
 | .bld z ps => abld z ps vs
 | .ext i => aext i vs
 | .lens => Z1h vs
 | .lent => Z1i vs
 | .min => amin vs
 | .max => amax vs
 | .mkf f nf => amkf f nf vs
 | .mki t => amki t vs
 | .bsl sz => absl sz vs
 | .s2b => as2b vs
 | .loadp ag sz => Z1n ag sz vs
 | .b2sp => Z1o vs
 | .load ag sz => Z1l σ ag sz vs
 | .loadg ag sz => Z1q σ ag sz vs
 | .b2s => ab2s σ vs
 | _ => none
def Z1s (P : Program) (f : FuncId) (args : List Z0) (σ : Zc) (R : Z0 → Zc → Prop) : Prop :=
 ∀ (K : Kr) (w : World) (vs : List Value), Rel K σ w → Z1 K args vs →
  Calls P f vs.toArray w fun e w' => ∃ v K' r σ', e = .returned v ∧ K.le K' ∧ Rel K' σ' w' ∧ VR K' r v ∧ R r σ'
theorem Z1s.mono {P : Program} {f : FuncId} {args : List Z0} {σ : Zc} {R R' : Z0 → Zc → Prop} (h : Z1s P f args σ R) (hR : ∀ r σ', R r σ' → R' r σ') :
  Z1s P f args σ R' :=
 fun K w vs hr hv => (h K w vs hr hv).mono fun _ _ ⟨v, K', r, σ', h1, h2, h3, h4, h5⟩ => ⟨v, K', r, σ', h1, h2, h3, h4, hR _ _ h5⟩
def Z1t (x : Z0) (o : Nat) (cs : List Z0) : Z0 :=
 match x with
 | .agg l => .agg (l.take o ++ cs ++ l.drop (o + cs.length))
 | x => match cs with
  | [c] => c
  | _ => x
def Z1u (sz : Nat) (vs : List Z0) (σ : Zc) (R : Z0 → Zc → Prop) : Prop :=
 match vs with
 | [.ptr b i o, v] => ∃ s xs x, Zd σ b = some (.cells s xs) ∧ xs[i]? = some x ∧ o + sz ≤ s ∧ v.elem sz ∧ (x.one = true → o = 0 ∧ sz = 1) ∧
   R (.tup []) (Ze σ b (.cells s (xs.set i (Z1t x o v.cells))))
 | _ => False
def fresh (σ : Zc) (b : Nat) : Prop := b ∉ Zh σ
def enew (sz : Nat) (xs : List Z0) (σ : Zc) (R : Nat → Zc → Prop) : Prop := ∀ b, fresh σ b → R b ((b, .cells sz xs) :: σ)
def ebox (sz : Nat) (vs : List Z0) (σ : Zc) (R : Z0 → Zc → Prop) : Prop :=
 match vs with
 | [v] => v.elem sz ∧ enew sz [v] σ fun b σ' => R (.ptr b 0 0) σ'
 | _ => False
def Z1v (sz : Nat) (vs : List Z0) (σ : Zc) (R : Z0 → Zc → Prop) : Prop :=
 (∀ v ∈ vs, v.elem sz) ∧ enew sz vs σ fun b σ' => R (.arr sz b 0 vs.length) σ'
def Z1w (sz : Nat) (vs : List Z0) (σ : Zc) (R : Z0 → Zc → Prop) : Prop :=
 match vs with
 | [.arr _ b 0 n] => ∃ xs, Zd σ b = some (.cells sz xs) ∧ xs.length = n ∧ 0 < n ∧ R (.slc sz xs false) (Zg σ b)
 | _ => False
def Z1x (neg : Bool) (vs : List Z0) (σ : Zc) (R : Z0 → Zc → Prop) : Prop :=
 match vs with
 | [.slc _ xs _, .slc _ [] true] => (xs ≠ [] → R (.bool neg) σ) ∧ (xs = [] → ∀ t, R (.bool t) σ)
 | [.arr _ _ _ n, .slc _ [] true] => (0 < n → R (.bool neg) σ) ∧ (n = 0 → ∀ t, R (.bool t) σ)
 | _ => False
def emks (sz byt : Nat) (z : Z0) (vs : List Z0) (σ : Zc) (R : Z0 → Zc → Prop) : Prop :=
 match vs with
 | [.int .i64 l, .int .i64 c] => z.elem sz ∧ 0 ≤ l ∧ l ≤ c ∧ c ≤ 9223372036854775807 ∧ byt * c ≤ 281474976710656 ∧ enew sz (List.replicate l.toNat z) σ fun b σ' => R (.arr sz b 0 l.toNat) σ'
 | _ => False
def eapp (sz byt : Nat) (s : Z0) (ys : List Z0) (σ : Zc) (R : Z0 → Zc → Prop) : Prop :=
  match s with
  | .slc z xs true =>
    (xs.length + ys.length) * byt ≤ 140737488355328 ∧ (z = sz ∨ xs = []) ∧
    (match xs with
     | [] => enew sz ys σ fun b σ' => R (.arr sz b 0 ys.length) σ'
     | _ => (ys = [] → R (.slc z xs true) σ) ∧ (ys ≠ [] → enew sz (xs ++ ys) σ fun b σ' => R (.arr sz b 0 (xs.length + ys.length)) σ'))
  | .arr _ b 0 n => ∃ xs, Zd σ b = some (.cells sz xs) ∧ xs.length = n ∧ (xs.length + ys.length) * byt ≤ 140737488355328 ∧
      ∀ b', fresh σ b' → R (.arr sz b' 0 (xs.length + ys.length)) (Zf σ b b' (.cells sz (xs ++ ys)))
  | _ => False
def Z1y (sz byt : Nat) (vs : List Z0) (σ : Zc) (R : Z0 → Zc → Prop) : Prop :=
 match vs with
 | [s, x] => ∃ ys, Z1m σ sz x = some ys ∧ eapp sz byt s ys σ R
 | _ => False
def Z1z (vs : List Z0) (σ : Zc) (R : Z0 → Zc → Prop) : Prop :=
 match vs with
 | [s, .str t] => eapp 1 1 s (bytes t) σ R
 | _ => False
def ecpy (sz : Nat) (vs : List Z0) (σ : Zc) (R : Z0 → Zc → Prop) : Prop :=
 match vs with
 | [.arr _ b off n, x] => ∃ xs ys, Zd σ b = some (.cells sz xs) ∧ Z1m σ sz x = some ys ∧ off + n ≤ xs.length ∧
   R (.int .i64 (Nat.min ys.length n : Nat)) (Ze σ b (.cells sz (xs.take off ++ ys.take (Nat.min ys.length n) ++ xs.drop (off + Nat.min ys.length n))))
 | _ => False
def Z20 (sz : Nat) (vs : List Z0) (σ : Zc) (R : Z0 → Zc → Prop) : Prop :=
 match vs with
 | [.arr _ b off n, .int _ h, .int _ m] => ∃ xs, Zd σ b = some (.cells sz xs) ∧ off + n ≤ xs.length ∧ 0 ≤ h ∧ h = m ∧ m ≤ n ∧
   R (.slc sz ((xs.drop off).take h.toNat) true) (Zg σ b)
 | vs => ∃ v, asub sz false true true vs = some v ∧ R v σ
def Z21 (P : Program) (f : FuncId) : Bool :=
 match P.funcs[f]? with
 | some fn => fn.body.isSome && !(fn.name == "runtime.NumGoroutine")
 | none => false
def Z22 (P : Program) (vs : List Z0) (σ : Zc) (R : Z0 → Zc → Prop) : Prop :=
 match vs with
 | .fn f first caps :: args => Z21 P f = true ∧ (∃ r σ', R r σ') ∧ Z1s P f (first ++ args ++ caps) σ R
 | _ => False
def Z23 (P : Program) (f : FuncId) (vs : List Z0) (v : Z0) : Prop := ∀ σ', Z1s P f vs σ' fun r τ => r = v ∧ τ = σ'
def Z24 (vs : List Z0) (σ σ' : Zc) : Prop := ∀ v ∈ vs, ∀ b, Z1p v = some b → Zd σ' b = Zd σ b
def Z25 (P : Program) (f : FuncId) (n : Nat) (vs : List Z0) (σ : Zc) (R : Z0 → Zc → Prop) : Prop :=
 (∃ r σ', Z24 (vs.drop n) σ σ' ∧ R r σ') ∧ Z1s P f (vs.take n) σ fun r σ' => Z24 (vs.drop n) σ σ' ∧ R r σ'
def Z26 (P : Program) (k : AK) (vs : List Z0) (σ : Zc) (R : Z0 → Zc → Prop) : Prop :=
 match k with
 | .store sz => Z1u sz vs σ R
 | .alloc z => vs = [] ∧ (∀ c ∈ z.cells, c.one = true) ∧ enew z.cells.length [z] σ fun b σ' => R (.ptr b 0 0) σ'
 | .box sz => ebox sz vs σ R
 | .bslo sz => Z1v sz vs σ R
 | .strish sz => Z1w sz vs σ R
 | .isnil neg => Z1x neg vs σ R
 | .mks sz byt z => emks sz byt z vs σ R
 | .app sz byt => Z1y sz byt vs σ R
 | .apps => Z1z vs σ R
 | .cpy sz => ecpy sz vs σ R
 | .clip sz => Z20 sz vs σ R
 | .call f => (∃ r σ', R r σ') ∧ Z1s P f vs σ R
 | .callv => Z22 P vs σ R
 | .callp f => ∃ v, Z23 P f vs v ∧ R v σ
 | .callk f n => Z25 P f n vs σ R
 | k => ∃ v, Z1r k σ vs = some v ∧ R v σ
abbrev Z27 := Nat → Option Z0
def fset (d : Nat) (v : Option Z0) (F : Z27) : Z27 := fun i => if i = d then v else F i
def Z28 : Z27 := fun _ => none
def Z29 : List Nat → Z27 → Z27
 | [], _ => Z28
 | i :: l, F => fset i (F i) (Z29 l F)
def Z2a (vs : List Z0) : Z27 := fun i => vs[i]?
def ev (F : Z27) : Zw → Option Z0
 | .t i => F i
 | .c v => some v
def evs (F : Z27) : List Zw → Option (List Z0)
 | [] => some []
 | x :: l => match ev F x, evs F l with
  | some v, some vs => some (v :: vs)
  | _, _ => none
def fput (dst : Option Nat) (v : Option Z0) (F : Z27) : Z27 :=
 match dst with
 | some d => fset d v F
 | none => F
structure Z2b where
 dst : Option Nat
 k : AK
 args : List Zw
 guard : Option (Nat × Bool)
def arun (P : Program) (o : Z2b) (F : Z27) (σ : Zc) (Q : Z27 → Zc → Prop) : Prop :=
 ∃ vs, evs F o.args = some vs ∧ Z26 P o.k vs σ fun r σ' => Q (fput o.dst (some r) F) σ'
def gval : Option Z0 → Option (Option Bool)
 | some (.bool b) => some (some b)
 | some (.tup []) => some none
 | _ => none
def aop (P : Program) (o : Z2b) (F : Z27) (σ : Zc) (Q : Z27 → Zc → Prop) : Prop :=
 match o.guard with
 | none => arun P o F σ Q
 | some (g, want) => ∃ b, gval (F g) = some b ∧ (b = some want → arun P o F σ Q) ∧ (b ≠ some want → Q (fput o.dst (some (.tup [])) F) σ)
def aops (P : Program) : List Z2b → Z27 → Zc → (Z27 → Zc → Prop) → Prop
 | [], F, σ, Q => Q F σ
 | o :: l, F, σ, Q => aop P o F σ fun F' σ' => aops P l F' σ' Q
inductive Z2c where
 | skip
 | region (ops : List Z2b) (keep : List Nat)
 | seq (a b : Z2c)
 | cond (c : Zw) (a b : Z2c)
 | block (id : Nat) (a : Z2c)
 | loop (a : Z2c)
 | range (g : Zw) (ps : List Nat) (a b : Z2c)
 | exit (id : Nat)
 | ret
end Go.Abs
namespace Go.Abs
open Go Go.RowKit
def Z2d : Value → Option Z0
 | .bool b => some (.bool b)
 | .int k n => some (.int k n)
 | .string s => some (.str s.data.toList)
 | .pointer none => some .nilp
 | .slice none 0 0 => some (.slc 0 [] true)
 | .nilFunc => some .nilf
 | .nilIface => some .nili
 | _ => none
def Z2e : Value → Option Z0
 | .agg cs => (cs.toList.mapM Z2d).map .agg
 | v => Z2d v
theorem Z2f {K : Kr} {v : Value} {a : Z0} (h : Z2d v = some a) : VR K a v ∧ a.one = true := by
 unfold Z2d at h
 split at h <;> simp only [Option.some.injEq, reduceCtorEq] at h <;> subst h
 ·exact ⟨.bool .nil, rfl⟩
 ·exact ⟨.int .nil, rfl⟩
 ·exact ⟨.str .nil, rfl⟩
 ·exact ⟨.nilp .nil, rfl⟩
 ·exact ⟨.slc0 (fun _ => rfl) .nil, rfl⟩
 ·exact ⟨.nilf .nil, rfl⟩
 ·exact ⟨.nili .nil, rfl⟩
theorem Z2g {K : Kr} : ∀ {l : List Value} {cs : List Z0}, l.mapM Z2d = some cs → Z1 K cs l ∧ ∀ c ∈ cs, c.one = true
 | [], cs, h => by simp at h; subst h; exact ⟨.nil, by simp⟩
 | v :: l, cs, h => by
  simp only [List.mapM_cons, Option.bind_eq_bind, Option.bind_eq_some_iff, Option.pure_def, Option.some.injEq] at h
  obtain ⟨a, ha, cs', hl, rfl⟩ := h
  have h1 := Z2f (K := K) ha
  have h2 := Z2g (K := K) hl
  exact ⟨.cons h1.1 h2.1, by
   intro c hc
   rcases List.mem_cons.1 hc with rfl | hc
   ·exact h1.2
   ·exact h2.2 c hc⟩
theorem Z2h {K : Kr} {v : Value} {a : Z0} (h : Z2e v = some a) : VR K a v ∧ ∀ c ∈ a.cells, c.one = true := by
 unfold Z2e at h
 split at h
 ·rename_i cs
  simp only [Option.map_eq_some_iff] at h
  obtain ⟨l, hl, rfl⟩ := h
  have := Z2g (K := K) hl
  have e := Z1.agg this.2 this.1 Z1.nil
  exact ⟨e, by simpa [Z0.cells] using this.2⟩
 ·have := Z2f (K := K) h
  exact ⟨this.1, by rw [Z0.cells_of_one this.2]; simp [this.2]⟩
def opdA : Operand → Option Zw
 | .tmp t => some (.t t)
 | .const v => (Z2e v).map .c
 | .func f => some (.c (.fn f [] []))
 | .global _ => none
def Z2i (P : Program) (t : TypeId) : Option Nat := (P.info? t).map (·.size)
def Z2j (P : Program) (t : TypeId) : Option Z0 := (P.info? t).bind fun i => i.zero.bind Z2e
def aggA (P : Program) (t : TypeId) : Option Bool := (P.underlying t).map fun d => match d with | .struct _ | .array _ _ => true | _ => false
def Z2k (P : Program) (t : TypeId) : Nat :=
 match P.underlying t with
 | some .bool => 1
 | some (.int _) => 2
 | some .string => 3
 | some (.slice _) => 4
 | some (.struct _) => 5
 | some (.interface _) => 6
 | _ => 0
def Z2l (P : Program) (t : TypeId) : Option TypeId :=
 match P.underlying t with
 | some (.slice e) => some e
 | _ => none
def Z2m (P : Program) (t : TypeId) (i : Nat) : Option Field :=
 match P.underlying t with
 | some (.struct fs) => fs[i]?
 | _ => none
def Z2n (P : Program) (t : TypeId) : List Nat → Option (List (Nat × Nat))
 | [] => some []
 | i :: l => do
  let f ← Z2m P t i
  let s ← Z2i P f.type
  let r ← Z2n P t l
  pure ((f.offset, s) :: r)
def kOf (P : Program) (fl : Bool) (o : Oper) : Option (AK × List Operand) :=
 match o.op with
 | .move x | .assign x => some (.mov, [x])
 | .pick c a b => some (.pick, [c, a, b])
 | .alloc e => do
  let z ← Z2j P e
  pure (.alloc z, [])
 | .box e x => do
  let s ← Z2i P e
  pure (.box s, [x])
 | .build t parts => do
  let z ← Z2j P t
  let ps ← Z2n P t (parts.toList.map (·.1))
  match z, P.underlying t with
  | .agg cs, some (.struct fs) => if fs.toList.all fun f => (Z2i P f.type).isSome then pure (.bld cs ps, parts.toList.map (·.2)) else none
  | _, _ => none
 | .buildSlice t len parts => do
  let e ← Z2l P t
  let s ← Z2i P e
  let _z ← Z2j P e
  if parts.toList.map (·.1) = List.range len ∧ 0 < s ∧ len * s ≤ 2 ^ 24 then pure (if fl then .bslo s else .bsl s, parts.toList.map (·.2)) else none
 | .load t a => do
  let g ← aggA P t
  let s ← Z2i P t
  pure (if fl then .loadp g s else .load g s, [a])
 | .store t a x => do
  let s ← Z2i P t
  pure (.store s, [a, x])
 | .nilCheck x => some (.nilc, [x])
 | .binOp op t x y _ =>
  if Z2k P t = 1 then
   match op with
   | .eql => some (.binb .eql, [x, y])
   | .neq => some (.binb .neq, [x, y])
   | _ => none
  else if Z2k P t = 2 ∨ Z2k P t = 3 then some (.bin op, [x, y])
  else if Z2k P t = 4 then
   match op, y with
   | .eql, .const (.slice none 0 0) => some (.isnil false, [x, y])
   | .neq, .const (.slice none 0 0) => some (.isnil true, [x, y])
   | _, _ => none
  else none
 | .unOp op _ x => match op with
  | .not => some (.unot, [x])
  | .neg => some (.uneg, [x])
  | .xor => some (.ucpl, [x])
  | _ => none
 | .convert src dst x =>
  match P.underlying src, P.underlying dst with
  | some (.int _), some (.int k) => some (.conv k, [x])
  | some .string, some .string => some (.cstr, [x])
  | some (.slice e), some .string => match P.underlying e with
   | some (.int .u8) => some (if fl then .b2sp else .b2s, [x])
   | _ => none
  | some (.slice e), some (.slice _) => match P.underlying e with
   | some (.int .u8) => if src = dst ∧ Z2i P e = some 1 then some (.strish 1, [x]) else none
   | _ => none
  | _, _ => none
 | .makeInterface t x => match P.underlying t with
  | some (.interface _) => none
  | some _ => some (.mki t, [x])
  | none => none
 | .makeFunc (.func f) first captured => some (.mkf f first.size, first.toList ++ captured.toList)
 | .makeSlice t l c => do
  let e ← Z2l P t
  let i ← P.info? e
  let z ← i.zero.bind Z2e
  if z.cells.length = i.size ∧ 0 < i.size then pure (.mks i.size i.bytes z, [l, c]) else none
 | .slice t x lo hi mx =>
  match P.underlying t with
  | some (.slice e) => do
   let s ← Z2i P e
   match lo, hi, mx with
   | none, some h, some m => pure (.clip s, [x, h, m])
   | _, _, _ => pure (.slc s lo.isSome hi.isSome mx.isSome, x :: (lo.toList ++ hi.toList ++ mx.toList))
  | some .string => if mx.isNone then some (.sstr lo.isSome hi.isSome, x :: (lo.toList ++ hi.toList)) else none
  | _ => none
 | .fieldAddr t x i => do
  let f ← Z2m P t i
  let s ← Z2i P f.type
  if s = 0 then none else pure (.fad f.offset, [x])
 | .field t x i => do
  let f ← Z2m P t i
  let g ← aggA P f.type
  let s ← Z2i P f.type
  pure (.fld g f.offset s, [x])
 | .indexAddr t x i => do
  let e ← Z2l P t
  let s ← Z2i P e
  pure (.iad s, [x, i])
 | .index t x i => if Z2k P t = 3 then some (.istr, [x, i]) else none
 | .extract t i => some (.ext i, [t])
 | .panic _ => some (.bad, [])
 | .call c =>
  match c.callee with
  | .value (.func f) => if Z21 P f then some (.call f, c.args.toList) else none
  | .value (.tmp t) => some (.callv, .tmp t :: c.args.toList)
  | .builtin .append => do
   let t ← c.argTypes[0]?
   let u ← c.argTypes[1]?
   let e ← Z2l P t
   let i ← P.info? e
   let z ← i.zero.bind Z2e
   if c.args.size ≠ 2 ∨ z.cells.length ≠ i.size ∨ i.size = 0 ∨ i.bytes = 0 then none
   else if Z2k P u = 4 then pure (.app i.size i.bytes, c.args.toList)
   else if Z2k P u = 3 ∧ i.size = 1 ∧ i.bytes = 1 then pure (.apps, c.args.toList)
   else none
  | .builtin .copy => do
   let t ← c.argTypes[0]?
   let _ ← c.argTypes[1]?
   let e ← Z2l P t
   let i ← P.info? e
   if c.args.size ≠ 2 ∨ i.size ≠ 1 then none else pure (.cpy 1, c.args.toList)
  | .builtin .len => do
   let t ← c.argTypes[0]?
   if c.args.size ≠ 1 then none
   else if Z2k P t = 4 then pure (.lens, c.args.toList) else if Z2k P t = 3 then pure (.lent, c.args.toList) else none
  | .builtin .min => some (.min, c.args.toList)
  | .builtin .max => some (.max, c.args.toList)
  | _ => none
 | _ => none
def Z2o (ops : Array Oper) : Option (Nat × Bool) → Option (Option (Nat × Bool))
 | none => some none
 | some (j, want) => ((ops[j]?).bind (·.dst)).map fun g => some (g, want)
def Z2p (N : Nat) : Option Nat → Bool
 | some d => decide (d < N)
 | none => true
def Z2q (P : Program) (N : Nat) (ops : Array Oper) (fl : Bool) (o : Oper) : Option Z2b :=
 (kOf P fl o).bind fun kx => (kx.2.mapM opdA).bind fun args => (Z2o ops o.guard).bind fun guard =>
  if Z2p N o.dst = true then some { dst := o.dst, k := kx.1, args, guard } else none
def modA (fl : Bool) (gs : List Nat) (o : Z2b) : Z2b :=
 match o.k with
 | .call f => if fl then { o with k := .callp f } else match gs with
  | [] => o
  | g :: gs => { o with k := .callk f o.args.length, args := o.args ++ (g :: gs).map .t }
 | .load ag sz => match gs with
  | [] => o
  | g :: _ => { o with k := .loadg ag sz, args := o.args ++ [.t g] }
 | _ => o
def Z2r (fl : List Nat) (i : Nat) : List Nat := (fl.filter fun n => decide (10000 ≤ n) && (n % 10000 == i)).map fun n => n / 10000 - 1
def Z2s (o : Oper) : List Nat := (o.after.toList.filter (Region.binds .any)).map (·.on)
def Z2t (ops : Array Oper) : Nat → List Nat
 | 0 => []
 | n + 1 =>
  let l := Z2t ops n
  l ++ [match ops[n]? with
   | some o => (Z2s o).foldr (fun j m => (2 ^ j ||| l.getD j 0) ||| m) 0
   | none => 0]
def AK.makes : AK → Bool
 | .alloc _ | .box _ | .bslo _ | .mks _ _ _ => true
 | _ => false
def AK.apps? : AK → Bool
 | .app _ _ | .apps => true
 | _ => false
def AK.app1? : AK → Bool
 | .app _ _ => true
 | _ => false
def Z2b.looks (o : Z2b) : List Nat :=
 (o.args.filterMap fun | .t i => some i | _ => none) ++ (match o.guard with | some (g, _) => [g] | none => [])
def Z2u (x y : Z2b) : Bool :=
 (match x.dst with | some d => !y.looks.contains d && y.dst != some d | none => true) && (match y.dst with | some d => !x.looks.contains d | none => true)
def AK.calls : AK → Bool
 | .call _ | .callv | .callk _ _ => true
 | _ => false
def AK.callp? : AK → Bool
 | .callp _ => true
 | _ => false
def Z2v (x y : Z2b) : Bool :=
 match x.k, x.args, y.k with
 | .load _ _, [.t a], .callk _ n => (y.args.drop n).any fun | .t b => a == b | _ => false
 | .loadg _ _, [_, .t a], .callk _ n => (y.args.drop n).any fun | .t b => a == b | _ => false
 | _, _, _ => false
def Z2w (nc : Bool) (x y : Z2b) : Bool :=
 Z2u x y && (Z2v x y || x.k.callp? || (x.k.quiet && y.k.callp?) || (nc && (x.k.makes || x.k.app1?) && y.k.makes) || ((x.k.quiet && y.k.quiet) || (x.k.quiet && !x.k.reads) || (y.k.quiet && !y.k.reads) || (y.k.quiet && (x.k.makes || (nc && x.k.apps?))) || (x.k.quiet && y.k.makes)))
def Z2x (ops : Array Oper) (l : List Z2b) : Bool :=
 let anc := Z2t ops ops.size
 let nc := l.all fun o => !o.k.calls
 (List.range ops.size).all fun j =>
  match ops[j]?, l[j]? with
  | some oj, some aj =>
   (Z2s oj).all (· < j) &&
   (List.range j).all fun i => match l[i]? with
    | some ai => (anc.getD j 0).testBit i || Z2w nc ai aj
    | none => false
  | _, _ => false
def Z2c.erase : Z2c → Z2c
 | .skip => .skip
 | .region ops _ => .region ops []
 | .seq a b => .seq a.erase b.erase
 | .cond c a b => .cond c a.erase b.erase
 | .block id a => .block id a.erase
 | .loop a => .loop a.erase
 | .range g ps a b => .range g ps a.erase b.erase
 | .exit id => .exit id
 | .ret => .ret
def Z2y (P : Program) (N : Nat) (ops : Array Oper) (fl : List Nat) : Nat → List Oper → Option (List Z2b)
 | _, [] => some []
 | i, o :: l => do
  let a ← Z2q P N ops (fl.contains i) o
  let r ← Z2y P N ops fl (i + 1) l
  pure (modA (fl.contains i) (Z2r fl i) a :: r)
def comp (P : Program) (N : Nat) (hs : List (Nat × Nat)) : Code → Option Z2c
 | .skip => some .skip
 | .region id ops draw => do
  let l ← Z2y P N ops ((hs.filter (·.1 == id)).map (·.2)) 0 ops.toList
  if draw && !Z2x ops l then none else pure (.region l [])
 | .seq a b => do pure (.seq (← comp P N hs a) (← comp P N hs b))
 | .cond c a b => do pure (.cond (← opdA c) (← comp P N hs a) (← comp P N hs b))
 | .block id a => do pure (.block id (← comp P N hs a))
 | .loop a => do pure (.loop (← comp P N hs a))
 | .rangeFunc g ps a b => do pure (.range (← opdA g) ps.toList (← comp P N hs a) (← comp P N hs b))
 | .exit id => some (.exit id)
 | .ret => some .ret
 | _ => none
inductive ARes where
 | t (i : Nat)
 | cell (i : Nat) (ag : Bool) (sz : Nat)
structure Z2z where
 n : Nat
 code : Z2c
 res : List ARes
def resA (P : Program) : ResultVar → Option ARes
 | .tmp t => some (.t t)
 | .cell a t => do pure (.cell a (← aggA P t) (← Z2i P t))
def Z30 (P : Program) (hs : List (Nat × Nat)) (f : FuncId) : Option Z2z := do
 let fn ← P.funcs[f]?
 let c ← fn.body
 let a ← comp P fn.ntmps hs c
 let r ← fn.results.toList.mapM (resA P)
 pure { n := fn.ntmps, code := a, res := r }
def Z2z.erase (f : Z2z) : Z2z := { f with code := f.code.erase }
end Go.Abs
namespace Go.Abs
open Go Go.RowKit
theorem Z1.one_inv {K : Kr} {x : Z0} {m : List Value} (h : Z1 K [x] m) : ∃ u, m = [u] ∧ VR K x u := by
 obtain ⟨u, m', rfl, h1, h2⟩ := h.ex
 exact ⟨u, by rw [h2.nil_inv], h1⟩
theorem Z1.two_inv {K : Kr} {x y : Z0} {m : List Value} (h : Z1 K [x, y] m) : ∃ u v, m = [u, v] ∧ VR K x u ∧ VR K y v := by
 obtain ⟨u, m', rfl, h1, h2⟩ := h.ex
 obtain ⟨v, rfl, h3⟩ := h2.one_inv
 exact ⟨u, v, rfl, h1, h3⟩
theorem Z1.three_inv {K : Kr} {x y z : Z0} {m : List Value} (h : Z1 K [x, y, z] m) : ∃ u v t, m = [u, v, t] ∧ VR K x u ∧ VR K y v ∧ VR K z t := by
 obtain ⟨u, m', rfl, h1, h2⟩ := h.ex
 obtain ⟨v, t, rfl, h3, h4⟩ := h2.two_inv
 exact ⟨u, v, t, rfl, h1, h3, h4⟩
theorem VR.int_inv {K : Kr} {k : IntKind} {n : Int} {v : Value} (h : VR K (.int k n) v) : v = .int k n := by unfold VR at h; cases h; rfl
theorem VR.bool_inv {K : Kr} {b : Bool} {v : Value} (h : VR K (.bool b) v) : v = .bool b := by unfold VR at h; cases h; rfl
theorem VR.str_inv {K : Kr} {s : List UInt8} {v : Value} (h : VR K (.str s) v) : v = .string ⟨s.toArray⟩ := by unfold VR at h; cases h; rfl
theorem VR.agg_inv {K : Kr} {cs : List Z0} {v : Value} (h : VR K (.agg cs) v) : ∃ vs, v = .agg vs.toArray ∧ Z1 K cs vs ∧ ∀ c ∈ cs, c.one = true := by
 unfold VR at h; cases h with | agg h1 hv _ => exact ⟨_, rfl, hv, h1⟩
theorem VR.tup_inv {K : Kr} {cs : List Z0} {v : Value} (h : VR K (.tup cs) v) : ∃ vs, v = .tuple vs.toArray ∧ Z1 K cs vs := by
 unfold VR at h; cases h with | tup hv _ => exact ⟨_, rfl, hv⟩
theorem VR.fn_inv {K : Kr} {f : FuncId} {a b : List Z0} {v : Value} (h : VR K (.fn f a b) v) : ∃ va vb, v = .func (.func f) va.toArray vb.toArray ∧ Z1 K a va ∧ Z1 K b vb := by
 unfold VR at h; cases h with | fn h1 h2 _ => exact ⟨_, _, rfl, h1, h2⟩
theorem VR.int {K : Kr} {k : IntKind} {n : Int} : VR K (.int k n) (.int k n) := Z1.int .nil
theorem VR.bool {K : Kr} {b : Bool} : VR K (.bool b) (.bool b) := Z1.bool .nil
theorem VR.str {K : Kr} {s : List UInt8} : VR K (.str s) (.string ⟨s.toArray⟩) := Z1.str .nil
def Z31 (K : Kr) (R : Z0 → Zc → Prop) : Result Value → Prop
 | .ok v w' => ∃ K' r σ', K.le K' ∧ Rel K' σ' w' ∧ VR K' r v ∧ R r σ'
 | _ => False
theorem Z31.same {K : Kr} {R : Z0 → Zc → Prop} {σ : Zc} {w : World} {x : Z0} {v : Value} {res : Result Value} (e : res = .ok v w) (r : Rel K σ w) (h : VR K x v) (hR : R x σ) : Z31 K R res := by
 subst e
 exact ⟨K, x, σ, Kr.le.refl K, r, h, hR⟩
def Good (P : Program) (K : Kr) (R : Z0 → Zc → Prop) : Result Next → Prop
 | .ok (.value v) w' => ∃ K' r σ', K.le K' ∧ Rel K' σ' w' ∧ VR K' r v ∧ R r σ'
 | .ok .skip w' => ∃ K' σ', K.le K' ∧ Rel K' σ' w' ∧ R (.tup []) σ'
 | .ok (.enter f args) w' => Calls P f args w' fun e w'' => ∃ v K' r σ', e = .returned v ∧ K.le K' ∧ Rel K' σ' w'' ∧ VR K' r v ∧ R r σ'
 | _ => False
theorem Good.value {P : Program} {K : Kr} {R : Z0 → Zc → Prop} {s : Sem Value} {w : World} (h : Z31 K R (s.run P w)) :
  Good P K R ((do pure (Next.value (← s)) : Sem Next).run P w) := by
 simp only [Sem.run_bind, Sem.run_pure]
 cases hr : s.run P w with
 | ok v w' => rw [hr] at h; exact h
 | halt x w' => rw [hr] at h; exact h.elim
theorem Good.skip {P : Program} {K : Kr} {R : Z0 → Zc → Prop} {s : Sem Unit} {w w' : World} (e : s.run P w = .ok () w') {K' : Kr} {σ' : Zc} (hK : K.le K') (r : Rel K' σ' w') (h : R (.tup []) σ') :
  Good P K R ((do s; pure Next.skip : Sem Next).run P w) := by
 simp only [Sem.run_bind, e, Result.andThen_ok, Sem.run_pure]
 exact ⟨K', σ', hK, r, h⟩
theorem Z32 (op : BinOp) (h : op = .and ∨ op = .or ∨ op = .xor ∨ op = .andNot) (P : Program) (k : IntKind) (a b : Int) (w : World) :
  (Op.intBits op k a b).run P w = .ok (.int k (intBits op k a b)) w := by
 rcases h with rfl | rfl | rfl | rfl <;> rfl
theorem Z33 (a b : List UInt8) : (a == b) = decide (a = b) := by rw [Bool.eq_iff_iff]; simp
theorem Z34 {K : Kr} (P : Program) (op : BinOp) (t : TypeId) (k k' : IntKind) (a b : Int) (x : Z0) (h : abin op [.int k a, .int k' b] = some x) (w : World) :
  ∃ v, (binOp op t (.int k a) (.int k' b)).run P w = .ok v w ∧ VR K x v := by
 simp only [abin] at h
 split at h
 ·rename_i hs
  cases op <;> simp [Z14] at hs
  ·simp only [Z11] at h
   split at h
   ·cases h
   ·rename_i hn
    simp only [Option.some.injEq] at h; subst h
    exact ⟨_, by simp [binOp, Op.shift, hn], .int⟩
  ·simp only [Z11] at h
   split at h
   ·cases h
   ·rename_i hn
    simp only [Option.some.injEq] at h; subst h
    exact ⟨_, by simp [binOp, Op.shift, hn], .int⟩
 ·rename_i hs
  split at h
  ·rename_i hk
   subst hk
   cases op <;> simp only [Z14, Bool.false_eq_true, not_false_eq_true, not_true_eq_false] at hs <;> simp only [Z10] at h
   case quo =>
    split at h
    ·cases h
    ·rename_i hb
     simp only [Option.some.injEq] at h; subst h
     exact ⟨_, by simp [binOp, Op.intDiv, hb], .int⟩
   case rem =>
    split at h
    ·cases h
    ·rename_i hb
     simp only [Option.some.injEq] at h; subst h
     exact ⟨_, by simp [binOp, Op.intDiv, hb], .int⟩
   all_goals (simp only [Option.some.injEq] at h; subst h)
   case and => exact ⟨_, by simp only [binOp, ne_eq, not_true_eq_false, if_false]; exact Z32 _ (by simp) _ _ _ _ _, .int⟩
   case or => exact ⟨_, by simp only [binOp, ne_eq, not_true_eq_false, if_false]; exact Z32 _ (by simp) _ _ _ _ _, .int⟩
   case xor => exact ⟨_, by simp only [binOp, ne_eq, not_true_eq_false, if_false]; exact Z32 _ (by simp) _ _ _ _ _, .int⟩
   case andNot => exact ⟨_, by simp only [binOp, ne_eq, not_true_eq_false, if_false]; exact Z32 _ (by simp) _ _ _ _ _, .int⟩
   case eql => exact ⟨.bool (decide (a = b)), by simp [binOp, Op.intCmp]; rfl, .bool⟩
   case neq => exact ⟨.bool (decide (a ≠ b)), by simp [binOp, Op.intCmp, bne]; rfl, .bool⟩
   all_goals first
    | exact ⟨_, by simp [binOp, Op.intArith], .int⟩
    | exact ⟨_, by simp [binOp, Op.intCmp], .bool⟩
  ·cases h
theorem Z35 {K : Kr} (P : Program) (op : BinOp) (t : TypeId) (a b : List UInt8) (x : Z0) (h : abin op [.str a, .str b] = some x) (w : World) :
  ∃ v, (binOp op t (.string ⟨a.toArray⟩) (.string ⟨b.toArray⟩)).run P w = .ok v w ∧ VR K x v := by
 simp only [abin] at h
 cases op <;> simp only [Z12, Option.some.injEq, reduceCtorEq] at h
 case add =>
  split at h
  ·rename_i hl
   simp only [Option.some.injEq] at h; subst h
   refine ⟨.string ⟨(a ++ b).toArray⟩, ?_, .str⟩
   simp only [maxLen] at hl
   have hs : ¬ ((((⟨a.toArray⟩ : ByteArray).size + (⟨b.toArray⟩ : ByteArray).size : Nat) : Int) > IntKind.i64.max) := by
    simp [ByteArray.size, IntKind.max, IntKind.signed, IntKind.bits]; omega
   simp only [binOp, Op.stringOp]
   rw [if_neg hs]
   simp only [Sem.run_pure]
   congr 2
  ·cases h
 all_goals
  subst h
  refine ⟨_, ?_, .bool⟩
  simp [binOp, Op.stringOp, Z33]
theorem Z36 (P : Program) (d : Nat) (t : TypeId) (ht : P.underlying t = some .bool) (a b : Bool) (w : World) : (Op.equalIn (d + 1) t (.bool a) (.bool b)).run P w = .ok (a == b) w := by
 simp only [Op.equalIn, Sem.run_bind, run_underlying ht, Result.andThen_ok, Sem.run_pure]
theorem Z37 {K : Kr} (P : Program) (op : BinOp) (t : TypeId) (ht : P.underlying t = some .bool) (a b : Bool) (x : Z0) (h : Z15 op [.bool a, .bool b] = some x) (w : World) :
  ∃ v, (binOp op t (.bool a) (.bool b)).run P w = .ok v w ∧ VR K x v := by
 simp only [Z15] at h
 cases op <;> simp only [Z13, Option.some.injEq, reduceCtorEq] at h
 all_goals
  subst h
  refine ⟨_, ?_, .bool⟩
  have e := Z36 P 9999 t ht a b w
  simp only [binOp, Op.equal, Sem.run_bind, show Op.maxDepth = 9999 + 1 from rfl, e, Result.andThen_ok, Sem.run_pure]
theorem Z38 (P : Program) (op : BinOp) (t : TypeId) (x y : Operand) (a b : Value) (w : World)
  (h : (∃ k n, a = .int k n) ∨ (∃ s, a = .string s) ∨ (∃ s, a = .bool s) ∨ (∃ p n c, a = .slice p n c)) : (eqGuard op t x y a b).run P w = .ok () w := by
 unfold eqGuard
 rcases h with ⟨k, n, rfl⟩ | ⟨s, rfl⟩ | ⟨s, rfl⟩ | ⟨p, n, c, rfl⟩ <;> cases op <;> simp
def Z39 (w : World) (a : Addr) (vs : List Value) : Prop := ∀ j v, vs[j]? = some v → w.cell? (a.add j) = some v
theorem Z3a (a : Addr) (n : Nat) (h : a.spot = none) : a.add n = ⟨a.block, a.off + n, none⟩ := by
 obtain ⟨b, o, s⟩ := a
 simp at h
 subst h
 exact Addr.add_lit b o n
theorem Z39.take {w : World} {a : Addr} {vs : List Value} (h : Z39 w a vs) (n : Nat) : Z39 w a (vs.take n) := by
 intro j v e
 rw [List.getElem?_take] at e
 split at e
 ·exact h j v e
 ·cases e
theorem Z39.drop {w : World} {b o : Nat} {vs : List Value} (h : Z39 w ⟨b, o, none⟩ vs) (n : Nat) : Z39 w ⟨b, o + n, none⟩ (vs.drop n) := by
 intro j v e
 rw [List.getElem?_drop] at e
 have := h _ v e
 rw [Z3a _ _ rfl] at this ⊢
 simpa [Nat.add_assoc] using this
theorem Z3b {K : Kr} {σ : Zc} {w : World} (r : Rel K σ w) {a : Addr} {vs : List Value} (hs : a.spot = none) (hm : ∀ j v, vs[j]? = some v → K.imm a.block (a.off + j) = some v) : Z39 w a vs := by
 intro j v e
 rw [Z3a _ _ hs]
 exact r.imm _ _ _ (hm j v e)
theorem Rel.ownCells {K : Kr} {σ : Zc} {w : World} (r : Rel K σ w) {b sz : Nat} {xs : List Z0} (h : Zd σ b = some (.cells sz xs)) {cb s c : Nat} (hl : K.loc b = some ⟨some cb, s, c⟩) :
  s = sz ∧ (∀ x ∈ xs, x.elem sz) ∧ xs.length ≤ c ∧ c ≤ maxLen ∧ K.w0.heap.size ≤ cb ∧ ∃ cs ty, w.heap[cb]? = some (.cells cs ty (0, 0)) ∧ cs.size = c * sz ∧ Z1 K (flat xs) (cs.toList.take (xs.length * sz)) ∧
   Z39 w ⟨cb, 0, none⟩ (cs.toList.take (xs.length * sz)) := by
 have ho := r.own b _ (Zk h)
 rcases ho.2 with ⟨p, h1, hx⟩ | ⟨cb', p, cs, ty, h1, h2, h3, h4, h5, h6, h7, h8⟩
 ·rw [hl] at h1; simp at h1
 ·rw [hl] at h1
  simp at h1
  obtain ⟨rfl, rfl, rfl⟩ := h1
  refine ⟨rfl, ho.1, h6, h7, h2, cs, ty, h4, h5, h8, fun j v e => ?_⟩
  rw [Z3a _ _ rfl, cell_of_row w cb _ cs ty _ h4]
  rw [List.getElem?_take] at e
  split at e
  ·simpa using e
  ·cases e
def Z3c (σ : Zc) : Z0 → Option (List Z0)
 | .iptr cs => some cs
 | .ptr b i o =>
  match Zd σ b with
  | some (.cells _ xs) => (xs[i]?).map fun x => x.cells.drop o
  | none => none
 | _ => none
theorem Z3d {K : Kr} {σ : Zc} {w : World} (r : Rel K σ w) {p : Z0} {v : Value} (hv : VR K p v) {cs : List Z0} (h : Z3c σ p = some cs) :
  ∃ a vs, v = .pointer (some a) ∧ Z1 K cs vs ∧ Z39 w a vs ∧ ∀ c ∈ cs, c.one = true := by
 unfold VR at hv
 cases hv with
 | iptr hs h1 hm hv _ =>
  simp only [Z3c, Option.some.injEq] at h
  subst h
  exact ⟨_, _, rfl, hv, Z3b r hs hm, h1⟩
 | @ptr b i o cb sz pcap _ _ hl _ =>
  simp only [Z3c] at h
  split at h
  ·rename_i s xs hg
   obtain ⟨rfl, he, hx, hm, _, cs', ty, hw, hs, hv, hc⟩ := r.ownCells hg hl
   simp only [Option.map_eq_some_iff] at h
   obtain ⟨x, hxi, rfl⟩ := h
   have hx' := hv.at_ he hxi
   refine ⟨_, _, rfl, hx'.drop o, ?_, fun c hc => (he x (List.mem_of_getElem? hxi)).2 c (List.mem_of_mem_drop hc)⟩
   have := ((hc.drop (i * sz)).take sz).drop o
   simpa using this
  ·cases h
 | _ => simp [Z3c] at h
theorem Z3e {K : Kr} {ag : Bool} {sz : Nat} {cs : List Z0} {x : Z0} (h : Z19 ag sz cs = some x) {vs : List Value} (hv : Z1 K cs vs) (h1 : ∀ c ∈ cs, c.one = true) :
  (ag = true ∧ sz ≤ vs.length ∧ VR K x (.agg (vs.take sz).toArray)) ∨ (ag = false ∧ ∃ v, vs[0]? = some v ∧ VR K x v) := by
 unfold Z19 at h
 split at h
 ·rename_i ha
  split at h
  ·rename_i hl
   simp only [Option.some.injEq] at h
   subst h
   refine .inl ⟨ha, by rw [← hv.length]; exact hl, .agg (fun c hc => h1 c (List.mem_of_mem_take hc)) (hv.take sz) .nil⟩
  ·cases h
 ·rename_i ha
  refine .inr ⟨by simpa using ha, ?_⟩
  rw [List.head?_eq_getElem?] at h
  obtain ⟨v, h2, h3⟩ := hv.get h
  exact ⟨v, h2, h3⟩
theorem Z3f {P : Program} {t : TypeId} {ag : Bool} (h : aggA P t = some ag) (w : World) : (isAgg t).run P w = .ok ag w := by
 unfold aggA at h
 simp only [Option.map_eq_some_iff] at h
 obtain ⟨d, hd, rfl⟩ := h
 unfold isAgg
 simp only [Sem.run_bind, run_underlying hd, Result.andThen_ok]
 cases d <;> rfl
theorem Z3g {P : Program} {t : TypeId} {s : Nat} (h : Z2i P t = some s) (w : World) : (sizeOf t).run P w = .ok s w := by
 unfold Z2i at h
 simp only [Option.map_eq_some_iff] at h
 obtain ⟨i, hi, rfl⟩ := h
 simp [sizeOf, typeInfo, hi]
theorem Z3h {P : Program} {w : World} {a : Addr} {v : Value} (h : w.cell? a = some v) : (load a).run P w = .ok v w := by simp [h]
theorem Z3i {P : Program} {K : Kr} {w : World} {t : TypeId} {ag : Bool} {sz : Nat} (hag : aggA P t = some ag) (hsz : Z2i P t = some sz) {a : Addr} {cs : List Z0} {vs : List Value} {x : Z0}
  (hp : Z19 ag sz cs = some x) (hv : Z1 K cs vs) (h1 : ∀ c ∈ cs, c.one = true) (hc : Z39 w a vs) : ∃ v, (loadVar t a).run P w = .ok v w ∧ VR K x v := by
 unfold loadVar
 simp only [Sem.run_bind, Z3f hag, Result.andThen_ok]
 rcases Z3e hp hv h1 with ⟨rfl, hl, hx⟩ | ⟨rfl, v, h0, hx⟩
 ·have hl' := run_loadCells_list (P := P) w a (vs.take sz) (hc.take sz)
  have hlen : (vs.take sz).length = sz := by simp; omega
  rw [hlen] at hl'
  refine ⟨_, ?_, hx⟩
  simp only [if_true, Sem.run_bind, Z3g hsz, Result.andThen_ok, hl', Sem.run_pure]
 ·refine ⟨v, ?_, hx⟩
  have := hc 0 v h0
  rw [Addr.add_zero'] at this
  simp only [Bool.false_eq_true, if_false]
  exact Z3h this
theorem Z3j (σ : Zc) (ag : Bool) (sz : Nat) (p : Z0) : Z1l σ ag sz [p] = (Z3c σ p).bind (Z19 ag sz) := by
 cases p <;> simp only [Z1l, Z3c, Option.bind_none, Option.bind_some]
 split <;> simp [*, Option.bind_map, Function.comp_def]
theorem Z3k {K : Kr} {σ : Zc} {w : World} (r : Rel K σ w) {sz : Nat} {x : Z0} {v : Value} (hv : VR K x v) {ys : List Z0} (h : Z1m σ sz x = some ys) :
  ∃ a cap vs, v = .slice a ys.length cap ∧ Z1 K (flat ys) vs ∧ (∀ y ∈ ys, y.elem sz) ∧ ys.length ≤ cap ∧ (ys = [] ∨ ∃ a', a = some a' ∧ a'.spot = none ∧ Z39 w a' vs) := by
 unfold VR at hv
 cases hv with
 | slc0 hf _ =>
  simp only [Z1m] at h
  split at h
  ·simp only [Option.some.injEq] at h; subst h
   exact ⟨_, _, [], rfl, .nil, by simp, Nat.zero_le _, .inl rfl⟩
  ·cases h
 | @slc s xs full a n cap vs _ _ hn he hs hm hv hc hf _ =>
  simp only [Z1m] at h
  split at h
  ·rename_i hor
   simp only [Option.some.injEq] at h; subst h
   subst hn
   refine ⟨_, _, vs, rfl, hv, ?_, hc, .inr ⟨a, rfl, hs, Z3b r hs hm⟩⟩
   rcases hor with rfl | rfl
   ·exact he
   ·simp
  ·cases h
 | @arr b off n cb s pcap cap _ _ hl ho hn _ =>
  simp only [Z1m] at h
  split at h
  ·rename_i s' xs hg
   split at h
   ·rename_i hc
    obtain ⟨rfl, hc⟩ := hc
    simp only [Option.some.injEq] at h; subst h
    obtain ⟨rfl, he, hx, hm, _, cs', ty, hw, hs, hv, hcell⟩ := r.ownCells hg hl
    have hlen : ((xs.drop off).take n).length = n := by simp; omega
    refine ⟨_, _, ((cs'.toList.take (xs.length * s)).drop (off * s)).take (n * s), by rw [hlen], ?_, fun y hy => he y (List.mem_of_mem_drop (List.mem_of_mem_take hy)), by rw [hlen]; exact hn, .inr ⟨_, rfl, rfl, ?_⟩⟩
    ·rw [Z7 (fun y hy => he y (List.mem_of_mem_drop hy)), Z6 he]
     exact (hv.drop _).take _
    ·have := (hcell.drop (off * s)).take (n * s)
     simpa using this
   ·cases h
  ·cases h
 | @arr0 b s pcap a _ _ hl _ =>
  simp only [Z1m] at h
  split at h
  ·rename_i s' xs hg
   split at h
   ·rename_i hc
    simp only [Option.some.injEq] at h; subst h
    exact ⟨a, 0, [], by simp, by simpa using Z1.nil, by simp, by simp, .inl (by simp)⟩
   ·cases h
  ·cases h
 | _ => simp [Z1m] at h
theorem Z3l (P : Program) (w : World) (a : Addr) : (loadCells a 0).run P w = .ok #[] w := by
 simpa using run_loadCells_list (P := P) w a [] (by simp)
theorem Z3m {P : Program} {K : Kr} {w : World} {sz : Nat} {ys : List Z0} {vs : List Value} (he : ∀ y ∈ ys, y.elem sz) (hv : Z1 K (flat ys) vs) {a : Option Addr} {cap n : Nat}
  (h : ys = [] ∨ ∃ a', a = some a' ∧ a'.spot = none ∧ Z39 w a' vs) : (Builtin.firstCells sz ys.length (.slice a n cap)).run P w = .ok vs.toArray w := by
 have hl : vs.length = ys.length * sz := by rw [← hv.length, Z5 he]
 rcases h with rfl | ⟨a', rfl, _, hc⟩
 ·have : vs = [] := by simpa using hl
  subst this
  cases a with
  | none => simp [Builtin.firstCells]
  | some a => simp only [Builtin.firstCells, List.length_nil, Nat.zero_mul]; exact Z3l P w a
 ·simp only [Builtin.firstCells]
  rw [← hl]
  exact run_loadCells_list (P := P) w a' vs hc
theorem Z3n {c : Z0} {u : UInt8} (h : Zy c = some u) : ∃ n, c = .int .u8 n ∧ u = UInt8.ofNat n.toNat := by
 unfold Zy at h
 split at h
 ·rename_i n
  simp only [Option.some.injEq] at h
  exact ⟨n, rfl, h.symm⟩
 ·cases h
theorem Z3o {K : Kr} : ∀ {l : List Z0} {bs : List UInt8} {m : List Value}, Zz l = some bs → Z1 K l m →
  ∃ ns : List Int, m = ns.map (Value.int .u8) ∧ bs = ns.map fun n => UInt8.ofNat n.toNat
 | [], bs, m, h, hv => by
  simp [Zz] at h; subst h
  exact ⟨[], hv.nil_inv, rfl⟩
 | c :: l, bs, m, h, hv => by
  simp only [Zz, List.mapM_cons, Option.bind_eq_bind, Option.bind_eq_some_iff, Option.pure_def, Option.some.injEq] at h
  obtain ⟨u, hu, bs', hbs, rfl⟩ := h
  obtain ⟨v, m', rfl, h1, h2⟩ := hv.ex
  obtain ⟨n, rfl, rfl⟩ := Z3n hu
  obtain ⟨ns, rfl, rfl⟩ := Z3o hbs h2
  exact ⟨n :: ns, by rw [h1.int_inv]; rfl, rfl⟩
theorem Z3p (ns : List Int) : ∀ s : ByteArray, ns.foldl (fun r n => r.push (UInt8.ofNat n.toNat)) s = ⟨s.data ++ (ns.map fun n => UInt8.ofNat n.toNat).toArray⟩ := by
 induction ns with
 | nil => intro s; simp
 | cons n ns ih =>
  intro s
  simp only [List.foldl_cons, ih, List.map_cons]
  apply ByteArray.ext
  simp
end Go.Abs
namespace Go.Abs
open Go Go.RowKit
variable {P : Program} {K : Kr} {σ : Zc} {w : World}
theorem Z3q (x : Int) (k : IntKind) (y : Nat) (code : BoundsCode) (h : 0 ≤ x ∧ x ≤ y) : (Instr.sliceBound (.int k x) y code).run P w = .ok x.toNat w := by
 unfold Instr.sliceBound
 simp [asIntOf, h]
theorem Z3r {lo hi mx : Bool} {l : List Z0} {vlo vhi vmx : Option Value} {isS : Bool} {len cap : Nat} {a b c : Int}
  (hlen : len ≤ cap) (hb : bnds len lo hi mx l = some (a, b, c)) (hlo : vlo.isSome = lo) (hhi : vhi.isSome = hi) (hmx : vmx.isSome = mx)
  (hv : Z1 K l (vlo.toList ++ vhi.toList ++ vmx.toList)) (h : 0 ≤ a ∧ a ≤ b ∧ b ≤ c ∧ c ≤ len) :
  (Instr.sliceBounds isS len cap vlo vhi vmx).run P w = .ok (a.toNat, b.toNat, if mx then c.toNat else cap) w := by
 obtain ⟨h1, h2, h3, h4⟩ := h
 have e1 : ∀ {y : Nat} {code : BoundsCode} {k : IntKind} {x : Int}, 0 ≤ x → x ≤ (y : Int) → (Instr.sliceBound (.int k x) y code).run P w = .ok x.toNat w := fun p q => Z3q _ _ _ _ ⟨p, q⟩
 cases vlo <;> cases vhi <;> cases vmx <;> simp at hlo hhi hmx <;> subst hlo hhi hmx <;> simp only [bnds, reduceCtorEq] at hb
 ·split at hb
  ·simp only [Option.some.injEq, Prod.mk.injEq] at hb
   obtain ⟨rfl, rfl, rfl⟩ := hb
   simp [Instr.sliceBounds]
  ·cases hb
 ·split at hb
  ·simp only [Option.some.injEq, Prod.mk.injEq] at hb
   obtain ⟨rfl, rfl, rfl⟩ := hb
   obtain ⟨v, e, h5⟩ := hv.one_inv
   simp at e; subst e
   rw [h5.int_inv]
   rename_i k1 x1
   have q := e1 (y := cap) (code := (if isS then BoundsCode.sliceAcap else BoundsCode.sliceAlen)) (k := k1) (x := x1) (by omega) (by omega)
   simp [Instr.sliceBounds, q]
  ·cases hb
 ·split at hb
  ·simp only [Option.some.injEq, Prod.mk.injEq] at hb
   obtain ⟨rfl, rfl, rfl⟩ := hb
   obtain ⟨u, v, e, h5, h6⟩ := hv.two_inv
   simp at e; obtain ⟨rfl, rfl⟩ := e
   rw [h5.int_inv, h6.int_inv]
   rename_i k1 x1 k2 x2
   have q1 := e1 (y := cap) (code := (if isS then BoundsCode.slice3Acap else BoundsCode.slice3Alen)) (k := k2) (x := x2) (by omega) (by omega)
   have q2 := e1 (y := x2.toNat) (code := BoundsCode.slice3B) (k := k1) (x := x1) (by omega) (by omega)
   simp [Instr.sliceBounds, q1, q2]
  ·cases hb
 ·split at hb
  ·simp only [Option.some.injEq, Prod.mk.injEq] at hb
   obtain ⟨rfl, rfl, rfl⟩ := hb
   obtain ⟨v, e, h5⟩ := hv.one_inv
   simp at e; subst e
   rw [h5.int_inv]
   rename_i k1 x1
   have q := e1 (y := len) (code := BoundsCode.sliceB) (k := k1) (x := x1) (by omega) (by omega)
   simp [Instr.sliceBounds, q]
  ·cases hb
 ·split at hb
  ·simp only [Option.some.injEq, Prod.mk.injEq] at hb
   obtain ⟨rfl, rfl, rfl⟩ := hb
   obtain ⟨u, v, e, h5, h6⟩ := hv.two_inv
   simp at e; obtain ⟨rfl, rfl⟩ := e
   rw [h5.int_inv, h6.int_inv]
   rename_i k1 x1 k2 x2
   have q1 := e1 (y := cap) (code := (if isS then BoundsCode.sliceAcap else BoundsCode.sliceAlen)) (k := k2) (x := x2) (by omega) (by omega)
   have q2 := e1 (y := x2.toNat) (code := BoundsCode.sliceB) (k := k1) (x := x1) (by omega) (by omega)
   simp [Instr.sliceBounds, q1, q2]
  ·cases hb
 ·split at hb
  ·simp only [Option.some.injEq, Prod.mk.injEq] at hb
   obtain ⟨rfl, rfl, rfl⟩ := hb
   obtain ⟨u, v, t, e, h5, h6, h7⟩ := hv.three_inv
   simp at e; obtain ⟨rfl, rfl, rfl⟩ := e
   rw [h5.int_inv, h6.int_inv, h7.int_inv]
   rename_i k1 x1 k2 x2 k3 x3
   have q1 := e1 (y := cap) (code := (if isS then BoundsCode.slice3Acap else BoundsCode.slice3Alen)) (k := k3) (x := x3) (by omega) (by omega)
   have q2 := e1 (y := x3.toNat) (code := BoundsCode.slice3B) (k := k2) (x := x2) (by omega) (by omega)
   have q3 := e1 (y := x2.toNat) (code := BoundsCode.slice3C) (k := k1) (x := x1) (by omega) (by omega)
   simp [Instr.sliceBounds, q1, q2, q3]
  ·cases hb
theorem Z3s {sz : Nat} {lo hi mx : Bool} {x : Z0} {l : List Z0} {v : Z0} (h : asub sz lo hi mx (x :: l) = some v) {u : Value} (hx : VR K x u) {t e : TypeId} (ht : P.underlying t = some (.slice e))
  (hsz : Z2i P e = some sz) {vlo vhi vmx : Option Value} (hlo : vlo.isSome = lo) (hhi : vhi.isSome = hi) (hmx : vmx.isSome = mx)
  (hv : Z1 K l (vlo.toList ++ vhi.toList ++ vmx.toList)) : ∃ r, (Instr.slice t u vlo vhi vmx).run P w = .ok r w ∧ VR K v r := by
 unfold VR at hx
 cases hx with
 | @slc0 s full a cap _ _ hf _ =>
  simp only [asub, Option.bind_eq_some_iff] at h
  obtain ⟨⟨p, q, c⟩, hb, h⟩ := h
  simp only at h
  split at h
  ·rename_i hc
   simp only [Option.some.injEq] at h; subst h
   replace hc := hc.1
   have hr := Z3r (P := P) (w := w) (isS := true) (len := 0) (cap := cap) (Nat.zero_le _) (by simpa using hb) hlo hhi hmx hv (by simpa using hc)
   have hp : p = 0 := by simp at hc; omega
   have hq : q = 0 := by simp at hc; omega
   have hcc : c = 0 := by simp at hc; omega
   subst hp hq hcc
   refine ⟨_, by simp [Instr.slice, run_underlying ht, hr, Z3g hsz]; rfl, ?_⟩
   cases mx with
   | true => exact Z1.slc0 (fun _ => by simp) .nil
   | false =>
    cases full with
    | true => have := hf rfl; subst this; exact Z1.slc0 (fun _ => by simp) .nil
    | false => exact Z1.slc0 (by simp) .nil
  ·cases h
 | @slc s xs full a n cap vs _ _ hn he hs hm hvv hc hf _ =>
  simp only [asub, Option.bind_eq_some_iff] at h
  obtain ⟨⟨p, q, c⟩, hb, h⟩ := h
  simp only at h
  split at h
  ·rename_i hcnd
   simp only [Option.some.injEq] at h; subst h
   subst hn
   obtain ⟨hcnd, hsz'⟩ := hcnd
   have hr := Z3r (P := P) (w := w) (isS := true) (cap := cap) hc hb hlo hhi hmx hv hcnd
   obtain ⟨c1, c2, c3, c4⟩ := hcnd
   have hmm : ∃ m, m = (if mx then c.toNat else cap) ∧ q.toNat ≤ m ∧ (mx = true → m = c.toNat) ∧ (mx = false → m = cap) := by
    refine ⟨_, rfl, ?_, ?_, ?_⟩ <;> cases mx <;> simp <;> omega
   obtain ⟨m, hmm, hqm, hm1, hm2⟩ := hmm
   rw [← hmm] at hr
   refine ⟨_, by simp [Instr.slice, run_underlying ht, hr, Z3g hsz]; rfl, ?_⟩
   have hlen : ((xs.drop p.toNat).take (q - p).toNat).length = q.toNat - p.toNat := by simp; omega
   have hfull : (if mx = true then decide (q = c) else full && decide (q = (xs.length : Int))) = true → m - p.toNat = q.toNat - p.toNat := by
    cases mx with
    | true => simp; rw [hm1 rfl]; omega
    | false => simp; intro hfl hq; have := hf hfl; rw [hm2 rfl]; omega
   by_cases hemp : q.toNat - p.toNat = 0
   ·have hnil : (xs.drop p.toNat).take (q - p).toNat = [] := List.eq_nil_of_length_eq_zero (by rw [hlen]; exact hemp)
    rw [hnil, hemp]
    exact Z1.slc0 (fun hfu => by have := hfull hfu; omega) .nil
   ·have hmp : ¬ m = p.toNat := by omega
    have hsz2 : s = sz := by
     rcases hsz' with h | h
     ·exact h
     ·subst h; simp at hlen; omega
    subst hsz2
    rw [if_neg hmp, Z3a _ _ hs]
    refine Z1.slc hlen (fun y hy => he y (List.mem_of_mem_drop (List.mem_of_mem_take hy))) rfl (vs := (vs.drop (p.toNat * s)).take ((q - p).toNat * s)) ?_ ?_ (by omega) hfull .nil
    ·intro j u hj
     rw [List.getElem?_take] at hj
     split at hj
     ·rw [List.getElem?_drop] at hj
      have := hm _ _ hj
      simpa [Nat.add_assoc] using this
     ·cases hj
    ·have e := Z7 (xs := xs.drop p.toNat) (fun y hy => he y (List.mem_of_mem_drop hy)) (q - p).toNat
     rw [Z6 he] at e
     unfold flat at e
     rw [e]
     exact (hvv.drop _).take _
  ·cases h
 | @arr b off n cb s pcap cap _ _ hl ho hn _ =>
  simp only [asub, Option.bind_eq_some_iff] at h
  obtain ⟨⟨p, q, c⟩, hb, h⟩ := h
  simp only at h
  split at h
  ·rename_i hcnd
   obtain ⟨hcnd, hs⟩ := hcnd
   have hr := Z3r (P := P) (w := w) (isS := true) (cap := cap) hn hb hlo hhi hmx hv hcnd
   obtain ⟨c1, c2, c3, c4⟩ := hcnd
   replace hsz : Z2i P e = some s := by rw [hsz, hs]
   clear hs
   have hmm : ∃ m, m = (if mx then c.toNat else cap) ∧ q.toNat ≤ m ∧ m ≤ cap := by
    refine ⟨_, rfl, ?_, ?_⟩ <;> cases mx <;> simp <;> omega
   obtain ⟨m, hmm, hqm, hmc⟩ := hmm
   rw [← hmm] at hr
   refine ⟨_, by simp [Instr.slice, run_underlying ht, hr, Z3g hsz]; rfl, ?_⟩
   split at h
   ·rename_i hp
    subst hp
    simp only [Option.some.injEq] at h; subst h
    have hadd : (if m = (0 : Int).toNat then some (⟨cb, off * s, none⟩ : Addr) else some ((⟨cb, off * s, none⟩ : Addr).add ((0 : Int).toNat * s))) = some ⟨cb, off * s, none⟩ := by
     split
     ·rfl
     ·rw [Z3a _ _ rfl]; simp
    rw [hadd]
    have := Z1.arr (K := K) (off := off) (n := q.toNat) (cap := m) hl (by omega) hqm .nil
    simpa [VR] using this
   ·split at h
    ·simp only [Option.some.injEq] at h; subst h
     rw [if_neg (by omega), Z3a _ _ rfl]
     have e : (⟨cb, off * s + p.toNat * s, none⟩ : Addr) = ⟨cb, (off + p.toNat) * s, none⟩ := by rw [Nat.add_mul]
     simp only
     rw [e, show (q - p).toNat = q.toNat - p.toNat by omega]
     exact Z1.arr (K := K) hl (by omega) (by omega) .nil
    ·simp only [Option.some.injEq] at h; subst h
     rw [show q.toNat - p.toNat = 0 by omega]
     exact Z1.slc0 (by simp) .nil
  ·cases h
 | @arr0 b s pcap a _ _ hl _ =>
  simp only [asub, Option.bind_eq_some_iff] at h
  obtain ⟨⟨p, q, c⟩, hb, h⟩ := h
  simp only at h
  split at h
  ·rename_i hc
   replace hc := hc.1
   have hr := Z3r (P := P) (w := w) (isS := true) (len := 0) (cap := 0) (Nat.zero_le _) (by simpa using hb) hlo hhi hmx hv (by simpa using hc)
   have hp : p = 0 := by simp at hc; omega
   have hq : q = 0 := by simp at hc; omega
   have hcc : c = 0 := by simp at hc; omega
   subst hp hq hcc
   simp at h; subst h
   refine ⟨_, by simp [Instr.slice, run_underlying ht, hr, Z3g hsz]; rfl, ?_⟩
   exact Z1.arr0 hl .nil
  ·cases h
 | _ => simp [asub] at h
end Go.Abs
namespace Go.Abs
open Go Go.RowKit
variable {P : Program} {K : Kr} {σ : Zc} {w : World}
def QOk (P : Program) (K : Kr) (σ : Zc) (w : World) (x : Z0) (res : Result Value) : Prop :=
 ∃ v w' K', res = .ok v w' ∧ K.le K' ∧ Rel K' σ w' ∧ VR K' x v
theorem QOk.same {x : Z0} {v : Value} {res : Result Value} (r : Rel K σ w) (e : res = .ok v w) (h : VR K x v) : QOk P K σ w x res :=
 ⟨v, w, K, e, Kr.le.refl K, r, h⟩
theorem Z3t {vs : List Z0} {m : List Value} (hv : Z1 K vs m) {x : Z0} (h : amov vs = some x) : ∃ v, m = [v] ∧ VR K x v := by
 unfold amov at h
 split at h
 ·simp only [Option.some.injEq] at h; subst h
  exact hv.one_inv
 ·cases h
theorem Z3u {vs : List Z0} {c a b : Value} (hv : Z1 K vs [c, a, b]) {x : Z0} (h : Z17 vs = some x) (r : Rel K σ w) :
  QOk P K σ w x ((do pure (if ← asBool c then a else b) : Sem Value).run P w) := by
 unfold Z17 at h
 split at h
 ·rename_i t y z
  simp only [Option.some.injEq] at h; subst h
  obtain ⟨u1, u2, u3, e, h1, h2, h3⟩ := hv.three_inv
  simp at e; obtain ⟨rfl, rfl, rfl⟩ := e
  rw [h1.bool_inv]
  refine QOk.same r (by simp [asBool] <;> rfl) ?_
  cases t
  ·exact h3
  ·exact h2
 ·cases h
theorem Z3v {t : TypeId} {i : Nat} {f : Field} {s : Nat} (hf : Z2m P t i = some f) (hs : Z2i P f.type = some s) (h0 : s ≠ 0) {vs : List Z0} {p : Value} (hv : Z1 K vs [p]) {x : Z0} (h : afad f.offset vs = some x) (r : Rel K σ w) :
  QOk P K σ w x ((Instr.fieldAt t p i).run P w) := by
 have hu : ∃ fs, P.underlying t = some (.struct fs) ∧ fs[i]? = some f := by
  unfold Z2m at hf
  split at hf
  ·exact ⟨_, by assumption, hf⟩
  ·cases hf
 obtain ⟨fs, hu, hfs⟩ := hu
 unfold afad at h
 split at h
 ·rename_i b j o
  simp only [Option.some.injEq] at h; subst h
  obtain ⟨u, e, h1⟩ := hv.one_inv
  simp at e; subst e
  unfold VR at h1
  cases h1 with
  | ptr hl _ =>
   refine QOk.same r (by simp [Instr.fieldAt, run_underlying hu, hfs, Instr.sureAddr, fieldPlace, Z3g hs, h0, Z3a] <;> rfl) ?_
   have := Z1.ptr (K := K) (i := j) (o := o + f.offset) hl .nil
   simpa [VR, Nat.add_assoc] using this
 ·rename_i cs
  simp only [Option.some.injEq] at h; subst h
  obtain ⟨u, e, h1⟩ := hv.one_inv
  simp at e; subst e
  unfold VR at h1
  cases h1 with
  | @iptr _ a vs' _ _ hsp h1 hm hvv _ =>
   refine QOk.same r (by simp [Instr.fieldAt, run_underlying hu, hfs, Instr.sureAddr, fieldPlace, Z3g hs, h0, Z3a a _ hsp] <;> rfl) ?_
   refine Z1.iptr (vs := vs'.drop f.offset) rfl (fun c hc => h1 c (List.mem_of_mem_drop hc)) (fun j v e => ?_) (hvv.drop _) .nil
   rw [List.getElem?_drop] at e
   have := hm _ _ e
   simpa [Nat.add_assoc] using this
 ·cases h
theorem Z3w {t : TypeId} {ag : Bool} {sz off : Nat} (hag : aggA P t = some ag) (hsz : Z2i P t = some sz) {cs : List Z0} {vs : List Value} {x : Z0} (hp : Z19 ag sz (cs.drop off) = some x)
  (hv : Z1 K cs vs) (h1 : ∀ c ∈ cs, c.one = true) : ∃ v, (part t vs.toArray off).run P w = .ok v w ∧ VR K x v := by
 unfold part
 simp only [Sem.run_bind, Z3f hag, Result.andThen_ok]
 rcases Z3e hp (hv.drop off) (fun c hc => h1 c (List.mem_of_mem_drop hc)) with ⟨rfl, hl, hx⟩ | ⟨rfl, v, h0, hx⟩
 ·refine ⟨_, by simp only [if_true, Sem.run_bind, Z3g hsz, Result.andThen_ok, Sem.run_pure]; rfl, ?_⟩
  have e : ((vs.drop off).take sz).toArray = vs.toArray.extract off (off + sz) := by
   apply Array.ext'
   simp [List.extract_eq_take_drop]
  rw [← e]
  exact hx
 ·refine ⟨v, ?_, hx⟩
  have e : vs.toArray[off]? = some v := by simpa using h0
  simp [e]
theorem Z3x {t : TypeId} {i : Nat} {f : Field} {ag : Bool} {s : Nat} (hf : Z2m P t i = some f) (hg : aggA P f.type = some ag) (hs : Z2i P f.type = some s) {vs : List Z0} {p : Value} (hv : Z1 K vs [p]) {x : Z0}
  (h : afld ag f.offset s vs = some x) (r : Rel K σ w) : QOk P K σ w x ((Instr.field t p i).run P w) := by
 have hu : ∃ fs, P.underlying t = some (.struct fs) ∧ fs[i]? = some f := by
  unfold Z2m at hf
  split at hf
  ·exact ⟨_, by assumption, hf⟩
  ·cases hf
 obtain ⟨fs, hu, hfs⟩ := hu
 unfold afld at h
 split at h
 ·rename_i cs
  obtain ⟨u, e, h1⟩ := hv.one_inv
  simp at e; subst e
  obtain ⟨vs', rfl, h2, h3⟩ := h1.agg_inv
  obtain ⟨v, hr, hx⟩ := Z3w (P := P) (w := w) hg hs h h2 h3
  refine QOk.same r ?_ hx
  simp [Instr.field, run_underlying hu, hfs, asAgg, hr]
 ·cases h
theorem Z3y {t e : TypeId} {sz : Nat} (ht : P.underlying t = some (.slice e)) (hs : Z2i P e = some sz) {vs : List Z0} {p q : Value} (hv : Z1 K vs [p, q]) {x : Z0}
  (h : aiad sz vs = some x) (r : Rel K σ w) : QOk P K σ w x ((Instr.indexAt t p q).run P w) := by
 unfold aiad at h
 split at h
 ·rename_i s xs full k i
  split at h
  ·rename_i hc
   obtain ⟨h0, rfl⟩ := hc
   simp only [Option.map_eq_some_iff] at h
   obtain ⟨y, hy, rfl⟩ := h
   obtain ⟨u1, u2, e1, h1, h2⟩ := hv.two_inv
   simp at e1; obtain ⟨rfl, rfl⟩ := e1
   rw [h2.int_inv]
   have hlt := (List.getElem?_eq_some_iff.1 hy).1
   unfold VR at h1
   cases h1 with
   | slc0 _ _ => simp at hy
   | @slc _ _ _ a n cap vs' _ _ hn he hsp hm hvv hc hf _ =>
    subst hn
    have hi : 0 ≤ i ∧ i < (xs.length : Int) := ⟨h0, by omega⟩
    refine QOk.same r (by simp [Instr.indexAt, asIntOf, run_underlying ht, hi, Z3g hs, Z3a a _ hsp] <;> rfl) ?_
    have hx := (Z1.at_ hvv he hy)
    refine Z1.iptr rfl (he y (List.mem_of_getElem? hy)).2 (fun j v e => ?_) hx .nil
    rw [List.getElem?_take] at e
    split at e
    ·rw [List.getElem?_drop] at e
     have := hm _ _ e
     simpa [Nat.add_assoc] using this
    ·cases e
  ·cases h
 ·rename_i s b off n k i
  split at h
  ·rename_i hc
   obtain ⟨⟨h0, h9⟩, hss⟩ := hc
   simp only [Option.some.injEq] at h; subst h
   obtain ⟨u1, u2, e1, h1, h2⟩ := hv.two_inv
   simp at e1; obtain ⟨rfl, rfl⟩ := e1
   rw [h2.int_inv]
   unfold VR at h1
   cases h1 with
   | @arr _ _ _ cb s' pcap cap _ _ hl ho hn _ =>
    have hi : 0 ≤ i ∧ i < (n : Int) := ⟨h0, h9⟩
    refine QOk.same r (by simp [Instr.indexAt, asIntOf, run_underlying ht, hi, Z3g hs, Z3a] <;> rfl) ?_
    have := Z1.ptr (K := K) (i := off + i.toNat) (o := 0) hl .nil
    simpa [VR, Nat.add_mul, hss] using this
   | arr0 _ _ => simp at h9; omega
  ·cases h
 ·cases h
theorem Z3z {k : IntKind} {src dst : TypeId} (hd : P.underlying dst = some (.int k)) {d : TypeDesc} (hsrc : P.underlying src = some d) {vs : List Z0} {p : Value} (hv : Z1 K vs [p]) {x : Z0} (h : Z1d k vs = some x) (r : Rel K σ w) :
  QOk P K σ w x ((convert src dst p).run P w) := by
 unfold Z1d at h
 split at h
 ·simp only [Option.some.injEq] at h; subst h
  obtain ⟨u, e, h1⟩ := hv.one_inv
  simp at e; subst e
  rw [h1.int_inv]
  refine QOk.same r ?_ VR.int
  cases d <;> simp [convert, run_underlying hd, run_underlying hsrc, Conv.intToInt]
 ·cases h
theorem Z40 {t : TypeId} {op : BinOp} (y z : Operand) {vs : List Z0} {p q : Value} (hv : Z1 K vs [p, q]) {x : Z0} (h : abin op vs = some x) (r : Rel K σ w) :
  QOk P K σ w x ((do eqGuard op t y z p q; binOp op t p q : Sem Value).run P w) := by
 have h' := h
 unfold abin at h'
 split at h'
 ·obtain ⟨u1, u2, e1, h1, h2⟩ := hv.two_inv
  simp at e1; obtain ⟨rfl, rfl⟩ := e1
  rw [h1.int_inv, h2.int_inv]
  obtain ⟨v, hr, hx⟩ := Z34 (K := K) P op t _ _ _ _ x h w
  refine QOk.same r ?_ hx
  simp [Z38 P op t y z _ _ w (.inl ⟨_, _, rfl⟩), hr]
 ·obtain ⟨u1, u2, e1, h1, h2⟩ := hv.two_inv
  simp at e1; obtain ⟨rfl, rfl⟩ := e1
  rw [h1.str_inv, h2.str_inv]
  obtain ⟨v, hr, hx⟩ := Z35 (K := K) P op t _ _ x h w
  refine QOk.same r ?_ hx
  simp [Z38 P op t y z _ _ w (.inr (.inl ⟨_, rfl⟩)), hr]
 ·cases h'
theorem Z41 {t : TypeId} {op : BinOp} (hk : Z2k P t = 1) (y z : Operand) {vs : List Z0} {p q : Value} (hv : Z1 K vs [p, q]) {x : Z0} (h : Z15 op vs = some x) (r : Rel K σ w) :
  QOk P K σ w x ((do eqGuard op t y z p q; binOp op t p q : Sem Value).run P w) := by
 have ht : P.underlying t = some .bool := by
  unfold Z2k at hk
  split at hk <;> first | assumption | (simp at hk)
 have h' := h
 unfold Z15 at h'
 split at h'
 ·obtain ⟨u1, u2, e1, h1, h2⟩ := hv.two_inv
  simp at e1; obtain ⟨rfl, rfl⟩ := e1
  rw [h1.bool_inv, h2.bool_inv]
  obtain ⟨v, hr, hx⟩ := Z37 (K := K) P op t ht _ _ x h w
  refine QOk.same r ?_ hx
  simp [Z38 P op t y z _ _ w (.inr (.inr (.inl ⟨_, rfl⟩))), hr]
 ·cases h'
theorem Z42 {src dst : TypeId} (hs : P.underlying src = some .string) (hd : P.underlying dst = some .string) {vs : List Z0} {p : Value} (hv : Z1 K vs [p]) {x : Z0} (h : Z16 vs = some x) (r : Rel K σ w) :
  QOk P K σ w x ((convert src dst p).run P w) := by
 unfold Z16 at h
 split at h
 ·simp only [Option.some.injEq] at h; subst h
  obtain ⟨u, e, h1⟩ := hv.one_inv
  simp at e; subst e
  rw [h1.str_inv]
  exact QOk.same r (by simp [convert, run_underlying hs, run_underlying hd] <;> rfl) VR.str
 ·cases h
theorem Z43 {sz : Nat} {t e : TypeId} (ht : P.underlying t = some (.slice e)) (hsz : Z2i P e = some sz) {lo hi mx : Bool} {vs : List Z0} {u : Value} {vlo vhi vmx : Option Value} (hlo : vlo.isSome = lo) (hhi : vhi.isSome = hi) (hmx : vmx.isSome = mx)
  (hv : Z1 K vs (u :: (vlo.toList ++ vhi.toList ++ vmx.toList))) {x : Z0} (h : asub sz lo hi mx vs = some x) (r : Rel K σ w) : QOk P K σ w x ((Instr.slice t u vlo vhi vmx).run P w) := by
 cases vs with
 | nil => cases hv
 | cons y l =>
  obtain ⟨h1, h2⟩ := hv.inv
  obtain ⟨v, hr, hx⟩ := Z3s (P := P) (w := w) h h1 ht hsz hlo hhi hmx h2
  exact QOk.same r hr hx
theorem Z44 {vs : List Z0} {p : Value} (hv : Z1 K vs [p]) {x : Z0} (h : Z1a vs = some x) (r : Rel K σ w) : QOk P K σ w x ((Op.unary .not p).run P w) := by
 unfold Z1a at h
 split at h
 ·simp only [Option.some.injEq] at h; subst h
  obtain ⟨u, e, h1⟩ := hv.one_inv
  simp at e; subst e
  rw [h1.bool_inv]
  exact QOk.same r (by simp [Op.unary] <;> rfl) VR.bool
 ·cases h
theorem Z45 {vs : List Z0} {p : Value} (hv : Z1 K vs [p]) {x : Z0} (h : Z1b vs = some x) (r : Rel K σ w) : QOk P K σ w x ((Op.unary .neg p).run P w) := by
 unfold Z1b at h
 split at h
 ·simp only [Option.some.injEq] at h; subst h
  obtain ⟨u, e, h1⟩ := hv.one_inv
  simp at e; subst e
  rw [h1.int_inv]
  exact QOk.same r (by simp [Op.unary, Op.intArith] <;> rfl) VR.int
 ·cases h
theorem Z46 {vs : List Z0} {p : Value} (hv : Z1 K vs [p]) {x : Z0} (h : Z1c vs = some x) (r : Rel K σ w) : QOk P K σ w x ((Op.unary .xor p).run P w) := by
 unfold Z1c at h
 split at h
 ·simp only [Option.some.injEq] at h; subst h
  obtain ⟨u, e, h1⟩ := hv.one_inv
  simp at e; subst e
  rw [h1.int_inv]
  exact QOk.same r (by simp only [Op.unary]; exact Z32 .xor (by simp) P _ _ _ w) VR.int
 ·cases h
theorem Z47 {t : TypeId} (hk : Z2k P t = 3) {vs : List Z0} {p q : Value} (hv : Z1 K vs [p, q]) {x : Z0} (h : Z1f vs = some x) (r : Rel K σ w) : QOk P K σ w x ((Instr.index t p q).run P w) := by
 have ht : P.underlying t = some .string := by
  unfold Z2k at hk
  split at hk <;> first | assumption | (simp at hk)
 unfold Z1f at h
 split at h
 ·rename_i s k i
  split at h
  ·rename_i h0
   simp only [Option.map_eq_some_iff] at h
   obtain ⟨y, hy, rfl⟩ := h
   obtain ⟨u1, u2, e1, h1, h2⟩ := hv.two_inv
   simp at e1; obtain ⟨rfl, rfl⟩ := e1
   rw [h1.str_inv, h2.int_inv]
   have hlt := (List.getElem?_eq_some_iff.1 hy)
   obtain ⟨hlt, hy'⟩ := hlt
   have e : (⟨s.toArray⟩ : ByteArray)[i.toNat]? = some y := by
    have hsz : (⟨s.toArray⟩ : ByteArray).size = s.length := by simp [ByteArray.size]
    rw [getElem?_pos _ _ (by rw [hsz]; exact hlt)]
    simp only [Option.some.injEq]
    rw [← hy']
    simp [ByteArray.getElem_eq_getElem_data]
   refine QOk.same r (by simp [Instr.index, asIntOf, run_underlying ht, h0, e] <;> rfl) VR.int
  ·cases h
 ·cases h
theorem Z48 {t : TypeId} (ht : P.underlying t = some .string) {lo hi : Bool} {y : Z0} {l : List Z0} {u : Value} (hy : VR K y u) {vlo vhi : Option Value} (hlo : vlo.isSome = lo) (hhi : vhi.isSome = hi)
  (hv : Z1 K l (vlo.toList ++ vhi.toList)) {x : Z0} (h : Z1e lo hi (y :: l) = some x) (r : Rel K σ w) : QOk P K σ w x ((Instr.slice t u vlo vhi none).run P w) := by
 unfold Z1e at h
 split at h
 ·rename_i s l' he
  simp only [List.cons.injEq] at he
  obtain ⟨rfl, rfl⟩ := he
  simp only [Option.bind_eq_some_iff] at h
  obtain ⟨⟨p, q, c⟩, hb, h⟩ := h
  simp only at h
  split at h
  ·rename_i hc
   simp only [Option.some.injEq] at h; subst h
   rw [hy.str_inv]
   have hsz : (⟨s.toArray⟩ : ByteArray).size = s.length := by simp [ByteArray.size]
   have hcc : c = s.length := by
    cases lo <;> cases hi <;> simp only [bnds] at hb <;> split at hb <;> simp only [Option.some.injEq, Prod.mk.injEq, reduceCtorEq] at hb <;> exact hb.2.2.symm
   subst hcc
   have hr := Z3r (P := P) (w := w) (isS := false) (len := s.length) (cap := s.length) (Nat.le_refl _) hb hlo hhi (vmx := none) (by simp) (by simpa using hv) (by omega)
   refine QOk.same r (by simp [Instr.slice, run_underlying ht, hsz, hr] <;> rfl) ?_
   have e : (⟨s.toArray⟩ : ByteArray).extract p.toNat q.toNat = ⟨((s.drop p.toNat).take (q - p).toNat).toArray⟩ := by
    apply ByteArray.ext
    apply Array.ext'
    simp [ByteArray.data_extract, List.extract_eq_take_drop]
    rw [show q.toNat - p.toNat = (q - p).toNat by omega]
   rw [e]
   exact VR.str
  ·cases h
 ·cases h
theorem Z49 {i : Nat} {vs : List Z0} {p : Value} (hv : Z1 K vs [p]) {x : Z0} (h : aext i vs = some x) (r : Rel K σ w) : QOk P K σ w x ((Instr.extract p i).run P w) := by
 unfold aext at h
 split at h
 ·obtain ⟨u, e, h1⟩ := hv.one_inv
  simp at e; subst e
  obtain ⟨vs', rfl, h2⟩ := h1.tup_inv
  obtain ⟨v, hv', hx⟩ := h2.get h
  exact QOk.same r (by simp [Instr.extract, hv'] <;> rfl) hx
 ·cases h
theorem Z4a {t ty : TypeId} {ats : Array TypeId} (h0 : ats[0]? = some t) (hk : Z2k P t = 4) {vs : List Z0} {p : Value} (hv : Z1 K vs [p]) {x : Z0} (h : Z1h vs = some x) (r : Rel K σ w) : QOk P K σ w x ((Builtin.len_ ats ty #[p]).run P w) := by
 have ht : ∃ e, P.underlying t = some (.slice e) := by
  unfold Z2k at hk
  split at hk <;> first | exact ⟨_, by assumption⟩ | (simp at hk)
 obtain ⟨e, ht⟩ := ht
 unfold Z1h at h
 split at h
 ·simp only [Option.some.injEq] at h; subst h
  obtain ⟨u, e, h1⟩ := hv.one_inv
  simp at e; subst e
  unfold VR at h1
  cases h1 with
  | slc0 _ _ => exact QOk.same r (by simp [Builtin.len_, h0, run_underlying ht] <;> rfl) VR.int
  | slc hn _ _ _ _ _ _ _ => subst hn; exact QOk.same r (by simp [Builtin.len_, h0, run_underlying ht] <;> rfl) VR.int
 ·simp only [Option.some.injEq] at h; subst h
  obtain ⟨u, e, h1⟩ := hv.one_inv
  simp at e; subst e
  unfold VR at h1
  cases h1 with
  | arr _ _ _ _ => exact QOk.same r (by simp [Builtin.len_, h0, run_underlying ht] <;> rfl) VR.int
  | arr0 _ _ => exact QOk.same r (by simp [Builtin.len_, h0, run_underlying ht] <;> rfl) VR.int
 ·cases h
theorem Z4b {t ty : TypeId} {ats : Array TypeId} (h0 : ats[0]? = some t) (hk : Z2k P t = 3) {vs : List Z0} {p : Value} (hv : Z1 K vs [p]) {x : Z0} (h : Z1i vs = some x) (r : Rel K σ w) : QOk P K σ w x ((Builtin.len_ ats ty #[p]).run P w) := by
 have ht : P.underlying t = some .string := by
  unfold Z2k at hk
  split at hk <;> first | assumption | (simp at hk)
 unfold Z1i at h
 split at h
 ·simp only [Option.some.injEq] at h; subst h
  obtain ⟨u, e, h1⟩ := hv.one_inv
  simp at e; subst e
  rw [h1.str_inv]
  exact QOk.same r (by simp [Builtin.len_, h0, run_underlying ht] <;> rfl) VR.int
 ·cases h
theorem Z4c (f2 : Z0 → Z0 → Option Z0) (g2 : Value → Value → Sem Value) (hg : ∀ a b x u v, f2 a b = some x → VR K a u → VR K b v → ∃ y, (g2 u v).run P w = .ok y w ∧ VR K x y) :
  ∀ (l : List Z0) (m : List Value) (a x : Z0) (u : Value), Z1 K l m → VR K a u → l.foldlM f2 a = some x → ∃ y, (m.foldlM g2 u).run P w = .ok y w ∧ VR K x y
 | [], m, a, x, u, hv, ha, h => by
  rw [hv.nil_inv]
  simp at h; subst h
  exact ⟨u, by simp, ha⟩
 | b :: l, m, a, x, u, hv, ha, h => by
  obtain ⟨v, m', rfl, h1, h2⟩ := hv.ex
  simp only [List.foldlM_cons, Option.bind_eq_bind, Option.bind_eq_some_iff] at h
  obtain ⟨c, hc, h⟩ := h
  obtain ⟨y, hy, hyv⟩ := hg _ _ _ _ _ hc ha h1
  obtain ⟨z, hz, hzv⟩ := Z4c f2 g2 hg l m' c x y h2 hyv h
  exact ⟨z, by simp [hy, hz], hzv⟩
theorem Z4d {ats : Array TypeId} {ty : TypeId} {vs : List Z0} {m : List Value} (hv : Z1 K vs m) {x : Z0} (h : amin vs = some x) (r : Rel K σ w) : QOk P K σ w x ((Builtin.min_ ats ty m.toArray).run P w) := by
 unfold amin at h
 split at h
 ·cases h
 ·rename_i a l
  obtain ⟨u, m', rfl, h1, h2⟩ := hv.ex
  obtain ⟨y, hy, hx⟩ := Z4c (P := P) (w := w) Z1j Builtin.min2 (fun a b x u v hf ha hb => by
   unfold Z1j at hf
   split at hf
   ·simp only [Option.some.injEq] at hf; subst hf
    rw [ha.int_inv, hb.int_inv]
    exact ⟨_, by simp [Builtin.min2] <;> rfl, VR.int⟩
   ·cases hf) l m' a x u h2 h1 h
  exact QOk.same r (by simp [Builtin.min_, hy]) hx
theorem Z4e {ats : Array TypeId} {ty : TypeId} {vs : List Z0} {m : List Value} (hv : Z1 K vs m) {x : Z0} (h : amax vs = some x) (r : Rel K σ w) : QOk P K σ w x ((Builtin.max_ ats ty m.toArray).run P w) := by
 unfold amax at h
 split at h
 ·cases h
 ·rename_i a l
  obtain ⟨u, m', rfl, h1, h2⟩ := hv.ex
  obtain ⟨y, hy, hx⟩ := Z4c (P := P) (w := w) Z1k Builtin.max2 (fun a b x u v hf ha hb => by
   unfold Z1k at hf
   split at hf
   ·simp only [Option.some.injEq] at hf; subst hf
    rw [ha.int_inv, hb.int_inv]
    exact ⟨_, by simp [Builtin.max2] <;> rfl, VR.int⟩
   ·cases hf) l m' a x u h2 h1 h
  exact QOk.same r (by simp [Builtin.max_, hy]) hx
theorem Z4f : ∀ {ys : List Z0} {bs : List UInt8}, Zz ys = some bs → flat ys = ys
 | [], _, _ => rfl
 | y :: ys, bs, h => by
  simp only [Zz, List.mapM_cons, Option.bind_eq_bind, Option.bind_eq_some_iff, Option.pure_def, Option.some.injEq] at h
  obtain ⟨u, hu, bs', hbs, rfl⟩ := h
  obtain ⟨n, rfl, rfl⟩ := Z3n hu
  rw [Z3, Z4f hbs]
  rfl
theorem Z4g {ys : List Z0} {bs : List UInt8} (hb : Zz ys = some bs) {a : Option Addr} {n cap : Nat} {vs : List Value} (hn : n = ys.length) (hv : Z1 K (flat ys) vs)
  (hc : ys = [] ∨ ∃ a', a = some a' ∧ a'.spot = none ∧ Z39 w a' vs) : (Conv.bytesToString (.slice a n cap)).run P w = .ok (.string ⟨bs.toArray⟩) w := by
 subst hn
 rw [Z4f hb] at hv
 rcases hc with rfl | ⟨a', rfl, hs, hc⟩
 ·simp [Zz] at hb
  subst hb
  cases a with
  | none => rfl
  | some a =>
   have e := run_bytesToString (P := P) w a 0 cap [] (by simp; exact Z3l P w a)
   exact e
 ·obtain ⟨ns, rfl, rfl⟩ := Z3o hb hv
  have hl := run_loadCells_list (P := P) w a' _ hc
  have hlen : ys.length = (ns.map (Value.int .u8)).length := hv.length
  have e := run_bytesToString (P := P) w a' ys.length cap ns (by rw [hlen]; simpa using hl)
  rw [e, Z3p]
  simp
theorem Z4h {src dst e : TypeId} (hs : P.underlying src = some (.slice e)) (hd : P.underlying dst = some .string) (he : P.underlying e = some (.int .u8)) {vs : List Z0} {p : Value} (hv : Z1 K vs [p]) {x : Z0} (h : ab2s σ vs = some x) (r : Rel K σ w) :
  QOk P K σ w x ((convert src dst p).run P w) := by
 unfold ab2s at h
 split at h
 ·rename_i y
  simp only [Option.map_eq_some_iff, Option.bind_eq_some_iff] at h
  obtain ⟨bs, ⟨ys, h1, h2⟩, rfl⟩ := h
  obtain ⟨u, e1, h3⟩ := hv.one_inv
  simp at e1; subst e1
  obtain ⟨a, cap, vs', rfl, h4, h5, h6, h7⟩ := Z3k r h3 h1
  refine QOk.same r ?_ VR.str
  rw [run_convert_bytes_string w src dst e a ys.length cap hs he hd]
  exact Z4g h2 rfl h4 h7
 ·cases h
theorem Z4i {vs : List Z0} {x : Z0} (h : Z1o vs = some x) (σ : Zc) : ab2s σ vs = some x := by
 unfold Z1o at h
 split at h
 ·rename_i s xs f
  split at h
  ·rename_i hc
   simpa [ab2s, Z1m, hc] using h
  ·cases h
 ·cases h
theorem Z4j {ag : Bool} {sz : Nat} {vs : List Z0} {x : Z0} (h : Z1n ag sz vs = some x) (σ : Zc) : Z1l σ ag sz vs = some x := by
 unfold Z1n at h
 split at h
 ·simpa [Z1l] using h
 ·cases h
theorem Z4k {t : TypeId} {ag : Bool} {sz : Nat} (hg : aggA P t = some ag) (hs : Z2i P t = some sz) {vs : List Z0} {p : Value} (hv : Z1 K vs [p]) {x : Z0} (h : Z1l σ ag sz vs = some x) (r : Rel K σ w) :
  QOk P K σ w x ((Instr.loadAt t p).run P w) := by
 obtain ⟨y, rfl⟩ : ∃ y, vs = [y] := by
  have := hv.length
  match vs, this with
  | [y], _ => exact ⟨y, rfl⟩
 rw [Z3j] at h
 simp only [Option.bind_eq_some_iff] at h
 obtain ⟨cs, h1, h2⟩ := h
 obtain ⟨u, e, h3⟩ := hv.one_inv
 simp at e; subst e
 obtain ⟨a, vs', rfl, h4, h5, h6⟩ := Z3d r h3 h1
 obtain ⟨v, hr, hx⟩ := Z3i (P := P) hg hs h2 h4 h6 h5
 exact QOk.same r (by simp [Instr.loadAt, Instr.sureAddr, hr]) hx
theorem Z4l {vs : List Z0} {p : Value} (hv : Z1 K vs [p]) {x : Z0} (h : Z18 vs = some x) :
  VR K x p ∧ ((∃ a, p = .pointer (some a)) ∨ ∃ f a b, p = .func (.func f) a b) := by
 unfold Z18 at h
 split at h <;> simp only [Option.some.injEq, reduceCtorEq] at h <;> subst h <;> obtain ⟨u, e, h1⟩ := hv.one_inv <;> simp at e <;> subst e <;> refine ⟨h1, ?_⟩ <;> unfold VR at h1 <;> cases h1
 ·exact .inl ⟨_, rfl⟩
 ·exact .inl ⟨_, rfl⟩
 ·exact .inr ⟨_, _, _, rfl⟩
theorem Z4m (zs : List Value) (cs : Array Value) (off : Nat) (h : off + cs.size ≤ zs.length) :
  cs.zipIdx.foldl (fun (cs : Array Value) (p : Value × Nat) => cs.setIfInBounds (off + p.2) p.1) zs.toArray = (zs.take off ++ cs.toList ++ zs.drop (off + cs.size)).toArray := by
 have key : ∀ (l : List Value) (k : Nat) (acc : List Value), off + k + l.length ≤ acc.length →
   (l.zipIdx k).foldl (fun (cs : Array Value) (p : Value × Nat) => cs.setIfInBounds (off + p.2) p.1) acc.toArray = (acc.take (off + k) ++ l ++ acc.drop (off + k + l.length)).toArray := by
  intro l
  induction l with
  | nil => intro k acc _; simp
  | cons x l ih =>
   intro k acc hk
   simp only [List.zipIdx_cons, List.foldl_cons]
   have hk' : off + k < acc.length := by simp at hk; omega
   rw [List.setIfInBounds_toArray, ih (k + 1) (acc.set (off + k) x) (by simp at hk ⊢; omega)]
   congr 1
   have e := list_seg_step acc (off + k) x l (by simp at hk; omega)
   simpa [Nat.add_assoc] using e
 have := key cs.toList 0 zs (by simp; omega)
 rw [← Array.foldl_toList, Array.toList_zipIdx]
 simpa using this
theorem Z4n (places : Nat → Option (Nat × Nat)) : ∀ (ps : List (Nat × Nat)) (ids : List Nat) (vs : List Z0) (us : List Value) (z : List Z0) (zs : List Value) (cs : List Z0),
  ps.length = ids.length → (∀ (j : Nat) i p, ids[j]? = some i → ps[j]? = some p → places i = some p) → Z1 K vs us → Z1 K z zs → (∀ c ∈ z, c.one = true) → Z1g z ps vs = some cs →
  ∃ ws, Instr.fill places zs.toArray (ids.zip us) = some ws.toArray ∧ Z1 K cs ws ∧ ∀ c ∈ cs, c.one = true
 | [], ids, vs, us, z, zs, cs, hl, hp, hv, hz, h1, h => by
  have hids : ids = [] := List.eq_nil_of_length_eq_zero (by simpa using hl.symm)
  subst hids
  cases vs with
  | cons _ _ => simp [Z1g] at h
  | nil =>
   simp [Z1g] at h; subst h
   exact ⟨zs, by simp [Instr.fill], hz, h1⟩
 | (off, sz) :: ps, ids, vs, us, z, zs, cs, hl, hp, hv, hz, h1, h => by
  cases ids with
  | nil => simp at hl
  | cons i ids =>
   cases vs with
   | nil => simp [Z1g] at h
   | cons v vs =>
    obtain ⟨u, us', rfl, hvu, hvs⟩ := hv.ex
    simp only [Z1g] at h
    split at h
    ·rename_i hc
     obtain ⟨c1, c2, c3⟩ := hc
     have hpl := hp 0 i (off, sz) (by simp) (by simp)
     have hcells := hvu.cells
     have hul : u.cells.size = sz := by rw [← Array.length_toList, ← hcells.length]; exact c1
     have hzl : zs.length = z.length := hz.length.symm
     have hfold := Z4m zs u.cells off (by rw [hul]; omega)
     rw [hul] at hfold
     have hnew : Z1 K (z.take off ++ v.cells ++ z.drop (off + sz)) (zs.take off ++ u.cells.toList ++ zs.drop (off + sz)) := ((hz.take off).append hcells).append (hz.drop _)
     have hone : ∀ c ∈ z.take off ++ v.cells ++ z.drop (off + sz), c.one = true := by
      intro c hc
      simp only [List.mem_append] at hc
      rcases hc with (hc | hc) | hc
      ·exact h1 c (List.mem_of_mem_take hc)
      ·exact List.all_eq_true.1 c3 c hc
      ·exact h1 c (List.mem_of_mem_drop hc)
     obtain ⟨ws, hf, hw, ho⟩ := Z4n places ps ids vs us' _ _ cs (by simpa using hl) (fun j i p e1 e2 => hp (j + 1) i p (by simpa using e1) (by simpa using e2)) hvs hnew hone h
     refine ⟨ws, ?_, hw, ho⟩
     simp only [List.zip_cons_cons, Instr.fill, hpl]
     rw [if_neg (by rw [hul]; simp; omega), hfold]
     exact hf
    ·cases h
end Go.Abs
namespace Go.Abs
open Go Go.RowKit
variable {P : Program} {K : Kr} {σ : Zc} {w : World}
def Z4o (P : Program) (K : Kr) (σ : Zc) (w : World) (x : Z0) (res : Result Next) : Prop :=
 ∃ v w' K', res = .ok (.value v) w' ∧ K.le K' ∧ Rel K' σ w' ∧ VR K' x v
theorem QOk.next {s : Sem Value} {x : Z0} (h : QOk P K σ w x (s.run P w)) : Z4o P K σ w x ((do pure (Next.value (← s)) : Sem Next).run P w) := by
 obtain ⟨v, w', K', e, h1, h2, h3⟩ := h
 exact ⟨v, w', K', by simp [e], h1, h2, h3⟩
theorem Z4p {t e : TypeId} (h : Z2l P t = some e) : P.underlying t = some (.slice e) := by
 unfold Z2l at h
 split at h
 ·simp only [Option.some.injEq] at h; subst h; assumption
 ·cases h
theorem Z4q {t : TypeId} {z : Z0} (h : Z2j P t = some z) : ∃ i zv, P.info? t = some i ∧ i.zero = some zv ∧ Z2e zv = some z := by
 unfold Z2j at h
 simp only [Option.bind_eq_some_iff] at h
 obtain ⟨i, hi, zv, hz, hc⟩ := h
 exact ⟨i, zv, hi, hz, hc⟩
theorem Z4r {t : TypeId} {i : TypeInfo} {zv : Value} (hi : P.info? t = some i) (hz : i.zero = some zv) : (zeroValue t).run P w = .ok zv w := by
 simp [zeroValue, typeInfo, hi, hz]
theorem Z4s {t : TypeId} : ∀ {l : List Nat} {ps : List (Nat × Nat)}, Z2n P t l = some ps → ps.length = l.length ∧ ∀ (j : Nat) i p, l[j]? = some i → ps[j]? = some p →
  ∃ f, Z2m P t i = some f ∧ Z2i P f.type = some p.2 ∧ p.1 = f.offset
 | [], ps, h => by
  simp [Z2n] at h; subst h
  exact ⟨rfl, by simp⟩
 | i :: l, ps, h => by
  simp only [Z2n, Option.bind_eq_bind, Option.bind_eq_some_iff, Option.pure_def, Option.some.injEq] at h
  obtain ⟨f, hf, s, hs, r, hr, rfl⟩ := h
  obtain ⟨h1, h2⟩ := Z4s hr
  refine ⟨by simp [h1], fun j i' p e1 e2 => ?_⟩
  cases j with
  | zero => simp at e1 e2; subst e1 e2; exact ⟨f, hf, hs, rfl⟩
  | succ j => exact h2 j i' p (by simpa using e1) (by simpa using e2)
theorem Z4t (fs : List Field) {w : World} (h : ∀ f ∈ fs, ∃ s, Z2i P f.type = some s) :
  (fs.mapM (fun f => do pure (f.offset, ← sizeOf f.type) : Field → Sem (Nat × Nat))).run P w = .ok (fs.map fun f => (f.offset, (Z2i P f.type).getD 0)) w := by
 induction fs with
 | nil => simp
 | cons f fs ih =>
  obtain ⟨s, hs⟩ := h f (by simp)
  simp only [List.mapM_cons, Sem.run_bind, Z3g hs, Result.andThen_ok, Sem.run_pure, ih (fun g hg => h g (by simp [hg])), hs, List.map_cons, Option.getD_some]
theorem Z4u {t : TypeId} {z : List Z0} {ps : List (Nat × Nat)} {ids : List Nat} (hz : Z2j P t = some (.agg z)) (hp : Z2n P t ids = some ps) (hall : ∀ f ∈ (match P.underlying t with | some (.struct fs) => fs.toList | _ => []), ∃ s, Z2i P f.type = some s)
  (hstr : ∃ fs, P.underlying t = some (.struct fs))
  {vs : List Z0} {us : List Value} (hv : Z1 K vs us) (hlen : us.length = ids.length) {x : Z0} (h : abld z ps vs = some x) (r : Rel K σ w) :
  QOk P K σ w x ((Instr.build t (ids.zip us).toArray).run P w) := by
 obtain ⟨fs, hu⟩ := hstr
 obtain ⟨i, zv, hi, hzz, hc⟩ := Z4q hz
 have hzr := Z2h (K := K) hc
 obtain ⟨zs, rfl, h1, h2⟩ := hzr.1.agg_inv
 obtain ⟨hl, hpl⟩ := Z4s hp
 unfold abld at h
 simp only [Option.map_eq_some_iff] at h
 obtain ⟨cs, hcs, rfl⟩ := h
 rw [hu] at hall
 simp only at hall
 have hrun := Z4t (P := P) (w := w) fs.toList hall
 obtain ⟨ws, hf, hw, ho⟩ := Z4n (K := K) (fun i => (fs.toList.map fun f => (f.offset, (Z2i P f.type).getD 0)).toArray[i]?) ps ids vs us z zs cs hl (by
  intro j i p e1 e2
  obtain ⟨f, hf, hs, hp1⟩ := hpl j i p e1 e2
  unfold Z2m at hf
  rw [hu] at hf
  simp only at hf
  have : fs.toList[i]? = some f := by simpa using hf
  simp only [List.getElem?_toArray, List.getElem?_map, this, Option.map_some, hs, Option.getD_some, ← hp1]) hv h1 h2 hcs
 refine QOk.same (v := .agg ws.toArray) r ?_ (Z1.agg ho hw .nil)
 have hm : (fs.mapM (fun f => do pure (f.offset, ← sizeOf f.type) : Field → Sem (Nat × Nat))).run P w = .ok (fs.toList.map fun f => (f.offset, (Z2i P f.type).getD 0)).toArray w := by
  rw [Array.mapM_eq_mapM_toList]
  simp only [Sem.run_map, hrun, Result.andThen_ok]
 unfold Instr.build
 simp only [Sem.run_bind, Z4r hi hzz, Result.andThen_ok, run_underlying hu, hm]
 have hf' : Instr.fill (fun x => (fs.toList.map fun f => (f.offset, (Z2i P f.type).getD 0)).toArray[x]?) (Value.agg zs.toArray).cells (ids.zip us) = some ws.toArray := hf
 simp only [hf', Sem.run_pure]
theorem Z4v (sz : Nat) : ∀ (us : List Value) (k : Nat) (acc : List Value), (∀ u ∈ us, u.cells.size = sz) → acc.length = (k + us.length) * sz →
  Instr.fill (fun i => some (i * sz, sz)) acc.toArray ((List.range' k us.length).zip us) = some (acc.take (k * sz) ++ us.flatMap fun u => u.cells.toList).toArray
 | [], k, acc, _, hl => by
  simp only [List.length_nil, List.range'_zero, List.zip_nil_left, Instr.fill, List.flatMap_nil, List.append_nil, Nat.add_zero] at hl ⊢
  rw [List.take_of_length_le (by omega)]
 | u :: us, k, acc, hu, hl => by
  have h1 := hu u (by simp)
  have hle : k * sz + sz ≤ acc.length := by rw [hl]; simp only [List.length_cons, Nat.add_mul]; omega
  simp only [List.length_cons, List.range'_succ, List.zip_cons_cons, Instr.fill]
  rw [if_neg (by rw [h1]; simp; omega), Z4m acc u.cells (k * sz) (by rw [h1]; exact hle)]
  rw [Z4v sz us (k + 1) _ (fun v hv => hu v (by simp [hv])) (by
   simp only [List.length_append, List.length_take, Array.length_toList, List.length_drop, h1]
   rw [Nat.min_eq_left (by omega)]
   simp only [List.length_cons] at hl
   have : (k + 1 + us.length) * sz = (k + (us.length + 1)) * sz := by congr 1; omega
   omega)]
  congr 2
  have e : ((acc.take (k * sz) ++ u.cells.toList ++ acc.drop (k * sz + u.cells.size)).take ((k + 1) * sz)) = acc.take (k * sz) ++ u.cells.toList := by
   rw [List.take_append_of_le_length (by simp [h1, Nat.add_mul]; omega)]
   exact List.take_of_length_le (by simp [h1, Nat.add_mul]; omega)
  rw [e]
  simp
theorem Z4w {sz : Nat} : ∀ {vs : List Z0} {us : List Value}, Z1 K vs us → (∀ v ∈ vs, v.elem sz) → Z1 K (flat vs) (us.flatMap fun u => u.cells.toList) ∧ ∀ u ∈ us, u.cells.size = sz
 | [], us, hv, _ => by rw [hv.nil_inv]; exact ⟨.nil, by simp⟩
 | v :: vs, us, hv, he => by
  obtain ⟨u, us', rfl, h1, h2⟩ := hv.ex
  obtain ⟨h3, h4⟩ := Z4w (sz := sz) h2 (fun x hx => he x (by simp [hx]))
  refine ⟨by rw [Z3, List.flatMap_cons]; exact h1.cells.append h3, ?_⟩
  intro x hx
  rcases List.mem_cons.1 hx with rfl | hx
  ·rw [← Array.length_toList, ← h1.cells.length]; exact (he v (by simp)).1
  ·exact h4 x hx
theorem Z4x {t e : TypeId} {sz n : Nat} {z : Z0} (ht : P.underlying t = some (.slice e)) (hs : Z2i P e = some sz) (hz : Z2j P e = some z) {us : List Value} (hn : us.length = n) (hu : ∀ u ∈ us, u.cells.size = sz)
  (hsz : n * sz ≤ 2 ^ 24) : (Instr.buildSlice t n ((List.range n).zip us).toArray).run P w = .ok (.slice (some ⟨w.heap.size, 0, none⟩) n n) (w.alloc (.cells (us.flatMap fun u => u.cells.toList).toArray e)) := by
 obtain ⟨i, zv, hi, hzz, hc⟩ := Z4q hz
 have hf := Z4v sz us 0 ((Array.range (n * sz)).map (zv.cells[· % zv.cells.size]!)).toList hu (by simp [hn])
 rw [hn] at hf
 rw [← List.range_eq_range', Array.toArray_toList] at hf
 simp only [Nat.zero_mul, List.take_zero, List.nil_append] at hf
 have hnot : ¬ (n * sz > 2 ^ 24) := by omega
 by_cases h0 : n * sz = 0
 ·have hf' : Instr.fill (fun i => some (i * sz, sz)) ((Array.range (n * sz)).map ((#[] : Array Value)[· % (#[] : Array Value).size]!)) ((List.range n).zip us) = some (us.flatMap fun u => u.cells.toList).toArray := by
   rw [h0] at hf ⊢
   simpa [show Array.range 0 = #[] from rfl] using hf
  unfold Instr.buildSlice
  simp only [Sem.run_bind, run_underlying ht, Result.andThen_ok, Z3g hs, if_neg hnot, if_pos h0, Sem.run_pure, hf']
  simp [newRow]
 ·have hf' : Instr.fill (fun i => some (i * sz, sz)) ((Array.range (n * sz)).map (zv.cells[· % zv.cells.size]!)) ((List.range n).zip us) = some (us.flatMap fun u => u.cells.toList).toArray := hf
  unfold Instr.buildSlice
  simp only [Sem.run_bind, run_underlying ht, Result.andThen_ok, Z3g hs, if_neg hnot, if_neg h0, Sem.run_pure, Z4r hi hzz, hf']
  simp [newRow]
end Go.Abs
namespace Go.Abs
open Go Go.RowKit
variable {P : Program} {K : Kr} {σ : Zc} {w : World}
theorem Z4y {t : TypeId} (h : Z2k P t = 4) : ∃ e, P.underlying t = some (.slice e) := by
 unfold Z2k at h
 split at h <;> first | exact ⟨_, by assumption⟩ | (simp at h)
theorem Z4z {t e : TypeId} {sz n : Nat} {z : Z0} (ht : P.underlying t = some (.slice e)) (hs : Z2i P e = some sz) (hz : Z2j P e = some z) {vs : List Z0} {us : List Value} (hv : Z1 K vs us) (hn : us.length = n)
  (hsz : n * sz ≤ 2 ^ 24) {x : Z0} (h : absl sz vs = some x) (r : Rel K σ w) : QOk P K σ w x ((Instr.buildSlice t n ((List.range n).zip us).toArray).run P w) := by
 unfold absl at h
 split at h
 ·rename_i hc
  simp only [Option.some.injEq] at h; subst h
  have he : ∀ v ∈ vs, v.elem sz := fun v hv => Z0.fit_iff.1 (List.all_eq_true.1 hc v hv)
  obtain ⟨hf, hsize⟩ := Z4w hv he
  obtain ⟨hK, hR⟩ := r.newImm (us.flatMap fun u => u.cells.toList).toArray e (0, 0)
  refine ⟨_, _, _, Z4x ht hs hz hn hsize hsz, hK, hR, ?_⟩
  have hl : vs.length = n := by rw [hv.length, hn]
  by_cases hnil : vs = []
  ·subst hnil
   simp at hl; subst hl
   exact Z1.slc0 (fun _ => rfl) .nil
  ·refine Z1.slc hl he rfl (vs := us.flatMap fun u => u.cells.toList) (fun j v e => ?_) (by have := hf.mono hK; simpa [flat] using this) (Nat.le_refl _) (fun _ => rfl) .nil
   simpa [Kr.addImm] using e
 ·cases h
theorem Z50 {t : TypeId} {d : TypeDesc} (ht : P.underlying t = some d) (hd : ∀ ms, d ≠ .interface ms) {vs : List Z0} {p : Value} (hv : Z1 K vs [p]) {x : Z0} (h : amki t vs = some x) (r : Rel K σ w) :
  QOk P K σ w x ((Instr.makeInterface t p).run P w) := by
 unfold amki at h
 split at h
 ·simp only [Option.some.injEq] at h; subst h
  obtain ⟨u, e, h1⟩ := hv.one_inv
  simp at e; subst e
  refine QOk.same r ?_ (Z1.iface h1 .nil)
  unfold Instr.makeInterface
  simp only [Sem.run_bind, run_underlying ht, Result.andThen_ok]
  cases d <;> first | rfl | exact absurd rfl (hd _)
 ·cases h
theorem Z51 {α β γ : Type} (f : β → γ) : ∀ l : List (α × β), (l.map fun (p : α × β) => (p.1, f p.2)) = (l.map (·.1)).zip ((l.map (·.2)).map f)
 | [] => rfl
 | p :: l => by simp only [List.map_cons, List.zip_cons_cons, Z51 f l]
theorem Z52 {α : Type} {l : List α} (h : l.length = 1) : ∃ a, l = [a] := by
 match l, h with
 | [a], _ => exact ⟨a, rfl⟩
theorem Z53 {α : Type} {l : List α} (h : l.length = 2) : ∃ a b, l = [a, b] := by
 match l, h with
 | [a, b], _ => exact ⟨a, b, rfl⟩
theorem Z54 {fl : Bool} {o : Oper} {k : AK} {xs : List Operand} (hk : kOf P fl o = some (k, xs)) (hq : k.quiet = true) {ρ : Operand → Value} {vs : List Z0} (hv : Z1 K vs (xs.map ρ)) (r : Rel K σ w) {x : Z0}
    (h : Z1r k σ vs = some x) : Z4o P K σ w x ((execOp ρ o).run P w) := by
  obtain ⟨dst, op, type, pos, after, guard⟩ := o
  cases op <;> simp only [kOf, reduceCtorEq, Option.some.injEq, Prod.mk.injEq] at hk
  case move y =>
    obtain ⟨rfl, rfl⟩ := hk
    obtain ⟨v, e, h1⟩ := Z3t hv h
    simp at e; subst e
    exact ⟨ρ y, w, K, rfl, Kr.le.refl K, r, h1⟩
  case assign y =>
    obtain ⟨rfl, rfl⟩ := hk
    obtain ⟨v, e, h1⟩ := Z3t hv h
    simp at e; subst e
    exact ⟨ρ y, w, K, rfl, Kr.le.refl K, r, h1⟩
  case pick c a b =>
    obtain ⟨rfl, rfl⟩ := hk
    have := Z3u (P := P) hv h r
    obtain ⟨v, w', K', e, h1, h2, h3⟩ := this
    refine ⟨v, w', K', ?_, h1, h2, h3⟩
    simp only [Sem.run_bind, Sem.run_pure] at e
    simp only [execOp, Sem.run_bind, Sem.run_pure]
    cases hh : (asBool (ρ c)).run P w with
    | ok t w1 => rw [hh] at e; simp only [Result.andThen_ok, Result.ok.injEq] at e ⊢; obtain ⟨rfl, rfl⟩ := e; exact ⟨rfl, rfl⟩
    | halt y w1 => rw [hh] at e; simp at e
  case alloc e =>
    simp only [Option.bind_eq_bind, Option.bind_eq_some_iff, Option.pure_def, Option.some.injEq, Prod.mk.injEq] at hk
    obtain ⟨z, _, rfl, _⟩ := hk
    cases hq
  case box e y =>
    simp only [Option.bind_eq_bind, Option.bind_eq_some_iff, Option.pure_def, Option.some.injEq, Prod.mk.injEq] at hk
    obtain ⟨z, _, rfl, _⟩ := hk
    cases hq
  case build t parts =>
    simp only [Option.bind_eq_bind, Option.bind_eq_some_iff, Option.pure_def] at hk
    obtain ⟨z, hz, ps, hp, hk⟩ := hk
    split at hk
    · rename_i cs fs hu
      split at hk
      · rename_i hall
        simp only [Option.some.injEq, Prod.mk.injEq] at hk
        obtain ⟨rfl, rfl⟩ := hk
        have hzip : (parts.map fun (i, x) => (i, ρ x)) = ((parts.toList.map (·.1)).zip ((parts.toList.map (·.2)).map ρ)).toArray := by
          apply Array.ext'
          rw [Array.toList_map]
          exact Z51 ρ parts.toList
        have := Z4u (P := P) hz hp (by rw [hu]; intro f hf; have := List.all_eq_true.1 hall f hf; simpa [Option.isSome_iff_exists] using this) ⟨fs, hu⟩ hv (by simp) h r
        rw [← hzip] at this
        exact this.next
      · cases hk
    · cases hk
  case buildSlice t n parts =>
    simp only [Option.bind_eq_bind, Option.bind_eq_some_iff, Option.pure_def] at hk
    obtain ⟨e, he, s, hs, z, hz, hk⟩ := hk
    split at hk
    · rename_i hc
      simp only [Option.some.injEq, Prod.mk.injEq] at hk
      obtain ⟨rfl, rfl⟩ := hk
      cases fl
      · obtain ⟨c1, c2, c3⟩ := hc
        have hlen : (parts.toList.map (·.2)).length = n := by
          have := congrArg List.length c1
          simpa using this
        have hzip : (parts.map fun (i, x) => (i, ρ x)) = ((List.range n).zip ((parts.toList.map (·.2)).map ρ)).toArray := by
          rw [← c1]
          apply Array.ext'
          rw [Array.toList_map]
          exact Z51 ρ parts.toList
        have := Z4z (P := P) (Z4p he) hs hz hv (by simpa using hlen) c3 h r
        rw [← hzip] at this
        exact this.next
      · cases hq
    · cases hk
  case load t y =>
    simp only [Option.bind_eq_bind, Option.bind_eq_some_iff, Option.pure_def, Option.some.injEq, Prod.mk.injEq] at hk
    obtain ⟨g, hg, s, hs, rfl, rfl⟩ := hk
    cases fl
    · exact (Z4k hg hs hv h r).next
    · exact (Z4k hg hs hv (Z4j h σ) r).next
  case store t y z =>
    simp only [Option.bind_eq_bind, Option.bind_eq_some_iff, Option.pure_def, Option.some.injEq, Prod.mk.injEq] at hk
    obtain ⟨s, hs, rfl, _⟩ := hk
    cases hq
  case nilCheck y =>
    obtain ⟨rfl, rfl⟩ := hk
    obtain ⟨h1, h2⟩ := Z4l hv h
    refine ⟨ρ y, w, K, ?_, Kr.le.refl K, r, h1⟩
    rcases h2 with ⟨a, e⟩ | ⟨f, a, b, e⟩ <;> simp only [execOp, e, Sem.run_pure]
  case binOp op t y z yt =>
    split at hk
    · rename_i h1
      have : k = .binb op ∧ xs = [y, z] := by
        split at hk <;> simp only [Option.some.injEq, Prod.mk.injEq, reduceCtorEq] at hk
        · exact ⟨hk.1.symm, hk.2.symm⟩
        · exact ⟨hk.1.symm, hk.2.symm⟩
      obtain ⟨rfl, rfl⟩ := this
      exact (Z41 (P := P) h1 y z hv h r).next
    · split at hk
      · rename_i h0 h1
        simp only [Option.some.injEq, Prod.mk.injEq] at hk
        obtain ⟨rfl, rfl⟩ := hk
        exact (Z40 (P := P) y z hv h r).next
      · split at hk
        · split at hk <;> simp only [Option.some.injEq, Prod.mk.injEq, reduceCtorEq] at hk <;> obtain ⟨rfl, rfl⟩ := hk <;> cases hq
        · cases hk
  case unOp op t y =>
    split at hk <;> simp only [Option.some.injEq, Prod.mk.injEq, reduceCtorEq] at hk <;> obtain ⟨rfl, rfl⟩ := hk
    · exact (Z44 hv h r).next
    · exact (Z45 hv h r).next
    · exact (Z46 hv h r).next
  case convert src dst y =>
    split at hk
    · rename_i k1 k2 h1 h2
      simp only [Option.some.injEq, Prod.mk.injEq] at hk
      obtain ⟨rfl, rfl⟩ := hk
      exact (Z3z h2 h1 hv h r).next
    · rename_i h1 h2
      simp only [Option.some.injEq, Prod.mk.injEq] at hk
      obtain ⟨rfl, rfl⟩ := hk
      exact (Z42 h1 h2 hv h r).next
    · rename_i e h1 h2
      split at hk
      · rename_i h3
        simp only [Option.some.injEq, Prod.mk.injEq] at hk
        obtain ⟨rfl, rfl⟩ := hk
        cases fl
        · exact (Z4h h1 h2 h3 hv h r).next
        · exact (Z4h h1 h2 h3 hv (Z4i h σ) r).next
      · cases hk
    · split at hk
      · split at hk
        · simp only [Option.some.injEq, Prod.mk.injEq] at hk
          obtain ⟨rfl, rfl⟩ := hk
          cases hq
        · cases hk
      · cases hk
    · cases hk
  case makeInterface t y =>
    split at hk
    · cases hk
    · rename_i d hn hd
      simp only [Option.some.injEq, Prod.mk.injEq] at hk
      obtain ⟨rfl, rfl⟩ := hk
      exact (Z50 hd (fun ms e => by subst e; exact hn _ rfl) hv h r).next
    · cases hk
  case makeFunc fn first captured =>
    cases fn <;> simp only [kOf, reduceCtorEq, Option.some.injEq, Prod.mk.injEq] at hk
    obtain ⟨rfl, rfl⟩ := hk
    simp only [Z1r, amkf, Option.some.injEq] at h
    subst h
    rename_i f
    refine ⟨_, w, K, rfl, Kr.le.refl K, r, ?_⟩
    rw [List.map_append] at hv
    have h1 := hv.take first.size
    have h2 := hv.drop first.size
    have e1 : ((first.toList.map ρ ++ captured.toList.map ρ).take first.size) = first.toList.map ρ := by
      rw [List.take_append_of_le_length (by simp)]; exact List.take_of_length_le (by simp)
    have e2 : ((first.toList.map ρ ++ captured.toList.map ρ).drop first.size) = captured.toList.map ρ := by
      rw [List.drop_append_of_le_length (by simp), List.drop_of_length_le (by simp)]; rfl
    rw [e1] at h1
    rw [e2] at h2
    have := Z1.fn (f := f) h1 h2 .nil
    have e3 : (first.toList.map ρ).toArray = first.map ρ := by apply Array.ext'; simp
    have e4 : (captured.toList.map ρ).toArray = captured.map ρ := by apply Array.ext'; simp
    rw [e3, e4] at this
    exact this
  case makeSlice t l c =>
    simp only [Option.bind_eq_bind, Option.bind_eq_some_iff, Option.pure_def] at hk
    obtain ⟨e, _, i, _, z, _, hk⟩ := hk
    split at hk
    · simp only [Option.some.injEq, Prod.mk.injEq] at hk; obtain ⟨rfl, _⟩ := hk; cases hq
    · cases hk
  case slice t y lo hi mx =>
    split at hk
    · rename_i e he
      simp only [Option.bind_eq_bind, Option.bind_eq_some_iff, Option.pure_def] at hk
      obtain ⟨s, hs, hk⟩ := hk
      split at hk
      · simp only [Option.some.injEq, Prod.mk.injEq] at hk; obtain ⟨rfl, _⟩ := hk; cases hq
      · simp only [Option.some.injEq, Prod.mk.injEq] at hk
        obtain ⟨rfl, rfl⟩ := hk
        have hrun : QOk P K σ w x ((Instr.sliceAt t (ρ y) (lo.map ρ) (hi.map ρ) (mx.map ρ)).run P w) := by
          have hh := Z43 (P := P) he hs (vlo := lo.map ρ) (vhi := hi.map ρ) (vmx := mx.map ρ) (by simp) (by simp) (by simp) (u := ρ y) (by
            have e1 : (y :: (lo.toList ++ hi.toList ++ mx.toList)).map ρ = ρ y :: ((lo.map ρ).toList ++ (hi.map ρ).toList ++ (mx.map ρ).toList) := by
              cases lo <;> cases hi <;> cases mx <;> rfl
            rw [← e1]; exact hv) h r
          unfold Instr.sliceAt
          simp only [Sem.run_bind, run_underlying he, Result.andThen_ok]
          exact hh
        exact hrun.next
    · rename_i he
      split at hk
      · rename_i hm
        simp only [Option.some.injEq, Prod.mk.injEq] at hk
        obtain ⟨rfl, rfl⟩ := hk
        have hmn : mx = none := by simpa using hm
        subst hmn
        have hrun : QOk P K σ w x ((Instr.sliceAt t (ρ y) (lo.map ρ) (hi.map ρ) none).run P w) := by
          have e1 : (y :: (lo.toList ++ hi.toList)).map ρ = ρ y :: ((lo.map ρ).toList ++ (hi.map ρ).toList) := by
            cases lo <;> cases hi <;> rfl
          rw [e1] at hv
          cases vs with
          | nil => cases hv
          | cons a l =>
            obtain ⟨h1, h2⟩ := hv.inv
            have hh := Z48 (P := P) he h1 (vlo := lo.map ρ) (vhi := hi.map ρ) (by simp) (by simp) h2 h r
            unfold Instr.sliceAt
            simp only [Sem.run_bind, run_underlying he, Result.andThen_ok]
            exact hh
        exact hrun.next
      · cases hk
    · cases hk
  case fieldAddr t y i =>
    simp only [Option.bind_eq_bind, Option.bind_eq_some_iff, Option.pure_def] at hk
    obtain ⟨f, hf, s, hs, hk⟩ := hk
    split at hk
    · cases hk
    · rename_i h0
      simp only [Option.some.injEq, Prod.mk.injEq] at hk
      obtain ⟨rfl, rfl⟩ := hk
      exact (Z3v hf hs h0 hv h r).next
  case field t y i =>
    simp only [Option.bind_eq_bind, Option.bind_eq_some_iff, Option.pure_def, Option.some.injEq, Prod.mk.injEq] at hk
    obtain ⟨f, hf, g, hg, s, hs, rfl, rfl⟩ := hk
    exact (Z3x hf hg hs hv h r).next
  case indexAddr t y i =>
    simp only [Option.bind_eq_bind, Option.bind_eq_some_iff, Option.pure_def, Option.some.injEq, Prod.mk.injEq] at hk
    obtain ⟨e, he, s, hs, rfl, rfl⟩ := hk
    exact (Z3y (Z4p he) hs hv h r).next
  case index t y i =>
    split at hk
    · rename_i h3
      simp only [Option.some.injEq, Prod.mk.injEq] at hk
      obtain ⟨rfl, rfl⟩ := hk
      exact (Z47 h3 hv h r).next
    · cases hk
  case panic y => obtain ⟨rfl, rfl⟩ := hk; simp [Z1r] at h
  case extract t i =>
    obtain ⟨rfl, rfl⟩ := hk
    exact (Z49 hv h r).next
  case call c =>
    obtain ⟨callee, args, ats⟩ := c
    cases callee with
    | value f => cases f <;> simp only [kOf, reduceCtorEq, Option.some.injEq, Prod.mk.injEq] at hk
                 · obtain ⟨rfl, _⟩ := hk; cases hq
                 · split at hk
                   · simp only [Option.some.injEq, Prod.mk.injEq] at hk; obtain ⟨rfl, _⟩ := hk; cases hq
                   · cases hk
    | invoke a b => simp only [kOf, reduceCtorEq] at hk
    | builtin b =>
      cases b <;> simp only [kOf, reduceCtorEq, Option.some.injEq, Prod.mk.injEq] at hk
      case copy =>
        simp only [Option.bind_eq_bind, Option.bind_eq_some_iff, Option.pure_def] at hk
        obtain ⟨t, ht, u, hu, e, he, i, hi, hk⟩ := hk
        split at hk
        · cases hk
        · simp only [Option.some.injEq, Prod.mk.injEq] at hk
          obtain ⟨rfl, rfl⟩ := hk
          simp [AK.quiet] at hq
      case append =>
        simp only [Option.bind_eq_bind, Option.bind_eq_some_iff, Option.pure_def] at hk
        obtain ⟨t, _, u, _, e, _, i, _, z, _, hk⟩ := hk
        split at hk
        · cases hk
        · split at hk
          · simp only [Option.some.injEq, Prod.mk.injEq] at hk; obtain ⟨rfl, _⟩ := hk; cases hq
          · split at hk
            · simp only [Option.some.injEq, Prod.mk.injEq] at hk; obtain ⟨rfl, _⟩ := hk; cases hq
            · cases hk
      case len =>
        simp only [Option.bind_eq_bind, Option.bind_eq_some_iff, Option.pure_def] at hk
        obtain ⟨t, ht, hk⟩ := hk
        split at hk
        · cases hk
        · rename_i hsz
          obtain ⟨y, hy⟩ := Z52 (l := args.toList) (by simpa using hsz)
          have hargs : args.map ρ = #[ρ y] := by apply Array.ext'; simp [hy]
          split at hk
          · rename_i h4
            simp only [Option.some.injEq, Prod.mk.injEq] at hk
            obtain ⟨rfl, rfl⟩ := hk
            rw [hy] at hv
            have := (Z4a (P := P) (ty := type) ht h4 hv h r).next
            rw [← hargs] at this
            exact this
          · split at hk
            · rename_i h4
              simp only [Option.some.injEq, Prod.mk.injEq] at hk
              obtain ⟨rfl, rfl⟩ := hk
              rw [hy] at hv
              have := (Z4b (P := P) (ty := type) ht h4 hv h r).next
              rw [← hargs] at this
              exact this
            · cases hk
      case min =>
        obtain ⟨rfl, rfl⟩ := hk
        have := (Z4d (P := P) (ats := ats) (ty := type) hv h r).next
        have e : (args.toList.map ρ).toArray = args.map ρ := by apply Array.ext'; simp
        rw [e] at this
        exact this
      case max =>
        obtain ⟨rfl, rfl⟩ := hk
        have := (Z4e (P := P) (ats := ats) (ty := type) hv h r).next
        have e : (args.toList.map ρ).toArray = args.map ρ := by apply Array.ext'; simp
        rw [e] at this
        exact this
end Go.Abs
namespace Go.Abs
open Go Go.RowKit
variable {P : Program} {K : Kr} {σ : Zc} {w : World} {R : Z0 → Zc → Prop}
theorem Z0.elem_cells_one {sz : Nat} {x : Z0} (h : x.elem sz) : (∃ l, x = .agg l ∧ l.length = sz) ∨ (x.one = true ∧ sz = 1) := by
 obtain ⟨h1, h2⟩ := h
 cases x <;> first
  | (simp only [Z0.cells] at h1 h2; exact .inl ⟨_, rfl, h1⟩)
  | (simp only [Z0.cells, List.length_cons, List.length_nil] at h1 h2; exact .inr ⟨h2 _ (by simp), h1.symm⟩)
theorem Z55 {sz : Nat} {x : Z0} (hx : x.elem sz) {o : Nat} {vc : List Z0} (h1 : ∀ c ∈ vc, c.one = true) (ho : x.one = true → o = 0 ∧ vc.length = 1) :
  (Z1t x o vc).cells = x.cells.take o ++ vc ++ x.cells.drop (o + vc.length) := by
 rcases Z0.elem_cells_one hx with ⟨l, rfl, _⟩ | ⟨h, _⟩
 ·rfl
 ·obtain ⟨rfl, hl⟩ := ho h
  obtain ⟨c, rfl⟩ := Z52 hl
  have hc := h1 c (by simp)
  rw [Z0.cells_of_one h]
  have e : Z1t x 0 [c] = c := by cases x <;> first | rfl | (simp [Z0.one] at h)
  rw [e, Z0.cells_of_one hc]
  simp
theorem Z56 {sz pcap : Nat} {cs : Array Value} {ty : TypeId} {xs : List Z0} {f : Nat → Z0} {v : Value} (r : Rel K σ w) (h : enew sz xs σ fun b σ' => R (f b) σ') (he : ∀ x ∈ xs, x.elem sz)
  (hs : cs.size = pcap * sz) (hx : xs.length ≤ pcap) (hm : pcap ≤ maxLen) (hv : Z1 K (flat xs) (cs.toList.take (xs.length * sz)))
  (hval : ∀ K' : Kr, K'.loc K.nn = some ⟨some w.heap.size, sz, pcap⟩ → VR K' (f K.nn) v) :
  ∃ K' r' σ', K.le K' ∧ Rel K' σ' (w.alloc (.cells cs ty)) ∧ VR K' r' v ∧ R r' σ' :=
 ⟨K.add ⟨some w.heap.size, sz, pcap⟩, f K.nn, _, Kr.le_add r _, r.newOwned sz pcap cs ty xs he hs hx hm hv, hval _ (Kr.add_new _ _), h K.nn r.fresh⟩
theorem Z57 {t : TypeId} {sz : Nat} (hs : Z2i P t = some sz) {vs : List Z0} {p q : Value} (hv : Z1 K vs [p, q]) (h : Z1u sz vs σ R) (r : Rel K σ w) : ∃ w' K' σ', (Instr.storeAt t p q).run P w = .ok () w' ∧ K.le K' ∧ Rel K' σ' w' ∧ R (.tup []) σ' := by
 unfold Z1u at h
 split at h
 ·rename_i b i o v
  obtain ⟨s, xs, x, hg, hxi, hos, hve, hone, hR⟩ := h
  obtain ⟨u1, u2, e1, h1, h2⟩ := hv.two_inv
  simp at e1; obtain ⟨rfl, rfl⟩ := e1
  unfold VR at h1
  cases h1 with
  | @ptr _ _ _ cb s' pcap _ _ hl _ =>
   obtain ⟨rfl, he, hx, hm, hbase, cs, ty, hw, hsz, hvv, hc⟩ := r.ownCells hg hl
   have hxe := he x (List.mem_of_getElem? hxi)
   have hcells := h2.cells
   have hus : q.cells.size = sz := by rw [← Array.length_toList, ← hcells.length]; exact hve.1
   have hilt := (List.getElem?_eq_some_iff.1 hxi).1
   have hfit : i * s' + o + sz ≤ xs.length * s' := by
    have : (i + 1) * s' ≤ xs.length * s' := Nat.mul_le_mul_right _ hilt
    rw [Nat.add_mul] at this
    omega
   have hfl : (flat xs).length = xs.length * s' := Z5 he
   have hcap : xs.length * s' ≤ cs.size := by rw [hsz]; exact Nat.mul_le_mul_right _ hx
   have hst := run_storeCells_at P cb (i * s' + o) ty q.cells.toList 0 cs w hw (by simp [hus]; omega) (hcells.ones hve.2)
   refine ⟨w.setRow cb (cs.toList.take (i * s' + o) ++ q.cells.toList ++ cs.toList.drop (i * s' + o + sz)).toArray, K, _, ?_, Kr.le.refl K, ?_, hR⟩
   ·simp only [Instr.storeAt, Instr.sureAddr, storeVar, Sem.run_bind, Sem.run_pure, Result.andThen_ok, Z3g hs, hus, ne_eq, not_true_eq_false, if_false, hst]
    simp [hus]
   ·have hput := Z55 hxe hve.2 (fun h => ⟨(hone h).1, by rw [hve.1]; exact (hone h).2⟩)
    rw [hve.1] at hput
    have hpe : (Z1t x o v.cells).elem s' := by
     refine ⟨?_, ?_⟩
     ·rw [hput]; simp [hxe.1, hve.1]; omega
     ·rw [hput]
      intro c hc
      simp only [List.mem_append] at hc
      rcases hc with (hc | hc) | hc
      ·exact hxe.2 c (List.mem_of_mem_take hc)
      ·exact hve.2 c hc
      ·exact hxe.2 c (List.mem_of_mem_drop hc)
    refine r.write (Zk hg) hl (fun y hy => ?_) _ ?_ (by simpa using hx) ?_
    ·rcases List.mem_or_eq_of_mem_set hy with hy | rfl
     ·exact he y hy
     ·exact hpe
    ·simp [hus]; omega
    ·have hfs : flat (xs.set i (Z1t x o v.cells)) = (flat xs).take (i * s' + o) ++ v.cells ++ (flat xs).drop (i * s' + o + sz) := by
      rw [Za he hilt, hput]
      have hA := Z8 he hxi
      have e1 : (flat xs).take (i * s' + o) = (flat xs).take (i * s') ++ x.cells.take o := by
       rw [List.take_add, ← hA, List.take_take, Nat.min_eq_left (by omega)]
      have e2 : (flat xs).drop (i * s' + o + sz) = x.cells.drop (o + sz) ++ (flat xs).drop (i * s' + s') := by
       rw [← hA, List.drop_take, List.drop_drop, Nat.add_assoc]
       have hh : (flat xs).drop (i * s' + s') = ((flat xs).drop (i * s' + (o + sz))).drop (s' - (o + sz)) := by
        rw [List.drop_drop]; congr 1; omega
       rw [hh, List.take_append_drop]
      rw [e1, e2]
      simp [List.append_assoc]
     rw [hfs]
     simp only [List.length_set]
     have e3 : (cs.toList.take (i * s' + o) ++ q.cells.toList ++ cs.toList.drop (i * s' + o + sz)).take (xs.length * s') =
       (cs.toList.take (xs.length * s')).take (i * s' + o) ++ q.cells.toList ++ (cs.toList.take (xs.length * s')).drop (i * s' + o + sz) := by
      rw [List.take_take, Nat.min_eq_left (by omega), List.take_append, List.take_of_length_le (by simp [hus]; omega)]
      congr 1
      rw [List.drop_take]
      congr 1
      simp [hus]
      omega
     rw [e3]
     exact ((hvv.take _).append hcells).append (hvv.drop _)
 ·exact h.elim
theorem Z58 {e : TypeId} {z : Z0} (hz : Z2j P e = some z) (hone : ∀ c ∈ z.cells, c.one = true) (h : enew z.cells.length [z] σ fun b σ' => R (.ptr b 0 0) σ') (r : Rel K σ w) : Z31 K R ((Instr.alloc e true (.tuple #[])).run P w) := by
 obtain ⟨i, zv, hi, hzz, hc⟩ := Z4q hz
 have hzr := (Z2h (K := K) hc).1.cells
 have e1 : (Instr.alloc e true (.tuple #[])).run P w = .ok (.pointer (some ⟨w.heap.size, 0, none⟩)) (w.alloc (.cells zv.cells e)) := by
  unfold Instr.alloc
  simp only [Sem.run_bind, Z4r hi hzz, Result.andThen_ok]
  simp [newVar, newRow]
 rw [e1]
 exact Z56 r h (by simp [Z0.elem]; exact hone) (pcap := 1) (by rw [← Array.length_toList, ← hzr.length]; simp) (by simp) (by decide) (by
  have hl : zv.cells.toList.length = z.cells.length := hzr.length.symm
  simp only [Z3, Z2, List.append_nil, List.length_cons, List.length_nil, Nat.zero_add, Nat.one_mul]
  rw [List.take_of_length_le (by omega)]
  exact hzr) (fun K' hl => by
   have := Z1.ptr (K := K') (i := 0) (o := 0) hl .nil
   simpa [VR] using this)
theorem Z59 {e : TypeId} {sz : Nat} (hs : Z2i P e = some sz) {vs : List Z0} {p : Value} (hv : Z1 K vs [p]) (h : ebox sz vs σ R) (r : Rel K σ w) : Z31 K R ((Instr.box e p).run P w) := by
 unfold ebox at h
 split at h
 ·rename_i v
  obtain ⟨he, h⟩ := h
  obtain ⟨u, e1, h1⟩ := hv.one_inv
  simp at e1; subst e1
  have hc := h1.cells
  have e1 : (Instr.box e p).run P w = .ok (.pointer (some ⟨w.heap.size, 0, none⟩)) (w.alloc (.cells p.cells e)) := by
   simp [Instr.box, newVar, newRow]
  rw [e1]
  have hl : p.cells.size = sz := by rw [← Array.length_toList, ← hc.length]; exact he.1
  exact Z56 r h (by simp; exact he) (pcap := 1) (by rw [hl]; simp) (by simp) (by decide) (by
   simp only [Z3, Z2, List.append_nil, List.length_cons, List.length_nil, Nat.zero_add, Nat.one_mul]
   rw [List.take_of_length_le (by simp [hl])]
   exact hc) (fun K' hl => by
    have := Z1.ptr (K := K') (i := 0) (o := 0) hl .nil
    simpa [VR] using this)
 ·exact h.elim
theorem Z5a {t e : TypeId} {sz n : Nat} {z : Z0} (ht : P.underlying t = some (.slice e)) (hs : Z2i P e = some sz) (hz : Z2j P e = some z) {vs : List Z0} {us : List Value} (hv : Z1 K vs us) (hn : us.length = n)
  (hsz : n * sz ≤ 2 ^ 24) (h0 : 0 < sz) (h : Z1v sz vs σ R) (r : Rel K σ w) : Z31 K R ((Instr.buildSlice t n ((List.range n).zip us).toArray).run P w) := by
 obtain ⟨he, h⟩ := h
 obtain ⟨hf, hsize⟩ := Z4w hv he
 rw [Z4x ht hs hz hn hsize hsz]
 have hl : vs.length = n := by rw [hv.length, hn]
 have hfl : (us.flatMap fun u => u.cells.toList).length = n * sz := by rw [← hf.length, Z5 he, hl]
 have hnn : n ≤ maxLen := by
  have : n * 1 ≤ n * sz := Nat.mul_le_mul_left _ h0
  simp only [maxLen]; omega
 exact Z56 r h he (pcap := n) (by simpa using hfl) (by omega) hnn (by
  rw [hl]
  rw [List.take_of_length_le (by simp [hfl])]
  exact hf) (fun K' hl' => by
   have := Z1.arr (K := K') (off := 0) (n := vs.length) (cap := n) hl' (by omega) (by omega) .nil
   simpa [VR, hl] using this)
theorem Rel.mark (r : Rel K σ w) {cb : Nat} (hb : K.w0.heap.size ≤ cb) (hno : ∀ c blk s p, (c, blk) ∈ σ → K.loc c ≠ some ⟨some cb, s, p⟩) {cs0 : Array Value} {ty0 : TypeId} {fr0 : Nat × Nat} (hw0 : w.heap[cb]? = some (.cells cs0 ty0 fr0)) (n m : Nat) : Rel K σ (w.freeze ⟨cb, n, none⟩ m) := by
 have hne : ∀ k, k ≠ cb → (w.freeze ⟨cb, n, none⟩ m).heap[k]? = w.heap[k]? := by
  intro k hk
  unfold World.freeze
  split
  ·rfl
  ·simp only [Array.getElem?_modify]
   rw [if_neg (fun e => hk e.symm)]
 have hsize : (w.freeze ⟨cb, n, none⟩ m).heap.size = w.heap.size := by
  unfold World.freeze
  split <;> simp
 have hos : (w.freeze ⟨cb, n, none⟩ m).os = w.os ∧ (w.freeze ⟨cb, n, none⟩ m).tape = w.tape ∧ (w.freeze ⟨cb, n, none⟩ m).output = w.output := by
  unfold World.freeze
  split <;> exact ⟨rfl, rfl, rfl⟩
 have hcell : ∀ b o, (w.freeze ⟨cb, n, none⟩ m).cell? ⟨b, o, none⟩ = w.cell? ⟨b, o, none⟩ := by
  intro b o
  by_cases hk : b = cb
  ·subst hk
   unfold World.freeze
   split
   ·rfl
   ·simp only [World.cell?, Array.getElem?_modify, if_true]
    cases w.heap[b]? with
    | none => rfl
    | some ob => cases ob <;> rfl
  ·exact Zv (hne b hk)
 refine ⟨r.ext.trans ⟨hos.1, hos.2.1, hos.2.2, by omega, fun k hk => hne k (by omega)⟩, r.oth.turn hw0 (by omega) hne, fun b o v h => ?_, r.nd, r.bnd, fun b L d h hd => by rw [hsize]; exact r.lit b L d h hd, fun b blk h => ?_, r.inj⟩
 ·rw [hcell]; exact r.imm b o v h
 ·refine (r.own b blk h).keep (Kr.le.refl K) fun d s c hl => ⟨hne d ?_, fun h => h⟩
  rintro rfl
  exact hno b blk s c h hl
theorem VR.slc_of_arr {K' : Kr} {cb sz n cap : Nat} {xs : List Z0} {vs : List Value} {full : Bool} (hn : xs.length = n) (he : ∀ x ∈ xs, x.elem sz) (hv : Z1 K' (flat xs) vs) (off : Nat)
  (hm : ∀ j v, vs[j]? = some v → K'.imm cb (off + j) = some v) (hc : n ≤ cap) (hf : full = true → cap = n) : VR K' (.slc sz xs full) (.slice (some ⟨cb, off, none⟩) n cap) := by
 by_cases hx : xs = []
 ·subst hx
  simp at hn; subst hn
  exact Z1.slc0 hf .nil
 ·exact Z1.slc hn he rfl hm hv hc hf .nil
theorem Z5b {t e : TypeId} {sz : Nat} (ht : P.underlying t = some (.slice e)) (he : P.underlying e = some (.int .u8)) {vs : List Z0} {p : Value} (hv : Z1 K vs [p]) (h : Z1w sz vs σ R) (r : Rel K σ w) : Z31 K R ((convert t t p).run P w) := by
 unfold Z1w at h
 split at h
 ·rename_i s b n
  obtain ⟨xs, hg, hl, h0, hR⟩ := h
  obtain ⟨u, e1, h1⟩ := hv.one_inv
  simp at e1; subst e1
  unfold VR at h1
  cases h1 with
  | @arr _ _ _ cb _ pcap cap _ _ hloc ho hn _ =>
   obtain ⟨hss, hel, hx, hm, hbase, cs, ty, hw, hsz, hvv, hc⟩ := r.ownCells hg hloc
   have hmem := Zk hg
   obtain ⟨vs', hvs, hK, hR'⟩ := r.freeze hmem (by rw [hloc, hss])
   have hmark := hR'.mark (cb := cb) hbase (fun c blk s1 p1 hcm hlc => by
    obtain ⟨hne, hcm⟩ := Zp r.nd hcm
    exact hne (r.inj _ _ _ _ _ _ _ _ _ hcm hmem hlc hloc)) hw cs.size 1
   have hrun : (convert t t (.slice (some ⟨cb, 0 * s, none⟩) n cap)).run P w = .ok (.slice (some ⟨cb, 0 * s, none⟩) n cap) (w.freeze ⟨cb, cs.size, none⟩ 1) := by
    have hsh : w.shape? cb = some (ty, cs.size) := by simp [World.shape?, hw]
    simp [convert, run_underlying ht, run_underlying he, markStringish, hsh]
   rw [hrun]
   refine ⟨_, _, _, hK, hmark, ?_, hR⟩
   have := VR.slc_of_arr (K' := K.addImm cb vs') (cb := cb) (cap := cap) (full := false) hl hel (hvs.mono hK) 0 (fun j v e => by simpa [Kr.addImm] using e) hn (by simp)
   simpa using this
  | arr0 _ _ => omega
 ·exact h.elim
theorem Z5c (d : Nat) {t e : TypeId} (ht : P.underlying t = some (.slice e)) (a : Option Addr) (n c : Nat) : (Op.equalIn (d + 1) t (.slice a n c) (.slice none 0 0)).run P w = .ok a.isNone w := by
 cases a <;> simp only [Op.equalIn, Sem.run_bind, run_underlying ht, Result.andThen_ok] <;> rfl
theorem Z5d {t e : TypeId} {op : BinOp} {neg : Bool} (hop : (op = .eql ∧ neg = false) ∨ (op = .neq ∧ neg = true)) (ht : P.underlying t = some (.slice e)) (y z : Operand) {vs : List Z0} {p : Value} (hv : Z1 K vs [p, .slice none 0 0]) (h : Z1x neg vs σ R) (r : Rel K σ w) :
  Z31 K R ((do eqGuard op t y z p (.slice none 0 0); binOp op t p (.slice none 0 0) : Sem Value).run P w) := by
 have hrun : ∀ a n c, (do eqGuard op t y z (.slice a n c) (.slice none 0 0); binOp op t (.slice a n c) (.slice none 0 0) : Sem Value).run P w = .ok (.bool (if neg then a.isSome else a.isNone)) w := by
  intro a n c
  have e1 : (Op.equal t (.slice a n c) (.slice none 0 0)).run P w = .ok a.isNone w := by
   exact Z5c 9999 ht a n c
  rcases hop with ⟨rfl, rfl⟩ | ⟨rfl, rfl⟩
  ·simp only [Sem.run_bind, Z38 P _ t y z _ _ w (.inr (.inr (.inr ⟨_, _, _, rfl⟩))), Result.andThen_ok, binOp, e1, Sem.run_pure]; rfl
  ·simp only [Sem.run_bind, Z38 P _ t y z _ _ w (.inr (.inr (.inr ⟨_, _, _, rfl⟩))), Result.andThen_ok, binOp, e1, Sem.run_pure]
   cases a <;> rfl
 unfold Z1x at h
 split at h
 ·rename_i s xs f s'
  obtain ⟨u1, u2, e1, h1, h2⟩ := hv.two_inv
  simp at e1; obtain ⟨rfl, rfl⟩ := e1
  unfold VR at h1
  cases h1 with
  | slc0 _ _ => rw [hrun]; exact ⟨K, _, σ, Kr.le.refl K, r, VR.bool, h.2 rfl _⟩
  | slc _ _ _ _ _ _ _ _ =>
   rw [hrun]
   by_cases hx : xs = []
   ·exact ⟨K, _, σ, Kr.le.refl K, r, VR.bool, h.2 hx _⟩
   ·have := h.1 hx
    refine ⟨K, .bool neg, σ, Kr.le.refl K, r, ?_, this⟩
    cases neg <;> exact VR.bool
 ·rename_i s b o n s'
  obtain ⟨u1, u2, e1, h1, h2⟩ := hv.two_inv
  simp at e1; obtain ⟨rfl, rfl⟩ := e1
  unfold VR at h1
  cases h1 with
  | arr0 _ _ => rw [hrun]; exact ⟨K, _, σ, Kr.le.refl K, r, VR.bool, h.2 rfl _⟩
  | arr _ _ _ _ =>
   rw [hrun]
   by_cases hx : n = 0
   ·exact ⟨K, _, σ, Kr.le.refl K, r, VR.bool, h.2 hx _⟩
   ·have := h.1 (by omega)
    refine ⟨K, .bool neg, σ, Kr.le.refl K, r, ?_, this⟩
    cases neg <;> exact VR.bool
 ·exact h.elim
end Go.Abs

