/-
  A program logic over abstract states, part B: the blocks that a call owns, and how the world turns.
-/
import Derived.Test.YtgmefkhincnajaaDoorAbsA
namespace Go.Abs
open Go Go.RowKit

/-! ### Rows of elements, cell by cell -/

def flat (xs : List AVal) : List AVal := xs.flatMap AVal.cells

@[simp] theorem flat_nil : flat [] = [] := rfl
@[simp] theorem flat_cons (x : AVal) (xs : List AVal) : flat (x :: xs) = x.cells ++ flat xs := rfl
@[simp] theorem flat_append (xs ys : List AVal) : flat (xs ++ ys) = flat xs ++ flat ys := by simp [flat]

theorem flat_length {sz : Nat} {xs : List AVal} (h : ∀ x ∈ xs, x.elem sz) : (flat xs).length = xs.length * sz := by
  induction xs with
  | nil => simp
  | cons x xs ih =>
    simp only [flat_cons, List.length_append, List.length_cons, ih (fun y hy => h y (by simp [hy])), (h x (by simp)).1, Nat.add_mul]
    omega

theorem flat_drop {sz : Nat} {xs : List AVal} (h : ∀ x ∈ xs, x.elem sz) (n : Nat) : flat (xs.drop n) = (flat xs).drop (n * sz) := by
  induction n generalizing xs with
  | zero => simp
  | succ n ih =>
    cases xs with
    | nil => simp
    | cons x xs =>
      simp only [List.drop_succ_cons, flat_cons, Nat.add_mul, Nat.one_mul]
      rw [ih (fun y hy => h y (by simp [hy])), Nat.add_comm (n * sz) sz, ← List.drop_drop]
      congr 1
      rw [← (h x (by simp)).1]
      simp

theorem flat_take {sz : Nat} {xs : List AVal} (h : ∀ x ∈ xs, x.elem sz) (n : Nat) : flat (xs.take n) = (flat xs).take (n * sz) := by
  induction n generalizing xs with
  | zero => simp
  | succ n ih =>
    cases xs with
    | nil => simp
    | cons x xs =>
      simp only [List.take_succ_cons, flat_cons, Nat.add_mul, Nat.one_mul]
      rw [ih (fun y hy => h y (by simp [hy])), Nat.add_comm (n * sz) sz, ← (h x (by simp)).1, List.take_append, List.take_of_length_le (l := x.cells) (by omega)]
      simp

theorem flat_at {sz : Nat} {xs : List AVal} (h : ∀ x ∈ xs, x.elem sz) {i : Nat} {x : AVal} (hx : xs[i]? = some x) :
    ((flat xs).drop (i * sz)).take sz = x.cells := by
  rw [← flat_drop h]
  have hi := (List.getElem?_eq_some_iff.1 hx)
  obtain ⟨hi, rfl⟩ := hi
  rw [List.drop_eq_getElem_cons hi, flat_cons, ← (h xs[i] (List.getElem_mem hi)).1]
  simp

theorem flat_ones {sz : Nat} {xs : List AVal} (h : ∀ x ∈ xs, x.elem sz) : ∀ c ∈ flat xs, c.one = true := by
  intro c hc
  obtain ⟨x, hx, hc⟩ := List.mem_flatMap.1 hc
  exact (h x hx).2 c hc

theorem flat_set {sz : Nat} {xs : List AVal} (h : ∀ x ∈ xs, x.elem sz) {i : Nat} {y : AVal} (hi : i < xs.length) :
    flat (xs.set i y) = (flat xs).take (i * sz) ++ y.cells ++ (flat xs).drop (i * sz + sz) := by
  rw [List.set_eq_take_append_cons_drop, if_pos hi]
  simp only [flat_append, flat_cons, flat_take h, flat_drop h, Nat.add_mul, Nat.one_mul, List.append_assoc]

theorem VRel.at_ {K : Kr} {sz : Nat} {xs : List AVal} {vs : List Value} (hv : VRel K (flat xs) vs) (h : ∀ x ∈ xs, x.elem sz) {i : Nat} {x : AVal} (hx : xs[i]? = some x) :
    VRel K x.cells ((vs.drop (i * sz)).take sz) := by
  rw [← flat_at h hx]
  exact (hv.drop _).take _

/-! ### The blocks -/

inductive ABlk where
  | cells (sz : Nat) (xs : List AVal)

abbrev AHeap := List (Nat × ABlk)

def hget : AHeap → Nat → Option ABlk
  | [], _ => none
  | (a, x) :: l, b => if a = b then some x else hget l b
def hset : AHeap → Nat → ABlk → AHeap
  | [], _, _ => []
  | (a, x) :: l, b, y => if a = b then (a, y) :: l else (a, x) :: hset l b y
def hren : AHeap → Nat → Nat → ABlk → AHeap
  | [], _, _, _ => []
  | (a, x) :: l, b, b', y => if a = b then (b', y) :: l else (a, x) :: hren l b b' y
def hdel : AHeap → Nat → AHeap
  | [], _ => []
  | (a, x) :: l, b => if a = b then l else (a, x) :: hdel l b

def keys (σ : AHeap) : List Nat := σ.map (·.1)
@[simp] theorem keys_nil : keys [] = [] := rfl
@[simp] theorem keys_cons (p : Nat × ABlk) (σ : AHeap) : keys (p :: σ) = p.1 :: keys σ := rfl

theorem hget_mem {σ : AHeap} {b : Nat} {x : ABlk} (h : hget σ b = some x) : (b, x) ∈ σ := by
  induction σ with
  | nil => simp [hget] at h
  | cons p σ ih =>
    obtain ⟨a, y⟩ := p
    simp only [hget] at h
    split at h
    · rename_i e; subst e; simp at h; subst h; simp
    · simp [ih h]

theorem mem_keys {σ : AHeap} {b : Nat} {x : ABlk} (h : (b, x) ∈ σ) : b ∈ keys σ := List.mem_map.2 ⟨(b, x), h, rfl⟩

theorem mem_hget {σ : AHeap} (nd : (keys σ).Nodup) {b : Nat} {x : ABlk} (h : (b, x) ∈ σ) : hget σ b = some x := by
  induction σ with
  | nil => simp at h
  | cons p σ ih =>
    obtain ⟨a, y⟩ := p
    simp only [keys_cons, List.nodup_cons] at nd
    simp only [hget]
    rcases List.mem_cons.1 h with e | h
    · simp only [Prod.mk.injEq] at e; obtain ⟨rfl, rfl⟩ := e; simp
    · have : a ≠ b := fun e => nd.1 (e ▸ mem_keys h)
      rw [if_neg this]
      exact ih nd.2 h

theorem keys_hset (σ : AHeap) (b : Nat) (y : ABlk) : keys (hset σ b y) = keys σ := by
  induction σ with
  | nil => rfl
  | cons p σ ih =>
    simp only [hset]
    split <;> simp [ih]

theorem mem_hset {σ : AHeap} (nd : (keys σ).Nodup) {b c : Nat} {y z : ABlk} (h : (c, z) ∈ hset σ b y) : (c = b ∧ z = y) ∨ (c ≠ b ∧ (c, z) ∈ σ) := by
  induction σ with
  | nil => simp [hset] at h
  | cons p σ ih =>
    obtain ⟨a, x⟩ := p
    simp only [keys_cons, List.nodup_cons] at nd
    simp only [hset] at h
    split at h
    · rename_i e
      subst e
      rcases List.mem_cons.1 h with e | h
      · simp only [Prod.mk.injEq] at e; exact .inl e
      · refine .inr ⟨fun e => nd.1 (e ▸ mem_keys h), List.mem_cons_of_mem _ h⟩
    · rename_i hne
      rcases List.mem_cons.1 h with e | h
      · simp only [Prod.mk.injEq] at e; obtain ⟨rfl, rfl⟩ := e; exact .inr ⟨hne, by simp⟩
      · rcases ih nd.2 h with h | h
        · exact .inl h
        · exact .inr ⟨h.1, List.mem_cons_of_mem _ h.2⟩

theorem mem_hdel {σ : AHeap} (nd : (keys σ).Nodup) {b c : Nat} {z : ABlk} (h : (c, z) ∈ hdel σ b) : c ≠ b ∧ (c, z) ∈ σ := by
  induction σ with
  | nil => simp [hdel] at h
  | cons p σ ih =>
    obtain ⟨a, x⟩ := p
    simp only [keys_cons, List.nodup_cons] at nd
    simp only [hdel] at h
    split at h
    · rename_i e
      subst e
      exact ⟨fun e => nd.1 (e ▸ mem_keys h), List.mem_cons_of_mem _ h⟩
    · rename_i hne
      rcases List.mem_cons.1 h with e | h
      · simp only [Prod.mk.injEq] at e; obtain ⟨rfl, rfl⟩ := e; exact ⟨hne, by simp⟩
      · have := ih nd.2 h
        exact ⟨this.1, List.mem_cons_of_mem _ this.2⟩

theorem keys_hdel_sub (σ : AHeap) (b : Nat) : (keys (hdel σ b)).Sublist (keys σ) := by
  induction σ with
  | nil => exact .slnil
  | cons p σ ih =>
    simp only [hdel]
    split
    · simp
    · simpa using ih

theorem mem_hren {σ : AHeap} (nd : (keys σ).Nodup) {b b' c : Nat} {y z : ABlk} (h : (c, z) ∈ hren σ b b' y) : (c = b' ∧ z = y) ∨ (c ≠ b ∧ (c, z) ∈ σ) := by
  induction σ with
  | nil => simp [hren] at h
  | cons p σ ih =>
    obtain ⟨a, x⟩ := p
    simp only [keys_cons, List.nodup_cons] at nd
    simp only [hren] at h
    split at h
    · rename_i e
      subst e
      rcases List.mem_cons.1 h with e | h
      · simp only [Prod.mk.injEq] at e; exact .inl e
      · refine .inr ⟨fun e => nd.1 (e ▸ mem_keys h), List.mem_cons_of_mem _ h⟩
    · rename_i hne
      rcases List.mem_cons.1 h with e | h
      · simp only [Prod.mk.injEq] at e; obtain ⟨rfl, rfl⟩ := e; exact .inr ⟨hne, by simp⟩
      · rcases ih nd.2 h with h | h
        · exact .inl h
        · exact .inr ⟨h.1, List.mem_cons_of_mem _ h.2⟩

theorem nodup_hren {σ : AHeap} (nd : (keys σ).Nodup) {b b' : Nat} {y : ABlk} (hb : b' ∉ keys σ) : (keys (hren σ b b' y)).Nodup := by
  induction σ with
  | nil => simp [hren]
  | cons p σ ih =>
    obtain ⟨a, x⟩ := p
    simp only [keys_cons, List.nodup_cons, List.mem_cons, not_or] at nd hb
    simp only [hren]
    split
    · simp only [keys_cons, List.nodup_cons]; exact ⟨hb.2, nd.2⟩
    · simp only [keys_cons, List.nodup_cons]
      refine ⟨fun hm => ?_, ih nd.2 hb.2⟩
      obtain ⟨⟨c, z⟩, hz, e⟩ := List.mem_map.1 hm
      rcases mem_hren nd.2 hz with h | h
      · exact hb.1 (by rw [← h.1]; exact e)
      · exact nd.1 (by rw [← e]; exact mem_keys h.2)

/-- What the world holds of a block that is owned. -/
def Own (K : Kr) (w : World) (b : Nat) : ABlk → Prop
  | .cells sz xs => (∀ x ∈ xs, x.elem sz) ∧
      ((∃ pcap, K.loc b = some ⟨none, sz, pcap⟩ ∧ xs = []) ∨
       ∃ cb pcap cs ty, K.loc b = some ⟨some cb, sz, pcap⟩ ∧ K.w0.heap.size ≤ cb ∧ (∀ o, K.imm cb o = none) ∧ w.heap[cb]? = some (.cells cs ty (0, 0)) ∧
         cs.size = pcap * sz ∧ xs.length ≤ pcap ∧ pcap ≤ maxLen ∧ VRel K (flat xs) (cs.toList.take (xs.length * sz)))

structure Rel (K : Kr) (σ : AHeap) (w : World) : Prop where
  ext : Below K.w0.heap.size K.w0 w
  oth : Oth K.wo w
  imm : ∀ b o v, K.imm b o = some v → w.cell? ⟨b, o, none⟩ = some v
  nd : (keys σ).Nodup
  bnd : ∀ b L, K.loc b = some L → b < K.nn
  lit : ∀ b L cb, K.loc b = some L → L.blk = some cb → cb < w.heap.size
  own : ∀ b blk, (b, blk) ∈ σ → Own K w b blk
  inj : ∀ b1 blk1 b2 blk2 cb s1 c1 s2 c2, (b1, blk1) ∈ σ → (b2, blk2) ∈ σ → K.loc b1 = some ⟨some cb, s1, c1⟩ → K.loc b2 = some ⟨some cb, s2, c2⟩ → b1 = b2

theorem Rel.key_lt {K : Kr} {σ : AHeap} {w : World} (r : Rel K σ w) {b : Nat} {blk : ABlk} (h : (b, blk) ∈ σ) : b < K.nn := by
  have ho := r.own b blk h
  cases blk with
  | cells sz xs =>
    rcases ho.2 with ⟨pcap, hl, _⟩ | ⟨cb, pcap, cs, ty, hl, _⟩ <;> exact r.bnd _ _ hl

theorem Rel.fresh {K : Kr} {σ : AHeap} {w : World} (r : Rel K σ w) : K.nn ∉ keys σ := by
  intro h
  obtain ⟨⟨c, z⟩, hz, e⟩ := List.mem_map.1 h
  have := r.key_lt hz
  simp at e
  omega

theorem Rel.drew {K : Kr} {σ : AHeap} {w : World} (r : Rel K σ w) : Rel K σ w.drew :=
  ⟨r.ext.drew, r.oth.drew, r.imm, r.nd, r.bnd, r.lit, fun b blk h => by
    have := r.own b blk h
    cases blk with
    | cells sz xs => exact this, r.inj⟩

theorem Rel.sub {K : Kr} {σ τ : AHeap} {w : World} (r : Rel K σ w) (nd : (keys τ).Nodup) (h : ∀ p ∈ τ, p ∈ σ) : Rel K τ w :=
  ⟨r.ext, r.oth, r.imm, nd, r.bnd, r.lit, fun b blk hb => r.own b blk (h _ hb), fun b1 blk1 b2 blk2 cb s1 c1 s2 c2 h1 h2 => r.inj b1 blk1 b2 blk2 cb s1 c1 s2 c2 (h _ h1) (h _ h2)⟩

/-- A block is not one of those that are known for good. -/
theorem Rel.imm_none {K : Kr} {σ : AHeap} {w : World} (r : Rel K σ w) {cb : Nat} (h : w.heap.size ≤ cb) (o : Nat) : K.imm cb o = none := by
  cases e : K.imm cb o with
  | none => rfl
  | some v =>
    have := block_lt_of_cell (r.imm cb o v e)
    simp at this
    omega

/-- A new name. -/
def Kr.add (K : Kr) (L : Loc) : Kr := { K with loc := fun b => if b = K.nn then some L else K.loc b, nn := K.nn + 1 }

theorem Kr.le_add {K : Kr} {σ : AHeap} {w : World} (r : Rel K σ w) (L : Loc) : K.le (K.add L) :=
  ⟨rfl, Oth.refl _, fun _ _ _ h => h, fun b L' h => by
    have := r.bnd b L' h
    simp only [Kr.add]
    rw [if_neg (by omega)]
    exact h, Nat.le_succ _⟩

theorem Kr.add_new (K : Kr) (L : Loc) : (K.add L).loc K.nn = some L := by simp [Kr.add]
theorem Kr.add_old {K : Kr} {L : Loc} {b : Nat} (h : b < K.nn) : (K.add L).loc b = K.loc b := by
  simp only [Kr.add]; rw [if_neg (by omega)]

/-- The owned blocks are as9 they were where their rows are. -/
theorem Own.keep {K K' : Kr} {w w' : World} {b : Nat} {blk : ABlk} (h : Own K w b blk) (hK : K.le K')
    (hrow : ∀ cb s c, K.loc b = some ⟨some cb, s, c⟩ → w'.heap[cb]? = w.heap[cb]? ∧ ((∀ o, K.imm cb o = none) → ∀ o, K'.imm cb o = none)) : Own K' w' b blk := by
  cases blk with
  | cells sz xs =>
    refine ⟨h.1, ?_⟩
    rcases h.2 with ⟨pcap, hl, hx⟩ | ⟨cb, pcap, cs, ty, hl, hb, hi, hw, hs, hx, hm, hv⟩
    · exact .inl ⟨pcap, hK.loc _ _ hl, hx⟩
    · obtain ⟨h1, h2⟩ := hrow _ _ _ hl
      refine .inr ⟨cb, pcap, cs, ty, hK.loc _ _ hl, by rw [hK.w0]; exact hb, h2 hi, by rw [h1]; exact hw, hs, hx, hm, hv.mono hK⟩

theorem halloc_new (w : World) (o : Obj) : (w.alloc o).heap[w.heap.size]? = some o := by
  show (w.heap.push o)[w.heap.size]? = some o
  simp
theorem halloc_old (w : World) (o : Obj) {i : Nat} (h : i < w.heap.size) : (w.alloc o).heap[i]? = w.heap[i]? := by
  show (w.heap.push o)[i]? = w.heap[i]?
  rw [Array.getElem?_push, if_neg (Nat.ne_of_lt h)]

theorem cell?_of_heap {w w' : World} {b o : Nat} (h : w'.heap[b]? = w.heap[b]?) : w'.cell? ⟨b, o, none⟩ = w.cell? ⟨b, o, none⟩ := by simp [World.cell?, h]

/-- A new row, owned. -/
theorem Rel.newOwned {K : Kr} {σ : AHeap} {w : World} (r : Rel K σ w) (sz pcap : Nat) (cs : Array Value) (ty : TypeId) (xs : List AVal) (he : ∀ x ∈ xs, x.elem sz)
    (hs : cs.size = pcap * sz) (hx : xs.length ≤ pcap) (hm : pcap ≤ maxLen) (hv : VRel K (flat xs) (cs.toList.take (xs.length * sz))) :
    Rel (K.add ⟨some w.heap.size, sz, pcap⟩) ((K.nn, .cells sz xs) :: σ) (w.alloc (.cells cs ty)) := by
  have hle := Kr.le_add r ⟨some w.heap.size, sz, pcap⟩
  have hext : Below K.w0.heap.size K.w0 (w.alloc (.cells cs ty)) := r.ext.alloc r.ext.size _
  refine ⟨hext, r.oth.alloc _, fun b o v h => ?_, ?_, fun b L h => ?_, fun b L cb h hb => ?_, fun b blk h => ?_, fun b1 blk1 b2 blk2 cb s1 c1 s2 c2 h1 h2 l1 l2 => ?_⟩
  · have hc := r.imm b o v h
    have hlt := block_lt_of_cell hc
    rw [cell?_of_heap (w := w) (halloc_old _ _ hlt)]
    exact hc
  · simp only [keys_cons, List.nodup_cons]; exact ⟨r.fresh, r.nd⟩
  · simp only [Kr.add] at h ⊢
    split at h
    · omega
    · have := r.bnd b L h; omega
  · simp only [Kr.add] at h
    split at h
    · simp only [Option.some.injEq] at h; subst h; simp at hb; subst hb; simp
    · have := r.lit b L cb h hb; simp; omega
  · rcases List.mem_cons.1 h with e | h
    · simp only [Prod.mk.injEq] at e
      obtain ⟨rfl, rfl⟩ := e
      refine ⟨he, .inr ⟨w.heap.size, pcap, cs, ty, Kr.add_new _ _, r.ext.size, fun o => r.imm_none (Nat.le_refl _) o, halloc_new _ _, hs, hx, hm, hv.mono hle⟩⟩
    · exact (r.own b blk h).keep hle fun cb s c hl => ⟨halloc_old _ _ (r.lit b _ cb hl rfl), fun h => h⟩
  · rcases List.mem_cons.1 h1 with e1 | h1 <;> rcases List.mem_cons.1 h2 with e2 | h2
    · simp only [Prod.mk.injEq] at e1 e2; rw [e1.1, e2.1]
    · exfalso
      simp only [Prod.mk.injEq] at e1
      rw [e1.1, Kr.add_new] at l1
      rw [Kr.add_old (r.key_lt h2)] at l2
      simp at l1
      have := r.lit _ _ _ l2 rfl
      omega
    · exfalso
      simp only [Prod.mk.injEq] at e2
      rw [e2.1, Kr.add_new] at l2
      rw [Kr.add_old (r.key_lt h1)] at l1
      simp at l2
      have := r.lit _ _ _ l1 rfl
      omega
    · rw [Kr.add_old (r.key_lt h1)] at l1
      rw [Kr.add_old (r.key_lt h2)] at l2
      exact r.inj _ _ _ _ _ _ _ _ _ h1 h2 l1 l2

/-- A name for nothing yet. -/
theorem Rel.newNone {K : Kr} {σ : AHeap} {w : World} (r : Rel K σ w) (sz : Nat) : Rel (K.add ⟨none, sz, 0⟩) ((K.nn, .cells sz []) :: σ) w := by
  have hle := Kr.le_add r ⟨none, sz, 0⟩
  refine ⟨r.ext, r.oth, r.imm, ?_, fun b L h => ?_, fun b L cb h hb => ?_, fun b blk h => ?_, fun b1 blk1 b2 blk2 cb s1 c1 s2 c2 h1 h2 l1 l2 => ?_⟩
  · simp only [keys_cons, List.nodup_cons]; exact ⟨r.fresh, r.nd⟩
  · simp only [Kr.add] at h ⊢
    split at h
    · omega
    · have := r.bnd b L h; omega
  · simp only [Kr.add] at h
    split at h
    · simp only [Option.some.injEq] at h; subst h; simp at hb
    · exact r.lit b L cb h hb
  · rcases List.mem_cons.1 h with e | h
    · simp only [Prod.mk.injEq] at e
      obtain ⟨rfl, rfl⟩ := e
      exact ⟨by simp, .inl ⟨0, Kr.add_new _ _, rfl⟩⟩
    · exact (r.own b blk h).keep hle fun cb s c hl => ⟨rfl, fun h => h⟩
  · rcases List.mem_cons.1 h1 with e1 | h1 <;> rcases List.mem_cons.1 h2 with e2 | h2
    · simp only [Prod.mk.injEq] at e1 e2; rw [e1.1, e2.1]
    · exfalso
      simp only [Prod.mk.injEq] at e1
      rw [e1.1, Kr.add_new] at l1
      simp at l1
    · exfalso
      simp only [Prod.mk.injEq] at e2
      rw [e2.1, Kr.add_new] at l2
      simp at l2
    · rw [Kr.add_old (r.key_lt h1)] at l1
      rw [Kr.add_old (r.key_lt h2)] at l2
      exact r.inj _ _ _ _ _ _ _ _ _ h1 h2 l1 l2

/-- Cells that are known for good, one block more. -/
def Kr.addImm (K : Kr) (cb : Nat) (cs : List Value) : Kr := { K with imm := fun b o => if b = cb then cs[o]? else K.imm b o }

/-- A new row that nobody will write. -/
theorem Rel.newImm {K : Kr} {σ : AHeap} {w : World} (r : Rel K σ w) (cs : Array Value) (ty : TypeId) (fr : Nat × Nat) :
    K.le (K.addImm w.heap.size cs.toList) ∧ Rel (K.addImm w.heap.size cs.toList) σ (w.alloc (.cells cs ty fr)) := by
  have hle : K.le (K.addImm w.heap.size cs.toList) := by
    refine ⟨rfl, Oth.refl _, fun b o v h => ?_, fun _ _ h => h, Nat.le_refl _⟩
    have := block_lt_of_cell (r.imm b o v h)
    simp only [Kr.addImm] at this ⊢
    rw [if_neg (by omega)]
    exact h
  refine ⟨hle, ⟨r.ext.alloc r.ext.size _, r.oth.alloc _, fun b o v h => ?_, r.nd, r.bnd, fun b L cb h hb => ?_, fun b blk h => ?_, r.inj⟩⟩
  · simp only [Kr.addImm] at h
    split at h
    · rename_i e
      subst e
      rw [cell_of_row (w.alloc (.cells cs ty fr)) _ o cs ty fr (halloc_new _ _)]
      simpa using h
    · have hc := r.imm b o v h
      have hlt := block_lt_of_cell hc
      rw [cell?_of_heap (w := w) (halloc_old _ _ hlt)]
      exact hc
  · have := r.lit b L cb h hb; simp; omega
  · refine (r.own b blk h).keep hle fun cb s c hl => ?_
    have hlt := r.lit b _ cb hl rfl
    refine ⟨halloc_old _ _ hlt, fun h o => ?_⟩
    simp only [Kr.addImm]
    rw [if_neg (by omega)]
    exact h o

/-- An owned row is written. -/
theorem Rel.write {K : Kr} {σ : AHeap} {w : World} (r : Rel K σ w) {b sz : Nat} {xs xs' : List AVal} (hb : (b, ABlk.cells sz xs) ∈ σ) {cb pcap : Nat}
    (hl : K.loc b = some ⟨some cb, sz, pcap⟩) (he : ∀ x ∈ xs', x.elem sz) (cs' : Array Value) (hs : cs'.size = pcap * sz) (hx : xs'.length ≤ pcap)
    (hv : VRel K (flat xs') (cs'.toList.take (xs'.length * sz))) : Rel K (hset σ b (.cells sz xs')) (w.setRow cb cs') := by
  have ho := r.own b _ hb
  have hnone : ∀ o, K.imm cb o = none := by
    rcases ho.2 with ⟨p, h1, _⟩ | ⟨cb', p, cs, ty, h1, _, hi, _⟩
    · rw [hl] at h1; simp at h1
    · rw [hl] at h1; simp at h1; obtain ⟨rfl, _⟩ := h1; exact hi
  obtain ⟨cs, ty, hw, hbase, hmax⟩ : ∃ cs ty, w.heap[cb]? = some (.cells cs ty (0, 0)) ∧ K.w0.heap.size ≤ cb ∧ pcap ≤ maxLen := by
    rcases ho.2 with ⟨p, h1, _⟩ | ⟨cb', p, cs, ty, h1, h2, _, h3, _, _, h4, _⟩
    · rw [hl] at h1; simp at h1
    · rw [hl] at h1; simp at h1; obtain ⟨rfl, rfl⟩ := h1; exact ⟨cs, ty, h3, h2, h4⟩
  refine ⟨?_, r.oth.turn hw (by rw [size_setRow]; exact Nat.le_refl _) (fun k hk => setRow_other _ _ _ _ hk), fun c o v h => ?_, by rw [keys_hset]; exact r.nd, r.bnd, fun c L d h hd => ?_, fun c blk h => ?_, fun b1 blk1 b2 blk2 c s1 c1 s2 c2 h1 h2 l1 l2 => ?_⟩
  · refine r.ext.trans ⟨rfl, rfl, rfl, by simp, fun k hk => setRow_other _ _ _ _ (by omega)⟩
  · have hne : c ≠ cb := by rintro rfl; rw [hnone] at h; cases h
    rw [cell?_of_heap (w := w) (setRow_other _ _ _ _ hne)]
    exact r.imm c o v h
  · rw [size_setRow]; exact r.lit c L d h hd
  · rcases mem_hset r.nd h with ⟨rfl, rfl⟩ | ⟨hne, h⟩
    · refine ⟨he, .inr ⟨cb, pcap, cs', ty, hl, hbase, hnone, setRow_heap _ _ _ _ _ _ hw, hs, hx, hmax, hv⟩⟩
    · refine (r.own c blk h).keep (Kr.le.refl K) fun d s c' hl' => ⟨setRow_other _ _ _ _ ?_, fun h => h⟩
      rintro rfl
      exact hne (r.inj _ _ _ _ _ _ _ _ _ h hb hl' hl)
  · have m1 : ∃ z, (b1, z) ∈ σ := by
      rcases mem_hset r.nd h1 with ⟨rfl, _⟩ | ⟨_, h⟩
      · exact ⟨_, hb⟩
      · exact ⟨_, h⟩
    have m2 : ∃ z, (b2, z) ∈ σ := by
      rcases mem_hset r.nd h2 with ⟨rfl, _⟩ | ⟨_, h⟩
      · exact ⟨_, hb⟩
      · exact ⟨_, h⟩
    obtain ⟨z1, m1⟩ := m1
    obtain ⟨z2, m2⟩ := m2
    exact r.inj _ _ _ _ _ _ _ _ _ m1 m2 l1 l2

/-- An owned block gets a new name, at the place where it lies. -/
theorem Rel.rename {K : Kr} {σ : AHeap} {w : World} (r : Rel K σ w) {b : Nat} {blk : ABlk} (hb : (b, blk) ∈ σ) {L : Loc} (hl : K.loc b = some L) :
    Rel (K.add L) (hren σ b K.nn blk) w := by
  have hle := Kr.le_add r L
  have hown : ∀ c z, (c, z) ∈ hren σ b K.nn blk → (c = K.nn ∧ z = blk) ∨ (c ≠ b ∧ (c, z) ∈ σ) := fun c z h => mem_hren r.nd h
  refine ⟨r.ext, r.oth, r.imm, nodup_hren r.nd r.fresh, fun c M h => ?_, fun c M d h hd => ?_, fun c z h => ?_, fun b1 z1 b2 z2 d s1 c1 s2 c2 h1 h2 l1 l2 => ?_⟩
  · simp only [Kr.add] at h ⊢
    split at h
    · omega
    · have := r.bnd c M h; omega
  · simp only [Kr.add] at h
    split at h
    · simp only [Option.some.injEq] at h; subst h; exact r.lit b _ d hl hd
    · exact r.lit c M d h hd
  · rcases hown c z h with ⟨rfl, rfl⟩ | ⟨hne, h⟩
    · have ho := r.own b _ hb
      cases z with
      | cells sz xs =>
        refine ⟨ho.1, ?_⟩
        rcases ho.2 with ⟨p, h1, hx⟩ | ⟨cb, p, cs, ty, h1, h2, h3, h4, h5, h6, h7, h8⟩
        · rw [hl] at h1; simp only [Option.some.injEq] at h1; subst h1
          exact .inl ⟨p, Kr.add_new _ _, hx⟩
        · rw [hl] at h1; simp only [Option.some.injEq] at h1; subst h1
          exact .inr ⟨cb, p, cs, ty, Kr.add_new _ _, h2, h3, h4, h5, h6, h7, h8.mono hle⟩
    · exact (r.own c z h).keep hle fun cb s c hl => ⟨rfl, fun h => h⟩
  · rcases hown _ _ h1 with ⟨e1, _⟩ | ⟨n1, h1⟩ <;> rcases hown _ _ h2 with ⟨e2, _⟩ | ⟨n2, h2⟩
    · rw [e1, e2]
    · exfalso
      rw [e1, Kr.add_new] at l1
      simp only [Option.some.injEq] at l1; subst l1
      rw [Kr.add_old (r.key_lt h2)] at l2
      exact n2 (r.inj _ _ _ _ _ _ _ _ _ h2 hb l2 hl)
    · exfalso
      rw [e2, Kr.add_new] at l2
      simp only [Option.some.injEq] at l2; subst l2
      rw [Kr.add_old (r.key_lt h1)] at l1
      exact n1 (r.inj _ _ _ _ _ _ _ _ _ h1 hb l1 hl)
    · rw [Kr.add_old (r.key_lt h1)] at l1
      rw [Kr.add_old (r.key_lt h2)] at l2
      exact r.inj _ _ _ _ _ _ _ _ _ h1 h2 l1 l2

/-- Nobody writes an owned block any more: its cells are known for good. -/
theorem Rel.freeze {K : Kr} {σ : AHeap} {w : World} (r : Rel K σ w) {b sz : Nat} {xs : List AVal} (hb : (b, ABlk.cells sz xs) ∈ σ) {cb pcap : Nat} (hl : K.loc b = some ⟨some cb, sz, pcap⟩) :
    ∃ vs, VRel K (flat xs) vs ∧ K.le (K.addImm cb vs) ∧ Rel (K.addImm cb vs) (hdel σ b) w := by
  have ho := r.own b _ hb
  rcases ho.2 with ⟨p, h1, hx⟩ | ⟨cb', p, cs, ty, h1, h2, h3, h4, h5, h6, h7, h8⟩
  · rw [hl] at h1; simp at h1
  · rw [hl] at h1
    simp at h1
    obtain ⟨rfl, rfl⟩ := h1
    have hle : K.le (K.addImm cb (cs.toList.take (xs.length * sz))) := by
      refine ⟨rfl, Oth.refl _, fun b o v h => ?_, fun _ _ h => h, Nat.le_refl _⟩
      simp only [Kr.addImm]
      split
      · rename_i e; subst e; rw [h3] at h; cases h
      · exact h
    refine ⟨_, h8, hle, ⟨r.ext, r.oth, fun c o v h => ?_, (keys_hdel_sub σ b).nodup r.nd, r.bnd, r.lit, fun c z h => ?_, fun b1 z1 b2 z2 d s1 c1 s2 c2 m1 m2 => ?_⟩⟩
    · simp only [Kr.addImm] at h
      split at h
      · rename_i e
        subst e
        rw [cell_of_row w c o cs ty _ h4]
        rw [List.getElem?_take] at h
        split at h
        · simpa using h
        · cases h
      · exact r.imm c o v h
    · obtain ⟨hne, h⟩ := mem_hdel r.nd h
      refine (r.own c z h).keep hle fun d s c' hl' => ⟨rfl, fun h' o => ?_⟩
      simp only [Kr.addImm]
      rw [if_neg ?_]
      · exact h' o
      · rintro rfl
        exact hne (r.inj _ _ _ _ _ _ _ _ _ h hb hl' hl)
    · exact r.inj _ _ _ _ _ _ _ _ _ (mem_hdel r.nd m1).2 (mem_hdel r.nd m2).2

end Go.Abs
