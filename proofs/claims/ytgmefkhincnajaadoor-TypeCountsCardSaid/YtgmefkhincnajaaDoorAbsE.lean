/-
  A program logic over abstract states, part E: what an operation does to the world is what it does to the abstract state. Operations that keep the state.
-/
import Derived.Test.YtgmefkhincnajaaDoorAbsD
namespace Go.Abs
open Go Go.RowKit

theorem VRel.one_inv {K : Kr} {x : AVal} {m : List Value} (h : VRel K [x] m) : ∃ u, m = [u] ∧ VR K x u := by
  obtain ⟨u, m', rfl, h1, h2⟩ := h.ex
  exact ⟨u, by rw [h2.nil_inv], h1⟩
theorem VRel.two_inv {K : Kr} {x y : AVal} {m : List Value} (h : VRel K [x, y] m) : ∃ u v, m = [u, v] ∧ VR K x u ∧ VR K y v := by
  obtain ⟨u, m', rfl, h1, h2⟩ := h.ex
  obtain ⟨v, rfl, h3⟩ := h2.one_inv
  exact ⟨u, v, rfl, h1, h3⟩
theorem VRel.three_inv {K : Kr} {x y z : AVal} {m : List Value} (h : VRel K [x, y, z] m) : ∃ u v t, m = [u, v, t] ∧ VR K x u ∧ VR K y v ∧ VR K z t := by
  obtain ⟨u, m', rfl, h1, h2⟩ := h.ex
  obtain ⟨v, t, rfl, h3, h4⟩ := h2.two_inv
  exact ⟨u, v, t, rfl, h1, h3, h4⟩

theorem VR.int_inv {K : Kr} {k : IntKind} {n : Int} {v : Value} (h : VR K (.int k n) v) : v = .int k n := by unfold VR at h; cases h; rfl
theorem VR.bool_inv {K : Kr} {b : Bool} {v : Value} (h : VR K (.bool b) v) : v = .bool b := by unfold VR at h; cases h; rfl
theorem VR.str_inv {K : Kr} {s : List UInt8} {v : Value} (h : VR K (.str s) v) : v = .string ⟨s.toArray⟩ := by unfold VR at h; cases h; rfl
theorem VR.agg_inv {K : Kr} {cs : List AVal} {v : Value} (h : VR K (.agg cs) v) : ∃ vs, v = .agg vs.toArray ∧ VRel K cs vs ∧ ∀ c ∈ cs, c.one = true := by
  unfold VR at h; cases h with | agg h1 hv _ => exact ⟨_, rfl, hv, h1⟩
theorem VR.tup_inv {K : Kr} {cs : List AVal} {v : Value} (h : VR K (.tup cs) v) : ∃ vs, v = .tuple vs.toArray ∧ VRel K cs vs := by
  unfold VR at h; cases h with | tup hv _ => exact ⟨_, rfl, hv⟩
theorem VR.fn_inv {K : Kr} {f : FuncId} {a b : List AVal} {v : Value} (h : VR K (.fn f a b) v) : ∃ va vb, v = .func (.func f) va.toArray vb.toArray ∧ VRel K a va ∧ VRel K b vb := by
  unfold VR at h; cases h with | fn h1 h2 _ => exact ⟨_, _, rfl, h1, h2⟩

theorem VR.int {K : Kr} {k : IntKind} {n : Int} : VR K (.int k n) (.int k n) := VRel.int .nil
theorem VR.bool {K : Kr} {b : Bool} : VR K (.bool b) (.bool b) := VRel.bool .nil
theorem VR.str {K : Kr} {s : List UInt8} : VR K (.str s) (.string ⟨s.toArray⟩) := VRel.str .nil

/-- What a run of an operation's own part must come to. -/
def GoodV (K : Kr) (R : AVal → AHeap → Prop) : Result Value → Prop
  | .ok v w' => ∃ K' r σ', K.le K' ∧ Rel K' σ' w' ∧ VR K' r v ∧ R r σ'
  | _ => False

theorem GoodV.same {K : Kr} {R : AVal → AHeap → Prop} {σ : AHeap} {w : World} {x : AVal} {v : Value} {res : Result Value} (e : res = .ok v w) (r : Rel K σ w) (h : VR K x v) (hR : R x σ) : GoodV K R res := by
  subst e
  exact ⟨K, x, σ, Kr.le.refl K, r, h, hR⟩

def Good (P : Program) (K : Kr) (R : AVal → AHeap → Prop) : Result Next → Prop
  | .ok (.value v) w' => ∃ K' r σ', K.le K' ∧ Rel K' σ' w' ∧ VR K' r v ∧ R r σ'
  | .ok .skip w' => ∃ K' σ', K.le K' ∧ Rel K' σ' w' ∧ R (.tup []) σ'
  | .ok (.enter f args) w' => Calls P f args w' fun e w'' => ∃ v K' r σ', e = .returned v ∧ K.le K' ∧ Rel K' σ' w'' ∧ VR K' r v ∧ R r σ'
  | _ => False

theorem Good.value {P : Program} {K : Kr} {R : AVal → AHeap → Prop} {s : Sem Value} {w : World} (h : GoodV K R (s.run P w)) :
    Good P K R ((do pure (Next.value (← s)) : Sem Next).run P w) := by
  simp only [Sem.run_bind, Sem.run_pure]
  cases hr : s.run P w with
  | ok v w' => rw [hr] at h; exact h
  | halt x w' => rw [hr] at h; exact h.elim

theorem Good.skip {P : Program} {K : Kr} {R : AVal → AHeap → Prop} {s : Sem Unit} {w w' : World} (e : s.run P w = .ok () w') {K' : Kr} {σ' : AHeap} (hK : K.le K') (r : Rel K' σ' w') (h : R (.tup []) σ') :
    Good P K R ((do s; pure Next.skip : Sem Next).run P w) := by
  simp only [Sem.run_bind, e, Result.andThen_ok, Sem.run_pure]
  exact ⟨K', σ', hK, r, h⟩

/-! ### Numbers, strings, bools -/

theorem bits_eq (op : BinOp) (h : op = .and ∨ op = .or ∨ op = .xor ∨ op = .andNot) (P : Program) (k : IntKind) (a b : Int) (w : World) :
    (Op.intBits op k a b).run P w = .ok (.int k (intBits op k a b)) w := by
  rcases h with rfl | rfl | rfl | rfl <;> rfl

theorem beq_dec (a b : List UInt8) : (a == b) = decide (a = b) := by rw [Bool.eq_iff_iff]; simp

theorem run_binOp_int {K : Kr} (P : Program) (op : BinOp) (t : TypeId) (k k' : IntKind) (a b : Int) (x : AVal) (h : abin op [.int k a, .int k' b] = some x) (w : World) :
    ∃ v, (binOp op t (.int k a) (.int k' b)).run P w = .ok v w ∧ VR K x v := by
  simp only [abin] at h
  split at h
  · rename_i hs
    cases op <;> simp [isShift] at hs
    · simp only [binShift] at h
      split at h
      · cases h
      · rename_i hn
        simp only [Option.some.injEq] at h; subst h
        exact ⟨_, by simp [binOp, Op.shift, hn], .int⟩
    · simp only [binShift] at h
      split at h
      · cases h
      · rename_i hn
        simp only [Option.some.injEq] at h; subst h
        exact ⟨_, by simp [binOp, Op.shift, hn], .int⟩
  · rename_i hs
    split at h
    · rename_i hk
      subst hk
      cases op <;> simp only [isShift, Bool.false_eq_true, not_false_eq_true, not_true_eq_false] at hs <;> simp only [binInt] at h
      case quo =>
        split at h
        · cases h
        · rename_i hb
          simp only [Option.some.injEq] at h; subst h
          exact ⟨_, by simp [binOp, Op.intDiv, hb], .int⟩
      case rem =>
        split at h
        · cases h
        · rename_i hb
          simp only [Option.some.injEq] at h; subst h
          exact ⟨_, by simp [binOp, Op.intDiv, hb], .int⟩
      all_goals (simp only [Option.some.injEq] at h; subst h)
      case and => exact ⟨_, by simp only [binOp, ne_eq, not_true_eq_false, if_false]; exact bits_eq _ (by simp) _ _ _ _ _, .int⟩
      case or => exact ⟨_, by simp only [binOp, ne_eq, not_true_eq_false, if_false]; exact bits_eq _ (by simp) _ _ _ _ _, .int⟩
      case xor => exact ⟨_, by simp only [binOp, ne_eq, not_true_eq_false, if_false]; exact bits_eq _ (by simp) _ _ _ _ _, .int⟩
      case andNot => exact ⟨_, by simp only [binOp, ne_eq, not_true_eq_false, if_false]; exact bits_eq _ (by simp) _ _ _ _ _, .int⟩
      case eql => exact ⟨.bool (decide (a = b)), by simp [binOp, Op.intCmp]; rfl, .bool⟩
      case neq => exact ⟨.bool (decide (a ≠ b)), by simp [binOp, Op.intCmp, bne]; rfl, .bool⟩
      all_goals first
        | exact ⟨_, by simp [binOp, Op.intArith], .int⟩
        | exact ⟨_, by simp [binOp, Op.intCmp], .bool⟩
    · cases h

theorem run_binOp_str {K : Kr} (P : Program) (op : BinOp) (t : TypeId) (a b : List UInt8) (x : AVal) (h : abin op [.str a, .str b] = some x) (w : World) :
    ∃ v, (binOp op t (.string ⟨a.toArray⟩) (.string ⟨b.toArray⟩)).run P w = .ok v w ∧ VR K x v := by
  simp only [abin] at h
  cases op <;> simp only [binStr, Option.some.injEq, reduceCtorEq] at h
  case add =>
    split at h
    · rename_i hl
      simp only [Option.some.injEq] at h; subst h
      refine ⟨.string ⟨(a ++ b).toArray⟩, ?_, .str⟩
      simp only [maxLen] at hl
      have hs : ¬ ((((⟨a.toArray⟩ : ByteArray).size + (⟨b.toArray⟩ : ByteArray).size : Nat) : Int) > IntKind.i64.max) := by
        simp [ByteArray.size, IntKind.max, IntKind.signed, IntKind.bits]; omega
      simp only [binOp, Op.stringOp]
      rw [if_neg hs]
      simp only [Sem.run_pure]
      congr 2
    · cases h
  all_goals
    subst h
    refine ⟨_, ?_, .bool⟩
    simp [binOp, Op.stringOp, beq_dec]

theorem run_equalIn_bool (P : Program) (d : Nat) (t : TypeId) (ht : P.underlying t = some .bool) (a b : Bool) (w : World) : (Op.equalIn (d + 1) t (.bool a) (.bool b)).run P w = .ok (a == b) w := by
  simp only [Op.equalIn, Sem.run_bind, run_underlying ht, Result.andThen_ok, Sem.run_pure]

theorem run_binOp_bool {K : Kr} (P : Program) (op : BinOp) (t : TypeId) (ht : P.underlying t = some .bool) (a b : Bool) (x : AVal) (h : abinb op [.bool a, .bool b] = some x) (w : World) :
    ∃ v, (binOp op t (.bool a) (.bool b)).run P w = .ok v w ∧ VR K x v := by
  simp only [abinb] at h
  cases op <;> simp only [binBool, Option.some.injEq, reduceCtorEq] at h
  all_goals
    subst h
    refine ⟨_, ?_, .bool⟩
    have e := run_equalIn_bool P 9999 t ht a b w
    simp only [binOp, Op.equal, Sem.run_bind, show Op.maxDepth = 9999 + 1 from rfl, e, Result.andThen_ok, Sem.run_pure]

theorem run_eqGuard (P : Program) (op : BinOp) (t : TypeId) (x y : Operand) (a b : Value) (w : World)
    (h : (∃ k n, a = .int k n) ∨ (∃ s, a = .string s) ∨ (∃ s, a = .bool s) ∨ (∃ p n c, a = .slice p n c)) : (eqGuard op t x y a b).run P w = .ok () w := by
  unfold eqGuard
  rcases h with ⟨k, n, rfl⟩ | ⟨s, rfl⟩ | ⟨s, rfl⟩ | ⟨p, n, c, rfl⟩ <;> cases op <;> simp

/-! ### Cells -/

def CellsAt (w : World) (a : Addr) (vs : List Value) : Prop := ∀ j v, vs[j]? = some v → w.cell? (a.add j) = some v

theorem addr_add (a : Addr) (n : Nat) (h : a.spot = none) : a.add n = ⟨a.block, a.off + n, none⟩ := by
  obtain ⟨b, o, s⟩ := a
  simp at h
  subst h
  exact Addr.add_lit b o n

theorem CellsAt.take {w : World} {a : Addr} {vs : List Value} (h : CellsAt w a vs) (n : Nat) : CellsAt w a (vs.take n) := by
  intro j v e
  rw [List.getElem?_take] at e
  split at e
  · exact h j v e
  · cases e

theorem CellsAt.drop {w : World} {b o : Nat} {vs : List Value} (h : CellsAt w ⟨b, o, none⟩ vs) (n : Nat) : CellsAt w ⟨b, o + n, none⟩ (vs.drop n) := by
  intro j v e
  rw [List.getElem?_drop] at e
  have := h _ v e
  rw [addr_add _ _ rfl] at this ⊢
  simpa [Nat.add_assoc] using this

theorem imm_cells {K : Kr} {σ : AHeap} {w : World} (r : Rel K σ w) {a : Addr} {vs : List Value} (hs : a.spot = none) (hm : ∀ j v, vs[j]? = some v → K.imm a.block (a.off + j) = some v) : CellsAt w a vs := by
  intro j v e
  rw [addr_add _ _ hs]
  exact r.imm _ _ _ (hm j v e)

/-- An owned row's cells. -/
theorem Rel.ownCells {K : Kr} {σ : AHeap} {w : World} (r : Rel K σ w) {b sz : Nat} {xs : List AVal} (h : hget σ b = some (.cells sz xs)) {cb s c : Nat} (hl : K.loc b = some ⟨some cb, s, c⟩) :
    s = sz ∧ (∀ x ∈ xs, x.elem sz) ∧ xs.length ≤ c ∧ c ≤ maxLen ∧ K.w0.heap.size ≤ cb ∧ ∃ cs ty, w.heap[cb]? = some (.cells cs ty (0, 0)) ∧ cs.size = c * sz ∧ VRel K (flat xs) (cs.toList.take (xs.length * sz)) ∧
      CellsAt w ⟨cb, 0, none⟩ (cs.toList.take (xs.length * sz)) := by
  have ho := r.own b _ (hget_mem h)
  rcases ho.2 with ⟨p, h1, hx⟩ | ⟨cb', p, cs, ty, h1, h2, h3, h4, h5, h6, h7, h8⟩
  · rw [hl] at h1; simp at h1
  · rw [hl] at h1
    simp at h1
    obtain ⟨rfl, rfl, rfl⟩ := h1
    refine ⟨rfl, ho.1, h6, h7, h2, cs, ty, h4, h5, h8, fun j v e => ?_⟩
    rw [addr_add _ _ rfl, cell_of_row w cb _ cs ty _ h4]
    rw [List.getElem?_take] at e
    split at e
    · simpa using e
    · cases e

def ptrCells (σ : AHeap) : AVal → Option (List AVal)
  | .iptr cs => some cs
  | .ptr b i o =>
    match hget σ b with
    | some (.cells _ xs) => (xs[i]?).map fun x => x.cells.drop o
    | none => none
  | _ => none

theorem ptr_cells {K : Kr} {σ : AHeap} {w : World} (r : Rel K σ w) {p : AVal} {v : Value} (hv : VR K p v) {cs : List AVal} (h : ptrCells σ p = some cs) :
    ∃ a vs, v = .pointer (some a) ∧ VRel K cs vs ∧ CellsAt w a vs ∧ ∀ c ∈ cs, c.one = true := by
  unfold VR at hv
  cases hv with
  | iptr hs h1 hm hv _ =>
    simp only [ptrCells, Option.some.injEq] at h
    subst h
    exact ⟨_, _, rfl, hv, imm_cells r hs hm, h1⟩
  | @ptr b i o cb sz pcap _ _ hl _ =>
    simp only [ptrCells] at h
    split at h
    · rename_i s xs hg
      obtain ⟨rfl, he, hx, hm, _, cs', ty, hw, hs, hv, hc⟩ := r.ownCells hg hl
      simp only [Option.map_eq_some_iff] at h
      obtain ⟨x, hxi, rfl⟩ := h
      have hx' := hv.at_ he hxi
      refine ⟨_, _, rfl, hx'.drop o, ?_, fun c hc => (he x (List.mem_of_getElem? hxi)).2 c (List.mem_of_mem_drop hc)⟩
      have := ((hc.drop (i * sz)).take sz).drop o
      simpa using this
    · cases h
  | _ => simp [ptrCells] at h

theorem part_cells {K : Kr} {ag : Bool} {sz : Nat} {cs : List AVal} {x : AVal} (h : part_ ag sz cs = some x) {vs : List Value} (hv : VRel K cs vs) (h1 : ∀ c ∈ cs, c.one = true) :
    (ag = true ∧ sz ≤ vs.length ∧ VR K x (.agg (vs.take sz).toArray)) ∨ (ag = false ∧ ∃ v, vs[0]? = some v ∧ VR K x v) := by
  unfold part_ at h
  split at h
  · rename_i ha
    split at h
    · rename_i hl
      simp only [Option.some.injEq] at h
      subst h
      refine .inl ⟨ha, by rw [← hv.length]; exact hl, .agg (fun c hc => h1 c (List.mem_of_mem_take hc)) (hv.take sz) .nil⟩
    · cases h
  · rename_i ha
    refine .inr ⟨by simpa using ha, ?_⟩
    rw [List.head?_eq_getElem?] at h
    obtain ⟨v, h2, h3⟩ := hv.get h
    exact ⟨v, h2, h3⟩

theorem run_isAgg {P : Program} {t : TypeId} {ag : Bool} (h : aggA P t = some ag) (w : World) : (isAgg t).run P w = .ok ag w := by
  unfold aggA at h
  simp only [Option.map_eq_some_iff] at h
  obtain ⟨d, hd, rfl⟩ := h
  unfold isAgg
  simp only [Sem.run_bind, run_underlying hd, Result.andThen_ok]
  cases d <;> rfl

theorem run_sizeOf' {P : Program} {t : TypeId} {s : Nat} (h : sizeA P t = some s) (w : World) : (sizeOf t).run P w = .ok s w := by
  unfold sizeA at h
  simp only [Option.map_eq_some_iff] at h
  obtain ⟨i, hi, rfl⟩ := h
  simp [sizeOf, typeInfo, hi]

theorem run_load' {P : Program} {w : World} {a : Addr} {v : Value} (h : w.cell? a = some v) : (load a).run P w = .ok v w := by simp [h]

theorem run_loadVar {P : Program} {K : Kr} {w : World} {t : TypeId} {ag : Bool} {sz : Nat} (hag : aggA P t = some ag) (hsz : sizeA P t = some sz) {a : Addr} {cs : List AVal} {vs : List Value} {x : AVal}
    (hp : part_ ag sz cs = some x) (hv : VRel K cs vs) (h1 : ∀ c ∈ cs, c.one = true) (hc : CellsAt w a vs) : ∃ v, (loadVar t a).run P w = .ok v w ∧ VR K x v := by
  unfold loadVar
  simp only [Sem.run_bind, run_isAgg hag, Result.andThen_ok]
  rcases part_cells hp hv h1 with ⟨rfl, hl, hx⟩ | ⟨rfl, v, h0, hx⟩
  · have hl' := run_loadCells_list (P := P) w a (vs.take sz) (hc.take sz)
    have hlen : (vs.take sz).length = sz := by simp; omega
    rw [hlen] at hl'
    refine ⟨_, ?_, hx⟩
    simp only [if_true, Sem.run_bind, run_sizeOf' hsz, Result.andThen_ok, hl', Sem.run_pure]
  · refine ⟨v, ?_, hx⟩
    have := hc 0 v h0
    rw [Addr.add_zero'] at this
    simp only [Bool.false_eq_true, if_false]
    exact run_load' this

theorem aload_eq (σ : AHeap) (ag : Bool) (sz : Nat) (p : AVal) : aload σ ag sz [p] = (ptrCells σ p).bind (part_ ag sz) := by
  cases p <;> simp only [aload, ptrCells, Option.bind_none, Option.bind_some]
  split <;> simp [*, Option.bind_map, Function.comp_def]

/-- The elements of a slice, in memory. -/
theorem elems_cells {K : Kr} {σ : AHeap} {w : World} (r : Rel K σ w) {sz : Nat} {x : AVal} {v : Value} (hv : VR K x v) {ys : List AVal} (h : elemsOf σ sz x = some ys) :
    ∃ a cap vs, v = .slice a ys.length cap ∧ VRel K (flat ys) vs ∧ (∀ y ∈ ys, y.elem sz) ∧ ys.length ≤ cap ∧ (ys = [] ∨ ∃ a', a = some a' ∧ a'.spot = none ∧ CellsAt w a' vs) := by
  unfold VR at hv
  cases hv with
  | slc0 hf _ =>
    simp only [elemsOf] at h
    split at h
    · simp only [Option.some.injEq] at h; subst h
      exact ⟨_, _, [], rfl, .nil, by simp, Nat.zero_le _, .inl rfl⟩
    · cases h
  | @slc s xs full a n cap vs _ _ hn he hs hm hv hc hf _ =>
    simp only [elemsOf] at h
    split at h
    · rename_i hor
      simp only [Option.some.injEq] at h; subst h
      subst hn
      refine ⟨_, _, vs, rfl, hv, ?_, hc, .inr ⟨a, rfl, hs, imm_cells r hs hm⟩⟩
      rcases hor with rfl | rfl
      · exact he
      · simp
    · cases h
  | @arr b off n cb s pcap cap _ _ hl ho hn _ =>
    simp only [elemsOf] at h
    split at h
    · rename_i s' xs hg
      split at h
      · rename_i hc
        obtain ⟨rfl, hc⟩ := hc
        simp only [Option.some.injEq] at h; subst h
        obtain ⟨rfl, he, hx, hm, _, cs', ty, hw, hs, hv, hcell⟩ := r.ownCells hg hl
        have hlen : ((xs.drop off).take n).length = n := by simp; omega
        refine ⟨_, _, ((cs'.toList.take (xs.length * s)).drop (off * s)).take (n * s), by rw [hlen], ?_, fun y hy => he y (List.mem_of_mem_drop (List.mem_of_mem_take hy)), by rw [hlen]; exact hn, .inr ⟨_, rfl, rfl, ?_⟩⟩
        · rw [flat_take (fun y hy => he y (List.mem_of_mem_drop hy)), flat_drop he]
          exact (hv.drop _).take _
        · have := (hcell.drop (off * s)).take (n * s)
          simpa using this
      · cases h
    · cases h
  | @arr0 b s pcap a _ _ hl _ =>
    simp only [elemsOf] at h
    split at h
    · rename_i s' xs hg
      split at h
      · rename_i hc
        simp only [Option.some.injEq] at h; subst h
        exact ⟨a, 0, [], by simp, by simpa using VRel.nil, by simp, by simp, .inl (by simp)⟩
      · cases h
    · cases h
  | _ => simp [elemsOf] at h

theorem run_loadCells_zero (P : Program) (w : World) (a : Addr) : (loadCells a 0).run P w = .ok #[] w := by
  simpa using run_loadCells_list (P := P) w a [] (by simp)

theorem run_firstCells {P : Program} {K : Kr} {w : World} {sz : Nat} {ys : List AVal} {vs : List Value} (he : ∀ y ∈ ys, y.elem sz) (hv : VRel K (flat ys) vs) {a : Option Addr} {cap n : Nat}
    (h : ys = [] ∨ ∃ a', a = some a' ∧ a'.spot = none ∧ CellsAt w a' vs) : (Builtin.firstCells sz ys.length (.slice a n cap)).run P w = .ok vs.toArray w := by
  have hl : vs.length = ys.length * sz := by rw [← hv.length, flat_length he]
  rcases h with rfl | ⟨a', rfl, _, hc⟩
  · have : vs = [] := by simpa using hl
    subst this
    cases a with
    | none => simp [Builtin.firstCells]
    | some a => simp only [Builtin.firstCells, List.length_nil, Nat.zero_mul]; exact run_loadCells_zero P w a
  · simp only [Builtin.firstCells]
    rw [← hl]
    exact run_loadCells_list (P := P) w a' vs hc

theorem toByte_some {c : AVal} {u : UInt8} (h : toByte c = some u) : ∃ n, c = .int .u8 n ∧ u = UInt8.ofNat n.toNat := by
  unfold toByte at h
  split at h
  · rename_i n
    simp only [Option.some.injEq] at h
    exact ⟨n, rfl, h.symm⟩
  · cases h

theorem toBytes_vals {K : Kr} : ∀ {l : List AVal} {bs : List UInt8} {m : List Value}, toBytes l = some bs → VRel K l m →
    ∃ ns : List Int, m = ns.map (Value.int .u8) ∧ bs = ns.map fun n => UInt8.ofNat n.toNat
  | [], bs, m, h, hv => by
    simp [toBytes] at h; subst h
    exact ⟨[], hv.nil_inv, rfl⟩
  | c :: l, bs, m, h, hv => by
    simp only [toBytes, List.mapM_cons, Option.bind_eq_bind, Option.bind_eq_some_iff, Option.pure_def, Option.some.injEq] at h
    obtain ⟨u, hu, bs', hbs, rfl⟩ := h
    obtain ⟨v, m', rfl, h1, h2⟩ := hv.ex
    obtain ⟨n, rfl, rfl⟩ := toByte_some hu
    obtain ⟨ns, rfl, rfl⟩ := toBytes_vals hbs h2
    exact ⟨n :: ns, by rw [h1.int_inv]; rfl, rfl⟩

theorem foldl_push (ns : List Int) : ∀ s : ByteArray, ns.foldl (fun r n => r.push (UInt8.ofNat n.toNat)) s = ⟨s.data ++ (ns.map fun n => UInt8.ofNat n.toNat).toArray⟩ := by
  induction ns with
  | nil => intro s; simp
  | cons n ns ih =>
    intro s
    simp only [List.foldl_cons, ih, List.map_cons]
    apply ByteArray.ext
    simp

end Go.Abs
