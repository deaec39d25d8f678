/-
  A program logic over abstract states, part J: operations that turn the state.
-/
import Derived.Test.YtgmefkhincnajaaDoorAbsI
namespace Go.Abs
open Go Go.RowKit

set_option linter.unusedVariables false
set_option linter.unusedSimpArgs false
variable {P : Program} {K : Kr} {σ : AHeap} {w : World} {R : AVal → AHeap → Prop}

theorem AVal.elem_cells_one {sz : Nat} {x : AVal} (h : x.elem sz) : (∃ l, x = .agg l ∧ l.length = sz) ∨ (x.one = true ∧ sz = 1) := by
  obtain ⟨h1, h2⟩ := h
  cases x <;> first
    | (simp only [AVal.cells] at h1 h2; exact .inl ⟨_, rfl, h1⟩)
    | (simp only [AVal.cells, List.length_cons, List.length_nil] at h1 h2; exact .inr ⟨h2 _ (by simp), h1.symm⟩)

theorem putCells_cells {sz : Nat} {x : AVal} (hx : x.elem sz) {o : Nat} {vc : List AVal} (h1 : ∀ c ∈ vc, c.one = true) (ho : x.one = true → o = 0 ∧ vc.length = 1) :
    (putCells x o vc).cells = x.cells.take o ++ vc ++ x.cells.drop (o + vc.length) := by
  rcases AVal.elem_cells_one hx with ⟨l, rfl, _⟩ | ⟨h, _⟩
  · rfl
  · obtain ⟨rfl, hl⟩ := ho h
    obtain ⟨c, rfl⟩ := list_of_len1 hl
    have hc := h1 c (by simp)
    rw [AVal.cells_of_one h]
    have e : putCells x 0 [c] = c := by cases x <;> first | rfl | (simp [AVal.one] at h)
    rw [e, AVal.cells_of_one hc]
    simp

theorem good_new {sz pcap : Nat} {cs : Array Value} {ty : TypeId} {xs : List AVal} {f : Nat → AVal} {v : Value} (r : Rel K σ w) (h : enew sz xs σ fun b σ' => R (f b) σ') (he : ∀ x ∈ xs, x.elem sz)
    (hs : cs.size = pcap * sz) (hx : xs.length ≤ pcap) (hm : pcap ≤ maxLen) (hv : VRel K (flat xs) (cs.toList.take (xs.length * sz)))
    (hval : ∀ K' : Kr, K'.loc K.nn = some ⟨some w.heap.size, sz, pcap⟩ → VR K' (f K.nn) v) :
    ∃ K' r' σ', K.le K' ∧ Rel K' σ' (w.alloc (.cells cs ty)) ∧ VR K' r' v ∧ R r' σ' :=
  ⟨K.add ⟨some w.heap.size, sz, pcap⟩, f K.nn, _, Kr.le_add r _, r.newOwned sz pcap cs ty xs he hs hx hm hv, hval _ (Kr.add_new _ _), h K.nn r.fresh⟩

theorem e_store {t : TypeId} {sz : Nat} (hs : sizeA P t = some sz) {vs : List AVal} {p q : Value} (hv : VRel K vs [p, q]) (h : estore sz vs σ R) (r : Rel K σ w) : ∃ w' K' σ', (Instr.storeAt t p q).run P w = .ok () w' ∧ K.le K' ∧ Rel K' σ' w' ∧ R (.tup []) σ' := by
  unfold estore at h
  split at h
  · rename_i b i o v
    obtain ⟨s, xs, x, hg, hxi, hos, hve, hone, hR⟩ := h
    obtain ⟨u1, u2, e1, h1, h2⟩ := hv.two_inv
    simp at e1; obtain ⟨rfl, rfl⟩ := e1
    unfold VR at h1
    cases h1 with
    | @ptr _ _ _ cb s' pcap _ _ hl _ =>
      obtain ⟨rfl, he, hx, hm, hbase, cs, ty, hw, hsz, hvv, hc⟩ := r.ownCells hg hl
      have hxe := he x (List.mem_of_getElem? hxi)
      have hcells := h2.cells
      have hus : q.cells.size = sz := by rw [← Array.length_toList, ← hcells.length]; exact hve.1
      have hilt := (List.getElem?_eq_some_iff.1 hxi).1
      have hfit : i * s' + o + sz ≤ xs.length * s' := by
        have : (i + 1) * s' ≤ xs.length * s' := Nat.mul_le_mul_right _ hilt
        rw [Nat.add_mul] at this
        omega
      have hfl : (flat xs).length = xs.length * s' := flat_length he
      have hcap : xs.length * s' ≤ cs.size := by rw [hsz]; exact Nat.mul_le_mul_right _ hx
      have hst := run_storeCells_at P cb (i * s' + o) ty q.cells.toList 0 cs w hw (by simp [hus]; omega) (hcells.ones hve.2)
      refine ⟨w.setRow cb (cs.toList.take (i * s' + o) ++ q.cells.toList ++ cs.toList.drop (i * s' + o + sz)).toArray, K, _, ?_, Kr.le.refl K, ?_, hR⟩
      · simp only [Instr.storeAt, Instr.sureAddr, storeVar, Sem.run_bind, Sem.run_pure, Result.andThen_ok, run_sizeOf' hs, hus, ne_eq, not_true_eq_false, if_false, hst]
        simp [hus]
      · have hput := putCells_cells hxe hve.2 (fun h => ⟨(hone h).1, by rw [hve.1]; exact (hone h).2⟩)
        rw [hve.1] at hput
        have hpe : (putCells x o v.cells).elem s' := by
          refine ⟨?_, ?_⟩
          · rw [hput]; simp [hxe.1, hve.1]; omega
          · rw [hput]
            intro c hc
            simp only [List.mem_append] at hc
            rcases hc with (hc | hc) | hc
            · exact hxe.2 c (List.mem_of_mem_take hc)
            · exact hve.2 c hc
            · exact hxe.2 c (List.mem_of_mem_drop hc)
        refine r.write (hget_mem hg) hl (fun y hy => ?_) _ ?_ (by simpa using hx) ?_
        · rcases List.mem_or_eq_of_mem_set hy with hy | rfl
          · exact he y hy
          · exact hpe
        · simp [hus]; omega
        · have hfs : flat (xs.set i (putCells x o v.cells)) = (flat xs).take (i * s' + o) ++ v.cells ++ (flat xs).drop (i * s' + o + sz) := by
            rw [flat_set he hilt, hput]
            have hA := flat_at he hxi
            have e1 : (flat xs).take (i * s' + o) = (flat xs).take (i * s') ++ x.cells.take o := by
              rw [List.take_add, ← hA, List.take_take, Nat.min_eq_left (by omega)]
            have e2 : (flat xs).drop (i * s' + o + sz) = x.cells.drop (o + sz) ++ (flat xs).drop (i * s' + s') := by
              rw [← hA, List.drop_take, List.drop_drop, Nat.add_assoc]
              have hh : (flat xs).drop (i * s' + s') = ((flat xs).drop (i * s' + (o + sz))).drop (s' - (o + sz)) := by
                rw [List.drop_drop]; congr 1; omega
              rw [hh, List.take_append_drop]
            rw [e1, e2]
            simp [List.append_assoc]
          rw [hfs]
          simp only [List.length_set]
          have e3 : (cs.toList.take (i * s' + o) ++ q.cells.toList ++ cs.toList.drop (i * s' + o + sz)).take (xs.length * s') =
              (cs.toList.take (xs.length * s')).take (i * s' + o) ++ q.cells.toList ++ (cs.toList.take (xs.length * s')).drop (i * s' + o + sz) := by
            rw [List.take_take, Nat.min_eq_left (by omega), List.take_append, List.take_of_length_le (by simp [hus]; omega)]
            congr 1
            rw [List.drop_take]
            congr 1
            simp [hus]
            omega
          rw [e3]
          exact ((hvv.take _).append hcells).append (hvv.drop _)
  · exact h.elim

theorem e_alloc {e : TypeId} {z : AVal} (hz : zeroA P e = some z) (hone : ∀ c ∈ z.cells, c.one = true) (h : enew z.cells.length [z] σ fun b σ' => R (.ptr b 0 0) σ') (r : Rel K σ w) : GoodV K R ((Instr.alloc e true (.tuple #[])).run P w) := by
  obtain ⟨i, zv, hi, hzz, hc⟩ := zeroA_some hz
  have hzr := (constA_ok (K := K) hc).1.cells
  have e1 : (Instr.alloc e true (.tuple #[])).run P w = .ok (.pointer (some ⟨w.heap.size, 0, none⟩)) (w.alloc (.cells zv.cells e)) := by
    unfold Instr.alloc
    simp only [Sem.run_bind, run_zeroValue hi hzz, Result.andThen_ok]
    simp [newVar, newRow]
  rw [e1]
  exact good_new r h (by simp [AVal.elem]; exact hone) (pcap := 1) (by rw [← Array.length_toList, ← hzr.length]; simp) (by simp) (by decide) (by
    have hl : zv.cells.toList.length = z.cells.length := hzr.length.symm
    simp only [flat_cons, flat_nil, List.append_nil, List.length_cons, List.length_nil, Nat.zero_add, Nat.one_mul]
    rw [List.take_of_length_le (by omega)]
    exact hzr) (fun K' hl => by
      have := VRel.ptr (K := K') (i := 0) (o := 0) hl .nil
      simpa [VR] using this)

theorem e_box {e : TypeId} {sz : Nat} (hs : sizeA P e = some sz) {vs : List AVal} {p : Value} (hv : VRel K vs [p]) (h : ebox sz vs σ R) (r : Rel K σ w) : GoodV K R ((Instr.box e p).run P w) := by
  unfold ebox at h
  split at h
  · rename_i v
    obtain ⟨he, h⟩ := h
    obtain ⟨u, e1, h1⟩ := hv.one_inv
    simp at e1; subst e1
    have hc := h1.cells
    have e1 : (Instr.box e p).run P w = .ok (.pointer (some ⟨w.heap.size, 0, none⟩)) (w.alloc (.cells p.cells e)) := by
      simp [Instr.box, newVar, newRow]
    rw [e1]
    have hl : p.cells.size = sz := by rw [← Array.length_toList, ← hc.length]; exact he.1
    exact good_new r h (by simp; exact he) (pcap := 1) (by rw [hl]; simp) (by simp) (by decide) (by
      simp only [flat_cons, flat_nil, List.append_nil, List.length_cons, List.length_nil, Nat.zero_add, Nat.one_mul]
      rw [List.take_of_length_le (by simp [hl])]
      exact hc) (fun K' hl => by
        have := VRel.ptr (K := K') (i := 0) (o := 0) hl .nil
        simpa [VR] using this)
  · exact h.elim

theorem e_bslo {t e : TypeId} {sz n : Nat} {z : AVal} (ht : P.underlying t = some (.slice e)) (hs : sizeA P e = some sz) (hz : zeroA P e = some z) {vs : List AVal} {us : List Value} (hv : VRel K vs us) (hn : us.length = n)
    (hsz : n * sz ≤ 2 ^ 24) (h0 : 0 < sz) (h : ebslo sz vs σ R) (r : Rel K σ w) : GoodV K R ((Instr.buildSlice t n ((List.range n).zip us).toArray).run P w) := by
  obtain ⟨he, h⟩ := h
  obtain ⟨hf, hsize⟩ := flat_vals hv he
  rw [run_buildSlice ht hs hz hn hsize hsz]
  have hl : vs.length = n := by rw [hv.length, hn]
  have hfl : (us.flatMap fun u => u.cells.toList).length = n * sz := by rw [← hf.length, flat_length he, hl]
  have hnn : n ≤ maxLen := by
    have : n * 1 ≤ n * sz := Nat.mul_le_mul_left _ h0
    simp only [maxLen]; omega
  exact good_new r h he (pcap := n) (by simpa using hfl) (by omega) hnn (by
    rw [hl]
    rw [List.take_of_length_le (by simp [hfl])]
    exact hf) (fun K' hl' => by
      have := VRel.arr (K := K') (off := 0) (n := vs.length) (cap := n) hl' (by omega) (by omega) .nil
      simpa [VR, hl] using this)

/-- A block that nobody owns is marked behind its end. -/
theorem Rel.mark (r : Rel K σ w) {cb : Nat} (hb : K.w0.heap.size ≤ cb) (hno : ∀ c blk s p, (c, blk) ∈ σ → K.loc c ≠ some ⟨some cb, s, p⟩) {cs0 : Array Value} {ty0 : TypeId} {fr0 : Nat × Nat} (hw0 : w.heap[cb]? = some (.cells cs0 ty0 fr0)) (n m : Nat) : Rel K σ (w.freeze ⟨cb, n, none⟩ m) := by
  have hne : ∀ k, k ≠ cb → (w.freeze ⟨cb, n, none⟩ m).heap[k]? = w.heap[k]? := by
    intro k hk
    unfold World.freeze
    split
    · rfl
    · simp only [Array.getElem?_modify]
      rw [if_neg (fun e => hk e.symm)]
  have hsize : (w.freeze ⟨cb, n, none⟩ m).heap.size = w.heap.size := by
    unfold World.freeze
    split <;> simp
  have hos : (w.freeze ⟨cb, n, none⟩ m).os = w.os ∧ (w.freeze ⟨cb, n, none⟩ m).tape = w.tape ∧ (w.freeze ⟨cb, n, none⟩ m).output = w.output := by
    unfold World.freeze
    split <;> exact ⟨rfl, rfl, rfl⟩
  have hcell : ∀ b o, (w.freeze ⟨cb, n, none⟩ m).cell? ⟨b, o, none⟩ = w.cell? ⟨b, o, none⟩ := by
    intro b o
    by_cases hk : b = cb
    · subst hk
      unfold World.freeze
      split
      · rfl
      · simp only [World.cell?, Array.getElem?_modify, if_true]
        cases w.heap[b]? with
        | none => rfl
        | some ob => cases ob <;> rfl
    · exact cell?_of_heap (hne b hk)
  refine ⟨r.ext.trans ⟨hos.1, hos.2.1, hos.2.2, by omega, fun k hk => hne k (by omega)⟩, r.oth.turn hw0 (by omega) hne, fun b o v h => ?_, r.nd, r.bnd, fun b L d h hd => by rw [hsize]; exact r.lit b L d h hd, fun b blk h => ?_, r.inj⟩
  · rw [hcell]; exact r.imm b o v h
  · refine (r.own b blk h).keep (Kr.le.refl K) fun d s c hl => ⟨hne d ?_, fun h => h⟩
    rintro rfl
    exact hno b blk s c h hl

theorem VR.slc_of_arr {K' : Kr} {cb sz n cap : Nat} {xs : List AVal} {vs : List Value} {full : Bool} (hn : xs.length = n) (he : ∀ x ∈ xs, x.elem sz) (hv : VRel K' (flat xs) vs) (off : Nat)
    (hm : ∀ j v, vs[j]? = some v → K'.imm cb (off + j) = some v) (hc : n ≤ cap) (hf : full = true → cap = n) : VR K' (.slc sz xs full) (.slice (some ⟨cb, off, none⟩) n cap) := by
  by_cases hx : xs = []
  · subst hx
    simp at hn; subst hn
    exact VRel.slc0 hf .nil
  · exact VRel.slc hn he rfl hm hv hc hf .nil

theorem e_strish {t e : TypeId} {sz : Nat} (ht : P.underlying t = some (.slice e)) (he : P.underlying e = some (.int .u8)) {vs : List AVal} {p : Value} (hv : VRel K vs [p]) (h : estrish sz vs σ R) (r : Rel K σ w) : GoodV K R ((convert t t p).run P w) := by
  unfold estrish at h
  split at h
  · rename_i s b n
    obtain ⟨xs, hg, hl, h0, hR⟩ := h
    obtain ⟨u, e1, h1⟩ := hv.one_inv
    simp at e1; subst e1
    unfold VR at h1
    cases h1 with
    | @arr _ _ _ cb _ pcap cap _ _ hloc ho hn _ =>
      obtain ⟨hss, hel, hx, hm, hbase, cs, ty, hw, hsz, hvv, hc⟩ := r.ownCells hg hloc
      have hmem := hget_mem hg
      obtain ⟨vs', hvs, hK, hR'⟩ := r.freeze hmem (by rw [hloc, hss])
      have hmark := hR'.mark (cb := cb) hbase (fun c blk s1 p1 hcm hlc => by
        obtain ⟨hne, hcm⟩ := mem_hdel r.nd hcm
        exact hne (r.inj _ _ _ _ _ _ _ _ _ hcm hmem hlc hloc)) hw cs.size 1
      have hrun : (convert t t (.slice (some ⟨cb, 0 * s, none⟩) n cap)).run P w = .ok (.slice (some ⟨cb, 0 * s, none⟩) n cap) (w.freeze ⟨cb, cs.size, none⟩ 1) := by
        have hsh : w.shape? cb = some (ty, cs.size) := by simp [World.shape?, hw]
        simp [convert, run_underlying ht, run_underlying he, markStringish, hsh]
      rw [hrun]
      refine ⟨_, _, _, hK, hmark, ?_, hR⟩
      have := VR.slc_of_arr (K' := K.addImm cb vs') (cb := cb) (cap := cap) (full := false) hl hel (hvs.mono hK) 0 (fun j v e => by simpa [Kr.addImm] using e) hn (by simp)
      simpa using this
    | arr0 _ _ => omega
  · exact h.elim

theorem run_equalIn_nil (d : Nat) {t e : TypeId} (ht : P.underlying t = some (.slice e)) (a : Option Addr) (n c : Nat) : (Op.equalIn (d + 1) t (.slice a n c) (.slice none 0 0)).run P w = .ok a.isNone w := by
  cases a <;> simp only [Op.equalIn, Sem.run_bind, run_underlying ht, Result.andThen_ok] <;> rfl

theorem e_isnil {t e : TypeId} {op : BinOp} {neg : Bool} (hop : (op = .eql ∧ neg = false) ∨ (op = .neq ∧ neg = true)) (ht : P.underlying t = some (.slice e)) (y z : Operand) {vs : List AVal} {p : Value} (hv : VRel K vs [p, .slice none 0 0]) (h : eisnil neg vs σ R) (r : Rel K σ w) :
    GoodV K R ((do eqGuard op t y z p (.slice none 0 0); binOp op t p (.slice none 0 0) : Sem Value).run P w) := by
  have hrun : ∀ a n c, (do eqGuard op t y z (.slice a n c) (.slice none 0 0); binOp op t (.slice a n c) (.slice none 0 0) : Sem Value).run P w = .ok (.bool (if neg then a.isSome else a.isNone)) w := by
    intro a n c
    have e1 : (Op.equal t (.slice a n c) (.slice none 0 0)).run P w = .ok a.isNone w := by
      exact run_equalIn_nil 9999 ht a n c
    rcases hop with ⟨rfl, rfl⟩ | ⟨rfl, rfl⟩
    · simp only [Sem.run_bind, run_eqGuard P _ t y z _ _ w (.inr (.inr (.inr ⟨_, _, _, rfl⟩))), Result.andThen_ok, binOp, e1, Sem.run_pure]; rfl
    · simp only [Sem.run_bind, run_eqGuard P _ t y z _ _ w (.inr (.inr (.inr ⟨_, _, _, rfl⟩))), Result.andThen_ok, binOp, e1, Sem.run_pure]
      cases a <;> rfl
  unfold eisnil at h
  split at h
  · rename_i s xs f s'
    obtain ⟨u1, u2, e1, h1, h2⟩ := hv.two_inv
    simp at e1; obtain ⟨rfl, rfl⟩ := e1
    unfold VR at h1
    cases h1 with
    | slc0 _ _ => rw [hrun]; exact ⟨K, _, σ, Kr.le.refl K, r, VR.bool, h.2 rfl _⟩
    | slc _ _ _ _ _ _ _ _ =>
      rw [hrun]
      by_cases hx : xs = []
      · exact ⟨K, _, σ, Kr.le.refl K, r, VR.bool, h.2 hx _⟩
      · have := h.1 hx
        refine ⟨K, .bool neg, σ, Kr.le.refl K, r, ?_, this⟩
        cases neg <;> exact VR.bool
  · rename_i s b o n s'
    obtain ⟨u1, u2, e1, h1, h2⟩ := hv.two_inv
    simp at e1; obtain ⟨rfl, rfl⟩ := e1
    unfold VR at h1
    cases h1 with
    | arr0 _ _ => rw [hrun]; exact ⟨K, _, σ, Kr.le.refl K, r, VR.bool, h.2 rfl _⟩
    | arr _ _ _ _ =>
      rw [hrun]
      by_cases hx : n = 0
      · exact ⟨K, _, σ, Kr.le.refl K, r, VR.bool, h.2 hx _⟩
      · have := h.1 (by omega)
        refine ⟨K, .bool neg, σ, Kr.le.refl K, r, ?_, this⟩
        cases neg <;> exact VR.bool
  · exact h.elim

end Go.Abs
