/-
  A program logic over abstract states, part H: an operation that keeps the state, whichever it is.
-/
import Derived.Test.YtgmefkhincnajaaDoorAbsG
namespace Go.Abs
open Go Go.RowKit

set_option linter.unusedVariables false
set_option linter.unusedSimpArgs false
variable {P : Program} {K : Kr} {σ : AHeap} {w : World}

def QNext (P : Program) (K : Kr) (σ : AHeap) (w : World) (x : AVal) (res : Result Next) : Prop :=
  ∃ v w' K', res = .ok (.value v) w' ∧ K.le K' ∧ Rel K' σ w' ∧ VR K' x v

theorem QOk.next {s : Sem Value} {x : AVal} (h : QOk P K σ w x (s.run P w)) : QNext P K σ w x ((do pure (Next.value (← s)) : Sem Next).run P w) := by
  obtain ⟨v, w', K', e, h1, h2, h3⟩ := h
  exact ⟨v, w', K', by simp [e], h1, h2, h3⟩

theorem elemA_some {t e : TypeId} (h : elemA P t = some e) : P.underlying t = some (.slice e) := by
  unfold elemA at h
  split at h
  · simp only [Option.some.injEq] at h; subst h; assumption
  · cases h

theorem zeroA_some {t : TypeId} {z : AVal} (h : zeroA P t = some z) : ∃ i zv, P.info? t = some i ∧ i.zero = some zv ∧ constA zv = some z := by
  unfold zeroA at h
  simp only [Option.bind_eq_some_iff] at h
  obtain ⟨i, hi, zv, hz, hc⟩ := h
  exact ⟨i, zv, hi, hz, hc⟩

theorem run_zeroValue {t : TypeId} {i : TypeInfo} {zv : Value} (hi : P.info? t = some i) (hz : i.zero = some zv) : (zeroValue t).run P w = .ok zv w := by
  simp [zeroValue, typeInfo, hi, hz]

theorem placesA_some {t : TypeId} : ∀ {l : List Nat} {ps : List (Nat × Nat)}, placesA P t l = some ps → ps.length = l.length ∧ ∀ (j : Nat) i p, l[j]? = some i → ps[j]? = some p →
    ∃ f, fieldA P t i = some f ∧ sizeA P f.type = some p.2 ∧ p.1 = f.offset
  | [], ps, h => by
    simp [placesA] at h; subst h
    exact ⟨rfl, by simp⟩
  | i :: l, ps, h => by
    simp only [placesA, Option.bind_eq_bind, Option.bind_eq_some_iff, Option.pure_def, Option.some.injEq] at h
    obtain ⟨f, hf, s, hs, r, hr, rfl⟩ := h
    obtain ⟨h1, h2⟩ := placesA_some hr
    refine ⟨by simp [h1], fun j i' p e1 e2 => ?_⟩
    cases j with
    | zero => simp at e1 e2; subst e1 e2; exact ⟨f, hf, hs, rfl⟩
    | succ j => exact h2 j i' p (by simpa using e1) (by simpa using e2)

theorem run_places (fs : List Field) {w : World} (h : ∀ f ∈ fs, ∃ s, sizeA P f.type = some s) :
    (fs.mapM (fun f => do pure (f.offset, ← sizeOf f.type) : Field → Sem (Nat × Nat))).run P w = .ok (fs.map fun f => (f.offset, (sizeA P f.type).getD 0)) w := by
  induction fs with
  | nil => simp
  | cons f fs ih =>
    obtain ⟨s, hs⟩ := h f (by simp)
    simp only [List.mapM_cons, Sem.run_bind, run_sizeOf' hs, Result.andThen_ok, Sem.run_pure, ih (fun g hg => h g (by simp [hg])), hs, List.map_cons, Option.getD_some]

theorem q_bld {t : TypeId} {z : List AVal} {ps : List (Nat × Nat)} {ids : List Nat} (hz : zeroA P t = some (.agg z)) (hp : placesA P t ids = some ps) (hall : ∀ f ∈ (match P.underlying t with | some (.struct fs) => fs.toList | _ => []), ∃ s, sizeA P f.type = some s)
    (hstr : ∃ fs, P.underlying t = some (.struct fs))
    {vs : List AVal} {us : List Value} (hv : VRel K vs us) (hlen : us.length = ids.length) {x : AVal} (h : abld z ps vs = some x) (r : Rel K σ w) :
    QOk P K σ w x ((Instr.build t (ids.zip us).toArray).run P w) := by
  obtain ⟨fs, hu⟩ := hstr
  obtain ⟨i, zv, hi, hzz, hc⟩ := zeroA_some hz
  have hzr := constA_ok (K := K) hc
  obtain ⟨zs, rfl, h1, h2⟩ := hzr.1.agg_inv
  obtain ⟨hl, hpl⟩ := placesA_some hp
  unfold abld at h
  simp only [Option.map_eq_some_iff] at h
  obtain ⟨cs, hcs, rfl⟩ := h
  rw [hu] at hall
  simp only at hall
  have hrun := run_places (P := P) (w := w) fs.toList hall
  obtain ⟨ws, hf, hw, ho⟩ := fill_sound (K := K) (fun i => (fs.toList.map fun f => (f.offset, (sizeA P f.type).getD 0)).toArray[i]?) ps ids vs us z zs cs hl (by
    intro j i p e1 e2
    obtain ⟨f, hf, hs, hp1⟩ := hpl j i p e1 e2
    unfold fieldA at hf
    rw [hu] at hf
    simp only at hf
    have : fs.toList[i]? = some f := by simpa using hf
    simp only [List.getElem?_toArray, List.getElem?_map, this, Option.map_some, hs, Option.getD_some, ← hp1]) hv h1 h2 hcs
  refine QOk.same (v := .agg ws.toArray) r ?_ (VRel.agg ho hw .nil)
  have hm : (fs.mapM (fun f => do pure (f.offset, ← sizeOf f.type) : Field → Sem (Nat × Nat))).run P w = .ok (fs.toList.map fun f => (f.offset, (sizeA P f.type).getD 0)).toArray w := by
    rw [Array.mapM_eq_mapM_toList]
    simp only [Sem.run_map, hrun, Result.andThen_ok]
  unfold Instr.build
  simp only [Sem.run_bind, run_zeroValue hi hzz, Result.andThen_ok, run_underlying hu, hm]
  have hf' : Instr.fill (fun x => (fs.toList.map fun f => (f.offset, (sizeA P f.type).getD 0)).toArray[x]?) (Value.agg zs.toArray).cells (ids.zip us) = some ws.toArray := hf
  simp only [hf', Sem.run_pure]

/-- Parts in order, one behind the other. -/
theorem fill_seq (sz : Nat) : ∀ (us : List Value) (k : Nat) (acc : List Value), (∀ u ∈ us, u.cells.size = sz) → acc.length = (k + us.length) * sz →
    Instr.fill (fun i => some (i * sz, sz)) acc.toArray ((List.range' k us.length).zip us) = some (acc.take (k * sz) ++ us.flatMap fun u => u.cells.toList).toArray
  | [], k, acc, _, hl => by
    simp only [List.length_nil, List.range'_zero, List.zip_nil_left, Instr.fill, List.flatMap_nil, List.append_nil, Nat.add_zero] at hl ⊢
    rw [List.take_of_length_le (by omega)]
  | u :: us, k, acc, hu, hl => by
    have h1 := hu u (by simp)
    have hle : k * sz + sz ≤ acc.length := by rw [hl]; simp only [List.length_cons, Nat.add_mul]; omega
    simp only [List.length_cons, List.range'_succ, List.zip_cons_cons, Instr.fill]
    rw [if_neg (by rw [h1]; simp; omega), fold_put acc u.cells (k * sz) (by rw [h1]; exact hle)]
    rw [fill_seq sz us (k + 1) _ (fun v hv => hu v (by simp [hv])) (by
      simp only [List.length_append, List.length_take, Array.length_toList, List.length_drop, h1]
      rw [Nat.min_eq_left (by omega)]
      simp only [List.length_cons] at hl
      have : (k + 1 + us.length) * sz = (k + (us.length + 1)) * sz := by congr 1; omega
      omega)]
    congr 2
    have e : ((acc.take (k * sz) ++ u.cells.toList ++ acc.drop (k * sz + u.cells.size)).take ((k + 1) * sz)) = acc.take (k * sz) ++ u.cells.toList := by
      rw [List.take_append_of_le_length (by simp [h1, Nat.add_mul]; omega)]
      exact List.take_of_length_le (by simp [h1, Nat.add_mul]; omega)
    rw [e]
    simp

theorem flat_vals {sz : Nat} : ∀ {vs : List AVal} {us : List Value}, VRel K vs us → (∀ v ∈ vs, v.elem sz) → VRel K (flat vs) (us.flatMap fun u => u.cells.toList) ∧ ∀ u ∈ us, u.cells.size = sz
  | [], us, hv, _ => by rw [hv.nil_inv]; exact ⟨.nil, by simp⟩
  | v :: vs, us, hv, he => by
    obtain ⟨u, us', rfl, h1, h2⟩ := hv.ex
    obtain ⟨h3, h4⟩ := flat_vals (sz := sz) h2 (fun x hx => he x (by simp [hx]))
    refine ⟨by rw [flat_cons, List.flatMap_cons]; exact h1.cells.append h3, ?_⟩
    intro x hx
    rcases List.mem_cons.1 hx with rfl | hx
    · rw [← Array.length_toList, ← h1.cells.length]; exact (he v (by simp)).1
    · exact h4 x hx

theorem run_buildSlice {t e : TypeId} {sz n : Nat} {z : AVal} (ht : P.underlying t = some (.slice e)) (hs : sizeA P e = some sz) (hz : zeroA P e = some z) {us : List Value} (hn : us.length = n) (hu : ∀ u ∈ us, u.cells.size = sz)
    (hsz : n * sz ≤ 2 ^ 24) : (Instr.buildSlice t n ((List.range n).zip us).toArray).run P w = .ok (.slice (some ⟨w.heap.size, 0, none⟩) n n) (w.alloc (.cells (us.flatMap fun u => u.cells.toList).toArray e)) := by
  obtain ⟨i, zv, hi, hzz, hc⟩ := zeroA_some hz
  have hf := fill_seq sz us 0 ((Array.range (n * sz)).map (zv.cells[· % zv.cells.size]!)).toList hu (by simp [hn])
  rw [hn] at hf
  rw [← List.range_eq_range', Array.toArray_toList] at hf
  simp only [Nat.zero_mul, List.take_zero, List.nil_append] at hf
  have hnot : ¬ (n * sz > 2 ^ 24) := by omega
  by_cases h0 : n * sz = 0
  · have hf' : Instr.fill (fun i => some (i * sz, sz)) ((Array.range (n * sz)).map ((#[] : Array Value)[· % (#[] : Array Value).size]!)) ((List.range n).zip us) = some (us.flatMap fun u => u.cells.toList).toArray := by
      rw [h0] at hf ⊢
      simpa [show Array.range 0 = #[] from rfl] using hf
    unfold Instr.buildSlice
    simp only [Sem.run_bind, run_underlying ht, Result.andThen_ok, run_sizeOf' hs, if_neg hnot, if_pos h0, Sem.run_pure, hf']
    simp [newRow]
  · have hf' : Instr.fill (fun i => some (i * sz, sz)) ((Array.range (n * sz)).map (zv.cells[· % zv.cells.size]!)) ((List.range n).zip us) = some (us.flatMap fun u => u.cells.toList).toArray := hf
    unfold Instr.buildSlice
    simp only [Sem.run_bind, run_underlying ht, Result.andThen_ok, run_sizeOf' hs, if_neg hnot, if_neg h0, Sem.run_pure, run_zeroValue hi hzz, hf']
    simp [newRow]

end Go.Abs
