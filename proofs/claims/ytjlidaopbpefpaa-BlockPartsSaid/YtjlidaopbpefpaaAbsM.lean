/-
  A program logic over abstract states, part M: frames; regions in the order of the text.
-/
import Derived.Test.YtjlidaopbpefpaaAbsL
namespace Go.Abs
open Go Go.RowKit

set_option linter.unusedVariables false
set_option linter.unusedSimpArgs false
variable {P : Program} {K : Kr} {σ : AHeap} {w : World} {N : Nat}

structure FRel (K : Kr) (N : Nat) (F : AFrame) (tmps : Array Value) : Prop where
  size : tmps.size = N
  at_ : ∀ i x, F i = some x → VR K x (tmps.getD i undef)

theorem VR.mono {K K' : Kr} {x : AVal} {v : Value} (h : VR K x v) (hK : K.le K') : VR K' x v := VRel.mono hK h
theorem FRel.mono {F : AFrame} {tmps : Array Value} (h : FRel K N F tmps) {K' : Kr} (hK : K.le K') : FRel K' N F tmps := ⟨h.size, fun i x e => (h.at_ i x e).mono hK⟩

/-- The state, as the world has it. -/
def St (K0 : Kr) (N : Nat) (Q : AFrame → AHeap → Prop) (a : Act) (w : World) : Prop :=
  ∃ K F σ, K0.le K ∧ Rel K σ w ∧ FRel K N F a.tmps ∧ a.defers = [] ∧ Q F σ

theorem St.mono {K0 : Kr} {Q Q' : AFrame → AHeap → Prop} {a : Act} (h : St K0 N Q a w) (hQ : ∀ F σ, Q F σ → Q' F σ) : St K0 N Q' a w := by
  obtain ⟨K, F, σ, h1, h2, h3, h4, h5⟩ := h
  exact ⟨K, F, σ, h1, h2, h3, h4, hQ _ _ h5⟩

theorem St.drew {K0 : Kr} {Q : AFrame → AHeap → Prop} {a : Act} (h : St K0 N Q a w) : St K0 N Q a w.drew := by
  obtain ⟨K, F, σ, h1, h2, h3, h4, h5⟩ := h
  exact ⟨K, F, σ, h1, h2.drew, h3, h4, h5⟩

theorem opd_sound {F : AFrame} {a : Act} (hF : FRel K N F a.tmps) {x : Operand} {y : AOpd} (h : opdA x = some y) {v : AVal} (he : ev F y = some v) : VR K v (a.eval x) := by
  unfold opdA at h
  split at h
  · simp only [Option.some.injEq] at h; subst h
    exact hF.at_ _ _ he
  · rename_i u
    simp only [Option.map_eq_some_iff] at h
    obtain ⟨z, hz, rfl⟩ := h
    simp only [ev, Option.some.injEq] at he; subst he
    exact (constA_ok hz).1
  · simp only [Option.some.injEq] at h; subst h
    simp only [ev, Option.some.injEq] at he; subst he
    exact VRel.fn (v1 := []) (v2 := []) .nil .nil .nil
  · cases h

theorem evs_cons {F : AFrame} {y : AOpd} {l : List AOpd} {vs : List AVal} (h : evs F (y :: l) = some vs) : ∃ v vs', ev F y = some v ∧ evs F l = some vs' ∧ vs = v :: vs' := by
  simp only [evs] at h
  split at h
  · rename_i v vs' h1 h2
    simp only [Option.some.injEq] at h
    exact ⟨v, vs', h1, h2, h.symm⟩
  · cases h

theorem opds_sound {F : AFrame} {a : Act} (hF : FRel K N F a.tmps) : ∀ {xs : List Operand} {l : List AOpd} {vs : List AVal}, xs.mapM opdA = some l → evs F l = some vs → VRel K vs (xs.map a.eval)
  | [], l, vs, h, he => by
    simp at h; subst h
    simp [evs] at he; subst he
    exact .nil
  | x :: xs, l, vs, h, he => by
    simp only [List.mapM_cons, Option.bind_eq_bind, Option.bind_eq_some_iff, Option.pure_def, Option.some.injEq] at h
    obtain ⟨y, hy, l', hl, rfl⟩ := h
    obtain ⟨v, vs', h1, h2, rfl⟩ := evs_cons he
    exact .cons (opd_sound hF hy h1) (opds_sound hF hl h2)

theorem FRel.put {F : AFrame} {a : Act} (hF : FRel K N F a.tmps) (dst : Option Nat) (hd : ∀ d, dst = some d → d < N) {r : AVal} {v : Value} (h : VR K r v) : FRel K N (fput dst (some r) F) (a.put dst v).tmps := by
  cases dst with
  | none => exact hF
  | some d =>
    refine ⟨by simp [Act.put, hF.size], fun i x e => ?_⟩
    simp only [fput, fset] at e
    simp only [Act.put]
    split at e
    · rename_i hi
      subst hi
      simp only [Option.some.injEq] at e; subst e
      have := hd i rfl
      simp [hF.size, this]
      exact h
    · rename_i hi
      have := hF.at_ i x e
      simpa [Array.getElem?_setIfInBounds_ne (fun e => hi e.symm)] using this

theorem VR.undef : VR K (.tup []) undef := VRel.tup (vs := []) .nil .nil
theorem FRel.putNone {F : AFrame} {a : Act} (hF : FRel K N F a.tmps) (dst : Option Nat) : FRel K N (fput dst (some (.tup [])) F) (a.put dst undef).tmps := by
  cases dst with
  | none => exact hF
  | some d =>
    refine ⟨by simp [Act.put, hF.size], fun i x e => ?_⟩
    simp only [fput, fset] at e
    simp only [Act.put]
    split at e
    · rename_i hi
      subst hi
      simp only [Option.some.injEq] at e; subst e
      have : (a.tmps.setIfInBounds i undef).getD i undef = undef := by by_cases hlt : i < a.tmps.size <;> simp [hlt]
      rw [this]
      exact VR.undef
    · rename_i hi
      have := hF.at_ i x e
      simpa [Array.getElem?_setIfInBounds_ne (fun e => hi e.symm)] using this

/-- What 'operA' makes of an operation. -/
theorem operA_some {ops : Array Oper} {fl : Bool} {o : Oper} {ao : AOper} (h : operA P N ops fl o = some ao) :
    ∃ xs, kOf P fl o = some (ao.k, xs) ∧ xs.mapM opdA = some ao.args ∧ ao.dst = o.dst ∧ (∀ d, o.dst = some d → d < N) ∧
      (o.guard = none ∧ ao.guard = none ∨ ∃ j want g, o.guard = some (j, want) ∧ (ops[j]?).bind (·.dst) = some g ∧ ao.guard = some (g, want)) := by
  unfold operA at h
  simp only [Option.bind_eq_some_iff] at h
  obtain ⟨⟨k, xs⟩, hk, args, ha, g, hg, h⟩ := h
  simp only at ha h
  split at h
  · rename_i hd
    simp only [Option.some.injEq] at h
    subst h
    refine ⟨xs, hk, ha, rfl, ?_, ?_⟩
    · intro d e
      rw [e] at hd
      simpa [dstOk] using hd
    · cases e : o.guard with
      | none =>
        rw [e] at hg
        simp only [guardA, Option.some.injEq] at hg
        exact .inl ⟨rfl, hg.symm⟩
      | some p =>
        obtain ⟨j, want⟩ := p
        rw [e] at hg
        simp only [guardA, Option.map_eq_some_iff] at hg
        obtain ⟨g', hg', rfl⟩ := hg
        exact .inr ⟨j, want, g', rfl, hg', rfl⟩
  · cases h

theorem yielded_of {ops : Array Oper} {F : AFrame} {a : Act} (hF : FRel K N F a.tmps) {j g : Nat} (hj : (ops[j]?).bind (·.dst) = some g) {b : Bool} (hg : F g = some (.bool b)) : yielded ops a.tmps j = some b := by
  have h := (hF.at_ g _ hg).bool_inv
  unfold yielded
  have e : a.tmps[g]? = some (.bool b) := by
    by_cases hlt : g < a.tmps.size
    · simp [hlt] at h ⊢; exact h
    · simp [hlt] at h
      simp [undef] at h
  rw [hj]
  simp [e]

theorem yielded_gval {ops : Array Oper} {F : AFrame} {a : Act} (hF : FRel K N F a.tmps) {j g : Nat} (hj : (ops[j]?).bind (·.dst) = some g) {b : Option Bool} (hg : gval (F g) = some b) : yielded ops a.tmps j = b := by
  cases hb : b with
  | some b' =>
    subst hb
    refine yielded_of hF hj ?_
    unfold gval at hg
    split at hg
    · rename_i b2 e2
      simp only [Option.some.injEq] at hg
      subst hg
      exact e2
    · simp at hg
    · simp at hg
  | none =>
    subst hb
    have hg' : F g = some (.tup []) := by
      unfold gval at hg
      split at hg
      · simp at hg
      · rename_i e2; exact e2
      · simp at hg
    have h := hF.at_ g _ hg'
    unfold yielded
    rw [hj]
    have e : a.tmps.getD g undef = .tuple #[] := by
      generalize a.tmps.getD g undef = v at h
      unfold VR at h
      cases h with
      | tup hv r => rw [hv.nil_inv]
    by_cases hlt : g < a.tmps.size
    · simp [hlt] at e
      simp [hlt, e]
    · simp [hlt]

/-- ONE OPERATION. -/
theorem aop_sound {ops : Array Oper} {fl : Bool} {o : Oper} {ao : AOper} (ho : operA P N ops fl o = some ao) {K0 : Kr} {Q : AFrame → AHeap → Prop} {a : Act} {Qc : Exit → Act → World → Prop} (h : St K0 N (fun F σ => aop P ao F σ Q) a w) :
    if Region.wanted o (yielded ops a.tmps) then o.wp P a w (St K0 N Q) Qc else St K0 N Q (a.put o.dst undef) w := by
  obtain ⟨K, F, σ, hK, hr, hF, hd, h⟩ := h
  obtain ⟨xs, hk, hxs, hdst, hdN, hg⟩ := operA_some ho
  have run : arun P ao F σ Q → o.wp P a w (St K0 N Q) Qc := by
    rintro ⟨vs, hvs, hst⟩
    have hv := opds_sound hF hxs hvs
    have hgood := op_sound hk (ρ := a.eval) (fun v => rfl) (fun f => rfl) hv hr hst
    unfold Oper.wp
    cases hres : (execOp a.eval o).run P w with
    | halt y w' => rw [hres] at hgood; exact hgood.elim
    | ok n w' =>
      rw [hres] at hgood
      cases n <;> simp only [Good] at hgood
      case value v =>
        obtain ⟨K', r, σ', h1, h2, h3, h4⟩ := hgood
        refine ⟨K', _, σ', hK.trans h1, h2, ?_, ?_, h4⟩
        · rw [hdst]
          exact (hF.mono h1).put _ hdN h3
        · cases o.dst <;> exact hd
      case skip =>
        obtain ⟨K', σ', h1, h2, h4⟩ := hgood
        refine ⟨K', _, σ', hK.trans h1, h2, ?_, ?_, h4⟩
        · rw [hdst]
          exact (hF.mono h1).put _ hdN (VRel.tup (vs := []) .nil .nil)
        · cases o.dst <;> exact hd
      case enter f args =>
        simp only [Oper.upon]
        refine hgood.mono fun e w'' ⟨v, K', r, σ', he, h1, h2, h3, h4⟩ => ?_
        subst he
        refine ⟨K', _, σ', hK.trans h1, h2, ?_, ?_, h4⟩
        · rw [hdst]
          exact (hF.mono h1).put _ hdN h3
        · cases o.dst <;> exact hd
  unfold aop at h
  rcases hg with ⟨e1, e2⟩ | ⟨j, want, g, e1, e2, e3⟩
  · rw [e2] at h
    rw [if_pos (by simp [Region.wanted, e1])]
    exact run h
  · rw [e3] at h
    obtain ⟨b, hb, h1, h2⟩ := h
    have hy := yielded_gval hF e2 hb
    have hw : Region.wanted o (yielded ops a.tmps) = (b == some want) := by
      simp [Region.wanted, e1, hy]
    rw [hw]
    by_cases hbw : b = some want
    · subst hbw
      simp only [beq_self_eq_true, if_true]
      exact run (h1 rfl)
    · have : (b == some want) = false := by simpa using hbw
      rw [this]
      simp only [Bool.false_eq_true, if_false]
      refine ⟨K, _, σ, hK, hr, ?_, ?_, h2 hbw⟩
      · rw [hdst]; exact hF.putNone _
      · cases o.dst <;> exact hd

theorem aops_sound {ops : Array Oper} {fl : List Nat} {K0 : Kr} {Q : AFrame → AHeap → Prop} {Qc : Exit → Act → World → Prop} (hQ : ∀ a w, St K0 N Q a w → Qc .normal a w) : ∀ (l : List Oper) (i : Nat) (al : List AOper) (a : Act) (w : World),
    operAs P N ops fl i l = some al → St K0 N (fun F σ => aops P al F σ Q) a w → wpList P ops Qc l a w
  | [], i, al, a, w, h, hs => by
    simp [operAs] at h; subst h
    exact hQ a w hs
  | o :: l, i, al, a, w, h, hs => by
    simp only [operAs, Option.bind_eq_bind, Option.bind_eq_some_iff, Option.pure_def, Option.some.injEq] at h
    obtain ⟨ao, ho, al', hl, rfl⟩ := h
    have hstep := aop_sound (Q := fun F σ => aops P al' F σ Q) (Qc := Qc) ho hs
    unfold wpList
    split
    · rename_i hw
      rw [if_pos hw] at hstep
      exact .inl (Oper.wp_mono (fun a' w' h' => aops_sound hQ l (i + 1) al' a' w' hl h') hstep)
    · rename_i hw
      rw [if_neg hw] at hstep
      exact aops_sound hQ l (i + 1) al' _ w hl hstep

/-- A REGION in the order of the text. -/
theorem region_sound {id : Nat} {ops : Array Oper} {fl : List Nat} {al : List AOper} (hc : operAs P N ops fl 0 ops.toList = some al) {K0 : Kr} {Q : AFrame → AHeap → Prop} {Qc : Exit → Act → World → Prop} {a : Act} (hQ : ∀ a w, St K0 N Q a w → Qc .normal a w)
    (h : St K0 N (fun F σ => aops P al F σ Q) a w) : (Code.region id ops false).wp P Qc a w :=
  wp_region_list (aops_sound hQ ops.toList 0 al a w hc h)

end Go.Abs
