/-
  A program logic over abstract states, part M: frames; regions in the order of the text.
-/
import Derived.Test.YtgmefkhincnajaaDoorAbsL
import Derived.CallsIn
import Derived.OrdersIn
import Derived.TacticsIn
namespace Go.Abs
open Go Go.RowKit

set_option linter.unusedVariables false
set_option linter.unusedSimpArgs false
variable {P : Program} {K : Kr} {σ : AHeap} {w : World} {N : Nat} {rd : Option Nat}

/-- A fence that lets all by: of no round, or of a round of the loop that is told. -/
def fen (rd : Option Nat) : Fence := { Fence.wide with round := rd }
theorem fen_depth (rd : Option Nat) : (fen rd).depth.isSome = true → 1 ≤ 0 := fun h => by simp [fen, Fence.wide] at h
theorem callsIn_fen {f : FuncId} {args : Array Value} {R : Ending → World → Prop} (h : Calls P f args w R) (n : Nat) : CallsIn (fen rd) n P f args w R := callsIn_wide.2 h

structure FRel (K : Kr) (N : Nat) (F : AFrame) (tmps : Array Value) : Prop where
  size : tmps.size = N
  at_ : ∀ i x, F i = some x → VR K x (tmps.getD i undef)

theorem VR.mono {K K' : Kr} {x : AVal} {v : Value} (h : VR K x v) (hK : K.le K') : VR K' x v := VRel.mono hK h
theorem FRel.mono {F : AFrame} {tmps : Array Value} (h : FRel K N F tmps) {K' : Kr} (hK : K.le K') : FRel K' N F tmps := ⟨h.size, fun i x e => (h.at_ i x e).mono hK⟩

/-- The deferred calls of an activation: none but the marks of loops over functions; each lies as9 it was laid. -/
def Marked (K0 K : Kr) (l : List Deferred) : Prop :=
  l.Nodup ∧ ∀ d ∈ l, ∃ D, d = { target := .collected D, args := #[] } ∧ K0.w0.heap.size ≤ D ∧ K0.wo.heap.size ≤ D ∧ K.wo.heap[D]? = some (.deferred (some []))
theorem Marked.nil (K0 K : Kr) : Marked K0 K [] := ⟨List.nodup_nil, fun d hd => by cases hd⟩
theorem Marked.mono {K0 K K' : Kr} {l : List Deferred} (h : Marked K0 K l) (hk : K.le K') : Marked K0 K' l :=
  ⟨h.1, fun d hd => by
    obtain ⟨D, h1, h2, h3, h4⟩ := h.2 d hd
    exact ⟨D, h1, h2, h3, hk.wo.same D _ h4 (fun _ _ _ e => by cases e)⟩⟩

/-- The state, as9 the world has it. -/
def St (K0 : Kr) (N : Nat) (Q : AFrame → AHeap → Prop) (a : Act) (w : World) : Prop :=
  ∃ K F σ, K0.le K ∧ Rel K σ w ∧ FRel K N F a.tmps ∧ Marked K0 K a.defers ∧ Q F σ

theorem St.mono {K0 : Kr} {Q Q' : AFrame → AHeap → Prop} {a : Act} (h : St K0 N Q a w) (hQ : ∀ F σ, Q F σ → Q' F σ) : St K0 N Q' a w := by
  obtain ⟨K, F, σ, h1, h2, h3, h4, h5⟩ := h
  exact ⟨K, F, σ, h1, h2, h3, h4, hQ _ _ h5⟩

theorem St.drew {K0 : Kr} {Q : AFrame → AHeap → Prop} {a : Act} (h : St K0 N Q a w) : St K0 N Q a w.drew := by
  obtain ⟨K, F, σ, h1, h2, h3, h4, h5⟩ := h
  exact ⟨K, F, σ, h1, h2.drew, h3, h4, h5⟩

theorem opd_sound {F : AFrame} {a : Act} (hF : FRel K N F a.tmps) {x : Operand} {y : AOpd} (h : opdA x = some y) {v : AVal} (he : ev F y = some v) : VR K v (a.eval x) := by
  unfold opdA at h
  split at h
  · simp only [Option.some.injEq] at h; subst h
    exact hF.at_ _ _ he
  · rename_i u
    simp only [Option.map_eq_some_iff] at h
    obtain ⟨z, hz, rfl⟩ := h
    simp only [ev, Option.some.injEq] at he; subst he
    exact (constA_ok hz).1
  · simp only [Option.some.injEq] at h; subst h
    simp only [ev, Option.some.injEq] at he; subst he
    exact VRel.fn (v1 := []) (v2 := []) .nil .nil .nil
  · cases h

theorem evs_cons {F : AFrame} {y : AOpd} {l : List AOpd} {vs : List AVal} (h : evs F (y :: l) = some vs) : ∃ v vs', ev F y = some v ∧ evs F l = some vs' ∧ vs = v :: vs' := by
  simp only [evs] at h
  split at h
  · rename_i v vs' h1 h2
    simp only [Option.some.injEq] at h
    exact ⟨v, vs', h1, h2, h.symm⟩
  · cases h

theorem opds_sound {F : AFrame} {a : Act} (hF : FRel K N F a.tmps) : ∀ {xs : List Operand} {l : List AOpd} {vs : List AVal}, xs.mapM opdA = some l → evs F l = some vs → VRel K vs (xs.map a.eval)
  | [], l, vs, h, he => by
    simp at h; subst h
    simp [evs] at he; subst he
    exact .nil
  | x :: xs, l, vs, h, he => by
    simp only [List.mapM_cons, Option.bind_eq_bind, Option.bind_eq_some_iff, Option.pure_def, Option.some.injEq] at h
    obtain ⟨y, hy, l', hl, rfl⟩ := h
    obtain ⟨v, vs', h1, h2, rfl⟩ := evs_cons he
    exact .cons (opd_sound hF hy h1) (opds_sound hF hl h2)

theorem FRel.put {F : AFrame} {a : Act} (hF : FRel K N F a.tmps) (dst : Option Nat) (hd : ∀ d, dst = some d → d < N) {r : AVal} {v : Value} (h : VR K r v) : FRel K N (fput dst (some r) F) (a.put dst v).tmps := by
  cases dst with
  | none => exact hF
  | some d =>
    refine ⟨by simp [Act.put, hF.size], fun i x e => ?_⟩
    simp only [fput, fset] at e
    simp only [Act.put]
    split at e
    · rename_i hi
      subst hi
      simp only [Option.some.injEq] at e; subst e
      have := hd i rfl
      simp [hF.size, this]
      exact h
    · rename_i hi
      have := hF.at_ i x e
      simpa [Array.getElem?_setIfInBounds_ne (fun e => hi e.symm)] using this

theorem VR.undef : VR K (.tup []) undef := VRel.tup (vs := []) .nil .nil
theorem FRel.putNone {F : AFrame} {a : Act} (hF : FRel K N F a.tmps) (dst : Option Nat) : FRel K N (fput dst (some (.tup [])) F) (a.put dst undef).tmps := by
  cases dst with
  | none => exact hF
  | some d =>
    refine ⟨by simp [Act.put, hF.size], fun i x e => ?_⟩
    simp only [fput, fset] at e
    simp only [Act.put]
    split at e
    · rename_i hi
      subst hi
      simp only [Option.some.injEq] at e; subst e
      have : (a.tmps.setIfInBounds i undef).getD i undef = undef := by by_cases hlt : i < a.tmps.size <;> simp [hlt]
      rw [this]
      exact VR.undef
    · rename_i hi
      have := hF.at_ i x e
      simpa [Array.getElem?_setIfInBounds_ne (fun e => hi e.symm)] using this

/-- What 'operA' makes of an operation. -/
theorem operA_some {ops : Array Oper} {fl : Bool} {o : Oper} {ao : AOper} (h : operA P N ops fl o = some ao) :
    ∃ xs, kOf P fl o = some (ao.k, xs) ∧ xs.mapM opdA = some ao.args ∧ ao.dst = o.dst ∧ (∀ d, o.dst = some d → d < N) ∧
      (o.guard = none ∧ ao.guard = none ∨ ∃ j want g, o.guard = some (j, want) ∧ (ops[j]?).bind (·.dst) = some g ∧ ao.guard = some (g, want)) := by
  unfold operA at h
  simp only [Option.bind_eq_some_iff] at h
  obtain ⟨⟨k, xs⟩, hk, args, ha, g, hg, h⟩ := h
  simp only at ha h
  split at h
  · rename_i hd
    simp only [Option.some.injEq] at h
    subst h
    refine ⟨xs, hk, ha, rfl, ?_, ?_⟩
    · intro d e
      rw [e] at hd
      simpa [dstOk] using hd
    · cases e : o.guard with
      | none =>
        rw [e] at hg
        simp only [guardA, Option.some.injEq] at hg
        exact .inl ⟨rfl, hg.symm⟩
      | some p =>
        obtain ⟨j, want⟩ := p
        rw [e] at hg
        simp only [guardA, Option.map_eq_some_iff] at hg
        obtain ⟨g', hg', rfl⟩ := hg
        exact .inr ⟨j, want, g', rfl, hg', rfl⟩
  · cases h

theorem yielded_of {ops : Array Oper} {F : AFrame} {a : Act} (hF : FRel K N F a.tmps) {j g : Nat} (hj : (ops[j]?).bind (·.dst) = some g) {b : Bool} (hg : F g = some (.bool b)) : yielded ops a.tmps j = some b := by
  have h := (hF.at_ g _ hg).bool_inv
  unfold yielded
  have e : a.tmps[g]? = some (.bool b) := by
    by_cases hlt : g < a.tmps.size
    · simp [hlt] at h ⊢; exact h
    · simp [hlt] at h
      simp [undef] at h
  rw [hj]
  simp [e]

theorem yielded_gval {ops : Array Oper} {F : AFrame} {a : Act} (hF : FRel K N F a.tmps) {j g : Nat} (hj : (ops[j]?).bind (·.dst) = some g) {b : Option Bool} (hg : gval (F g) = some b) : yielded ops a.tmps j = b := by
  cases hb : b with
  | some b' =>
    subst hb
    refine yielded_of hF hj ?_
    unfold gval at hg
    split at hg
    · rename_i b2 e2
      simp only [Option.some.injEq] at hg
      subst hg
      exact e2
    · simp at hg
    · simp at hg
  | none =>
    subst hb
    have hg' : F g = some (.tup []) := by
      unfold gval at hg
      split at hg
      · simp at hg
      · rename_i e2; exact e2
      · simp at hg
    have h := hF.at_ g _ hg'
    unfold yielded
    rw [hj]
    have e : a.tmps.getD g undef = .tuple #[] := by
      generalize a.tmps.getD g undef = v at h
      unfold VR at h
      cases h with
      | tup hv r => rw [hv.nil_inv]
    by_cases hlt : g < a.tmps.size
    · simp [hlt] at e
      simp [hlt, e]
    · simp [hlt]

theorem evs_app {F : AFrame} : ∀ {l m : List AOpd} {ws : List AVal}, evs F (l ++ m) = some ws → ∃ vs us, ws = vs ++ us ∧ evs F l = some vs ∧ evs F m = some us ∧ vs.length = l.length
  | [], m, ws, h => ⟨[], ws, rfl, rfl, h, rfl⟩
  | x :: l, m, ws, h => by
    simp only [List.cons_append, evs] at h
    cases hx : ev F x with
    | none => rw [hx] at h; simp at h
    | some v =>
      rw [hx] at h
      cases hl : evs F (l ++ m) with
      | none => rw [hl] at h; simp at h
      | some vs' =>
        rw [hl] at h
        simp only [Option.some.injEq] at h
        subst h
        obtain ⟨vs, us, rfl, h1, h2, h3⟩ := evs_app hl
        exact ⟨v :: vs, us, rfl, by simp only [evs, hx, h1], h2, by simp [h3]⟩

theorem evs_length {F : AFrame} : ∀ {l : List AOpd} {vs : List AVal}, evs F l = some vs → vs.length = l.length
  | [], vs, h => by simp only [evs, Option.some.injEq] at h; subst h; rfl
  | x :: l, vs, h => by
    simp only [evs] at h
    split at h
    · rename_i v ws _ hw
      simp only [Option.some.injEq] at h
      subst h
      rw [List.length_cons, List.length_cons, evs_length hw]
    · cases h
theorem arun_modA {fl : Bool} {gs : List Nat} {o : AOper} {F : AFrame} {σ : AHeap} {Q : AFrame → AHeap → Prop} (h : arun P (modA fl gs o) F σ Q) : arun P o F σ Q := by
  unfold modA at h
  split at h
  · rename_i f hf
    split at h
    · obtain ⟨vs, hvs, h⟩ := h
      refine ⟨vs, hvs, ?_⟩
      rw [hf]
      obtain ⟨v, h1, h2⟩ := h
      exact ⟨⟨v, σ, h2⟩, (h1 σ).mono fun r τ ⟨e1, e2⟩ => by rw [e1, e2]; exact h2⟩
    · split at h
      · exact h
      · obtain ⟨ws, hws, h⟩ := h
        obtain ⟨vs, us, rfl, h1, h2, h3⟩ := evs_app hws
        refine ⟨vs, h1, ?_⟩
        rw [hf]
        obtain ⟨⟨r, σ', _, h4⟩, h5⟩ := h
        rw [List.take_append_of_le_length (by omega), List.take_of_length_le (by omega)] at h5
        exact ⟨⟨r, σ', h4⟩, h5.mono fun r τ h => h.2⟩
  · rename_i ag sz hf
    split at h
    · exact h
    · obtain ⟨ws, hws, h⟩ := h
      obtain ⟨vs, us, rfl, h1, h2, h3⟩ := evs_app hws
      refine ⟨vs, h1, ?_⟩
      rw [hf]
      obtain ⟨v, h4, h5⟩ := h
      refine ⟨v, ?_, h5⟩
      have hu : us.length = 1 := evs_length h2
      simp only [aquiet] at h4 ⊢
      unfold aloadg at h4
      split at h4
      · rename_i b i o w e
        have hl := congrArg List.length e
        rw [List.length_append, hu] at hl
        simp only [List.length_cons, List.length_nil] at hl
        match vs, hl with
        | [x], _ =>
        match us, hu with
        | [y], _ =>
        simp only [List.cons_append, List.nil_append, List.cons.injEq, and_true] at e
        obtain ⟨rfl, rfl⟩ := e
        split at h4
        · exact h4
        · cases h4
      · cases h4
  · exact h
theorem modA_dst (fl : Bool) (gs : List Nat) (o : AOper) : (modA fl gs o).dst = o.dst := by
  unfold modA; repeat' split <;> try rfl
theorem modA_guard (fl : Bool) (gs : List Nat) (o : AOper) : (modA fl gs o).guard = o.guard := by
  unfold modA; repeat' split <;> try rfl
theorem aop_modA {fl : Bool} {gs : List Nat} {o : AOper} {F : AFrame} {σ : AHeap} {Q : AFrame → AHeap → Prop} (h : aop P (modA fl gs o) F σ Q) : aop P o F σ Q := by
  unfold aop at h ⊢
  rw [modA_guard] at h
  split at h
  · exact arun_modA h
  · obtain ⟨b, h1, h2, h3⟩ := h
    rw [modA_dst] at h3
    exact ⟨b, h1, fun e => arun_modA (h2 e), h3⟩

/-- ONE OPERATION. -/
theorem aop_sound {ops : Array Oper} {fl : Bool} {o : Oper} {ao : AOper} (ho : operA P N ops fl o = some ao) {K0 : Kr} {Q : AFrame → AHeap → Prop} {a : Act} {Qc : Exit → Act → World → Prop} (h : St K0 N (fun F σ => aop P ao F σ Q) a w) :
    if Region.wanted o (yielded ops a.tmps) then o.wpIn (fen rd) 0 P a w (St K0 N Q) Qc else St K0 N Q (a.put o.dst undef) w := by
  obtain ⟨K, F, σ, hK, hr, hF, hd, h⟩ := h
  obtain ⟨xs, hk, hxs, hdst, hdN, hg⟩ := operA_some ho
  have run : arun P ao F σ Q → o.wpIn (fen rd) 0 P a w (St K0 N Q) Qc := by
    rintro ⟨vs, hvs, hst⟩
    have hv := opds_sound hF hxs hvs
    have hgood := op_sound hk (ρ := a.eval) (fun v => rfl) (fun f => rfl) hv hr hst
    unfold Oper.wpIn
    refine ⟨fun _ _ => trivial, ?_⟩
    rw [Oper.semAt_eq _ _ _ (fun c e => by simp [kOf, e] at hk)]
    cases hres : (execOp a.eval o).run P w with
    | halt y w' => rw [hres] at hgood; exact hgood.elim
    | ok n w' =>
      rw [hres] at hgood
      cases n <;> simp only [Good] at hgood
      case value v =>
        obtain ⟨K', r, σ', h1, h2, h3, h4⟩ := hgood
        refine ⟨K', _, σ', hK.trans h1, h2, ?_, ?_, h4⟩
        · rw [hdst]
          exact (hF.mono h1).put _ hdN h3
        · cases o.dst <;> exact hd.mono h1
      case skip =>
        obtain ⟨K', σ', h1, h2, h4⟩ := hgood
        refine ⟨K', _, σ', hK.trans h1, h2, ?_, ?_, h4⟩
        · rw [hdst]
          exact (hF.mono h1).put _ hdN (VRel.tup (vs := []) .nil .nil)
        · cases o.dst <;> exact hd.mono h1
      case enter f args =>
        simp only [Oper.uponIn]
        refine ⟨fen_depth rd, callsIn_fen ?_ _⟩
        refine hgood.mono fun e w'' ⟨v, K', r, σ', he, h1, h2, h3, h4⟩ => ?_
        subst he
        refine ⟨K', _, σ', hK.trans h1, h2, ?_, ?_, h4⟩
        · rw [hdst]
          exact (hF.mono h1).put _ hdN h3
        · cases o.dst <;> exact hd.mono h1
  unfold aop at h
  rcases hg with ⟨e1, e2⟩ | ⟨j, want, g, e1, e2, e3⟩
  · rw [e2] at h
    rw [if_pos (by simp [Region.wanted, e1])]
    exact run h
  · rw [e3] at h
    obtain ⟨b, hb, h1, h2⟩ := h
    have hy := yielded_gval hF e2 hb
    have hw : Region.wanted o (yielded ops a.tmps) = (b == some want) := by
      simp [Region.wanted, e1, hy]
    rw [hw]
    by_cases hbw : b = some want
    · subst hbw
      simp only [beq_self_eq_true, if_true]
      exact run (h1 rfl)
    · have : (b == some want) = false := by simpa using hbw
      rw [this]
      simp only [Bool.false_eq_true, if_false]
      refine ⟨K, _, σ, hK, hr, ?_, ?_, h2 hbw⟩
      · rw [hdst]; exact hF.putNone _
      · cases o.dst <;> exact hd

theorem aops_sound {ops : Array Oper} {fl : List Nat} {K0 : Kr} {Q : AFrame → AHeap → Prop} {Qc : Exit → Act → World → Prop} (hQ : ∀ a w, St K0 N Q a w → Qc .normal a w) : ∀ (l : List Oper) (i : Nat) (al : List AOper) (a : Act) (w : World),
    operAs P N ops fl i l = some al → St K0 N (fun F σ => aops P al F σ Q) a w → wpListIn (fen rd) 0 P ops Qc l a w
  | [], i, al, a, w, h, hs => by
    simp [operAs] at h; subst h
    exact hQ a w hs
  | o :: l, i, al, a, w, h, hs => by
    simp only [operAs, Option.bind_eq_bind, Option.bind_eq_some_iff, Option.pure_def, Option.some.injEq] at h
    obtain ⟨ao, ho, al', hl, rfl⟩ := h
    have hs' : St K0 N (fun F σ => aop P ao F σ fun F σ => aops P al' F σ Q) a w := by
      obtain ⟨K, F, σ, h1, h2, h3, h4, h5⟩ := hs
      exact ⟨K, F, σ, h1, h2, h3, h4, aop_modA h5⟩
    have hstep := aop_sound (rd := rd) (Q := fun F σ => aops P al' F σ Q) (Qc := Qc) ho hs'
    unfold wpListIn
    split
    · rename_i hw
      rw [if_pos hw] at hstep
      exact Oper.wpIn_mono (fun a' w' h' => aops_sound hQ l (i + 1) al' a' w' hl h') hstep
    · rename_i hw
      rw [if_neg hw] at hstep
      exact ⟨fun _ _ => trivial, aops_sound hQ l (i + 1) al' _ w hl hstep⟩

/-- A REGION in the order of the text. -/
theorem region_sound {id : Nat} {ops : Array Oper} {fl : List Nat} {al : List AOper} (hc : operAs P N ops fl 0 ops.toList = some al) {K0 : Kr} {Q : AFrame → AHeap → Prop} {Qc : Exit → Act → World → Prop} {a : Act} (hQ : ∀ a w, St K0 N Q a w → Qc .normal a w)
    (h : St K0 N (fun F σ => aops P al F σ Q) a w) : (Code.region id ops false).wpIn (fen rd) 0 P Qc a w :=
  wpIn_region_list (aops_sound hQ ops.toList 0 al a w hc h)

end Go.Abs
