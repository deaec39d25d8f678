/-
  A program logic over abstract states, part U: a row of the call's own, handed on for good.
-/
import Derived.Test.YtgmefkhincnajaaDoorAbsT
namespace Go.Abs
open Go Go.RowKit

set_option linter.unusedVariables false
variable {P : Program}

theorem ACalls.freeze {f : FuncId} {b sz : Nat} {xs : List AVal} {rest : List AVal} {τ : AHeap} {R : AVal → AHeap → Prop} (h : ACalls P f (.slc sz xs false :: rest) τ R) : ACalls P f (.arr sz b 0 xs.length :: rest) ((b, .cells sz xs) :: τ) R := by
  intro K w vs hr hv
  obtain ⟨v, vs', rfl, h1, h2⟩ := hv.ex
  have hmem : (b, ABlk.cells sz xs) ∈ (b, ABlk.cells sz xs) :: τ := by simp
  have hown := hr.own b _ hmem
  have hsub : HSub τ ((b, ABlk.cells sz xs) :: τ) := HSub.tail _ _
  unfold VR at h1
  generalize hn : xs.length = n at h1
  cases h1 with
  | arr0 hl r =>
    have : xs = [] := List.length_eq_zero_iff.1 hn
    subst this
    exact h K w _ (hsub K w hr) (VRel.cons (VRel.slc0 (by simp) .nil) h2)
  | @arr _ _ _ cb _ pcap cap _ _ hl ho hc r =>
    obtain ⟨vs0, g1, g2, g3⟩ := hr.freeze hmem hl
    rw [hdel_head] at g3
    have hval : VR (K.addImm cb vs0) (.slc sz xs false) (.slice (some ⟨cb, 0 * sz, none⟩) n cap) := by
      refine VRel.slc (vs := vs0) hn hown.1 rfl ?_ (VRel.mono g2 g1) hc (by simp) .nil
      intro j v hj
      simp only [Kr.addImm, Nat.zero_mul, Nat.zero_add, if_true]
      exact hj
    refine (h _ w _ g3 (VRel.cons hval (VRel.mono g2 h2))).mono ?_
    rintro e w' ⟨v, K', r, σ', he, k1, k2, k3, k4⟩
    exact ⟨v, K', r, σ', he, g2.trans k1, k2, k3, k4⟩

/-- The same, of a slot of the frame. -/
theorem awp_freeze {N : Nat} {a : ACode} {Q : APost} {F : AFrame} {b sz d : Nat} {xs : List AVal} {τ : AHeap} (hF : F d = some (.arr sz b 0 xs.length)) (h : AWp P N a Q (fset d (some (.slc sz xs false)) F) τ) : AWp P N a Q F ((b, .cells sz xs) :: τ) := by
  refine awp_vs (fun K w tmps hr hfr => ?_) h
  have h1 := hfr.at_ d _ hF
  have hmem : (b, ABlk.cells sz xs) ∈ (b, ABlk.cells sz xs) :: τ := by simp
  have hown := hr.own b _ hmem
  have hsub : HSub τ ((b, ABlk.cells sz xs) :: τ) := HSub.tail _ _
  have key : ∀ K', K.le K' → Rel K' τ w → VR K' (.slc sz xs false) (tmps.getD d undef) → ∃ K', K.le K' ∧ Rel K' τ w ∧ FRel K' N (fset d (some (.slc sz xs false)) F) tmps := by
    intro K' k1 k2 k3
    refine ⟨K', k1, k2, hfr.size, fun i x e => ?_⟩
    simp only [fset] at e
    split at e
    · rename_i hi
      subst hi
      simp only [Option.some.injEq] at e
      subst e
      exact k3
    · exact (hfr.at_ i x e).mono k1
  unfold VR at h1
  generalize hv : tmps.getD d undef = v at h1 key
  generalize hn : xs.length = n at h1
  cases h1 with
  | arr0 hl r =>
    have : xs = [] := List.length_eq_zero_iff.1 hn
    subst this
    exact key K (Kr.le.refl K) (hsub K w hr) (VRel.slc0 (by simp) .nil)
  | @arr _ _ _ cb _ pcap cap _ _ hl ho hc r =>
    obtain ⟨vs0, g1, g2, g3⟩ := hr.freeze hmem hl
    rw [hdel_head] at g3
    refine key (K.addImm cb vs0) g2 g3 ?_
    refine VRel.slc (vs := vs0) hn hown.1 rfl ?_ (VRel.mono g2 g1) hc (by simp) .nil
    intro j v hj
    simp only [Kr.addImm, Nat.zero_mul, Nat.zero_add, if_true]
    exact hj

/-- Cells that lie one behind the other, each known by what it is: the row of them. -/
theorem vrel_row {K : Kr} {b o : Nat} : ∀ (cs : List AVal) (n : Nat), (∀ j c, cs[j]? = some c → ∃ v, K.imm b (o + n + j) = some v ∧ VR K c v) → ∃ vs, VRel K cs vs ∧ ∀ j v, vs[j]? = some v → K.imm b (o + n + j) = some v
  | [], n, h => ⟨[], .nil, fun j v e => by simp at e⟩
  | c :: cs, n, h => by
    obtain ⟨v, h1, h2⟩ := h 0 c rfl
    obtain ⟨vs, h3, h4⟩ := vrel_row cs (n + 1) (fun j c' e => by
      obtain ⟨v', g1, g2⟩ := h (j + 1) c' (by simpa using e)
      exact ⟨v', by rw [show o + (n + 1) + j = o + n + (j + 1) by omega]; exact g1, g2⟩)
    refine ⟨v :: vs, VRel.cons h2 h3, fun j u e => ?_⟩
    cases j with
    | zero => simp only [List.getElem?_cons_zero, Option.some.injEq] at e; subst e; simpa using h1
    | succ j =>
      have := h4 j u (by simpa using e)
      rw [show o + n + (j + 1) = o + (n + 1) + j by omega]
      exact this

/-- A variable that nobody writes any more, of a slot of the frame. -/
theorem awp_freezeP {N : Nat} {a : ACode} {Q : APost} {F : AFrame} {b sz d : Nat} {cs : List AVal} {τ : AHeap} (hF : F d = some (.ptr b 0 0)) (h : AWp P N a Q (fset d (some (.iptr cs)) F) τ) : AWp P N a Q F ((b, .cells sz [.agg cs]) :: τ) := by
  refine awp_vs (fun K w tmps hr hfr => ?_) h
  have h1 := hfr.at_ d _ hF
  have hmem : (b, ABlk.cells sz [.agg cs]) ∈ (b, ABlk.cells sz [.agg cs]) :: τ := by simp
  have hown := hr.own b _ hmem
  unfold VR at h1
  generalize hv : tmps.getD d undef = v at h1
  cases h1 with
  | @ptr _ _ _ cb sz' pcap _ _ hl r =>
    obtain rfl : sz' = sz := by
      rcases hown.2 with ⟨p, k1, _⟩ | ⟨cb', p, cs', ty, k1, _⟩ <;> rw [hl] at k1 <;> simp at k1
      exact k1.2.1
    obtain ⟨vs0, g1, g2, g3⟩ := hr.freeze hmem hl
    rw [hdel_head] at g3
    refine ⟨K.addImm cb vs0, g2, g3, hfr.size, fun i x e => ?_⟩
    simp only [fset] at e
    split at e
    · rename_i hi
      subst hi
      simp only [Option.some.injEq] at e
      subst e
      rw [hv]
      refine VRel.iptr (vs := vs0) rfl ?_ ?_ ?_ .nil
      · have := (hown.1 (.agg cs) (by simp)).2
        simpa [AVal.cells] using this
      · intro j v hj
        simp only [Kr.addImm, Nat.zero_mul, Nat.zero_add, if_true]
        exact hj
      · have := VRel.mono g2 g1
        simpa [AVal.cells] using this
    · exact (hfr.at_ i x e).mono g2

/-- The heap's pieces in another order. -/
theorem awp_rot {N : Nat} {a : ACode} {Q : APost} {F : AFrame} {β γ σ : AHeap} (h : AWp P N a Q F (γ ++ (β ++ σ))) : AWp P N a Q F (β ++ (γ ++ σ)) := by
  refine awp_weaken (FSub.refl F) (HSub.of_perm ?_) h
  rw [← List.append_assoc, ← List.append_assoc]
  exact List.Perm.append_right _ List.perm_append_comm

/-- A call's answer, seen otherwise. -/
theorem acalls_shift {f : FuncId} {args : List AVal} {σ : AHeap} {R R' : AVal → AHeap → Prop} (h : ACalls P f args σ R) (hs : ∀ r σ', R r σ' → ∃ r' τ, VShift r σ' r' τ ∧ R' r' τ) : ACalls P f args σ R' := by
  intro K w vs hr hv
  refine (h K w vs hr hv).mono ?_
  rintro e w' ⟨v, K', r, σ', he, k1, k2, k3, k4⟩
  obtain ⟨r', τ, h1, h2⟩ := hs r σ' k4
  obtain ⟨K2, g1, g2, g3⟩ := h1 K' w' v k2 k3
  exact ⟨v, K2, r', τ, he, k1.trans g1, g2, g3, h2⟩

/-- Many values at once. -/
def VShiftL (l : List AVal) (σ : AHeap) (l' : List AVal) (τ : AHeap) : Prop := ∀ K w vs, Rel K σ w → VRel K l vs → ∃ K', K.le K' ∧ Rel K' τ w ∧ VRel K' l' vs
theorem VShiftL.refl (l : List AVal) (σ : AHeap) : VShiftL l σ l σ := fun K w v h1 h2 => ⟨K, Kr.le.refl K, h1, h2⟩
theorem VShiftL.trans {l l' l'' : List AVal} {σ σ' σ'' : AHeap} (h : VShiftL l σ l' σ') (h' : VShiftL l' σ' l'' σ'') : VShiftL l σ l'' σ'' := fun K w v h1 h2 => by
  obtain ⟨K1, a1, a2, a3⟩ := h K w v h1 h2
  obtain ⟨K2, b1, b2, b3⟩ := h' K1 w v a2 a3
  exact ⟨K2, a1.trans b1, b2, b3⟩
theorem VShiftL.one {r r' : AVal} {σ τ : AHeap} (h : VShiftL [r] σ [r'] τ) : VShift r σ r' τ := fun K w v h1 h2 => h K w [v] h1 h2
theorem VShiftL.tup {l l' : List AVal} {σ τ : AHeap} (h : VShiftL l σ l' τ) : VShift (.tup l) σ (.tup l') τ := by
  intro K w v h1 h2
  unfold VR at h2
  cases h2 with
  | tup hv r =>
    obtain ⟨K', a1, a2, a3⟩ := h K w _ h1 hv
    exact ⟨K', a1, a2, .tup a3 .nil⟩
theorem VShiftL.keep {a : AVal} {l l' : List AVal} {σ τ : AHeap} (h : VShiftL l σ l' τ) : VShiftL (a :: l) σ (a :: l') τ := by
  intro K w vs h1 h2
  obtain ⟨v, vs', rfl, g1, g2⟩ := h2.ex
  obtain ⟨K', a1, a2, a3⟩ := h K w _ h1 g2
  exact ⟨K', a1, a2, VRel.cons (VRel.mono a1 g1) a3⟩
theorem VShiftL.first {a a' : AVal} {l : List AVal} {σ τ : AHeap} (h : VShiftL [a] σ [a'] τ) : VShiftL (a :: l) σ (a' :: l) τ := by
  intro K w vs h1 h2
  obtain ⟨v, vs', rfl, g1, g2⟩ := h2.ex
  obtain ⟨K', a1, a2, a3⟩ := h K w [v] h1 g1
  exact ⟨K', a1, a2, VRel.cons a3 (VRel.mono a1 g2)⟩
theorem VShiftL.le {l l' : List AVal} {σ τ : AHeap} (h : VRle l l') (hs : HSub τ σ) : VShiftL l σ l' τ := fun K w v h1 h2 => ⟨K, Kr.le.refl K, hs K w h1, h K v h2⟩
theorem VShiftL.drop {l : List AVal} {σ τ : AHeap} (hs : HSub τ σ) : VShiftL l σ l τ := VShiftL.le (VRle.refl _) hs

/-- A row of the call's own. -/
theorem VShiftL.freeze {b sz n : Nat} {xs : List AVal} {τ : AHeap} (hn : xs.length = n) : VShiftL [.arr sz b 0 n] ((b, .cells sz xs) :: τ) [.slc sz xs false] τ := by
  intro K w vs hr hv
  obtain ⟨v, vs', rfl, h1, h2⟩ := hv.ex
  have := h2.nil_inv
  subst this
  have hmem : (b, ABlk.cells sz xs) ∈ (b, ABlk.cells sz xs) :: τ := by simp
  have hown := hr.own b _ hmem
  have hsub : HSub τ ((b, ABlk.cells sz xs) :: τ) := HSub.tail _ _
  unfold VR at h1
  cases h1 with
  | arr0 hl r =>
    have : xs = [] := List.length_eq_zero_iff.1 hn
    subst this
    exact ⟨K, Kr.le.refl K, hsub K w hr, VRel.slc0 (by simp) .nil⟩
  | @arr _ _ _ cb _ pcap cap _ _ hl ho hc r =>
    obtain ⟨vs0, g1, g2, g3⟩ := hr.freeze hmem hl
    rw [hdel_head] at g3
    refine ⟨_, g2, g3, ?_⟩
    refine VRel.slc (vs := vs0) hn hown.1 rfl ?_ (VRel.mono g2 g1) hc (by simp) .nil
    intro j v hj
    simp only [Kr.addImm, Nat.zero_mul, Nat.zero_add, if_true]
    exact hj
theorem VShiftL.grow {v : AVal} {xs : List UInt8} {β τ : AHeap} (h : Grow v xs β) : VShiftL [v] (β ++ τ) [.slc 1 (bytes xs) false] τ := by
  rcases h with ⟨⟨z, rfl⟩, rfl, rfl⟩ | ⟨b, rfl, rfl⟩
  · refine VShiftL.le (fun K vs hv => ?_) (HSub.refl _)
    cases hv with
    | slc0 hf r => exact .slc0 (by simp) r
    | slc hn he hs hm hv hc hf r =>
      simp only [List.length_nil] at hn
      subst hn
      exact .slc0 (by simp) r
  · exact VShiftL.freeze (bytes_length _)

end Go.Abs
