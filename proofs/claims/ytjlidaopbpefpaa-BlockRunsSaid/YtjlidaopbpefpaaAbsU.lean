/-
  A program logic over abstract states, part U: a row of the call's own, handed on for good.
-/
import Derived.Test.YtjlidaopbpefpaaAbsT
namespace Go.Abs
open Go Go.RowKit

set_option linter.unusedVariables false
variable {P : Program}

theorem ACalls.freeze {f : FuncId} {b sz : Nat} {xs : List AVal} {rest : List AVal} {τ : AHeap} {R : AVal → AHeap → Prop} (h : ACalls P f (.slc sz xs false :: rest) τ R) : ACalls P f (.arr sz b 0 xs.length :: rest) ((b, .cells sz xs) :: τ) R := by
  intro K w vs hr hv
  obtain ⟨v, vs', rfl, h1, h2⟩ := hv.ex
  have hmem : (b, ABlk.cells sz xs) ∈ (b, ABlk.cells sz xs) :: τ := by simp
  have hown := hr.own b _ hmem
  have hsub : HSub τ ((b, ABlk.cells sz xs) :: τ) := HSub.tail _ _
  unfold VR at h1
  generalize hn : xs.length = n at h1
  cases h1 with
  | arr0 hl r =>
    have : xs = [] := List.length_eq_zero_iff.1 hn
    subst this
    exact h K w _ (hsub K w hr) (VRel.cons (VRel.slc0 (by simp) .nil) h2)
  | @arr _ _ _ cb _ pcap cap _ _ hl ho hc r =>
    obtain ⟨vs0, g1, g2, g3⟩ := hr.freeze hmem hl
    rw [hdel_head] at g3
    have hval : VR (K.addImm cb vs0) (.slc sz xs false) (.slice (some ⟨cb, 0 * sz, none⟩) n cap) := by
      refine VRel.slc (vs := vs0) hn hown.1 rfl ?_ (VRel.mono g2 g1) hc (by simp) .nil
      intro j v hj
      simp only [Kr.addImm, Nat.zero_mul, Nat.zero_add, if_true]
      exact hj
    refine (h _ w _ g3 (VRel.cons hval (VRel.mono g2 h2))).mono ?_
    rintro e w' ⟨v, K', r, σ', he, k1, k2, k3, k4⟩
    exact ⟨v, K', r, σ', he, g2.trans k1, k2, k3, k4⟩

/-- The same, of a slot of the frame. -/
theorem awp_freeze {N : Nat} {a : ACode} {Q : APost} {F : AFrame} {b sz d : Nat} {xs : List AVal} {τ : AHeap} (hF : F d = some (.arr sz b 0 xs.length)) (h : AWp P N a Q (fset d (some (.slc sz xs false)) F) τ) : AWp P N a Q F ((b, .cells sz xs) :: τ) := by
  refine awp_vs (fun K w tmps hr hfr => ?_) h
  have h1 := hfr.at_ d _ hF
  have hmem : (b, ABlk.cells sz xs) ∈ (b, ABlk.cells sz xs) :: τ := by simp
  have hown := hr.own b _ hmem
  have hsub : HSub τ ((b, ABlk.cells sz xs) :: τ) := HSub.tail _ _
  have key : ∀ K', K.le K' → Rel K' τ w → VR K' (.slc sz xs false) (tmps.getD d undef) → ∃ K', K.le K' ∧ Rel K' τ w ∧ FRel K' N (fset d (some (.slc sz xs false)) F) tmps := by
    intro K' k1 k2 k3
    refine ⟨K', k1, k2, hfr.size, fun i x e => ?_⟩
    simp only [fset] at e
    split at e
    · rename_i hi
      subst hi
      simp only [Option.some.injEq] at e
      subst e
      exact k3
    · exact (hfr.at_ i x e).mono k1
  unfold VR at h1
  generalize hv : tmps.getD d undef = v at h1 key
  generalize hn : xs.length = n at h1
  cases h1 with
  | arr0 hl r =>
    have : xs = [] := List.length_eq_zero_iff.1 hn
    subst this
    exact key K (Kr.le.refl K) (hsub K w hr) (VRel.slc0 (by simp) .nil)
  | @arr _ _ _ cb _ pcap cap _ _ hl ho hc r =>
    obtain ⟨vs0, g1, g2, g3⟩ := hr.freeze hmem hl
    rw [hdel_head] at g3
    refine key (K.addImm cb vs0) g2 g3 ?_
    refine VRel.slc (vs := vs0) hn hown.1 rfl ?_ (VRel.mono g2 g1) hc (by simp) .nil
    intro j v hj
    simp only [Kr.addImm, Nat.zero_mul, Nat.zero_add, if_true]
    exact hj

end Go.Abs
