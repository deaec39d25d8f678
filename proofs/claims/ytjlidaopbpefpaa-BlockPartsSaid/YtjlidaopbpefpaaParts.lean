/- 'Rows.BlockPartsSaid': whatever the input, the law returns true and leaves what it was given as it was. Conditions: none. -/
import Derived.Test.YtjlidaopbpefpaaRows
import Derived.WalkKit
import Derived.ProofKit
import Derived.OpenShut
import Derived.ShutString
import Derived.ChangeOld
import Derived.Below
import Derived.Test.YtjlidaopbpefpaaAbsV
import Derived.Test.YtjlidaopbpefpaaPartsW
namespace Go.Abs
open Go Go.Proofs Go.Abs.Lz
theorem h_BlockParts (zs : List AVal) (h : HasL Try.prog [30, 22] zs) : ACalls Try.prog f_ingotlaw4_BlockParts zs [] fun r _ => r = .bool true := by
  obtain ⟨a0, l, rfl, h0, h⟩ := h.cons_inv
  obtain ⟨a1, l, rfl, h1, h⟩ := h.cons_inv
  obtain rfl := h.nil_inv
  obtain ⟨xs, rfl, _, hx⟩ := h0.slc_inv Try.underlying30
  obtain ⟨tail, rfl, _⟩ := h1.bytes_inv Try.underlying22 Try.underlying5 (by kernel_rfl)
  obtain ⟨ps, rfl, hps⟩ := map_ex (f := encPart) (p := fun p => (-9223372036854775808 ≤ p.off ∧ p.off ≤ 9223372036854775807) ∧ -9223372036854775808 ≤ p.n ∧ p.n ≤ 9223372036854775807) fun x hm => by
    obtain ⟨ys, rfl, hy⟩ := (hx x hm).agg_inv Try.underlying32
    obtain ⟨y0, l, rfl, h0, hy⟩ := hy.cons_inv
    obtain ⟨y1, l, rfl, h1, hy⟩ := hy.cons_inv
    obtain ⟨y2, l, rfl, h2, hy⟩ := hy.cons_inv
    obtain rfl := hy.nil_inv
    obtain ⟨lit, rfl, _⟩ := h0.bytes_inv Try.underlying22 Try.underlying5 (by kernel_rfl)
    obtain ⟨off, rfl, w1⟩ := h1.int_inv Try.underlying3
    obtain ⟨n, rfl, w2⟩ := h2.int_inv Try.underlying3
    exact ⟨⟨lit, off, n⟩, rfl, wf_i64 w1, wf_i64 w2⟩
  rw [show Try.prog.cellsOf 32 = 3 by kernel_rfl]
  exact (c_BlockParts ps hps tail []).mono fun r σ h => h.1
end Go.Abs
namespace Go.Proofs.Ytjlidaopbpefpaa.blockParts
open Go.ChangeShapes Go.WideShapes Go.ChangeAt Go.RowKit
open Go.ChangeMaps (open_string shut_string)
set_option linter.unusedVariables false

theorem own : ownKnob Try.prog.godebug = none := by kernel_rfl
theorem laidOut : laidOutB Try.prog = true := by kernel_rfl
theorem plain : Abs.plainS Try.prog [30, 22, 32, 5, 3] = true := by kernel_rfl
theorem readable : ∀ t ∈ [30, 22], Try.prog.readableRec t = true ∧ t < Try.prog.types.size := by
  intro t ht
  simp only [List.mem_cons, List.not_mem_nil, or_false] at ht
  rcases ht with rfl | rfl <;> exact ⟨by kernel_rfl, of_decide_eq_true (by kernel_rfl)⟩

set_option maxRecDepth 100000 in
theorem lifted (os : Os) (started : os.Started) (H : Type) (enc : TypeId × Value → H) :
    ReturnsInHanded {} Try.checked os 4 .any (Rows.blockPartsSpec.pre6 enc Try.prog Try.f4 Rows.blockPartsRow.domain false) (Rows.blockPartsSpec.post enc Try.prog Try.f4 false true false false) := by
  refine returnsInHanded_of_change (C := Try.checked) own started (by kernel_rfl) Try.func4
    (ChangeSpec.witness6 (enc := enc) (C := Try.checked) false ⟨#[], #[.slice none 0 0, .slice none 0 0], []⟩ 8 (by kernel_rfl) (by kernel_rfl) (by kernel_rfl) (by kernel_rfl)) ?_
  intro W base args ds gs before hval0 hW hcnd _
  have hW' := hW
  obtain ⟨p, q, hA0, hV, rfl, hfz, hnd⟩ := hW
  have hA : DataW.TrodAll enc Try.prog W 0 (fun _ => true) true Try.f4.params.toList args.toList ds p := hA0
  have hval : ∀ (j : Nat) t v, Try.f4.params[j]? = some t → args[j]? = some v → Value.okWide Try.prog W .any base t v := hval0
  rw [Try.params4] at hA hval
  obtain ⟨rfl, rfl⟩ := trodVars_none hV
  obtain ⟨zs, has, hvr⟩ := Abs.opened_all plain [30, 22] args.toList ds p (by decide) (fun j t v e1 e2 => hval j t v (by simpa using e1) (by simpa using e2)) hA
  refine ((Abs.calls_of (Abs.h_BlockParts zs has) hvr : Calls Try.prog 4 args.toList.toArray W _)).mono fun e W' ⟨he, bel⟩ => ?_
  subst he
  obtain ⟨d0, d1, rfl⟩ : ∃ d0 d1, ds = [d0, d1] := by
    cases args with
    | mk l =>
      have := Abs.trodAll_len hA
      match ds, this with
      | [d0, d1], _ => exact ⟨d0, d1, rfl⟩
  exact ⟨_, rfl, _, _, _, [], _, [], hW', trodAll_mk1 (shut_bool Try.underlying4 _), Abs.stays_all laidOut bel [30, 22] args.toList _ p readable hA, rfl, bel.frame _, fun h => by cases h⟩

theorem over : Rows.blockPartsRow.holds Try.pinned (OpenSpec.ofChange Rows.blockPartsSpec) :=
  OpenClaim.holds_of_wide 4 Try.f4 rfl rfl rfl rfl rfl rfl rfl ⟨rfl, rfl, rfl, rfl, rfl⟩ rfl rfl rfl rfl rfl (by kernel_rfl) Try.func4 (by kernel_rfl)
    (of_decide_eq_true (by kernel_rfl)) (by unfold Func.isWrapper; first | (rw [if_pos (by decide +kernel)]; kernel_rfl) | (rw [if_neg (by decide +kernel)]; exact ⟨rfl, rfl⟩))
    (fun os started H enc _ => lifted os started H enc)

/-- The statement. -/
theorem proved : Rows.BlockPartsSaid := over
#print axioms proved
end Go.Proofs.Ytjlidaopbpefpaa.blockParts
