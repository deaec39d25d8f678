/- 'Rows.StatPartsSaid': whatever the input, the law returns true and leaves what it was given as it was. Conditions: none. -/
import Derived.Test.YtgmefkhincnajaaRows
import Derived.WalkKit
import Derived.ProofKit
import Derived.OpenShut
import Derived.ShutString
import Derived.ChangeOld
import Derived.Below
import Derived.Test.YtgmefkhincnajaaPkI
namespace Go.Abs
open Go Go.Proofs
theorem h_StatParts (zs : List AVal) (h : HasL Try.prog [46, 36] zs) : ACalls Try.prog f_ingotlaw16_StatParts zs [] fun r _ => r = .bool true := by
  obtain ⟨a0, l, rfl, h0, h⟩ := h.cons_inv
  obtain ⟨a1, l, rfl, h1, h⟩ := h.cons_inv
  obtain rfl := h.nil_inv
  obtain ⟨xs, rfl, hl, hx⟩ := h0.slc_inv Try.underlying46
  obtain ⟨ps, rfl, hps⟩ := map_ex (f := AVal.int .i64) (p := fun p => -9223372036854775808 ≤ p ∧ p ≤ 9223372036854775807) fun x hm => by
    obtain ⟨i, rfl, w⟩ := (hx x hm).int_inv Try.underlying2
    exact ⟨i, rfl, wf_i64 w⟩
  obtain ⟨cs, rfl, hc⟩ := h1.bytes_inv Try.underlying36 Try.underlying5 (by kernel_rfl)
  rw [show Try.prog.cellsOf 2 = 1 by kernel_rfl]
  exact c_StatParts ps cs hps (by simpa [maxLen] using hl) (by simpa [maxLen] using hc) []
end Go.Abs
namespace Go.Proofs.Ytgmefkhincnajaa.statParts
open Go.ChangeShapes Go.WideShapes Go.ChangeAt Go.RowKit
open Go.ChangeMaps (open_string shut_string)
set_option linter.unusedVariables false

theorem own : ownKnob Try.prog.godebug = none := by kernel_rfl
theorem laidOut : laidOutB Try.prog = true := by kernel_rfl
theorem plain : Abs.plainS Try.prog [46, 36, 2, 5] = true := by kernel_rfl
theorem readable : ∀ t ∈ [46, 36], Try.prog.readableRec t = true ∧ t < Try.prog.types.size := by
  intro t ht
  simp only [List.mem_cons, List.not_mem_nil, or_false] at ht
  rcases ht with rfl | rfl <;> exact ⟨by kernel_rfl, of_decide_eq_true (by kernel_rfl)⟩

set_option maxRecDepth 100000 in
theorem lifted (os : Os) (started : os.Started) (H : Type) (enc : TypeId × Value → H) :
    ReturnsInHanded {} Try.checked os 6 .any (Rows.statPartsSpec.pre6 enc Try.prog Try.f6 Rows.statPartsRow.domain false) (Rows.statPartsSpec.post enc Try.prog Try.f6 false true false false) := by
  refine returnsInHanded_of_change (C := Try.checked) own started (by kernel_rfl) Try.func6
    (ChangeSpec.witness6 (enc := enc) (C := Try.checked) false ⟨#[], #[.slice none 0 0, .slice none 0 0], []⟩ 8 (by kernel_rfl) (by kernel_rfl) (by kernel_rfl) (by kernel_rfl)) ?_
  intro W base args ds gs before hval0 hW hcnd _
  have hW' := hW
  obtain ⟨p, q, hA0, hV, rfl, hfz, hnd⟩ := hW
  have hA : DataW.TrodAll enc Try.prog W 0 (fun _ => true) true Try.f6.params.toList args.toList ds p := hA0
  have hval : ∀ (j : Nat) t v, Try.f6.params[j]? = some t → args[j]? = some v → Value.okWide Try.prog W .any base t v := hval0
  rw [Try.params6] at hA hval
  obtain ⟨rfl, rfl⟩ := trodVars_none hV
  obtain ⟨zs, has, hvr⟩ := Abs.opened_all plain [46, 36] args.toList ds p (by decide) (fun j t v e1 e2 => hval j t v (by simpa using e1) (by simpa using e2)) hA
  refine ((Abs.calls_of (Abs.h_StatParts zs has) hvr : Calls Try.prog 6 args.toList.toArray W _)).mono fun e W' ⟨he, bel⟩ => ?_
  subst he
  obtain ⟨d0, d1, rfl⟩ : ∃ d0 d1, ds = [d0, d1] := by
    cases args with
    | mk l =>
      have := Abs.trodAll_len hA
      match ds, this with
      | [d0, d1], _ => exact ⟨d0, d1, rfl⟩
  exact ⟨_, rfl, _, _, _, [], _, [], hW', trodAll_mk1 (shut_bool Try.underlying4 _), Abs.stays_all laidOut bel [46, 36] args.toList _ p readable hA, rfl, bel.frame _, fun h => by cases h⟩

theorem over : Rows.statPartsRow.holds Try.pinned (OpenSpec.ofChange Rows.statPartsSpec) :=
  OpenClaim.holds_of_wide 6 Try.f6 rfl rfl rfl rfl rfl rfl rfl ⟨rfl, rfl, rfl, rfl, rfl⟩ rfl rfl rfl rfl rfl (by kernel_rfl) Try.func6 (by kernel_rfl)
    (of_decide_eq_true (by kernel_rfl)) (by unfold Func.isWrapper; first | (rw [if_pos (by decide +kernel)]; kernel_rfl) | (rw [if_neg (by decide +kernel)]; exact ⟨rfl, rfl⟩))
    (fun os started H enc _ => lifted os started H enc)

/-- The statement. -/
theorem proved : Rows.StatPartsSaid := over
#print axioms proved
end Go.Proofs.Ytgmefkhincnajaa.statParts
