/- 'Rows.FlatCutsSaid': whatever the input, the law returns true and leaves what it was given as it was. Conditions: none. -/
import Derived.Test.YtgmefkhincnajaaRows
import Derived.WalkKit
import Derived.ProofKit
import Derived.OpenShut
import Derived.ShutString
import Derived.ChangeOld
import Derived.Below
import Derived.Test.YtgmefkhincnajaaPkT
namespace Go.Abs
open Go Go.Proofs
theorem h_FlatCuts (zs : List Z0) (h : HasL Try.prog [25, 26, 3] zs) : Z1q Try.prog Zck zs [] fun r _ => r = .bool true := by
  obtain ⟨a0, l, rfl, h0, h⟩ := h.cons_inv
  obtain ⟨a1, l, rfl, h1, h⟩ := h.cons_inv
  obtain ⟨a2, l, rfl, h2, h⟩ := h.cons_inv
  obtain rfl := h.nil_inv
  obtain ⟨t, rfl⟩ := (Z1fy h0).1 rfl
  obtain ⟨rows, rfl, hr, _⟩ := (Z1fz h1).2 rfl
  obtain ⟨c, rfl, _⟩ := h2.int_inv Try.underlying3
  exact Z24j t rows c hr []
end Go.Abs
namespace Go.Proofs.Ytgmefkhincnajaa.flatCuts
open Go.ChangeShapes Go.WideShapes Go.ChangeAt Go.RowKit
open Go.ChangeMaps (open_string shut_string)
set_option linter.unusedVariables false

theorem own : ownKnob Try.prog.godebug = none := by kernel_rfl
theorem laidOut : laidOutB Try.prog = true := by kernel_rfl
theorem plain : Abs.Zb9 Try.prog [25, 26, 3, 22, 23, 38, 9, 4, 2, 36, 5] = true := by kernel_rfl
theorem readable : ∀ t ∈ [25, 26, 3], Try.prog.readableRec t = true ∧ t < Try.prog.types.size := by
  intro t ht
  simp only [List.mem_cons, List.not_mem_nil, or_false] at ht
  rcases ht with rfl | rfl | rfl <;> exact ⟨by kernel_rfl, of_decide_eq_true (by kernel_rfl)⟩

set_option maxRecDepth 100000 in
theorem lifted (os : Os) (started : os.Started) (H : Type) (enc : TypeId × Value → H) :
    ReturnsInHanded {} Try.checked os 14 .any (Rows.flatCutsSpec.pre6 enc Try.prog Try.f14 Rows.flatCutsRow.domain false) (Rows.flatCutsSpec.post enc Try.prog Try.f14 false true false false) := by
  refine returnsInHanded_of_change (C := Try.checked) own started (by kernel_rfl) Try.func14
    (ChangeSpec.witness6 (enc := enc) (C := Try.checked) false ⟨#[], #[.agg #[.int .i64 0, .slice none 0 0, .slice none 0 0, .int .i64 0, .int .i64 0, .int .i64 0], .slice none 0 0, .int .i64 0], []⟩ 8 (by kernel_rfl) (by kernel_rfl) (by kernel_rfl) (by kernel_rfl)) ?_
  intro W base args ds gs before hval0 hW hcnd _
  have hW' := hW
  obtain ⟨p, q, hA0, hV, rfl, hfz, hnd⟩ := hW
  have hA : DataW.TrodAll enc Try.prog W 0 (fun _ => true) true Try.f14.params.toList args.toList ds p := hA0
  have hval : ∀ (j : Nat) t v, Try.f14.params[j]? = some t → args[j]? = some v → Value.okWide Try.prog W .any base t v := hval0
  rw [Try.params14] at hA hval
  obtain ⟨rfl, rfl⟩ := trodVars_none hV
  obtain ⟨zs, has, hvr⟩ := Abs.Zbf plain [25, 26, 3] args.toList ds p (by decide) (fun j t v e1 e2 => hval j t v (by simpa using e1) (by simpa using e2)) hA
  refine ((Abs.Zav (Abs.h_FlatCuts zs has) hvr : Calls Try.prog 14 args.toList.toArray W _)).mono fun e W' ⟨he, bel⟩ => ?_
  subst he
  obtain ⟨d0, d1, d2, rfl⟩ : ∃ d0 d1 d2, ds = [d0, d1, d2] := by
    cases args with
    | mk l =>
      have := Abs.Zbh hA
      match ds, this with
      | [d0, d1, d2], _ => exact ⟨d0, d1, d2, rfl⟩
  exact ⟨_, rfl, _, _, _, [], _, [], hW', trodAll_mk1 (shut_bool Try.underlying4 _), Abs.Zbg laidOut bel [25, 26, 3] args.toList _ p readable hA, rfl, bel.frame _, fun h => by cases h⟩

theorem over : Rows.flatCutsRow.holds Try.pinned (OpenSpec.ofChange Rows.flatCutsSpec) :=
  OpenClaim.holds_of_wide 14 Try.f14 rfl rfl rfl rfl rfl rfl rfl ⟨rfl, rfl, rfl, rfl, rfl⟩ rfl rfl rfl rfl rfl (by kernel_rfl) Try.func14 (by kernel_rfl)
    (of_decide_eq_true (by kernel_rfl)) (by unfold Func.isWrapper; first | (rw [if_pos (by decide +kernel)]; kernel_rfl) | (rw [if_neg (by decide +kernel)]; exact ⟨rfl, rfl⟩))
    (fun os started H enc _ => lifted os started H enc)

/-- The statement. -/
theorem proved : Rows.FlatCutsSaid := over
#print axioms proved
end Go.Proofs.Ytgmefkhincnajaa.flatCuts
