/- 'Rows.FlatUnionsSaid': whatever the input, the law returns true and leaves what it was given as it was. Conditions: none. -/
import Derived.Test.YtgmefkhincnajaaRows
import Derived.WalkKit
import Derived.ProofKit
import Derived.OpenShut
import Derived.ShutString
import Derived.ChangeOld
import Derived.Below
import Derived.Test.YtgmefkhincnajaaPkU
namespace Go.Abs
open Go Go.Proofs
theorem has_bools {a : Z0} (h : Has Try.prog 45 a) : ∃ p : List Bool, a = .slc 1 (p.map .bool) false ∧ p.length ≤ maxLen := by
  obtain ⟨xs, rfl, hl, hx⟩ := h.slc_inv Try.underlying45
  obtain ⟨p, rfl, _⟩ := Zbl (f := Z0.bool) (p := fun _ => True) fun x hm => by
    obtain ⟨o, rfl⟩ := (hx x hm).bool_inv Try.underlying4
    exact ⟨o, rfl, trivial⟩
  rw [List.length_map] at hl
  exact ⟨p, by rw [show Try.prog.cellsOf 4 = 1 by kernel_rfl], hl⟩
theorem has_i8s {a : Z0} (h : Has Try.prog 117 a) : ∃ p : List Int, a = .slc 1 (p.map (.int .i8)) false ∧ ∀ x ∈ p, -128 ≤ x ∧ x ≤ 127 := by
  obtain ⟨xs, rfl, hl, hx⟩ := h.slc_inv Try.underlying117
  obtain ⟨p, rfl, hp⟩ := Zbl (f := Z0.int .i8) (p := fun x => -128 ≤ x ∧ x ≤ 127) fun x hm => by
    obtain ⟨o, rfl, w⟩ := (hx x hm).int_inv Try.underlying87
    exact ⟨o, rfl, Zbk w⟩
  exact ⟨p, by rw [show Try.prog.cellsOf 87 = 1 by kernel_rfl], hp⟩
theorem h_FlatUnions (zs : List Z0) (h : HasL Try.prog [45, 117] zs) : Z1q Try.prog Zcm zs [] fun r _ => r = .bool true := by
  obtain ⟨a0, l, rfl, h0, h⟩ := h.cons_inv
  obtain ⟨a1, l, rfl, h1, h⟩ := h.cons_inv
  obtain rfl := h.nil_inv
  obtain ⟨ws, rfl, _⟩ := has_bools h0
  obtain ⟨ns, rfl, hr⟩ := has_i8s h1
  exact (Z25p ws ns hr []).mono fun r σ' h => h.1
end Go.Abs
namespace Go.Proofs.Ytgmefkhincnajaa.flatUnions
open Go.ChangeShapes Go.WideShapes Go.ChangeAt Go.RowKit
open Go.ChangeMaps (open_string shut_string)
set_option linter.unusedVariables false

theorem own : ownKnob Try.prog.godebug = none := by kernel_rfl
theorem laidOut : laidOutB Try.prog = true := by kernel_rfl
theorem plain : Abs.Zb9 Try.prog [45, 117, 4, 87] = true := by kernel_rfl
theorem readable : ∀ t ∈ [45, 117], Try.prog.readableRec t = true ∧ t < Try.prog.types.size := by
  intro t ht
  simp only [List.mem_cons, List.not_mem_nil, or_false] at ht
  rcases ht with rfl | rfl <;> exact ⟨by kernel_rfl, of_decide_eq_true (by kernel_rfl)⟩

set_option maxRecDepth 100000 in
theorem lifted (os : Os) (started : os.Started) (H : Type) (enc : TypeId × Value → H) :
    ReturnsInHanded {} Try.checked os 16 .any (Rows.flatUnionsSpec.pre6 enc Try.prog Try.f16 Rows.flatUnionsRow.domain false) (Rows.flatUnionsSpec.post enc Try.prog Try.f16 false true false false) := by
  refine returnsInHanded_of_change (C := Try.checked) own started (by kernel_rfl) Try.func16
    (ChangeSpec.witness6 (enc := enc) (C := Try.checked) false ⟨#[], #[.slice none 0 0, .slice none 0 0], []⟩ 8 (by kernel_rfl) (by kernel_rfl) (by kernel_rfl) (by kernel_rfl)) ?_
  intro W base args ds gs before hval0 hW hcnd _
  have hW' := hW
  obtain ⟨p, q, hA0, hV, rfl, hfz, hnd⟩ := hW
  have hA : DataW.TrodAll enc Try.prog W 0 (fun _ => true) true Try.f16.params.toList args.toList ds p := hA0
  have hval : ∀ (j : Nat) t v, Try.f16.params[j]? = some t → args[j]? = some v → Value.okWide Try.prog W .any base t v := hval0
  rw [Try.params16] at hA hval
  obtain ⟨rfl, rfl⟩ := trodVars_none hV
  obtain ⟨zs, has, hvr⟩ := Abs.Zbf plain [45, 117] args.toList ds p (by decide) (fun j t v e1 e2 => hval j t v (by simpa using e1) (by simpa using e2)) hA
  refine ((Abs.Zav (Abs.h_FlatUnions zs has) hvr : Calls Try.prog 16 args.toList.toArray W _)).mono fun e W' ⟨he, bel⟩ => ?_
  subst he
  obtain ⟨d0, d1, rfl⟩ : ∃ d0 d1, ds = [d0, d1] := by
    cases args with
    | mk l =>
      have := Abs.Zbh hA
      match ds, this with
      | [d0, d1], _ => exact ⟨d0, d1, rfl⟩
  exact ⟨_, rfl, _, _, _, [], _, [], hW', trodAll_mk1 (shut_bool Try.underlying4 _), Abs.Zbg laidOut bel [45, 117] args.toList _ p readable hA, rfl, bel.frame _, fun h => by cases h⟩

theorem over : Rows.flatUnionsRow.holds Try.pinned (OpenSpec.ofChange Rows.flatUnionsSpec) :=
  OpenClaim.holds_of_wide 16 Try.f16 rfl rfl rfl rfl rfl rfl rfl ⟨rfl, rfl, rfl, rfl, rfl⟩ rfl rfl rfl rfl rfl (by kernel_rfl) Try.func16 (by kernel_rfl)
    (of_decide_eq_true (by kernel_rfl)) (by unfold Func.isWrapper; first | (rw [if_pos (by decide +kernel)]; kernel_rfl) | (rw [if_neg (by decide +kernel)]; exact ⟨rfl, rfl⟩))
    (fun os started H enc _ => lifted os started H enc)

/-- The statement. -/
theorem proved : Rows.FlatUnionsSaid := over
#print axioms proved
end Go.Proofs.Ytgmefkhincnajaa.flatUnions
