/- 'Rows.FlatBuildsSaid': whatever the input, the law returns true and leaves what it was given as it was. Conditions: none. -/
import Derived.Test.YtgmefkhincnajaaRows
import Derived.WalkKit
import Derived.ProofKit
import Derived.OpenShut
import Derived.ShutString
import Derived.ChangeOld
import Derived.Below
import Derived.Test.YtgmefkhincnajaaPkU
set_option linter.unusedVariables false
namespace Go.Abs
open Go Go.Proofs
theorem has_cl {a : Z0} (h : Has Try.prog 49 a) : ∃ c : Col, a = Kc c ∧ ∀ v ∈ c.ints, -9223372036854775808 ≤ v ∧ v ≤ 9223372036854775807 := by
 obtain ⟨ys, rfl, hl⟩ := h.agg_inv Try.underlying49
 obtain ⟨y0, l, rfl, h0, hl⟩ := HasL.cons_inv (t := 45) (ts := [46, 42, 47, 46]) hl
 obtain ⟨y1, l, rfl, h1, hl⟩ := hl.cons_inv
 obtain ⟨y2, l, rfl, h2, hl⟩ := hl.cons_inv
 obtain ⟨y3, l, rfl, h3, hl⟩ := hl.cons_inv
 obtain ⟨y4, l, rfl, h4, hl⟩ := hl.cons_inv
 obtain rfl := hl.nil_inv
 obtain ⟨x0, rfl, _, hx0⟩ := h0.slc_inv Try.underlying45
 obtain ⟨he, rfl, _⟩ := Zb0 (f := Z0.bool) (p := fun _ => True) fun x hm => by
  obtain ⟨o, rfl⟩ := (hx0 x hm).bool_inv Try.underlying4
  exact ⟨o, rfl, trivial⟩
 have hi : ∀ y, Has Try.prog 46 y → ∃ is : List Int, y = .slc 1 (is.map (.int .i64)) false ∧ ∀ v ∈ is, -9223372036854775808 ≤ v ∧ v ≤ 9223372036854775807 := by
  intro y hy
  obtain ⟨xs, rfl, _, hx⟩ := hy.slc_inv Try.underlying46
  obtain ⟨is, rfl, hp⟩ := Zb0 (f := Z0.int .i64) (p := fun v => -9223372036854775808 ≤ v ∧ v ≤ 9223372036854775807) fun x hm => by
   obtain ⟨o, rfl, w⟩ := (hx x hm).int_inv Try.underlying2
   exact ⟨o, rfl, Zay w⟩
  exact ⟨is, by rw [show Try.prog.cellsOf 2 = 1 by kernel_rfl], hp⟩
 obtain ⟨is, rfl, his⟩ := hi _ h1
 obtain ⟨ls, rfl, _⟩ := hi _ h4
 obtain ⟨x2, rfl, _, hx2⟩ := h2.slc_inv Try.underlying42
 obtain ⟨ns, rfl, _⟩ := Zb0 (f := Z0.int .i64) (p := fun _ => True) fun x hm => by
  obtain ⟨o, rfl, w⟩ := (hx2 x hm).int_inv Try.underlying3
  exact ⟨o, rfl, trivial⟩
 obtain ⟨x3, rfl, _, hx3⟩ := h3.slc_inv Try.underlying47
 obtain ⟨ts, rfl, _⟩ := Zb0 (f := fun b => Z0.slc 1 (bytes b) false) (p := fun _ => True) fun x hm => by
  obtain ⟨b, rfl, _⟩ := (hx3 x hm).bytes_inv Try.underlying36 Try.underlying5 Zr0
  exact ⟨b, rfl, trivial⟩
 refine ⟨⟨he, is, ns, ts, ls⟩, ?_, his⟩
 rw [show Try.prog.cellsOf 4 = 1 by kernel_rfl, show Try.prog.cellsOf 3 = 1 by kernel_rfl, show Try.prog.cellsOf 36 = 1 by kernel_rfl]
 rfl
theorem h_FlatBuilds (zs : List Z0) (h : HasL Try.prog [25, 95, 3, 42] zs) : Z1s Try.prog Zbs zs [] fun r _ => r = .bool true := by
 obtain ⟨a0, l, rfl, h0, h⟩ := h.cons_inv
 obtain ⟨a1, l, rfl, h1, h⟩ := h.cons_inv
 obtain ⟨a2, l, rfl, h2, h⟩ := h.cons_inv
 obtain ⟨a3, l, rfl, h3, h⟩ := h.cons_inv
 obtain rfl := h.nil_inv
 obtain ⟨t, rfl⟩ := (Zr2 h0).1 rfl
 obtain ⟨xs, rfl, _, hx⟩ := h1.slc_inv Try.underlying95
 obtain ⟨cols, rfl, hc⟩ := Zb0 (f := Kc) (p := fun c => ∀ v ∈ c.ints, -9223372036854775808 ≤ v ∧ v ≤ 9223372036854775807) fun x hm => has_cl (hx x hm)
 obtain ⟨n, rfl, _⟩ := h2.int_inv Try.underlying3
 obtain ⟨ks, rfl, _, hk⟩ := h3.slc_inv Try.underlying42
 obtain ⟨cs, rfl, _⟩ := Zb0 (f := Z0.int .i64) (p := fun _ => True) fun x hm => by
  obtain ⟨o, rfl, w⟩ := (hk x hm).int_inv Try.underlying3
  exact ⟨o, rfl, trivial⟩
 rw [show Try.prog.cellsOf 49 = 5 by kernel_rfl, show Try.prog.cellsOf 3 = 1 by kernel_rfl]
 exact Z1l0 t cols n cs hc []
end Go.Abs
namespace Go.Proofs.Ytgmefkhincnajaa.flatBuilds
open Go.ChangeShapes Go.WideShapes Go.ChangeAt Go.RowKit
open Go.ChangeMaps (open_string shut_string)

theorem own : ownKnob Try.prog.godebug = none := by kernel_rfl
theorem laidOut : laidOutB Try.prog = true := by kernel_rfl
theorem plain : Abs.Zap Try.prog [25, 95, 3, 42, 22, 23, 49, 9, 45, 46, 47, 4, 2, 36, 5] = true := by kernel_rfl
theorem readable : ∀ t ∈ [25, 95, 3, 42], Try.prog.readableRec t = true ∧ t < Try.prog.types.size := by
 intro t ht
 simp only [List.mem_cons, List.not_mem_nil, or_false] at ht
 rcases ht with rfl | rfl | rfl | rfl <;> exact ⟨by kernel_rfl, of_decide_eq_true (by kernel_rfl)⟩

set_option maxRecDepth 100000 in
theorem lifted (os : Os) (started : os.Started) (H : Type) (enc : TypeId × Value → H) :
  ReturnsInHanded {} Try.checked os 12 .any (Rows.flatBuildsSpec.pre6 enc Try.prog Try.f12 Rows.flatBuildsRow.domain false) (Rows.flatBuildsSpec.post enc Try.prog Try.f12 false true false false) := by
 refine returnsInHanded_of_change (C := Try.checked) own started (by kernel_rfl) Try.func12
  (ChangeSpec.witness6 (enc := enc) (C := Try.checked) false ⟨#[], #[.agg #[.int .i64 0, .slice none 0 0, .slice none 0 0, .int .i64 0, .int .i64 0, .int .i64 0], .slice none 0 0, .int .i64 0, .slice none 0 0], []⟩ 8 (by kernel_rfl) (by kernel_rfl) (by kernel_rfl) (by kernel_rfl)) ?_
 intro W base args ds gs before hval0 hW hcnd _
 have hW' := hW
 obtain ⟨p, q, hA0, hV, rfl, hfz, hnd⟩ := hW
 have hA : DataW.TrodAll enc Try.prog W 0 (fun _ => true) true Try.f12.params.toList args.toList ds p := hA0
 have hval : ∀ (j : Nat) t v, Try.f12.params[j]? = some t → args[j]? = some v → Value.okWide Try.prog W .any base t v := hval0
 rw [Try.params12] at hA hval
 obtain ⟨rfl, rfl⟩ := trodVars_none hV
 obtain ⟨zs, has, hvr⟩ := Abs.Zav plain [25, 95, 3, 42] args.toList ds p (by decide) (fun j t v e1 e2 => hval j t v (by simpa using e1) (by simpa using e2)) hA
 refine ((Abs.Zah (Abs.h_FlatBuilds zs has) hvr : Calls Try.prog 12 args.toList.toArray W _)).mono fun e W' ⟨he, bel⟩ => ?_
 subst he
 obtain ⟨d0, d1, d2, d3, rfl⟩ : ∃ d0 d1 d2 d3, ds = [d0, d1, d2, d3] := by
  cases args with
  | mk l =>
   have := Abs.Zax hA
   match ds, this with
   | [d0, d1, d2, d3], _ => exact ⟨d0, d1, d2, d3, rfl⟩
 exact ⟨_, rfl, _, _, _, [], _, [], hW', trodAll_mk1 (shut_bool Try.underlying4 _), Abs.Zaw laidOut bel [25, 95, 3, 42] args.toList _ p readable hA, rfl, bel.frame _, fun h => by cases h⟩

theorem over : Rows.flatBuildsRow.holds Try.pinned (OpenSpec.ofChange Rows.flatBuildsSpec) :=
 OpenClaim.holds_of_wide 12 Try.f12 rfl rfl rfl rfl rfl rfl rfl ⟨rfl, rfl, rfl, rfl, rfl⟩ rfl rfl rfl rfl rfl (by kernel_rfl) Try.func12 (by kernel_rfl)
  (of_decide_eq_true (by kernel_rfl)) (by unfold Func.isWrapper; first | (rw [if_pos (by decide +kernel)]; kernel_rfl) | (rw [if_neg (by decide +kernel)]; exact ⟨rfl, rfl⟩))
  (fun os started H enc _ => lifted os started H enc)

/-- The statement. -/
theorem proved : Rows.FlatBuildsSaid := over
#print axioms proved
end Go.Proofs.Ytgmefkhincnajaa.flatBuilds
