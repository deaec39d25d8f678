/- Contracts: what a sequence is written as. -/
import Derived.Test.YtjlidaopbpefpaaLz4
import Derived.Test.YtjlidaopbpefpaaLzP
namespace Go.Abs
open Go Go.Proofs Go.Abs.Lz
set_option linter.unusedVariables false
set_option linter.unusedSimpArgs false

theorem conv8 (m : Nat) : IntKind.wrap .u8 (m : Int) = ((UInt8.ofNat m).toNat : Int) := by
  rw [w8, UInt8.toNat_ofNat']; omega
theorem conv8' (m : Nat) : AVal.int .u8 (IntKind.wrap .u8 (m : Int)) = byte (UInt8.ofNat m) := by rw [conv8]; rfl

theorem c_rest {v : AVal} {xs : List UInt8} {β τ : AHeap} {n : Nat} (ho : Grow v xs β) (hn : xs.length + n ≤ 70368744177664) :
    ACalls Try.prog f_lz4_rest [v, .int .i64 n] (β ++ τ) fun r σ' => ∃ β', Grow r (xs ++ restF n) β' ∧ σ' = β' ++ τ := by
  refine acalls_enter rfl lz4_rest_ok (Nat.le_of_ble_eq_true rfl) ?_
  refine aw_region ?_
  (repeat (refine st_q rfl rfl rfl ?_))
  (refine st_nil ?_; (repeat (first | refine kp_cons rfl ?_ | refine kp_skip ?_)); refine kp_nil ?_)
  refine aw_assoc ?_
  refine aw_reg ?_
  (repeat (refine st_q rfl rfl rfl ?_))
  (refine st_nil ?_; (repeat (first | refine kp_cons rfl ?_ | refine kp_skip ?_)); refine kp_nil ?_)
  refine awp_condp (p := (n : Int) < 15) rfl (fun h => ?_) (fun h => ?_)
  · refine aw_region ?_
    (repeat (refine st_q rfl rfl rfl ?_))
    (refine st_nil ?_; (repeat (first | refine kp_cons rfl ?_ | refine kp_skip ?_)); refine kp_nil ?_)
    refine awp_ret ?_
    refine ares rfl (HSub.refl _) ⟨β, ?_, rfl⟩
    rw [restF, if_pos (by omega), List.append_nil]
    exact ho
  refine aw_skip ?_
  have hr : restF n = restL (n - 15) := by rw [restF, if_neg (by omega)]
  rw [hr]
  refine aw_assoc ?_
  refine aw_reg ?_
  (repeat (refine st_q rfl rfl rfl ?_))
  have e1 : IntKind.wrap .i64 ((n : Int) - 15) = ((n - 15 : Nat) : Int) := by rw [w64 _ (by omega) (by omega)]; omega
  rw [e1]
  (refine st_nil ?_; (repeat (first | refine kp_cons rfl ?_ | refine kp_skip ?_)); refine kp_nil ?_)
  refine awp_block ?_
  refine awp_loopN (fun k F σ' => ∃ (m : Nat) (v' : AVal) (xs' : List UInt8) (β' : AHeap), F = fset 0 (some v') (fset 1 (some (.int .i64 m)) fnone) ∧ σ' = β' ++ τ ∧ Grow v' xs' β' ∧ xs' ++ restL m = xs ++ restL (n - 15) ∧ xs'.length + m ≤ xs.length + n ∧ k = m) (n := n - 15)
    ⟨n - 15, v, xs, β, rfl, rfl, ho, rfl, by omega, rfl⟩ ?_
  rintro k F σ' ⟨m, v', xs', β', rfl, rfl, ho', he, hl, rfl⟩
  refine aw_assoc ?_
  refine aw_reg ?_
  (repeat (refine st_q rfl rfl rfl ?_))
  (refine st_nil ?_; (repeat (first | refine kp_cons rfl ?_ | refine kp_skip ?_)); refine kp_nil ?_)
  refine awp_condp (p := (255 : Int) ≤ k) rfl (fun h2 => ?_) (fun h2 => ?_)
  · refine aw_skip ?_
    refine aw_block ?_
    refine awp_region ?_
    (repeat (refine st_q rfl rfl rfl ?_))
    refine st_appO (ys := [255]) ho' rfl rfl (by simp only [List.length_cons, List.length_nil]; omega) fun b' hb' => ?_
    (repeat (refine st_q rfl rfl rfl ?_))
    refine st_nil ?_
    refine kp_weaken (keep := [0, 1]) ?_
    ((repeat (first | refine kp_cons rfl ?_ | refine kp_skip ?_)); refine kp_nil ?_)
    refine awp_region ?_
    (repeat (refine st_q rfl rfl rfl ?_))
    have e2 : IntKind.wrap .i64 ((k : Int) - 255) = ((k - 255 : Nat) : Int) := by rw [w64 _ (by omega) (by omega)]; omega
    rw [e2]
    refine st_nil ?_
    refine kp_less (keep := [0, 1]) ?_
    ((repeat (first | refine kp_cons rfl ?_ | refine kp_skip ?_)); refine kp_nil ?_)
    refine ⟨_, k - 255, HSub.refl _, ⟨k - 255, _, xs' ++ [255], [(b', .cells 1 (bytes (xs' ++ [255])))], rfl, rfl, .inr ⟨b', rfl, rfl⟩, ?_, by simp only [List.length_append, List.length_cons, List.length_nil]; omega, rfl⟩, by omega⟩
    rw [← he]
    conv => rhs; rw [restL, dif_pos (by omega)]
    simp
  · refine awp_exit ?_
    show AWp _ _ _ _ _ _
    refine aw_region ?_
    (repeat (refine st_q rfl rfl rfl ?_))
    rw [conv8]
    (repeat (refine st_q rfl rfl rfl ?_))
    refine st_appO (ys := [UInt8.ofNat k]) ho' rfl rfl (by simp only [List.length_cons, List.length_nil]; omega) fun b' hb' => ?_
    (repeat (refine st_q rfl rfl rfl ?_))
    (refine st_nil ?_; (repeat (first | refine kp_cons rfl ?_ | refine kp_skip ?_)); refine kp_nil ?_)
    refine awp_ret ?_
    have e3 : restL k = [UInt8.ofNat k] := by rw [restL, dif_neg (by omega)]
    rw [e3] at he
    refine ares rfl (HSub.refl _) ⟨_, .inr ⟨b', ?_, rfl⟩, ?_⟩
    · rw [he]; rfl
    · rw [he]; rfl
end Go.Abs
