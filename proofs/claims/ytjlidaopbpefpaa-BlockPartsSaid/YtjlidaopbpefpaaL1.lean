/- Contracts: the bounds of blocks. -/
import Derived.Test.YtjlidaopbpefpaaAbsT
import Derived.Test.YtjlidaopbpefpaaACode
import Derived.Test.YtjlidaopbpefpaaAOk
namespace Go.Abs
open Go Go.Proofs
set_option linter.unusedVariables false
set_option linter.unusedSimpArgs false

def boundF (n : Int) : Int := max n 0 + (max n 0) / 255 + 16

theorem tdiv255 (n : Int) (h : 0 ≤ n) : n.tdiv 255 = n / 255 := Int.tdiv_eq_ediv_of_nonneg h

theorem c_Bound (n : Int) (h : n ≤ 1099511627776) (h' : -9223372036854775808 ≤ n) (σ : AHeap) : ACalls Try.prog f_lz4_Bound [.int .i64 n] σ fun r σ' => r = .int .i64 (boundF n) ∧ σ' = σ := by
  refine acalls_enter rfl lz4_Bound_ok (Nat.le_of_ble_eq_true rfl) ?_
  refine aw_region ?_
  (repeat (refine st_q rfl rfl rfl ?_))
  (refine st_nil ?_; (repeat (first | refine kp_cons rfl ?_ | refine kp_skip ?_)); refine kp_nil ?_)
  refine aw_region ?_
  (repeat (refine st_q rfl rfl rfl ?_))
  (refine st_nil ?_; (repeat (first | refine kp_cons rfl ?_ | refine kp_skip ?_)); refine kp_nil ?_)
  refine aw_region ?_
  refine st_q rfl rfl rfl ?_
  refine st_q rfl rfl rfl ?_
  refine st_quo rfl (by decide) ?_
  (repeat (refine st_q rfl rfl rfl ?_))
  (refine st_nil ?_; (repeat (first | refine kp_cons rfl ?_ | refine kp_skip ?_)); refine kp_nil ?_)
  refine awp_ret ?_
  refine ares rfl (HSub.refl _) ⟨?_, rfl⟩
  have e : (if (0 : Int) > n then 0 else n) = max n 0 := by split <;> omega
  rw [e, tdiv255 _ (by omega), w64 (max n 0 / 255) (by omega) (by omega), w64 (max n 0 + max n 0 / 255) (by omega) (by omega), w64 _ (by omega) (by omega)]
  rfl

theorem c_refBound (n : Int) (h : n ≤ 1099511627776) (h' : -9223372036854775808 ≤ n) (σ : AHeap) : ACalls Try.prog f_ingotref4_Bound [.int .i64 n] σ fun r σ' => r = .int .i64 (boundF n) ∧ σ' = σ := by
  refine acalls_enter rfl ingotref4_Bound_ok (Nat.le_of_ble_eq_true rfl) ?_
  refine aw_region ?_
  (repeat (refine st_q rfl rfl rfl ?_))
  (refine st_nil ?_; (repeat (first | refine kp_cons rfl ?_ | refine kp_skip ?_)); refine kp_nil ?_)
  refine aw_assoc ?_
  refine aw_reg ?_
  (repeat (refine st_q rfl rfl rfl ?_))
  (refine st_nil ?_; (repeat (first | refine kp_cons rfl ?_ | refine kp_skip ?_)); refine kp_nil ?_)
  refine awp_condp (p := n < 0) rfl (fun h2 => ?_) (fun h2 => ?_)
  · refine aw_region ?_
    (repeat (refine st_q rfl rfl rfl ?_))
    (refine st_nil ?_; (repeat (first | refine kp_cons rfl ?_ | refine kp_skip ?_)); refine kp_nil ?_)
    refine awp_ret ?_
    refine ares rfl (HSub.refl _) ⟨?_, rfl⟩
    have e : boundF n = 16 := by unfold boundF; omega
    rw [e]
    rfl
  refine aw_skip ?_
  refine aw_region ?_
  refine st_q rfl rfl rfl ?_
  refine st_q rfl rfl rfl ?_
  refine st_quo rfl (by decide) ?_
  (repeat (refine st_q rfl rfl rfl ?_))
  (refine st_nil ?_; (repeat (first | refine kp_cons rfl ?_ | refine kp_skip ?_)); refine kp_nil ?_)
  refine awp_ret ?_
  refine ares rfl (HSub.refl _) ⟨?_, rfl⟩
  have e : boundF n = n + n / 255 + 16 := by unfold boundF; omega
  rw [e, tdiv255 _ (by omega), w64 (n / 255) (by omega) (by omega), w64 (n + n / 255) (by omega) (by omega), w64 _ (by omega) (by omega)]
  rfl
end Go.Abs
