/- A block is told with just enough room. -/
import Derived.Test.YtjlidaopbpefpaaLzB
namespace Go.Abs
open Go Go.Proofs Go.Abs.Lz
set_option linter.unusedVariables false
set_option linter.unusedSimpArgs false

theorem c_BlockRoom (bs : List UInt8) (f : Bool) (room : Int) (h0 : -9223372036854775808 ≤ room) (h1 : room ≤ 9223372036854775807) (σ : AHeap) : ACalls Try.prog f_ingotlaw4_BlockRoom [.slc 1 (bytes bs) f, .int .i64 room] σ fun r σ' => r = .bool true ∧ σ' = σ := by
  refine acalls_enter rfl ingotlaw4_BlockRoom_ok (Nat.le_of_ble_eq_true rfl) ?_
  refine aw_region ?_
  (repeat (refine st_q rfl rfl rfl ?_))
  (refine st_nil ?_; (repeat (first | refine kp_cons rfl ?_ | refine kp_skip ?_)); refine kp_nil ?_)
  refine aw_assoc ?_
  refine aw_reg ?_
  refine st_callv rfl (c_known _) ?_
  (repeat (refine st_q rfl rfl rfl ?_))
  (refine st_nil ?_; (repeat (first | refine kp_cons rfl ?_ | refine kp_skip ?_)); refine kp_nil ?_)
  refine awp_cond rfl (fun e => by cases e) (fun _ => ?_)
  refine aw_skip ?_
  refine aw_assoc ?_
  refine aw_cut (fun F' σ' => σ' = σ ∧ ∃ d : Bool, (d = true ↔ (1000 < bs.length ∨ room < 0 ∨ 3000 < room)) ∧
    KP [0, 1, 19] F' fun G => G = fset 0 (some (.slc 1 (bytes bs) f)) (fset 1 (some (.int .i64 room)) (fset 19 (some (.bool d)) fnone))) ?_ ?_
  · (repeat (refine st_q rfl rfl rfl ?_))
    rw [bytes_length]
    by_cases h2 : 1000 < bs.length
    · rw [show decide ((1000 : Int) < (bs.length : Int)) = true from decide_eq_true (by omega)]
      (repeat (first | refine st_gn rfl ?_ | refine st_q rfl rfl rfl ?_))
      refine st_nil ⟨rfl, true, by simp [h2], ?_⟩
      ((repeat (first | refine kp_cons rfl ?_ | refine kp_skip ?_)); refine kp_nil ?_)
      rfl
    rw [show decide ((1000 : Int) < (bs.length : Int)) = false from decide_eq_false (by omega)]
    (repeat (first | refine st_gy rfl (st_q rfl rfl rfl ?_) | refine st_q rfl rfl rfl ?_))
    by_cases h3 : room < 0
    · rw [show decide (room < 0) = true from decide_eq_true h3]
      (repeat (first | refine st_gn rfl ?_ | refine st_q rfl rfl rfl ?_))
      refine st_nil ⟨rfl, true, by simp [h3], ?_⟩
      ((repeat (first | refine kp_cons rfl ?_ | refine kp_skip ?_)); refine kp_nil ?_)
      rfl
    rw [show decide (room < 0) = false from decide_eq_false h3]
    (repeat (first | refine st_gy rfl (st_q rfl rfl rfl ?_) | refine st_q rfl rfl rfl ?_))
    refine st_nil ⟨rfl, decide (3000 < room), by simp only [decide_eq_true_eq]; omega, ?_⟩
    ((repeat (first | refine kp_cons rfl ?_ | refine kp_skip ?_)); refine kp_nil ?_)
    rfl
  rintro F' _ ⟨rfl, d, hd, G, hG, rfl⟩
  refine kp_weaken (keep := [0, 1, 19]) ⟨_, hG, ?_⟩
  refine awp_cond rfl (fun h2 => ?_) (fun h2 => ?_)
  · refine aw_region ?_
    (repeat (refine st_q rfl rfl rfl ?_))
    (refine st_nil ?_; (repeat (first | refine kp_cons rfl ?_ | refine kp_skip ?_)); refine kp_nil ?_)
    refine awp_ret ?_
    exact ares rfl (HSub.refl _) ⟨rfl, rfl⟩
  refine aw_skip ?_
  have hn : ¬ (1000 < bs.length ∨ room < 0 ∨ 3000 < room) := fun h => by rw [hd.2 h] at h2; cases h2
  have hpl := packF_length (bs := bs)
  have hu := unpack_pack (bs := bs) (by omega) (most := room) (by omega) (by omega)
  by_cases h3 : room < (bs.length : Int)
  · rw [if_neg (by omega)] at hu
    refine aw_region ?_
    (repeat (refine st_q rfl rfl rfl ?_))
    refine st_callv rfl (c_Pack (by omega)) ?_
    (repeat (refine st_q rfl rfl rfl ?_))
    refine st_callv rfl (c_Unpack' _ (by omega) hu) ?_
    (repeat (refine st_q rfl rfl rfl ?_))
    (refine st_nil ?_; (repeat (first | refine kp_cons rfl ?_ | refine kp_skip ?_)); refine kp_nil ?_)
    refine aw_assoc ?_
    refine aw_reg ?_
    (repeat (refine st_q rfl rfl rfl ?_))
    (refine st_nil ?_; (repeat (first | refine kp_cons rfl ?_ | refine kp_skip ?_)); refine kp_nil ?_)
    refine awp_condp (p := room < ((bytes bs).length : Int)) rfl (fun h4 => ?_) (fun h4 => absurd (by rw [bytes_length]; exact h3) h4)
    refine aw_region ?_
    (repeat (first | refine st_gy rfl (st_q rfl rfl rfl ?_) | refine st_q rfl rfl rfl ?_))
    (refine st_nil ?_; (repeat (first | refine kp_cons rfl ?_ | refine kp_skip ?_)); refine kp_nil ?_)
    refine awp_ret ?_
    exact ares rfl (HSub.refl _) ⟨rfl, rfl⟩
  · rw [if_pos (by omega)] at hu
    refine aw_region ?_
    (repeat (refine st_q rfl rfl rfl ?_))
    refine st_callv rfl (c_Pack (by omega)) ?_
    (repeat (refine st_q rfl rfl rfl ?_))
    refine st_callv rfl (c_Unpack' _ (by omega) hu) ?_
    (repeat (refine st_q rfl rfl rfl ?_))
    (refine st_nil ?_; (repeat (first | refine kp_cons rfl ?_ | refine kp_skip ?_)); refine kp_nil ?_)
    refine aw_assoc ?_
    refine aw_reg ?_
    (repeat (refine st_q rfl rfl rfl ?_))
    (refine st_nil ?_; (repeat (first | refine kp_cons rfl ?_ | refine kp_skip ?_)); refine kp_nil ?_)
    refine awp_condp (p := room < ((bytes bs).length : Int)) rfl (fun h4 => absurd (by rw [bytes_length] at h4; exact h4) h3) (fun h4 => ?_)
    refine aw_skip ?_
    refine aw_region ?_
    (repeat (refine st_q rfl rfl rfl ?_))
    refine st_gy rfl (st_q rfl rfl rfl ?_)
    refine st_gy rfl (st_q rfl ab2s_slc rfl ?_)
    refine st_gy rfl (st_q rfl rfl rfl ?_)
    refine st_gy rfl (st_q rfl ab2s_slc rfl ?_)
    (repeat (first | refine st_gy rfl (st_q rfl rfl rfl ?_) | refine st_q rfl rfl rfl ?_))
    rw [show decide (bs = bs) = true from decide_eq_true rfl]
    (refine st_nil ?_; (repeat (first | refine kp_cons rfl ?_ | refine kp_skip ?_)); refine kp_nil ?_)
    refine awp_ret ?_
    exact ares rfl (HSub.refl _) ⟨rfl, rfl⟩
end Go.Abs
