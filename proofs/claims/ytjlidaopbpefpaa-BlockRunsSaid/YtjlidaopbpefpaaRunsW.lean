/- One byte many times. -/
import Derived.Test.YtjlidaopbpefpaaLzB
import Derived.Test.YtjlidaopbpefpaaLzT
import Derived.Test.YtjlidaopbpefpaaAbsU
namespace Go.Abs
open Go Go.Proofs Go.Abs.Lz
set_option linter.unusedVariables false
set_option linter.unusedSimpArgs false

theorem c_BlockRuns (a0 : Int) (g0 : 0 ≤ a0) (g1 : a0 ≤ 255) (a1 : Int) (h0 : -9223372036854775808 ≤ a1) (h1 : a1 ≤ 9223372036854775807) (σ : AHeap) : ACalls Try.prog f_ingotlaw4_BlockRuns [.int .u8 a0, .int .i64 a1] σ fun r σ' => r = .bool true ∧ σ' = σ := by
  obtain ⟨c, rfl⟩ : ∃ c : UInt8, a0 = (c.toNat : Int) := ⟨UInt8.ofNat a0.toNat, by rw [UInt8.toNat_ofNat']; omega⟩
  refine acalls_enter rfl ingotlaw4_BlockRuns_ok (Nat.le_of_ble_eq_true rfl) ?_
  refine aw_region ?_
  (repeat (refine st_q rfl rfl rfl ?_))
  (refine st_nil ?_; (repeat (first | refine kp_cons rfl ?_ | refine kp_skip ?_)); refine kp_nil ?_)
  refine aw_assoc ?_
  refine aw_reg ?_
  refine st_callv rfl (c_known _) ?_
  (repeat (refine st_q rfl rfl rfl ?_))
  (refine st_nil ?_; (repeat (first | refine kp_cons rfl ?_ | refine kp_skip ?_)); refine kp_nil ?_)
  refine awp_cond rfl (fun e => by cases e) (fun _ => ?_)
  refine aw_skip ?_
  refine aw_assoc ?_
  refine aw_cut (fun F' σ' => σ' = σ ∧ ∃ d : Bool, (d = true ↔ (a1 < 0 ∨ 20000 < a1)) ∧
    KP [0, 1, 17] F' fun G => G = fset 0 (some (.int .u8 (c.toNat : Int))) (fset 1 (some (.int .i64 a1)) (fset 17 (some (.bool d)) fnone))) ?_ ?_
  · (repeat (refine st_q rfl rfl rfl ?_))
    by_cases h2 : a1 < 0
    · rw [show decide (a1 < 0) = true from decide_eq_true h2]
      (repeat (first | refine st_gn rfl ?_ | refine st_gu rfl ?_ | refine st_q rfl rfl rfl ?_))
      refine st_nil ⟨rfl, true, by simp [h2], ?_⟩
      ((repeat (first | refine kp_cons rfl ?_ | refine kp_skip ?_)); refine kp_nil ?_)
      rfl
    rw [show decide (a1 < 0) = false from decide_eq_false h2]
    (repeat (first | refine st_gy rfl (st_q rfl rfl rfl ?_) | refine st_q rfl rfl rfl ?_))
    refine st_nil ⟨rfl, decide (20000 < a1), by simp only [decide_eq_true_eq]; omega, ?_⟩
    ((repeat (first | refine kp_cons rfl ?_ | refine kp_skip ?_)); refine kp_nil ?_)
    rfl
  rintro F' σ1 ⟨hσ1, d, hd, G, hG, rfl⟩
  rw [hσ1]
  refine kp_weaken (keep := [0, 1, 17]) ⟨_, hG, ?_⟩
  refine awp_cond rfl (fun h2 => ?_) (fun h2 => ?_)
  · refine aw_region ?_
    (repeat (refine st_q rfl rfl rfl ?_))
    (refine st_nil ?_; (repeat (first | refine kp_cons rfl ?_ | refine kp_skip ?_)); refine kp_nil ?_)
    refine awp_ret ?_
    exact ares rfl (HSub.refl _) ⟨rfl, rfl⟩
  refine aw_skip ?_
  have hn : ¬ (a1 < 0 ∨ 20000 < a1) := fun h => by rw [hd.2 h] at h2; cases h2
  obtain ⟨n, rfl⟩ : ∃ n : Nat, a1 = n := ⟨a1.toNat, by omega⟩
  refine aw_region ?_
  (repeat (refine st_q rfl rfl rfl ?_))
  refine st_mks rfl (AVal.fit_iff.1 rfl) (by omega) (by omega) (by omega) (by omega) fun b hb => ?_
  have hz : ∃ ys : List UInt8, ys.length = n ∧ List.replicate (n : Int).toNat (AVal.int .u8 0) = bytes ys := ⟨List.replicate n 0, List.length_replicate, by rw [Int.toNat_natCast, bytes, List.map_replicate]; rfl⟩
  obtain ⟨ys, hys, e0⟩ := hz
  rw [e0]
  change aops _ _ (fset _ (some (.arr 1 b 0 n)) _) _ _
  (repeat (refine st_q rfl rfl rfl ?_))
  (refine st_nil ?_; (repeat (first | refine kp_cons rfl ?_ | refine kp_skip ?_)); refine kp_nil ?_)
  refine aw_assoc ?_
  refine aw_reg ?_
  (repeat (refine st_q rfl rfl rfl ?_))
  (refine st_nil ?_; (repeat (first | refine kp_cons rfl ?_ | refine kp_skip ?_)); refine kp_nil ?_)
  refine awp_block ?_
  refine awp_loopN (fun k F σ' => ∃ (j : Nat) (ys : List UInt8), F = fset 0 (some (.int .u8 (c.toNat : Int))) (fset 1 (some (.int .i64 n)) (fset 5 (some (.arr 1 b 0 n)) (fset 6 (some (.int .i64 j)) fnone))) ∧ σ' = (b, .cells 1 (bytes ys)) :: σ ∧ ys.length = n ∧ j ≤ n ∧ k = n - j ∧ ∀ i, i < j → ys[i]? = some c) (n := n)
    ⟨0, ys, rfl, rfl, hys, by omega, by omega, fun i h => absurd h (by omega)⟩ ?_
  rintro k F σ' ⟨j, ys, rfl, rfl, hl, hj, rfl, hm⟩
  refine aw_assoc ?_
  refine aw_reg ?_
  (repeat (refine st_q rfl rfl rfl ?_))
  (refine st_nil ?_; (repeat (first | refine kp_cons rfl ?_ | refine kp_skip ?_)); refine kp_nil ?_)
  refine awp_condp (p := (j : Int) < (n : Int)) rfl (fun h => ?_) (fun h => ?_)
  · refine aw_skip ?_
    obtain ⟨y, hy⟩ : ∃ y, ys[j]? = some y := ⟨ys[j], List.getElem?_eq_getElem (by omega)⟩
    have hy' : (bytes ys)[0 + (j : Int).toNat]? = some (byte y) := by rw [bytes_get, Nat.zero_add]; simp [hy]
    refine aw_block ?_
    refine awp_region ?_
    refine st_q rfl rfl rfl ?_
    refine st_q rfl rfl rfl ?_
    refine st_q rfl rfl rfl ?_
    refine st_iada rfl ⟨by omega, by omega⟩ ?_
    refine st_store rfl hget_head hy' (by decide) (AVal.fit_iff.1 rfl) (fun _ => ⟨rfl, rfl⟩) hset_head ?_
    refine st_nil ?_
    refine kp_weaken (keep := [0, 1, 5, 6]) ?_
    ((repeat (first | refine kp_cons rfl ?_ | refine kp_skip ?_)); refine kp_nil ?_)
    have e1 : (bytes ys).set (0 + (j : Int).toNat) (putCells (byte y) 0 (AVal.int .u8 (c.toNat : Int)).cells) = bytes (ys.set j c) := by
      rw [Nat.zero_add, bytes, bytes, List.map_set]; rfl
    rw [e1]
    have e2 : IntKind.wrap .i64 ((j : Int) + 1) = ((j + 1 : Nat) : Int) := by rw [w64 _ (by omega) (by omega)]; omega
    refine awp_region ?_
    (repeat (refine st_q rfl rfl rfl ?_))
    rw [e2]
    refine st_nil ?_
    refine kp_less (keep := [0, 1, 5, 6]) ?_
    ((repeat (first | refine kp_cons rfl ?_ | refine kp_skip ?_)); refine kp_nil ?_)
    refine ⟨_, n - (j + 1), HSub.refl _, ⟨j + 1, ys.set j c, rfl, rfl, by simp [hl], by omega, rfl, ?_⟩, by omega⟩
    intro i hi
    rw [List.getElem?_set]
    by_cases hij : j = i
    · subst hij; simp; omega
    · simp [hij]; exact hm i (by omega)
  refine awp_exit ?_
  show AWp _ _ _ _ _ _
  have e3 : ys = List.replicate n c := by
    apply List.ext_getElem?
    intro i
    rw [List.getElem?_replicate]
    by_cases hi : i < n
    · rw [if_pos hi]; exact hm i (by omega)
    · rw [if_neg hi]; exact List.getElem?_eq_none (by omega)
  have hrn := pack_runs c n
  rw [← e3] at hrn
  refine awp_freeze (d := 5) (show _ = some (AVal.arr 1 b 0 (bytes ys).length) by rw [bytes_length, hl]; rfl) ?_
  have hpl := packF_length (bs := ys)
  have hu := unpack_pack (bs := ys) (by omega) (most := (n : Int)) (by omega) (by omega)
  rw [if_pos (by omega)] at hu
  refine aw_region ?_
  (repeat (refine st_q rfl rfl rfl ?_))
  refine st_callv rfl (c_Pack (by omega)) ?_
  (repeat (refine st_q rfl rfl rfl ?_))
  (refine st_nil ?_; (repeat (first | refine kp_cons rfl ?_ | refine kp_skip ?_)); refine kp_nil ?_)
  refine aw_region ?_
  (repeat (refine st_q rfl rfl rfl ?_))
  refine st_callv rfl (c_Unpack' _ (by omega) hu) ?_
  (repeat (refine st_q rfl rfl rfl ?_))
  (refine st_nil ?_; (repeat (first | refine kp_cons rfl ?_ | refine kp_skip ?_)); refine kp_nil ?_)
  refine aw_region ?_
  (repeat (refine st_q rfl rfl rfl ?_))
  refine st_gy rfl (st_q rfl rfl rfl ?_)
  refine st_gy rfl (st_q rfl ab2s_slc rfl ?_)
  refine st_gy rfl (st_q rfl rfl rfl ?_)
  refine st_gy rfl (st_q rfl ab2s_slc rfl ?_)
  refine st_gy rfl (st_q rfl rfl rfl ?_)
  rw [show decide (ys = ys) = true from decide_eq_true rfl]
  (repeat (refine st_q rfl rfl rfl ?_))
  refine st_gy rfl (st_q rfl rfl rfl ?_)
  refine st_gy rfl (st_q rfl rfl rfl ?_)
  refine st_gy rfl (st_q rfl rfl rfl ?_)
  by_cases h64 : n < 64
  · rw [show decide ((n : Int) < 64) = true from decide_eq_true (by omega)]
    (repeat (first | refine st_gn rfl ?_ | refine st_gu rfl ?_ | refine st_gy rfl (st_q rfl rfl rfl ?_) | refine st_q rfl rfl rfl ?_))
    (refine st_nil ?_; (repeat (first | refine kp_cons rfl ?_ | refine kp_skip ?_)); refine kp_nil ?_)
    refine awp_ret ?_
    exact ares rfl (HSub.refl _) ⟨rfl, rfl⟩
  · rw [show decide ((n : Int) < 64) = false from decide_eq_false (by omega)]
    (repeat (refine st_gy rfl (st_q rfl rfl rfl ?_)))
    have e5 : IntKind.wrap .i64 (IntKind.wrap .i64 ((n : Int).tdiv 4) + 16) = ((n / 4 + 16 : Nat) : Int) := by
      rw [Int.tdiv_eq_ediv_of_nonneg (by omega), w64 ((n : Int) / 4) (by omega) (by omega), w64 _ (by omega) (by omega)]; omega
    rw [e5, bytes_length, show decide (((packF ys).length : Int) ≤ ((n / 4 + 16 : Nat) : Int)) = true from decide_eq_true (by have := hrn (by omega) (by omega); omega)]
    (repeat (first | refine st_gy rfl (st_q rfl rfl rfl ?_) | refine st_q rfl rfl rfl ?_))
    (refine st_nil ?_; (repeat (first | refine kp_cons rfl ?_ | refine kp_skip ?_)); refine kp_nil ?_)
    refine awp_ret ?_
    exact ares rfl (HSub.refl _) ⟨rfl, rfl⟩
end Go.Abs
