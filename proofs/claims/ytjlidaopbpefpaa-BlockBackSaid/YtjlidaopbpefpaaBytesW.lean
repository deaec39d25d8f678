/- Any bytes as a block; any bytes packed. -/
import Derived.Test.YtjlidaopbpefpaaLzC
namespace Go.Abs
open Go Go.Proofs Go.Abs.Lz
set_option linter.unusedVariables false
set_option linter.unusedSimpArgs false

theorem ab2s_grow {τ β : AHeap} {v : AVal} {xs : List UInt8} (h : Grow v xs β) : ab2s (β ++ τ) [v] = some (.str xs) := by
  simp [ab2s, h.elems, toBytes_bytes]

theorem c_refUnpack' (σ : AHeap) {bs : List UInt8} {f : Bool} {most : Int} (hb : bs.length ≤ 140737488355328) {e : Nat} {xs : List UInt8} (h : unpack most bs = (e, xs)) :
    ACalls Try.prog f_ingotref4_Unpack [.slc 1 (bytes bs) f, .int .i64 most] σ fun r σ' => ∃ v β, r = .tup [v, .int .i64 e] ∧ Grow v xs β ∧ σ' = β ++ σ := by
  have := c_refUnpack σ (f := f) (most := most) hb
  rw [h] at this
  exact this

theorem c_BlockBytes (bs : List UInt8) (f : Bool) (most : Int) (h0 : -9223372036854775808 ≤ most) (h1 : most ≤ 9223372036854775807) (σ : AHeap) : ACalls Try.prog f_ingotlaw4_BlockBytes [.slc 1 (bytes bs) f, .int .i64 most] σ fun r σ' => r = .bool true ∧ σ' = σ := by
  refine acalls_enter rfl ingotlaw4_BlockBytes_ok (Nat.le_of_ble_eq_true rfl) ?_
  refine aw_region ?_
  (repeat (refine st_q rfl rfl rfl ?_))
  (refine st_nil ?_; (repeat (first | refine kp_cons rfl ?_ | refine kp_skip ?_)); refine kp_nil ?_)
  refine aw_assoc ?_
  refine aw_reg ?_
  refine st_callv rfl (c_known _) ?_
  (repeat (refine st_q rfl rfl rfl ?_))
  (refine st_nil ?_; (repeat (first | refine kp_cons rfl ?_ | refine kp_skip ?_)); refine kp_nil ?_)
  refine awp_cond rfl (fun e => by cases e) (fun _ => ?_)
  refine aw_skip ?_
  refine aw_assoc ?_
  refine aw_cut (fun F' σ' => σ' = σ ∧ ∃ d : Bool, (d = false → bs.length ≤ 400) ∧
    KP [0, 1, 21] F' fun G => G = fset 0 (some (.slc 1 (bytes bs) f)) (fset 1 (some (.int .i64 most)) (fset 21 (some (.bool d)) fnone))) ?_ ?_
  · (repeat (refine st_q rfl rfl rfl ?_))
    rw [bytes_length]
    by_cases h2 : 400 < bs.length
    · rw [show decide ((400 : Int) < (bs.length : Int)) = true from decide_eq_true (by omega)]
      (repeat (first | refine st_gn rfl ?_ | refine st_gu rfl ?_ | refine st_q rfl rfl rfl ?_))
      refine st_nil ⟨rfl, true, by simp, ?_⟩
      ((repeat (first | refine kp_cons rfl ?_ | refine kp_skip ?_)); refine kp_nil ?_)
      rfl
    rw [show decide ((400 : Int) < (bs.length : Int)) = false from decide_eq_false (by omega)]
    (repeat (first | refine st_gy rfl (st_q rfl rfl rfl ?_) | refine st_q rfl rfl rfl ?_))
    by_cases h3 : 5000 < most
    · rw [show decide (5000 < most) = true from decide_eq_true h3]
      (repeat (first | refine st_gy rfl (st_q rfl rfl rfl ?_) | refine st_q rfl rfl rfl ?_))
      refine st_nil ⟨rfl, decide (most ≤ 1048576), fun _ => by omega, ?_⟩
      ((repeat (first | refine kp_cons rfl ?_ | refine kp_skip ?_)); refine kp_nil ?_)
      rfl
    rw [show decide (5000 < most) = false from decide_eq_false h3]
    (repeat (first | refine st_gn rfl ?_ | refine st_gy rfl (st_q rfl rfl rfl ?_) | refine st_q rfl rfl rfl ?_))
    refine st_nil ⟨rfl, false, fun _ => by omega, ?_⟩
    ((repeat (first | refine kp_cons rfl ?_ | refine kp_skip ?_)); refine kp_nil ?_)
    rfl
  rintro F' _ ⟨rfl, d, hd, G, hG, rfl⟩
  refine kp_weaken (keep := [0, 1, 21]) ⟨_, hG, ?_⟩
  refine awp_cond rfl (fun h2 => ?_) (fun h2 => ?_)
  · refine aw_region ?_
    (repeat (refine st_q rfl rfl rfl ?_))
    (refine st_nil ?_; (repeat (first | refine kp_cons rfl ?_ | refine kp_skip ?_)); refine kp_nil ?_)
    refine awp_ret ?_
    exact ares rfl (HSub.refl _) ⟨rfl, rfl⟩
  refine aw_skip ?_
  have hbl := hd h2
  obtain ⟨e, xs, hu⟩ : ∃ e xs, unpack most bs = (e, xs) := ⟨_, _, rfl⟩
  refine aw_region ?_
  (repeat (refine st_q rfl rfl rfl ?_))
  refine st_callv rfl (c_Unpack' _ (by omega) hu) ?_
  (repeat (refine st_q rfl rfl rfl ?_))
  (refine st_nil ?_; (repeat (first | refine kp_cons rfl ?_ | refine kp_skip ?_)); refine kp_nil ?_)
  refine aw_region ?_
  (repeat (refine st_q rfl rfl rfl ?_))
  refine st_call rfl (c_refUnpack' _ (by omega) hu) ?_ ?_
  · obtain ⟨gv, gβ, hgr⟩ := Grow.ex xs
    exact ⟨_, _, gv, gβ, rfl, hgr, rfl⟩
  rintro _ _ ⟨v, β, rfl, ho, rfl⟩
  (repeat (refine st_q rfl rfl rfl ?_))
  (refine st_nil ?_; (repeat (first | refine kp_cons rfl ?_ | refine kp_skip ?_)); refine kp_nil ?_)
  refine aw_region ?_
  refine st_q rfl rfl rfl ?_
  refine st_q rfl ab2s_slc rfl ?_
  refine st_q rfl rfl rfl ?_
  refine st_q rfl (ab2s_grow ho) rfl ?_
  (repeat (refine st_q rfl rfl rfl ?_))
  rw [show decide (xs = xs) = true from decide_eq_true rfl]
  (repeat (first | refine st_gy rfl (st_q rfl rfl rfl ?_) | refine st_q rfl rfl rfl ?_))
  rw [show decide ((e : Int) = (e : Int)) = true from decide_eq_true rfl]
  (refine st_nil ?_; (repeat (first | refine kp_cons rfl ?_ | refine kp_skip ?_)); refine kp_nil ?_)
  refine awp_ret ?_
  exact ares rfl (HSub.of_sublist (List.sublist_append_right _ _)) ⟨rfl, rfl⟩

theorem c_BlockBack (bs : List UInt8) (f : Bool) (σ : AHeap) : ACalls Try.prog f_ingotlaw4_BlockBack [.slc 1 (bytes bs) f] σ fun r σ' => r = .bool true ∧ σ' = σ := by
  refine acalls_enter rfl ingotlaw4_BlockBack_ok (Nat.le_of_ble_eq_true rfl) ?_
  refine aw_region ?_
  (repeat (refine st_q rfl rfl rfl ?_))
  (refine st_nil ?_; (repeat (first | refine kp_cons rfl ?_ | refine kp_skip ?_)); refine kp_nil ?_)
  refine aw_assoc ?_
  refine aw_reg ?_
  refine st_callv rfl (c_known _) ?_
  (repeat (refine st_q rfl rfl rfl ?_))
  (refine st_nil ?_; (repeat (first | refine kp_cons rfl ?_ | refine kp_skip ?_)); refine kp_nil ?_)
  refine awp_cond rfl (fun e => by cases e) (fun _ => ?_)
  refine aw_skip ?_
  refine aw_assoc ?_
  refine aw_reg ?_
  (repeat (refine st_q rfl rfl rfl ?_))
  (refine st_nil ?_; (repeat (first | refine kp_cons rfl ?_ | refine kp_skip ?_)); refine kp_nil ?_)
  refine awp_condp (p := (3000 : Int) < ((bytes bs).length : Int)) rfl (fun h2 => ?_) (fun h2 => ?_)
  all_goals rw [bytes_length] at h2
  · refine aw_region ?_
    (repeat (refine st_q rfl rfl rfl ?_))
    (refine st_nil ?_; (repeat (first | refine kp_cons rfl ?_ | refine kp_skip ?_)); refine kp_nil ?_)
    refine awp_ret ?_
    exact ares rfl (HSub.refl _) ⟨rfl, rfl⟩
  refine aw_skip ?_
  have hpl := packF_length (bs := bs)
  have hu := unpack_pack (bs := bs) (by omega) (most := (bs.length : Int)) (by omega) (by omega)
  rw [if_pos (by omega)] at hu
  refine aw_region ?_
  (repeat (refine st_q rfl rfl rfl ?_))
  refine st_callv rfl (c_Pack (by omega)) ?_
  (repeat (refine st_q rfl rfl rfl ?_))
  (refine st_nil ?_; (repeat (first | refine kp_cons rfl ?_ | refine kp_skip ?_)); refine kp_nil ?_)
  refine aw_region ?_
  (repeat (refine st_q rfl rfl rfl ?_))
  rw [bytes_length]
  refine st_callv rfl (c_Unpack' _ (by omega) hu) ?_
  (repeat (refine st_q rfl rfl rfl ?_))
  (refine st_nil ?_; (repeat (first | refine kp_cons rfl ?_ | refine kp_skip ?_)); refine kp_nil ?_)
  refine aw_region ?_
  (repeat (refine st_q rfl rfl rfl ?_))
  rw [bytes_length]
  refine st_call rfl (c_refUnpack' _ (by omega) hu) ?_ ?_
  · obtain ⟨gv, gβ, hgr⟩ := Grow.ex bs
    exact ⟨_, _, gv, gβ, rfl, hgr, rfl⟩
  rintro _ _ ⟨v, β, rfl, ho, rfl⟩
  (repeat (refine st_q rfl rfl rfl ?_))
  (refine st_nil ?_; (repeat (first | refine kp_cons rfl ?_ | refine kp_skip ?_)); refine kp_nil ?_)
  refine aw_assoc ?_
  refine aw_reg ?_
  refine st_q rfl rfl rfl ?_
  refine st_q rfl ab2s_slc rfl ?_
  refine st_q rfl rfl rfl ?_
  refine st_q rfl ab2s_slc rfl ?_
  (repeat (refine st_q rfl rfl rfl ?_))
  rw [show decide (bs ≠ bs) = false from decide_eq_false (fun h => h rfl)]
  (repeat (first | refine st_gy rfl (st_q rfl rfl rfl ?_) | refine st_q rfl rfl rfl ?_))
  refine st_gy rfl (st_q rfl (ab2s_grow ho) rfl ?_)
  refine st_gy rfl (st_q rfl rfl rfl ?_)
  refine st_gy rfl (st_q rfl ab2s_slc rfl ?_)
  refine st_gy rfl (st_q rfl rfl rfl ?_)
  rw [show decide (bs ≠ bs) = false from decide_eq_false (fun h => h rfl)]
  (repeat (first | refine st_gy rfl (st_q rfl rfl rfl ?_) | refine st_q rfl rfl rfl ?_))
  rw [bytes_length, bytes_length]
  refine st_gy rfl (st_callv rfl (c_Bound _ (by omega) (by omega) _) ?_)
  refine st_gy rfl (st_q rfl rfl rfl ?_)
  rw [show decide (boundF (bs.length : Int) < ((packF bs).length : Int)) = false from decide_eq_false (by unfold boundF; omega)]
  (repeat (first | refine st_gy rfl (st_q rfl rfl rfl ?_) | refine st_q rfl rfl rfl ?_))
  rw [bytes_length]
  refine st_gy rfl (st_callv rfl (c_Bound _ (by omega) (by omega) _) ?_)
  (repeat (first | refine st_gy rfl (st_q rfl rfl rfl ?_) | refine st_q rfl rfl rfl ?_))
  rw [bytes_length]
  refine st_gy rfl (st_callv rfl (c_refBound _ (by omega) (by omega) _) ?_)
  refine st_gy rfl (st_q rfl rfl rfl ?_)
  rw [show decide (boundF (bs.length : Int) ≠ boundF (bs.length : Int)) = false from decide_eq_false (fun h => h rfl)]
  (repeat (refine st_q rfl rfl rfl ?_))
  (refine st_nil ?_; (repeat (first | refine kp_cons rfl ?_ | refine kp_skip ?_)); refine kp_nil ?_)
  refine awp_cond rfl (fun e => by cases e) (fun _ => ?_)
  refine aw_skip ?_
  refine aw_assoc ?_
  refine aw_reg ?_
  (repeat (refine st_q rfl rfl rfl ?_))
  (refine st_nil ?_; (repeat (first | refine kp_cons rfl ?_ | refine kp_skip ?_)); refine kp_nil ?_)
  refine awp_condp (p := ((bytes bs).length : Int) = 0) rfl (fun h3 => ?_) (fun h3 => ?_)
  all_goals rw [bytes_length] at h3
  · refine aw_region ?_
    (repeat (refine st_q rfl rfl rfl ?_))
    (refine st_nil ?_; (repeat (first | refine kp_cons rfl ?_ | refine kp_skip ?_)); refine kp_nil ?_)
    refine awp_ret ?_
    exact ares rfl (HSub.of_sublist (List.sublist_append_right _ _)) ⟨rfl, rfl⟩
  refine aw_skip ?_
  have hu2 := unpack_pack (bs := bs) (by omega) (most := (bs.length : Int) - 1) (by omega) (by omega)
  rw [if_neg (by omega)] at hu2
  refine aw_region ?_
  (repeat (refine st_q rfl rfl rfl ?_))
  rw [bytes_length, w64 ((bs.length : Int) - 1) (by omega) (by omega)]
  refine st_callv rfl (c_Unpack' _ (by omega) hu2) ?_
  (repeat (refine st_q rfl rfl rfl ?_))
  (refine st_nil ?_; (repeat (first | refine kp_cons rfl ?_ | refine kp_skip ?_)); refine kp_nil ?_)
  refine aw_region ?_
  (repeat (refine st_q rfl rfl rfl ?_))
  (refine st_nil ?_; (repeat (first | refine kp_cons rfl ?_ | refine kp_skip ?_)); refine kp_nil ?_)
  refine awp_ret ?_
  exact ares rfl (HSub.of_sublist (List.sublist_append_right _ _)) ⟨rfl, rfl⟩
end Go.Abs
