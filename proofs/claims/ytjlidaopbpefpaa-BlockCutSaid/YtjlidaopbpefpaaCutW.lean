/- A block without its end. -/
import Derived.Test.YtjlidaopbpefpaaLzB
import Derived.Test.YtjlidaopbpefpaaLzR
namespace Go.Abs
open Go Go.Proofs Go.Abs.Lz
set_option linter.unusedVariables false
set_option linter.unusedSimpArgs false

theorem c_BlockCut (bs : List UInt8) (f : Bool) (cut : Int) (h0 : -9223372036854775808 ≤ cut) (h1 : cut ≤ 9223372036854775807) (σ : AHeap) : ACalls Try.prog f_ingotlaw4_BlockCut [.slc 1 (bytes bs) f, .int .i64 cut] σ fun r σ' => r = .bool true ∧ σ' = σ := by
  refine acalls_enter rfl ingotlaw4_BlockCut_ok (Nat.le_of_ble_eq_true rfl) ?_
  refine aw_region ?_
  (repeat (refine st_q rfl rfl rfl ?_))
  (refine st_nil ?_; (repeat (first | refine kp_cons rfl ?_ | refine kp_skip ?_)); refine kp_nil ?_)
  refine aw_assoc ?_
  refine aw_reg ?_
  refine st_callv rfl (c_known _) ?_
  (repeat (refine st_q rfl rfl rfl ?_))
  (refine st_nil ?_; (repeat (first | refine kp_cons rfl ?_ | refine kp_skip ?_)); refine kp_nil ?_)
  refine awp_cond rfl (fun e => by cases e) (fun _ => ?_)
  refine aw_skip ?_
  refine aw_assoc ?_
  refine aw_cut (fun F' σ' => σ' = σ ∧ ∃ d : Bool, (d = true ↔ (1000 < bs.length ∨ cut < 0)) ∧
    KP [0, 1, 16] F' fun G => G = fset 0 (some (.slc 1 (bytes bs) f)) (fset 1 (some (.int .i64 cut)) (fset 16 (some (.bool d)) fnone))) ?_ ?_
  · (repeat (refine st_q rfl rfl rfl ?_))
    rw [bytes_length]
    by_cases h2 : 1000 < bs.length
    · rw [show decide ((1000 : Int) < (bs.length : Int)) = true from decide_eq_true (by omega)]
      (repeat (first | refine st_gn rfl ?_ | refine st_q rfl rfl rfl ?_))
      refine st_nil ⟨rfl, true, by simp [h2], ?_⟩
      ((repeat (first | refine kp_cons rfl ?_ | refine kp_skip ?_)); refine kp_nil ?_)
      rfl
    rw [show decide ((1000 : Int) < (bs.length : Int)) = false from decide_eq_false (by omega)]
    (repeat (first | refine st_gy rfl (st_q rfl rfl rfl ?_) | refine st_q rfl rfl rfl ?_))
    refine st_nil ⟨rfl, decide (cut < 0), by simp only [decide_eq_true_eq]; omega, ?_⟩
    ((repeat (first | refine kp_cons rfl ?_ | refine kp_skip ?_)); refine kp_nil ?_)
    rfl
  rintro F' σ1 ⟨hσ1, d, hd, G, hG, rfl⟩
  rw [hσ1]
  refine kp_weaken (keep := [0, 1, 16]) ⟨_, hG, ?_⟩
  refine awp_cond rfl (fun h2 => ?_) (fun h2 => ?_)
  · refine aw_region ?_
    (repeat (refine st_q rfl rfl rfl ?_))
    (refine st_nil ?_; (repeat (first | refine kp_cons rfl ?_ | refine kp_skip ?_)); refine kp_nil ?_)
    refine awp_ret ?_
    exact ares rfl (HSub.refl _) ⟨rfl, rfl⟩
  refine aw_skip ?_
  have hn : ¬ (1000 < bs.length ∨ cut < 0) := fun h => by rw [hd.2 h] at h2; cases h2
  have hpl := packF_length (bs := bs)
  have hup := unp_pack (bs := bs) (by omega) bs.length
  rw [if_pos (Nat.le_refl _)] at hup
  obtain ⟨_, hcut⟩ := unpF_cut bs (packF bs).length (Nat.le_refl _) hup
  have hne : (packF bs).length ≠ 0 := by
    intro h
    have : packF bs = [] := List.length_eq_zero_iff.1 h
    rw [this, unpF_err (e := 3) (by rfl)] at hup
    cases hup
  obtain ⟨q, rfl⟩ : ∃ q : Nat, cut = q := ⟨cut.toNat, by omega⟩
  have hmod : Int.tmod (q : Int) ((packF bs).length : Int) = ((q % (packF bs).length : Nat) : Int) := by
    rw [Int.tmod_eq_emod_of_nonneg (by omega)]; rfl
  have hlt : q % (packF bs).length < (packF bs).length := Nat.mod_lt _ (by omega)
  have hF := hcut (q % (packF bs).length)
  have hu : unpack (bs.length : Int) ((packF bs).take (q % (packF bs).length)) = unpF bs.length ((packF bs).take (q % (packF bs).length)) [] := by
    rw [unpack, if_neg (by omega), Int.toNat_natCast]
  refine aw_region ?_
  (repeat (refine st_q rfl rfl rfl ?_))
  refine st_callv rfl (c_Pack (by omega)) ?_
  (repeat (refine st_q rfl rfl rfl ?_))
  generalize packF bs = p at *
  generalize hr : q % p.length = r at *
  (refine st_nil ?_; (repeat (first | refine kp_cons rfl ?_ | refine kp_skip ?_)); refine kp_nil ?_)
  refine aw_assoc ?_
  refine aw_reg ?_
  (repeat (refine st_q rfl rfl rfl ?_))
  (refine st_nil ?_; (repeat (first | refine kp_cons rfl ?_ | refine kp_skip ?_)); refine kp_nil ?_)
  refine awp_condp (p := ((bytes p).length : Int) = 0) rfl (fun h3 => absurd (by rw [bytes_length] at h3; omega) hne) (fun _ => ?_)
  refine aw_skip ?_
  obtain ⟨e, xs, hy⟩ : ∃ e xs, unpF bs.length (p.take r) [] = (e, xs) := ⟨_, _, rfl⟩
  rw [hy] at hF hu
  refine aw_region ?_
  refine st_q rfl rfl rfl ?_
  refine st_q rfl rfl rfl ?_
  refine st_q rfl rfl rfl ?_
  refine st_q rfl rfl rfl ?_
  refine st_rem rfl (by rw [bytes_length]; omega) ?_
  rw [bytes_length, hmod]
  refine st_slc rfl rfl ⟨by omega, by omega, by rw [bytes_length]; omega, by omega⟩ ?_
  have e2 : ((bytes p).drop ((0 : Int).toNat)).take (((r : Nat) : Int) - 0).toNat = bytes (p.take r) := by
    rw [bytes_drop, bytes_take]; congr 2
  rw [e2]
  (repeat (refine st_q rfl rfl rfl ?_))
  rw [bytes_length]
  refine st_callv rfl (c_Unpack' _ (by rw [List.length_take]; omega) hu) ?_
  (repeat (refine st_q rfl rfl rfl ?_))
  (refine st_nil ?_; (repeat (first | refine kp_cons rfl ?_ | refine kp_skip ?_)); refine kp_nil ?_)
  rcases hF with hF | ⟨hF1, k, hF2⟩
  · simp only [Prod.mk.injEq] at hF
    obtain ⟨rfl, rfl⟩ := hF
    refine aw_assoc ?_
    refine aw_reg ?_
    (repeat (refine st_q rfl rfl rfl ?_))
    (refine st_nil ?_; (repeat (first | refine kp_cons rfl ?_ | refine kp_skip ?_)); refine kp_nil ?_)
    refine awp_condp (p := ((3 : Nat) : Int) ≠ 0) rfl (fun _ => ?_) (fun h3 => absurd (by omega) h3)
    refine aw_region ?_
    (repeat (first | refine st_gy rfl (st_q rfl rfl rfl ?_) | refine st_q rfl rfl rfl ?_))
    (refine st_nil ?_; (repeat (first | refine kp_cons rfl ?_ | refine kp_skip ?_)); refine kp_nil ?_)
    refine awp_ret ?_
    exact ares rfl (HSub.refl _) ⟨rfl, rfl⟩
  · simp only at hF1 hF2
    subst hF1
    refine aw_assoc ?_
    refine aw_reg ?_
    (repeat (refine st_q rfl rfl rfl ?_))
    (refine st_nil ?_; (repeat (first | refine kp_cons rfl ?_ | refine kp_skip ?_)); refine kp_nil ?_)
    refine awp_condp (p := ((0 : Nat) : Int) ≠ 0) rfl (fun h3 => absurd rfl h3) (fun _ => ?_)
    refine aw_skip ?_
    have hxl : xs.length ≤ bs.length := by rw [hF2, List.length_take]; omega
    have hxt : bs.take xs.length = xs := by
      subst hF2
      rw [List.length_take]
      by_cases hk : k ≤ bs.length
      · rw [Nat.min_eq_left hk]
      · rw [Nat.min_eq_right (by omega), List.take_length, List.take_of_length_le (by omega)]
    refine aw_region ?_
    (repeat (refine st_q rfl rfl rfl ?_))
    rw [bytes_length, bytes_length, show decide ((xs.length : Int) ≤ (bs.length : Int)) = true from decide_eq_true (by omega)]
    refine st_gy rfl (st_q rfl rfl rfl ?_)
    refine st_gy rfl (st_q rfl ab2s_slc rfl ?_)
    (repeat (refine st_gy rfl (st_q rfl rfl rfl ?_)))
    rw [bytes_length]
    refine st_gy rfl (st_slc rfl rfl ⟨by omega, by omega, by rw [bytes_length]; omega, by omega⟩ ?_)
    have e3 : ((bytes bs).drop ((0 : Int).toNat)).take (((xs.length : Nat) : Int) - 0).toNat = bytes xs := by
      rw [bytes_drop, bytes_take]
      show bytes (bs.take _) = _
      congr 1
    rw [e3]
    refine st_gy rfl (st_q rfl ab2s_slc rfl ?_)
    refine st_gy rfl (st_q rfl rfl rfl ?_)
    rw [show decide (xs = xs) = true from decide_eq_true rfl]
    (repeat (refine st_q rfl rfl rfl ?_))
    (refine st_nil ?_; (repeat (first | refine kp_cons rfl ?_ | refine kp_skip ?_)); refine kp_nil ?_)
    refine awp_ret ?_
    exact ares rfl (HSub.refl _) ⟨rfl, rfl⟩
end Go.Abs
