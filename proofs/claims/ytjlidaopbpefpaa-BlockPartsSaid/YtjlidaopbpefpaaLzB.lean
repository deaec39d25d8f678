/- Contracts: the known blocks. -/
import Derived.Test.YtjlidaopbpefpaaLzA
import Derived.Test.YtjlidaopbpefpaaLzQ
import Derived.Test.YtjlidaopbpefpaaL1
namespace Go.Abs
open Go Go.Proofs Go.Abs.Lz
set_option linter.unusedVariables false
set_option linter.unusedSimpArgs false

theorem ab2s_slc {σ : AHeap} {xs : List UInt8} {f : Bool} : ab2s σ [.slc 1 (bytes xs) f] = some (.str xs) := by
  simp [ab2s, elemsOf, toBytes_bytes]

theorem known0 (hello : List UInt8) (h : hello.length = 29) : unpack 100 (packF hello) = (0, hello) := by
  rw [unpack_pack (by omega) (by omega) (by omega), if_pos (by omega)]

theorem c_Unpack' (σ : AHeap) {bs : List UInt8} {f : Bool} {most : Int} (hb : bs.length ≤ 140737488355328) {e : Nat} {xs : List UInt8} (h : unpack most bs = (e, xs)) :
    ACalls Try.prog f_lz4_Unpack [.slc 1 (bytes bs) f, .int .i64 most] σ fun r σ' => r = .tup [.slc 1 (bytes xs) true, .int .i64 e] ∧ σ' = σ := by
  have := c_Unpack σ (f := f) (most := most) hb
  rw [h] at this
  exact this

theorem c_known (σ : AHeap) : ACalls Try.prog f_ingotlaw4_known [] σ fun r σ' => r = .bool true ∧ σ' = σ := by
  refine acalls_enter rfl ingotlaw4_known_ok (Nat.le_of_ble_eq_true rfl) ?_
  refine aw_region ?_
  (repeat (refine st_q rfl rfl rfl ?_))
  refine st_nil ?_
  (repeat (refine kp_skip ?_))
  refine kp_nil ?_
  obtain ⟨hello, hh, hl⟩ : ∃ hello : List UInt8, hello = [104, 101, 108, 108, 111, 32, 104, 101, 108, 108, 111, 32, 104, 101, 108, 108, 111, 32, 104, 101, 108, 108, 111, 32, 104, 101, 108, 108, 111] ∧ hello.length = 29 := ⟨_, rfl, rfl⟩
  have hv : bytes hello = [.int .u8 104, .int .u8 101, .int .u8 108, .int .u8 108, .int .u8 111, .int .u8 32, .int .u8 104, .int .u8 101, .int .u8 108, .int .u8 108, .int .u8 111, .int .u8 32, .int .u8 104, .int .u8 101, .int .u8 108, .int .u8 108, .int .u8 111, .int .u8 32, .int .u8 104, .int .u8 101, .int .u8 108, .int .u8 108, .int .u8 111, .int .u8 32, .int .u8 104, .int .u8 101, .int .u8 108, .int .u8 108, .int .u8 111] := by rw [hh]; rfl
  refine aw_region ?_
  refine st_bslo (vs := bytes hello) (by rw [hv]; rfl) (by rw [hv]; exact fun v hv => AVal.fit_iff.1 (List.all_eq_true.1 (rfl : List.all _ (AVal.fit 1) = true) v hv)) fun b hb => ?_
  clear hh hv
  refine st_strish rfl hget_head rfl (by rw [bytes_length]; omega) hdel_head ?_
  (repeat (refine st_q rfl rfl rfl ?_))
  (refine st_nil ?_; (repeat (first | refine kp_cons rfl ?_ | refine kp_skip ?_)); refine kp_nil ?_)
  refine aw_region ?_
  (repeat (refine st_q rfl rfl rfl ?_))
  refine st_callv rfl (c_Pack (by omega)) ?_
  have hpl := packF_length (bs := hello)
  refine st_callv rfl (c_Unpack' _ (by omega) (known0 hello hl)) ?_
  (repeat (refine st_q rfl rfl rfl ?_))
  (refine st_nil ?_; (repeat (first | refine kp_cons rfl ?_ | refine kp_skip ?_)); refine kp_nil ?_)
  refine aw_region ?_
  (repeat (refine st_q rfl rfl rfl ?_))
  refine st_callv rfl (c_Unpack' _ (by decide) known1) ?_
  (repeat (refine st_q rfl rfl rfl ?_))
  (refine st_nil ?_; (repeat (first | refine kp_cons rfl ?_ | refine kp_skip ?_)); refine kp_nil ?_)
  refine aw_region ?_
  (repeat (refine st_q rfl rfl rfl ?_))
  refine st_callv rfl (c_Unpack' _ (by decide) known2) ?_
  (repeat (refine st_q rfl rfl rfl ?_))
  (refine st_nil ?_; (repeat (first | refine kp_cons rfl ?_ | refine kp_skip ?_)); refine kp_nil ?_)
  refine aw_region ?_
  refine st_q rfl rfl rfl ?_
  refine st_q rfl ab2s_slc rfl ?_
  refine st_q rfl rfl rfl ?_
  refine st_q rfl ab2s_slc rfl ?_
  (repeat (refine st_q rfl rfl rfl ?_))
  have e1 : decide (hello = hello) = true := decide_eq_true rfl
  rw [e1]
  (repeat (refine st_gy rfl (st_q rfl rfl rfl ?_)))
  (repeat (refine st_q rfl rfl rfl ?_))
  (repeat (first | refine st_gy rfl (st_q rfl rfl rfl ?_) | refine st_q rfl rfl rfl ?_ | refine st_gy rfl (st_q rfl ab2s_slc rfl ?_)))
  (refine st_nil ?_; (repeat (first | refine kp_cons rfl ?_ | refine kp_skip ?_)); refine kp_nil ?_)
  refine awp_ret ?_
  exact ares rfl (HSub.refl _) ⟨rfl, rfl⟩

theorem c_BlockBounds (n : Int) (h0 : -9223372036854775808 ≤ n) (h1 : n ≤ 9223372036854775807) (σ : AHeap) : ACalls Try.prog f_ingotlaw4_BlockBounds [.int .i64 n] σ fun r σ' => r = .bool true ∧ σ' = σ := by
  refine acalls_enter rfl ingotlaw4_BlockBounds_ok (Nat.le_of_ble_eq_true rfl) ?_
  refine aw_region ?_
  (repeat (refine st_q rfl rfl rfl ?_))
  (refine st_nil ?_; (repeat (first | refine kp_cons rfl ?_ | refine kp_skip ?_)); refine kp_nil ?_)
  refine aw_assoc ?_
  refine aw_reg ?_
  refine st_callv rfl (c_known _) ?_
  (repeat (refine st_q rfl rfl rfl ?_))
  (refine st_nil ?_; (repeat (first | refine kp_cons rfl ?_ | refine kp_skip ?_)); refine kp_nil ?_)
  refine awp_cond rfl (fun e => by cases e) (fun _ => ?_)
  refine aw_skip ?_
  refine aw_assoc ?_
  refine aw_reg ?_
  (repeat (refine st_q rfl rfl rfl ?_))
  (refine st_nil ?_; (repeat (first | refine kp_cons rfl ?_ | refine kp_skip ?_)); refine kp_nil ?_)
  refine awp_condp (p := 1099511627776 < n) rfl (fun h2 => ?_) (fun h2 => ?_)
  · refine aw_region ?_
    (repeat (refine st_q rfl rfl rfl ?_))
    (refine st_nil ?_; (repeat (first | refine kp_cons rfl ?_ | refine kp_skip ?_)); refine kp_nil ?_)
    refine awp_ret ?_
    exact ares rfl (HSub.refl _) ⟨rfl, rfl⟩
  refine aw_skip ?_
  refine aw_region ?_
  (repeat (refine st_q rfl rfl rfl ?_))
  refine st_callv rfl (c_Bound n (by omega) (by omega) _) ?_
  (repeat (refine st_q rfl rfl rfl ?_))
  (refine st_nil ?_; (repeat (first | refine kp_cons rfl ?_ | refine kp_skip ?_)); refine kp_nil ?_)
  refine aw_region ?_
  (repeat (refine st_q rfl rfl rfl ?_))
  refine st_callv rfl (c_refBound n (by omega) (by omega) _) ?_
  (repeat (refine st_q rfl rfl rfl ?_))
  have e1 : decide (boundF n = boundF n) = true := decide_eq_true rfl
  rw [e1]
  (repeat (refine st_gy rfl (st_q rfl rfl rfl ?_)))
  have e2 : decide (16 ≤ boundF n) = true := decide_eq_true (by unfold boundF; omega)
  rw [e2]
  (repeat (refine st_q rfl rfl rfl ?_))
  (repeat (refine st_gy rfl (st_q rfl rfl rfl ?_)))
  by_cases h3 : n < 0
  · have e3 : decide (n < 0) = true := decide_eq_true h3
    rw [e3]
    (repeat (first | refine st_gn rfl ?_ | refine st_gu rfl ?_ | refine st_gy rfl (st_q rfl rfl rfl ?_) | refine st_q rfl rfl rfl ?_))
    (refine st_nil ?_; (repeat (first | refine kp_cons rfl ?_ | refine kp_skip ?_)); refine kp_nil ?_)
    refine awp_ret ?_
    exact ares rfl (HSub.refl _) ⟨rfl, rfl⟩
  · have e3 : decide (n < 0) = false := decide_eq_false h3
    rw [e3]
    (repeat (refine st_gy rfl (st_q rfl rfl rfl ?_)))
    have hb : boundF n = n + n / 255 + 16 := by unfold boundF; omega
    have e4 : IntKind.wrap .i64 (n + 16) = n + 16 := w64 _ (by omega) (by omega)
    have e5 : decide (n + 16 ≤ boundF n) = true := decide_eq_true (by omega)
    rw [e4, e5]
    (repeat (refine st_gy rfl (st_q rfl rfl rfl ?_)))
    have e6 : IntKind.wrap .i64 (boundF n - n) = n / 255 + 16 := by rw [w64 _ (by omega) (by omega)]; omega
    have e7 : IntKind.wrap .i64 (IntKind.wrap .i64 (n.tdiv 255) + 16) = n / 255 + 16 := by rw [tdiv255 _ (by omega), w64 (n / 255) (by omega) (by omega), w64 _ (by omega) (by omega)]
    rw [e6, e7, show decide (n / 255 + 16 ≤ n / 255 + 16) = true from decide_eq_true (by omega)]
    (repeat (first | refine st_gy rfl (st_q rfl rfl rfl ?_) | refine st_q rfl rfl rfl ?_))
    (refine st_nil ?_; (repeat (first | refine kp_cons rfl ?_ | refine kp_skip ?_)); refine kp_nil ?_)
    refine awp_ret ?_
    exact ares rfl (HSub.refl _) ⟨rfl, rfl⟩
end Go.Abs
