/- Contracts: a sequence written. -/
import Derived.Test.YtjlidaopbpefpaaLz5
namespace Go.Abs
open Go Go.Proofs Go.Abs.Lz
set_option linter.unusedVariables false
set_option linter.unusedSimpArgs false

theorem or4 (a b : Nat) (ha : a < 16) (hb : b < 16) : intBits .or .i64 ((a * 16 : Nat) : Int) (b : Int) = ((a * 16 + b : Nat) : Int) := by
  have e : a * 16 ||| b = a * 16 + b := by
    have := Nat.shiftLeft_add_eq_or_of_lt (i := 4) (b := b) (by omega) a
    rw [Nat.shiftLeft_eq] at this
    simp only [Nat.reducePow] at this
    rw [← this]
  rw [ibOr _ _ (by omega) (by omega), e]

theorem c_put {v : AVal} {xs lits : List UInt8} {f : Bool} {β τ : AHeap} {back n : Nat} (ho : Grow v xs β) (hn : n = 0 ∨ 4 ≤ n) (hbk : back < 9223372036854775808) (hx : 2 * xs.length + 4 * lits.length + 4 * n ≤ 35184372088832) :
    ACalls Try.prog f_lz4_put [v, .slc 1 (bytes lits) f, .int .i64 back, .int .i64 n] (β ++ τ) fun r σ' => ∃ β', Grow r (xs ++ putF lits back n) β' ∧ σ' = β' ++ τ := by
  refine acalls_enter rfl lz4_put_ok (Nat.le_of_ble_eq_true rfl) ?_
  refine aw_region ?_
  (repeat (refine st_q rfl rfl rfl ?_))
  (refine st_nil ?_; (repeat (first | refine kp_cons rfl ?_ | refine kp_skip ?_)); refine kp_nil ?_)
  refine aw_region ?_
  (repeat (refine st_q rfl rfl rfl ?_))
  (refine st_nil ?_; (repeat (first | refine kp_cons rfl ?_ | refine kp_skip ?_)); refine kp_nil ?_)
  refine aw_assoc ?_
  refine aw_reg ?_
  (repeat (refine st_q rfl rfl rfl ?_))
  (refine st_nil ?_; (repeat (first | refine kp_cons rfl ?_ | refine kp_skip ?_)); refine kp_nil ?_)
  have main : AWp Try.prog lz4_put.n (lz4_put.code.snd 3) (ARet lz4_put.res fun r σ' => ∃ β', Grow r (xs ++ putF lits back n) β' ∧ σ' = β' ++ τ)
      (fset 0 (some v) (fset 1 (some (.slc 1 (bytes lits) f)) (fset 2 (some (.int .i64 back)) (fset 3 (some (.int .i64 n)) (fset 9 (some (.int .i64 (if n = 0 then 0 else min (n - 4) 15 : Nat))) fnone))))) (β ++ τ) := by
    generalize hlow : (if n = 0 then 0 else min (n - 4) 15 : Nat) = low
    have hlow' : low < 16 := by rw [← hlow]; split <;> omega
    have hr1 := restF_length lits.length
    have hr2 := restF_length (n - 4)
    refine aw_region ?_
    (repeat (refine st_q rfl rfl rfl ?_))
    have e1 : (if (15 : Int) < ((bytes lits).length : Int) then (15 : Int) else ((bytes lits).length : Int)) = ((min lits.length 15 : Nat) : Int) := by
      rw [bytes_length]; split <;> omega
    generalize hL : min lits.length 15 = L at *
    have hL' : L < 16 := by omega
    have e2 : IntKind.wrap .i64 ((L : Int) * 16) = ((L * 16 : Nat) : Int) := by rw [w64 _ (by omega) (by omega)]; omega
    have e3 : some [AVal.int .u8 (IntKind.wrap .u8 (intBits .or .i64 (IntKind.wrap .i64 ((if (15 : Int) < ((bytes lits).length : Int) then (15 : Int) else ((bytes lits).length : Int)) * 16)) (low : Int)))] = some (bytes [UInt8.ofNat (L * 16 + low)]) := by
      rw [e1, e2, or4 _ _ hL' hlow', conv8']; rfl
    refine st_appO (ys := [UInt8.ofNat (L * 16 + low)]) ho rfl e3 (by simp only [List.length_cons, List.length_nil]; omega) fun b1 hb1 => ?_
    (repeat (refine st_q rfl rfl rfl ?_))
    (refine st_nil ?_; (repeat (first | refine kp_cons rfl ?_ | refine kp_skip ?_)); refine kp_nil ?_)
    generalize hx1 : xs ++ [UInt8.ofNat (L * 16 + low)] = x1
    have hl1 : x1.length = xs.length + 1 := by rw [← hx1]; simp
    refine aw_region ?_
    (repeat (refine st_q rfl rfl rfl ?_))
    refine st_call (congrArg (fun x => some [AVal.arr 1 b1 0 x1.length, AVal.int .i64 (x : Int)]) (congrArg Nat.cast (bytes_length lits)))
      (c_rest (β := [(b1, .cells 1 (bytes x1))]) (τ := τ) (.inr ⟨b1, rfl, rfl⟩) (by omega)) ?_ ?_
    · obtain ⟨gv, gβ, hgr⟩ := Grow.ex (x1 ++ restF lits.length)
      exact ⟨_, _, gβ, hgr, rfl⟩
    rintro r2 _ ⟨β2, ho2, rfl⟩
    (repeat (refine st_q rfl rfl rfl ?_))
    (refine st_nil ?_; (repeat (first | refine kp_cons rfl ?_ | refine kp_skip ?_)); refine kp_nil ?_)
    generalize hx2 : x1 ++ restF lits.length = x2 at *
    have hl2 : x2.length = x1.length + (restF lits.length).length := by rw [← hx2]; simp
    refine aw_region ?_
    (repeat (refine st_q rfl rfl rfl ?_))
    refine st_appO (ys := lits) ho2 rfl (by simp [elemsOf]) (by omega) fun b3 hb3 => ?_
    (repeat (refine st_q rfl rfl rfl ?_))
    (refine st_nil ?_; (repeat (first | refine kp_cons rfl ?_ | refine kp_skip ?_)); refine kp_nil ?_)
    generalize hx3 : x2 ++ lits = x3 at *
    have hl3 : x3.length = x2.length + lits.length := by rw [← hx3]; simp
    refine aw_assoc ?_
    refine aw_reg ?_
    (repeat (refine st_q rfl rfl rfl ?_))
    (refine st_nil ?_; (repeat (first | refine kp_cons rfl ?_ | refine kp_skip ?_)); refine kp_nil ?_)
    have hput : ∀ t, (if n = 0 then [] else [UInt8.ofNat back, UInt8.ofNat (back / 256)] ++ restF (n - 4)) = t → xs ++ putF lits back n = x3 ++ t := by
      rintro t rfl
      rw [← hx3, ← hx2, ← hx1, putF, hL, hlow]
      simp
    refine awp_condp (p := (n : Int) = 0) rfl (fun h2 => ?_) (fun h2 => ?_)
    · refine aw_region ?_
      (repeat (refine st_q rfl rfl rfl ?_))
      (refine st_nil ?_; (repeat (first | refine kp_cons rfl ?_ | refine kp_skip ?_)); refine kp_nil ?_)
      refine awp_ret ?_
      have e5 := hput [] (by rw [if_pos (by omega)])
      rw [List.append_nil] at e5
      rw [e5]
      exact ares rfl (HSub.refl _) ⟨_, .inr ⟨b3, rfl, rfl⟩, rfl⟩
    refine aw_skip ?_
    have e5 := hput _ (if_neg (by omega))
    rw [e5]
    refine aw_region ?_
    refine st_q rfl rfl rfl ?_
    refine st_q rfl rfl rfl ?_
    refine st_q rfl rfl rfl ?_
    refine st_q rfl rfl rfl ?_
    refine st_shr rfl (by decide) ?_
    have e6 : Int.fdiv (back : Int) (2 ^ (Nat.min ((8 : Int).toNat) IntKind.i64.bits)) = ((back / 256 : Nat) : Int) := by
      show Int.fdiv (back : Int) 256 = _
      rw [Int.fdiv_eq_ediv_of_nonneg _ (by omega)]; omega
    rw [e6]
    (repeat (refine st_q rfl rfl rfl ?_))
    have e7 : some [AVal.int .u8 (IntKind.wrap .u8 (back : Int)), AVal.int .u8 (IntKind.wrap .u8 ((back / 256 : Nat) : Int))] = some (bytes [UInt8.ofNat back, UInt8.ofNat (back / 256)]) := by
      rw [conv8', conv8']; rfl
    refine st_appO (β := [(b3, .cells 1 (bytes x3))]) (ys := [UInt8.ofNat back, UInt8.ofNat (back / 256)]) (.inr ⟨b3, rfl, rfl⟩) rfl e7 (by simp only [List.length_cons, List.length_nil]; omega) fun b4 hb4 => ?_
    (repeat (refine st_q rfl rfl rfl ?_))
    generalize hx4 : x3 ++ [UInt8.ofNat back, UInt8.ofNat (back / 256)] = x4 at *
    have hl4 : x4.length = x3.length + 2 := by rw [← hx4]; simp
    have e8 : IntKind.wrap .i64 ((n : Int) - 4) = ((n - 4 : Nat) : Int) := by rw [w64 _ (by omega) (by omega)]; omega
    refine st_call (congrArg (fun x => some [AVal.arr 1 b4 0 x4.length, AVal.int .i64 x]) e8)
      (c_rest (β := [(b4, .cells 1 (bytes x4))]) (τ := τ) (.inr ⟨b4, rfl, rfl⟩) (by omega)) ?_ ?_
    · obtain ⟨gv, gβ, hgr⟩ := Grow.ex (x4 ++ restF (n - 4))
      exact ⟨_, _, gβ, hgr, rfl⟩
    rintro r5 _ ⟨β5, ho5, rfl⟩
    (repeat (refine st_q rfl rfl rfl ?_))
    (refine st_nil ?_; (repeat (first | refine kp_cons rfl ?_ | refine kp_skip ?_)); refine kp_nil ?_)
    refine awp_ret ?_
    refine ares rfl (HSub.refl _) ⟨β5, ?_, rfl⟩
    rw [← List.append_assoc, hx4]
    exact ho5
  refine awp_condp (p := (0 : Int) < n) rfl (fun h => ?_) (fun h => ?_)
  · refine aw_reg ?_
    (repeat (refine st_q rfl rfl rfl ?_))
    have e9 : IntKind.wrap .i64 ((n : Int) - 4) = ((n - 4 : Nat) : Int) := by rw [w64 _ (by omega) (by omega)]; omega
    rw [e9]
    have e10 : (if (15 : Int) < ((n - 4 : Nat) : Int) then (15 : Int) else ((n - 4 : Nat) : Int)) = ((if n = 0 then 0 else min (n - 4) 15 : Nat) : Int) := by
      rw [if_neg (by omega : ¬ n = 0)]; split <;> omega
    rw [e10]
    (refine st_nil ?_; (repeat (first | refine kp_cons rfl ?_ | refine kp_skip ?_)); refine kp_nil ?_)
    exact main
  · refine aw_skip ?_
    have e11 : (if n = 0 then 0 else min (n - 4) 15 : Nat) = 0 := if_pos (by omega)
    rw [e11] at main
    refine kp_weaken (keep := [0, 1, 2, 3, 9]) ?_
    ((repeat (first | refine kp_cons rfl ?_ | refine kp_skip ?_)); refine kp_nil ?_)
    exact main
end Go.Abs
