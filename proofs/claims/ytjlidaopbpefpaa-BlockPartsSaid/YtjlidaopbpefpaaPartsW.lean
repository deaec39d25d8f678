/- Sequences by hand. -/
import Derived.Test.YtjlidaopbpefpaaLzB
import Derived.Test.YtjlidaopbpefpaaLzV
import Derived.Test.YtjlidaopbpefpaaCopiesW
import Derived.Test.YtjlidaopbpefpaaAbsV
namespace Go.Abs
open Go Go.Proofs Go.Abs.Lz
set_option linter.unusedVariables false
set_option linter.unusedSimpArgs false

structure LPart where
  lit : List UInt8
  off : Int
  n : Int
def encPart (p : LPart) : AVal := .agg [.slc 1 (bytes p.lit) false, .int .i64 p.off, .int .i64 p.n]

theorem c_layF {σ : AHeap} {n : Nat} (hn : n ≤ 70368744177664) : ACalls Try.prog f_ingotlaw4_lay [.int .i64 n] σ fun r σ' => r = .tup [.int .i64 (min n 15 : Nat), .slc 1 (bytes (restF n)) false] ∧ σ' = σ := by
  refine acalls_shift (c_lay hn) ?_
  rintro _ _ ⟨v, β, rfl, ho, rfl⟩
  exact ⟨_, _, VShiftL.tup (VShiftL.keep (VShiftL.grow ho)), rfl, rfl⟩

set_option maxHeartbeats 1000000 in
theorem c_BlockParts (ps : List LPart) (hps : ∀ p ∈ ps, (-9223372036854775808 ≤ p.off ∧ p.off ≤ 9223372036854775807) ∧ -9223372036854775808 ≤ p.n ∧ p.n ≤ 9223372036854775807) (tail : List UInt8) (σ : AHeap) :
    ACalls Try.prog f_ingotlaw4_BlockParts [.slc 3 (ps.map encPart) false, .slc 1 (bytes tail) false] σ fun r σ' => r = .bool true ∧ σ' = σ := by
  refine acalls_enter rfl ingotlaw4_BlockParts_ok (Nat.le_of_ble_eq_true rfl) ?_
  refine aw_region ?_
  (repeat (refine st_q rfl rfl rfl ?_))
  (refine st_nil ?_; (repeat (first | refine kp_cons rfl ?_ | refine kp_skip ?_)); refine kp_nil ?_)
  refine aw_assoc ?_
  refine aw_reg ?_
  refine st_callv rfl (c_known _) ?_
  (repeat (refine st_q rfl rfl rfl ?_))
  (refine st_nil ?_; (repeat (first | refine kp_cons rfl ?_ | refine kp_skip ?_)); refine kp_nil ?_)
  refine awp_cond rfl (fun e => by cases e) (fun _ => ?_)
  refine aw_skip ?_
  refine aw_assoc ?_
  refine aw_reg ?_
  (repeat (first | refine st_q rfl rfl rfl ?_ | refine st_gy rfl (st_q rfl rfl rfl ?_) | refine st_gn rfl ?_ | refine st_gu rfl ?_))
  by_cases h1 : (12 : Int) < ((ps.map encPart).length : Int)
  · rw [show decide ((12 : Int) < ((ps.map encPart).length : Int)) = true from decide_eq_true h1]
    (repeat (first | refine st_q rfl rfl rfl ?_ | refine st_gy rfl (st_q rfl rfl rfl ?_) | refine st_gn rfl ?_ | refine st_gu rfl ?_))
    (refine st_nil ?_; (repeat (first | refine kp_cons rfl ?_ | refine kp_skip ?_)); refine kp_nil ?_)
    refine awp_cond rfl (fun _ => ?_) (fun e => by cases e)
    refine aw_region ?_
    (repeat (refine st_q rfl rfl rfl ?_))
    (refine st_nil ?_; (repeat (first | refine kp_cons rfl ?_ | refine kp_skip ?_)); refine kp_nil ?_)
    refine awp_ret ?_
    exact ares rfl (HSub.refl _) ⟨rfl, rfl⟩
  rw [show decide ((12 : Int) < ((ps.map encPart).length : Int)) = false from decide_eq_false h1]
  (repeat (first | refine st_q rfl rfl rfl ?_ | refine st_gy rfl (st_q rfl rfl rfl ?_) | refine st_gn rfl ?_ | refine st_gu rfl ?_))
  (refine st_nil ?_; (repeat (first | refine kp_cons rfl ?_ | refine kp_skip ?_)); refine kp_nil ?_)
  refine awp_condp (p := (400 : Int) < ((bytes tail).length : Int)) rfl (fun h2 => ?_) (fun h2 => ?_)
  · refine aw_region ?_
    (repeat (refine st_q rfl rfl rfl ?_))
    (refine st_nil ?_; (repeat (first | refine kp_cons rfl ?_ | refine kp_skip ?_)); refine kp_nil ?_)
    refine awp_ret ?_
    exact ares rfl (HSub.refl _) ⟨rfl, rfl⟩
  refine aw_skip ?_
  rw [bytes_length] at h2
  rw [List.length_map] at h1
  refine aw_region ?_
  (repeat (refine st_q rfl rfl rfl ?_))
  (refine st_nil ?_; (repeat (first | refine kp_cons rfl ?_ | refine kp_skip ?_)); refine kp_nil ?_)
  refine aw_assoc ?_
  refine aw_reg ?_
  (repeat (refine st_q rfl rfl rfl ?_))
  (refine st_nil ?_; (repeat (first | refine kp_cons rfl ?_ | refine kp_skip ?_)); refine kp_nil ?_)
  refine awp_block ?_
  refine awp_loopN (fun k F σ' => ∃ (j : Nat) (v5 v6 : AVal) (bb w : List UInt8) (β5 β6 : AHeap), F = fset 0 (some (.slc 3 (ps.map encPart) false)) (fset 1 (some (.slc 1 (bytes tail) false)) (fset 5 (some v5) (fset 6 (some v6) (fset 7 (some (.int .i64 j)) fnone)))) ∧
    σ' = β6 ++ (β5 ++ σ) ∧ Grow v5 bb β5 ∧ Grow v6 w β6 ∧ Says bb w ∧ bb.length ≤ j * 2000 ∧ w.length ≤ j * 1000 ∧ j ≤ ps.length ∧ k = ps.length - j) (n := ps.length)
    ⟨0, _, _, [], [], [], [], rfl, rfl, Grow.nil 0, Grow.nil 0, Says.nil, by simp, by simp, by omega, rfl⟩ ?_
  rintro k F σ' ⟨j, v5, v6, bb, w, β5, β6, rfl, rfl, ho5, ho6, hsays, hbl, hwl, hj, rfl⟩
  refine aw_assoc ?_
  refine aw_reg ?_
  (repeat (refine st_q rfl rfl rfl ?_))
  (refine st_nil ?_; (repeat (first | refine kp_cons rfl ?_ | refine kp_skip ?_)); refine kp_nil ?_)
  refine awp_condp (p := (j : Int) < ((ps.map encPart).length : Int)) rfl (fun h3 => ?_) (fun h3 => ?_)
  · rw [List.length_map] at h3
    refine aw_skip ?_
    refine aw_block ?_
    have hjl : j < ps.length := by omega
    obtain ⟨⟨lit, off, n⟩, hp⟩ : ∃ p, ps[j] = p := ⟨_, rfl⟩
    have hg := hps ps[j] (List.getElem_mem hjl)
    rw [hp] at hg
    have hx : (ps.map encPart)[(j : Int).toNat]? = some (encPart ⟨lit, off, n⟩) := by
      rw [Int.toNat_natCast, List.getElem?_map, List.getElem?_eq_getElem hjl, hp]; rfl
    refine aw_region ?_
    refine st_q rfl rfl rfl ?_
    refine st_q rfl rfl rfl ?_
    refine st_iad rfl (by omega) hx ?_
    (repeat (refine st_q rfl rfl rfl ?_))
    refine st_alloc (by simp [AVal.cells, AVal.one]) fun pb hpb => ?_
    refine st_store rfl hget_head rfl (by decide) (AVal.fit_iff.1 rfl) (fun h => by cases h) hset_head ?_
    (refine st_nil ?_; (repeat (first | refine kp_cons rfl ?_ | refine kp_skip ?_)); refine kp_nil ?_)
    refine awp_freezeP (d := 8) (cs := [.slc 1 (bytes lit) false, .int .i64 off, .int .i64 n]) rfl ?_
    simp only at hg
    obtain ⟨⟨hg1, hg2⟩, hg3, hg4⟩ := hg
    have hsub : HSub σ (β6 ++ (β5 ++ σ)) := HSub.of_sublist ((List.sublist_append_right _ _).trans (List.sublist_append_right _ _))
    have fin : ∀ (F : AFrame) (τ : AHeap), F 4 = some (.bool true) → HSub σ τ → ARet ingotlaw4_BlockParts.res (fun r σ' => r = .bool true ∧ σ' = σ) .ret F τ := fun F τ hF hτ =>
      ares (vs := [.bool true]) (by simp [resVals, resVal, ingotlaw4_BlockParts, hF]) hτ ⟨rfl, rfl⟩
    refine aw_assoc ?_
    refine aw_cut (fun F' σ' => σ' = β6 ++ (β5 ++ σ) ∧ ∃ d : Bool, (d = false → lit.length ≤ 400 ∧ 4 ≤ n ∧ n ≤ 600 ∧ 1 ≤ off ∧ off ≤ 65535) ∧
      KP [0, 1, 5, 6, 7, 8, 61] F' fun G => G = fset 0 (some (.slc 3 (ps.map encPart) false)) (fset 1 (some (.slc 1 (bytes tail) false)) (fset 5 (some v5) (fset 6 (some v6) (fset 7 (some (.int .i64 j)) (fset 8 (some (.iptr [.slc 1 (bytes lit) false, .int .i64 off, .int .i64 n])) (fset 61 (some (.bool d)) fnone))))))) ?_ ?_
    · (repeat (first | refine st_q rfl rfl rfl ?_ | refine st_gy rfl (st_q rfl rfl rfl ?_) | refine st_gn rfl ?_ | refine st_gu rfl ?_))
      rw [bytes_length]
      by_cases g1 : (400 : Int) < (lit.length : Int)
      · rw [show decide ((400 : Int) < (lit.length : Int)) = true from decide_eq_true g1]
        (repeat (first | refine st_q rfl rfl rfl ?_ | refine st_gy rfl (st_q rfl rfl rfl ?_) | refine st_gn rfl ?_ | refine st_gu rfl ?_))
        refine st_nil ⟨rfl, true, (fun h => by cases h), ?_⟩
        ((repeat (first | refine kp_cons rfl ?_ | refine kp_skip ?_)); refine kp_nil ?_)
        rfl
      rw [show decide ((400 : Int) < (lit.length : Int)) = false from decide_eq_false g1]
      (repeat (first | refine st_q rfl rfl rfl ?_ | refine st_gy rfl (st_q rfl rfl rfl ?_) | refine st_gn rfl ?_ | refine st_gu rfl ?_))
      by_cases g2 : n < 4
      · rw [show decide (n < 4) = true from decide_eq_true g2]
        (repeat (first | refine st_q rfl rfl rfl ?_ | refine st_gy rfl (st_q rfl rfl rfl ?_) | refine st_gn rfl ?_ | refine st_gu rfl ?_))
        refine st_nil ⟨rfl, true, (fun h => by cases h), ?_⟩
        ((repeat (first | refine kp_cons rfl ?_ | refine kp_skip ?_)); refine kp_nil ?_)
        rfl
      rw [show decide (n < 4) = false from decide_eq_false g2]
      (repeat (first | refine st_q rfl rfl rfl ?_ | refine st_gy rfl (st_q rfl rfl rfl ?_) | refine st_gn rfl ?_ | refine st_gu rfl ?_))
      by_cases g3 : 600 < n
      · rw [show decide (600 < n) = true from decide_eq_true g3]
        (repeat (first | refine st_q rfl rfl rfl ?_ | refine st_gy rfl (st_q rfl rfl rfl ?_) | refine st_gn rfl ?_ | refine st_gu rfl ?_))
        refine st_nil ⟨rfl, true, (fun h => by cases h), ?_⟩
        ((repeat (first | refine kp_cons rfl ?_ | refine kp_skip ?_)); refine kp_nil ?_)
        rfl
      rw [show decide (600 < n) = false from decide_eq_false g3]
      (repeat (first | refine st_q rfl rfl rfl ?_ | refine st_gy rfl (st_q rfl rfl rfl ?_) | refine st_gn rfl ?_ | refine st_gu rfl ?_))
      by_cases g4 : off < 1
      · rw [show decide (off < 1) = true from decide_eq_true g4]
        (repeat (first | refine st_q rfl rfl rfl ?_ | refine st_gy rfl (st_q rfl rfl rfl ?_) | refine st_gn rfl ?_ | refine st_gu rfl ?_))
        refine st_nil ⟨rfl, true, (fun h => by cases h), ?_⟩
        ((repeat (first | refine kp_cons rfl ?_ | refine kp_skip ?_)); refine kp_nil ?_)
        rfl
      rw [show decide (off < 1) = false from decide_eq_false g4]
      (repeat (first | refine st_q rfl rfl rfl ?_ | refine st_gy rfl (st_q rfl rfl rfl ?_) | refine st_gn rfl ?_ | refine st_gu rfl ?_))
      refine st_nil ⟨rfl, decide (65535 < off), fun h => ⟨by omega, by omega, by omega, by omega, by simpa using h⟩, ?_⟩
      ((repeat (first | refine kp_cons rfl ?_ | refine kp_skip ?_)); refine kp_nil ?_)
      rfl
    rintro F' σ1 ⟨rfl, d, hd, G, hG, rfl⟩
    refine kp_weaken (keep := [0, 1, 5, 6, 7, 8, 61]) ⟨_, hG, ?_⟩
    refine awp_cond rfl (fun h4 => ?_) (fun h4 => ?_)
    · refine aw_region ?_
      (repeat (refine st_q rfl rfl rfl ?_))
      (refine st_nil ?_; (repeat (first | refine kp_cons rfl ?_ | refine kp_skip ?_)); refine kp_nil ?_)
      refine awp_ret ?_
      exact fin _ _ rfl hsub
    refine aw_skip ?_
    obtain ⟨hlit, hn4, hn6, hof1, hof6⟩ := hd h4
    obtain ⟨n, rfl⟩ : ∃ m : Nat, n = m := ⟨n.toNat, by omega⟩
    obtain ⟨off, rfl⟩ : ∃ m : Nat, off = m := ⟨off.toNat, by omega⟩
    refine aw_region ?_
    (repeat (refine st_q rfl rfl rfl ?_))
    refine st_appO (ys := lit) ho6 rfl rfl (by omega) fun b6 hb6 => ?_
    (repeat (refine st_q rfl rfl rfl ?_))
    (refine st_nil ?_; (repeat (first | refine kp_cons rfl ?_ | refine kp_skip ?_)); refine kp_nil ?_)
    refine aw_assoc ?_
    refine aw_reg ?_
    (repeat (refine st_q rfl rfl rfl ?_))
    (refine st_nil ?_; (repeat (first | refine kp_cons rfl ?_ | refine kp_skip ?_)); refine kp_nil ?_)
    refine awp_condp (p := (((w ++ lit).length : Nat) : Int) < (off : Int)) rfl (fun h5 => ?_) (fun h5 => ?_)
    · refine aw_region ?_
      (repeat (refine st_q rfl rfl rfl ?_))
      (refine st_nil ?_; (repeat (first | refine kp_cons rfl ?_ | refine kp_skip ?_)); refine kp_nil ?_)
      refine awp_ret ?_
      exact fin _ _ rfl (HSub.of_sublist ((List.sublist_append_right β5 σ).trans (List.sublist_cons_self _ _)))
    refine aw_skip ?_
    generalize hw0 : w ++ lit = w0 at *
    have hw0l : w0.length = w.length + lit.length := by rw [← hw0]; simp
    refine aw_region ?_
    (repeat (refine st_q rfl rfl rfl ?_))
    rw [bytes_length]
    refine st_callv rfl (c_layF (by omega)) ?_
    (repeat (refine st_q rfl rfl rfl ?_))
    (refine st_nil ?_; (repeat (first | refine kp_cons rfl ?_ | refine kp_skip ?_)); refine kp_nil ?_)
    refine aw_region ?_
    (repeat (refine st_q rfl rfl rfl ?_))
    rw [show IntKind.wrap .i64 ((n : Int) - 4) = ((n - 4 : Nat) : Int) by rw [w64 _ (by omega) (by omega)]; omega]
    refine st_callv rfl (c_layF (by omega)) ?_
    (repeat (refine st_q rfl rfl rfl ?_))
    (refine st_nil ?_; (repeat (first | refine kp_cons rfl ?_ | refine kp_skip ?_)); refine kp_nil ?_)
    refine awp_rot (β := [(b6, .cells 1 (bytes w0))]) (γ := β5) ?_
    have hr1 := restF_length lit.length
    have hr2 := restF_length (n - 4)
    refine aw_region ?_
    refine st_q rfl rfl rfl ?_
    refine st_q rfl rfl rfl ?_
    refine st_shl rfl (by decide) ?_
    have e1 : IntKind.wrap .i64 (((min lit.length 15 : Nat) : Int) * 2 ^ (Nat.min ((4 : Int).toNat) IntKind.i64.bits)) = ((min lit.length 15 * 16 : Nat) : Int) := by
      show IntKind.wrap .i64 (((min lit.length 15 : Nat) : Int) * 16) = _
      rw [w64 _ (by omega) (by omega)]; omega
    rw [e1]
    (repeat (refine st_q rfl rfl rfl ?_))
    have e3 : some [AVal.int .u8 (IntKind.wrap .u8 (intBits .or .i64 ((min lit.length 15 * 16 : Nat) : Int) ((min (n - 4) 15 : Nat) : Int)))] = some (bytes [UInt8.ofNat (min lit.length 15 * 16 + min (n - 4) 15)]) := by
      rw [or4 _ _ (by omega) (by omega), conv8']; rfl
    refine st_appO (ys := [UInt8.ofNat (min lit.length 15 * 16 + min (n - 4) 15)]) ho5 rfl e3 (by simp only [List.length_cons, List.length_nil]; omega) fun b1 hb1 => ?_
    (repeat (refine st_q rfl rfl rfl ?_))
    refine st_appO (β := [(b1, .cells 1 (bytes _))]) (ys := restF lit.length) (.inr ⟨b1, rfl, rfl⟩) rfl rfl (by simp only [List.length_append, List.length_cons, List.length_nil]; omega) fun b2 hb2 => ?_
    (repeat (refine st_q rfl rfl rfl ?_))
    refine st_appO (β := [(b2, .cells 1 (bytes _))]) (ys := lit) (.inr ⟨b2, rfl, rfl⟩) rfl rfl (by simp only [List.length_append, List.length_cons, List.length_nil]; omega) fun b3 hb3 => ?_
    (repeat (refine st_q rfl rfl rfl ?_))
    (refine st_nil ?_; (repeat (first | refine kp_cons rfl ?_ | refine kp_skip ?_)); refine kp_nil ?_)
    generalize hx3 : bb ++ [UInt8.ofNat (min lit.length 15 * 16 + min (n - 4) 15)] ++ restF lit.length ++ lit = x3
    have hx3l : x3.length = bb.length + 1 + (restF lit.length).length + lit.length := by rw [← hx3]; simp; omega
    refine aw_region ?_
    refine st_q rfl rfl rfl ?_
    refine st_q rfl rfl rfl ?_
    refine st_q rfl rfl rfl ?_
    refine st_q rfl rfl rfl ?_
    refine st_q rfl rfl rfl ?_
    refine st_q rfl rfl rfl ?_
    refine st_shr rfl (by decide) ?_
    have e6 : Int.fdiv (off : Int) (2 ^ (Nat.min ((8 : Int).toNat) IntKind.i64.bits)) = ((off / 256 : Nat) : Int) := by
      show Int.fdiv (off : Int) 256 = _
      rw [Int.fdiv_eq_ediv_of_nonneg _ (by omega)]; omega
    rw [e6]
    (repeat (refine st_q rfl rfl rfl ?_))
    have e7 : some [AVal.int .u8 (IntKind.wrap .u8 (off : Int)), AVal.int .u8 (IntKind.wrap .u8 ((off / 256 : Nat) : Int))] = some (bytes [UInt8.ofNat off, UInt8.ofNat (off / 256)]) := by
      rw [conv8', conv8']; rfl
    refine st_appO (β := [(b3, .cells 1 (bytes x3))]) (ys := [UInt8.ofNat off, UInt8.ofNat (off / 256)]) (.inr ⟨b3, rfl, rfl⟩) rfl e7 (by simp only [List.length_cons, List.length_nil]; omega) fun b4 hb4 => ?_
    (repeat (refine st_q rfl rfl rfl ?_))
    refine st_appO (β := [(b4, .cells 1 (bytes _))]) (ys := restF (n - 4)) (.inr ⟨b4, rfl, rfl⟩) rfl rfl (by simp only [List.length_append, List.length_cons, List.length_nil]; omega) fun b5 hb5 => ?_
    (repeat (refine st_q rfl rfl rfl ?_))
    (refine st_nil ?_; (repeat (first | refine kp_cons rfl ?_ | refine kp_skip ?_)); refine kp_nil ?_)
    have hput : x3 ++ [UInt8.ofNat off, UInt8.ofNat (off / 256)] ++ restF (n - 4) = bb ++ putF lit off n := by
      rw [← hx3, putF, if_neg (by omega), if_neg (by omega)]
      simp
    rw [hput]
    have hpl := putF_length lit off n
    refine awp_rot (β := [(b5, .cells 1 (bytes (bb ++ putF lit off n)))]) (γ := [(b6, .cells 1 (bytes w0))]) ?_
    have hsays' := hsays.put (lit := lit) (off := off) (n := n) (by omega) (by omega) (by omega) (by rw [← List.length_append, hw0]; omega)
    rw [hw0] at hsays'
    refine aw_region ?_
    (repeat (refine st_q rfl rfl rfl ?_))
    (refine st_nil ?_; (repeat (first | refine kp_cons rfl ?_ | refine kp_skip ?_)); refine kp_nil ?_)
    refine awp_block ?_
    generalize hτ : [(b5, ABlk.cells 1 (bytes (bb ++ putF lit off n)))] ++ σ = τ
    refine awp_loopN (fun k' F σ' => ∃ (i b : Nat) (w1 : List UInt8), F = fset 0 (some (.slc 3 (ps.map encPart) false)) (fset 1 (some (.slc 1 (bytes tail) false)) (fset 5 (some (.arr 1 b5 0 (bb ++ putF lit off n).length)) (fset 6 (some (.arr 1 b 0 w1.length)) (fset 7 (some (.int .i64 j))
      (fset 8 (some (.iptr [.slc 1 (bytes lit) false, .int .i64 off, .int .i64 n])) (fset 13 (some (.int .i64 i)) fnone)))))) ∧
      σ' = (b, .cells 1 (bytes w1)) :: τ ∧ i ≤ n ∧ w1.length = w0.length + i ∧ copyB off (n - i) w1 = copyB off n w0 ∧ k' = n - i) (n := n)
      ⟨0, b6, w0, rfl, by rw [← hτ]; rfl, by omega, by omega, rfl, rfl⟩ ?_
    rintro k' F σ' ⟨i, b, w1, rfl, rfl, hi, hw1, hcp, rfl⟩
    refine aw_assoc ?_
    refine aw_reg ?_
    (repeat (refine st_q rfl rfl rfl ?_))
    (refine st_nil ?_; (repeat (first | refine kp_cons rfl ?_ | refine kp_skip ?_)); refine kp_nil ?_)
    refine awp_condp (p := (i : Int) < (n : Int)) rfl (fun h6 => ?_) (fun h6 => ?_)
    · refine aw_skip ?_
      refine aw_block ?_
      refine awp_region ?_
      refine st_q rfl rfl rfl ?_
      refine st_q rfl rfl rfl ?_
      refine st_q rfl rfl rfl ?_
      refine st_q rfl rfl rfl ?_
      refine st_q rfl rfl rfl ?_
      refine st_q rfl rfl rfl ?_
      refine st_q rfl rfl rfl ?_
      rw [show IntKind.wrap .i64 ((w1.length : Int) - (off : Int)) = ((w1.length - off : Nat) : Int) by rw [w64 _ (by omega) (by omega)]; omega]
      refine st_iada rfl ⟨by omega, by omega⟩ ?_
      have hy : (bytes w1)[0 + ((w1.length - off : Nat) : Int).toNat]? = some (byte (w1.getD (w1.length - off) 0)) := by
        rw [bytes_get, Nat.zero_add, Int.toNat_natCast, List.getD_eq_getElem?_getD, List.getElem?_eq_getElem (by omega)]; rfl
      refine st_ldp rfl hget_head hy rfl ?_
      (repeat (refine st_q rfl rfl rfl ?_))
      refine st_appO (β := [(b, .cells 1 (bytes w1))]) (ys := [w1.getD (w1.length - off) 0]) (.inr ⟨b, rfl, rfl⟩) rfl rfl (by simp only [List.length_cons, List.length_nil]; omega) fun b' hb' => ?_
      (repeat (refine st_q rfl rfl rfl ?_))
      refine st_nil ?_
      refine kp_weaken (keep := [0, 1, 5, 6, 7, 8, 13]) ?_
      ((repeat (first | refine kp_cons rfl ?_ | refine kp_skip ?_)); refine kp_nil ?_)
      refine awp_region ?_
      (repeat (refine st_q rfl rfl rfl ?_))
      rw [show IntKind.wrap .i64 ((i : Int) + 1) = ((i + 1 : Nat) : Int) by rw [w64 _ (by omega) (by omega)]; omega]
      refine st_nil ?_
      refine kp_less (keep := [0, 1, 5, 6, 7, 8, 13]) ?_
      ((repeat (first | refine kp_cons rfl ?_ | refine kp_skip ?_)); refine kp_nil ?_)
      refine ⟨_, n - (i + 1), HSub.refl _, ⟨i + 1, b', w1 ++ [w1.getD (w1.length - off) 0], rfl, rfl, by omega, by simp; omega, ?_, rfl⟩, by omega⟩
      rw [← hcp, show n - i = (n - (i + 1)) + 1 by omega, copyB]
    · refine awp_exit ?_
      show AWp _ _ _ _ _ _
      have hin : n - i = 0 := by omega
      rw [hin] at hcp
      rw [copyB] at hcp
      subst hτ
      refine awp_region ?_
      (repeat (refine st_q rfl rfl rfl ?_))
      rw [show IntKind.wrap .i64 ((j : Int) + 1) = ((j + 1 : Nat) : Int) by rw [w64 _ (by omega) (by omega)]; omega]
      refine st_nil ?_
      refine kp_less (keep := [0, 1, 5, 6, 7]) ?_
      ((repeat (first | refine kp_cons rfl ?_ | refine kp_skip ?_)); refine kp_nil ?_)
      refine ⟨_, ps.length - (j + 1), HSub.refl _, ⟨j + 1, _, _, bb ++ putF lit off n, w1, _, [(b, .cells 1 (bytes w1))], rfl, rfl, .inr ⟨b5, rfl, rfl⟩, .inr ⟨b, rfl, rfl⟩, ?_, ?_, ?_, by omega, rfl⟩, by omega⟩
      · rw [hcp]; exact hsays'
      · rw [List.length_append]; omega
      · omega
  · refine awp_exit ?_
    show AWp _ _ _ _ _ _
    refine aw_region ?_
    (repeat (refine st_q rfl rfl rfl ?_))
    rw [bytes_length]
    refine st_callv rfl (c_layF (by omega)) ?_
    (repeat (refine st_q rfl rfl rfl ?_))
    (refine st_nil ?_; (repeat (first | refine kp_cons rfl ?_ | refine kp_skip ?_)); refine kp_nil ?_)
    have hr1 := restF_length tail.length
    refine awp_rot (β := β6) (γ := β5) ?_
    refine aw_region ?_
    refine st_q rfl rfl rfl ?_
    refine st_q rfl rfl rfl ?_
    refine st_shl rfl (by decide) ?_
    have e1 : IntKind.wrap .i64 (((min tail.length 15 : Nat) : Int) * 2 ^ (Nat.min ((4 : Int).toNat) IntKind.i64.bits)) = ((min tail.length 15 * 16 + 0 : Nat) : Int) := by
      show IntKind.wrap .i64 (((min tail.length 15 : Nat) : Int) * 16) = _
      rw [w64 _ (by omega) (by omega)]; omega
    rw [e1]
    (repeat (refine st_q rfl rfl rfl ?_))
    have e3 : some [AVal.int .u8 (IntKind.wrap .u8 ((min tail.length 15 * 16 + 0 : Nat) : Int))] = some (bytes [UInt8.ofNat (min tail.length 15 * 16 + 0)]) := by
      rw [conv8']; rfl
    refine st_appO (ys := [UInt8.ofNat (min tail.length 15 * 16 + 0)]) ho5 rfl e3 (by simp only [List.length_cons, List.length_nil]; omega) fun b1 hb1 => ?_
    (repeat (refine st_q rfl rfl rfl ?_))
    refine st_appO (β := [(b1, .cells 1 (bytes _))]) (ys := restF tail.length) (.inr ⟨b1, rfl, rfl⟩) rfl rfl (by simp only [List.length_append, List.length_cons, List.length_nil]; omega) fun b2 hb2 => ?_
    (repeat (refine st_q rfl rfl rfl ?_))
    refine st_appO (β := [(b2, .cells 1 (bytes _))]) (ys := tail) (.inr ⟨b2, rfl, rfl⟩) rfl rfl (by simp only [List.length_append, List.length_cons, List.length_nil]; omega) fun b3 hb3 => ?_
    (repeat (refine st_q rfl rfl rfl ?_))
    (refine st_nil ?_; (repeat (first | refine kp_cons rfl ?_ | refine kp_skip ?_)); refine kp_nil ?_)
    have hput : bb ++ [UInt8.ofNat (min tail.length 15 * 16 + 0)] ++ restF tail.length ++ tail = bb ++ putF tail 0 0 := by
      rw [putF, if_pos rfl, if_pos rfl]
      simp
    rw [hput]
    have hpl := putF_length tail 0 0
    refine awp_freeze (d := 5) (show _ = some (AVal.arr 1 b3 0 (bytes (bb ++ putF tail 0 0)).length) by rw [bytes_length]; rfl) ?_
    refine aw_region ?_
    (repeat (refine st_q rfl rfl rfl ?_))
    refine st_appO (ys := tail) ho6 rfl rfl (by omega) fun b4 hb4 => ?_
    (repeat (refine st_q rfl rfl rfl ?_))
    (refine st_nil ?_; (repeat (first | refine kp_cons rfl ?_ | refine kp_skip ?_)); refine kp_nil ?_)
    refine awp_freeze (d := 6) (show _ = some (AVal.arr 1 b4 0 (bytes (w ++ tail)).length) by rw [bytes_length]; rfl) ?_
    have hlast := hsays.last (tail := tail)
    have hu : unpack (((w ++ tail).length : Nat) : Int) (bb ++ putF tail 0 0) = (0, w ++ tail) := by
      rw [unpack, if_neg (by rw [List.length_append]; omega), Int.toNat_natCast]; exact hlast
    refine aw_region ?_
    (repeat (refine st_q rfl rfl rfl ?_))
    rw [bytes_length]
    refine st_callv rfl (c_Unpack' _ (by rw [List.length_append]; omega) hu) ?_
    (repeat (refine st_q rfl rfl rfl ?_))
    (refine st_nil ?_; (repeat (first | refine kp_cons rfl ?_ | refine kp_skip ?_)); refine kp_nil ?_)
    refine aw_region ?_
    (repeat (refine st_q rfl rfl rfl ?_))
    refine st_gy rfl (st_q rfl rfl rfl ?_)
    refine st_gy rfl (st_q rfl ab2s_slc rfl ?_)
    refine st_gy rfl (st_q rfl rfl rfl ?_)
    refine st_gy rfl (st_q rfl ab2s_slc rfl ?_)
    refine st_gy rfl (st_q rfl rfl rfl ?_)
    rw [show decide (w ++ tail = w ++ tail) = true from decide_eq_true rfl]
    (repeat (first | refine st_q rfl rfl rfl ?_ | refine st_gy rfl (st_q rfl rfl rfl ?_) | refine st_gn rfl ?_ | refine st_gu rfl ?_))
    (refine st_nil ?_; (repeat (first | refine kp_cons rfl ?_ | refine kp_skip ?_)); refine kp_nil ?_)
    refine awp_ret ?_
    exact ares rfl (HSub.refl _) ⟨rfl, rfl⟩

end Go.Abs
