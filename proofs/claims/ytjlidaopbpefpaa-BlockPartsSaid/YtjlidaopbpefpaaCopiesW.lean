/- A copy of itself from one byte behind. -/
import Derived.Test.YtjlidaopbpefpaaLzB
import Derived.Test.YtjlidaopbpefpaaAbsU
namespace Go.Abs
open Go Go.Proofs Go.Abs.Lz
set_option linter.unusedVariables false
set_option linter.unusedSimpArgs false

theorem c_lay {σ : AHeap} {n : Nat} (hn : n ≤ 70368744177664) : ACalls Try.prog f_ingotlaw4_lay [.int .i64 n] σ fun r σ' => ∃ v β, r = .tup [.int .i64 (min n 15 : Nat), v] ∧ Grow v (restF n) β ∧ σ' = β ++ σ := by
  refine acalls_enter rfl ingotlaw4_lay_ok (Nat.le_of_ble_eq_true rfl) ?_
  refine aw_region ?_
  (repeat (refine st_q rfl rfl rfl ?_))
  (refine st_nil ?_; (repeat (first | refine kp_cons rfl ?_ | refine kp_skip ?_)); refine kp_nil ?_)
  refine aw_assoc ?_
  refine aw_reg ?_
  (repeat (refine st_q rfl rfl rfl ?_))
  (refine st_nil ?_; (repeat (first | refine kp_cons rfl ?_ | refine kp_skip ?_)); refine kp_nil ?_)
  refine awp_condp (p := (n : Int) < 15) rfl (fun h => ?_) (fun h => ?_)
  · refine aw_region ?_
    (repeat (refine st_q rfl rfl rfl ?_))
    (refine st_nil ?_; (repeat (first | refine kp_cons rfl ?_ | refine kp_skip ?_)); refine kp_nil ?_)
    refine awp_ret ?_
    refine ares rfl (HSub.refl _) ⟨.slc 0 [] true, [], ?_, ?_, rfl⟩
    · rw [show min n 15 = n by omega]; rfl
    · rw [restF, if_pos (by omega)]; exact Grow.nil 0
  refine aw_skip ?_
  have hr : restF n = restL (n - 15) := by rw [restF, if_neg (by omega)]
  rw [hr, show min n 15 = 15 by omega]
  refine aw_region ?_
  (repeat (refine st_q rfl rfl rfl ?_))
  have e1 : IntKind.wrap .i64 ((n : Int) - 15) = ((n - 15 : Nat) : Int) := by rw [w64 _ (by omega) (by omega)]; omega
  rw [e1]
  (refine st_nil ?_; (repeat (first | refine kp_cons rfl ?_ | refine kp_skip ?_)); refine kp_nil ?_)
  refine aw_region ?_
  (repeat (refine st_q rfl rfl rfl ?_))
  (refine st_nil ?_; (repeat (first | refine kp_cons rfl ?_ | refine kp_skip ?_)); refine kp_nil ?_)
  refine aw_block ?_
  refine awp_loopN (fun k F σ' => ∃ (m : Nat) (v' : AVal) (xs' : List UInt8) (β' : AHeap), F = fset 0 (some (.int .i64 m)) (fset 4 (some v') fnone) ∧ σ' = β' ++ σ ∧ Grow v' xs' β' ∧ xs' ++ restL m = restL (n - 15) ∧ xs'.length + m ≤ n ∧ k = m) (n := n - 15)
    ⟨n - 15, _, [], [], rfl, rfl, Grow.nil 0, rfl, by simp, rfl⟩ ?_
  rintro k F σ' ⟨m, v', xs', β', rfl, rfl, ho', he, hl, rfl⟩
  refine aw_assoc ?_
  refine aw_reg ?_
  (repeat (refine st_q rfl rfl rfl ?_))
  (refine st_nil ?_; (repeat (first | refine kp_cons rfl ?_ | refine kp_skip ?_)); refine kp_nil ?_)
  refine awp_condp (p := (255 : Int) ≤ k) rfl (fun h2 => ?_) (fun h2 => ?_)
  · refine aw_skip ?_
    refine awp_block ?_
    refine aw_region ?_
    (repeat (refine st_q rfl rfl rfl ?_))
    refine st_appO (ys := [255]) ho' rfl rfl (by simp only [List.length_cons, List.length_nil]; omega) fun b' hb' => ?_
    (repeat (refine st_q rfl rfl rfl ?_))
    (refine st_nil ?_; (repeat (first | refine kp_cons rfl ?_ | refine kp_skip ?_)); refine kp_nil ?_)
    refine awp_region ?_
    (repeat (refine st_q rfl rfl rfl ?_))
    have e2 : IntKind.wrap .i64 ((k : Int) - 255) = ((k - 255 : Nat) : Int) := by rw [w64 _ (by omega) (by omega)]; omega
    rw [e2]
    refine st_nil ?_
    refine kp_less (keep := [0, 4]) ?_
    ((repeat (first | refine kp_cons rfl ?_ | refine kp_skip ?_)); refine kp_nil ?_)
    refine ⟨_, k - 255, HSub.refl _, ⟨k - 255, _, xs' ++ [255], [(b', .cells 1 (bytes (xs' ++ [255])))], rfl, rfl, .inr ⟨b', rfl, rfl⟩, ?_, by simp only [List.length_append, List.length_cons, List.length_nil]; omega, rfl⟩, by omega⟩
    rw [← he]
    conv => rhs; rw [restL, dif_pos (by omega)]
    simp
  · refine awp_exit ?_
    show AWp _ _ _ _ _ _
    refine aw_region ?_
    (repeat (refine st_q rfl rfl rfl ?_))
    rw [conv8]
    (repeat (refine st_q rfl rfl rfl ?_))
    refine st_appO (ys := [UInt8.ofNat k]) ho' rfl rfl (by simp only [List.length_cons, List.length_nil]; omega) fun b' hb' => ?_
    (repeat (refine st_q rfl rfl rfl ?_))
    (refine st_nil ?_; (repeat (first | refine kp_cons rfl ?_ | refine kp_skip ?_)); refine kp_nil ?_)
    refine awp_ret ?_
    have e3 : restL k = [UInt8.ofNat k] := by rw [restL, dif_neg (by omega)]
    rw [e3] at he
    refine ares rfl (HSub.refl _) ⟨_, _, rfl, .inr ⟨b', ?_, rfl⟩, ?_⟩
    · rw [he]
    · rw [he]; rfl

theorem st_appS {P : Program} {l : List AOper} {F : AFrame} {σ : AHeap} {Q : AFrame → AHeap → Prop} {d sz byt : Nat} {args : List AOpd} {x : AVal} {xs ys : List AVal} (h1 : evs F args = some [.slc sz xs true, x]) (hxs : xs ≠ []) (hy : elemsOf σ sz x = some ys) (hb : (xs.length + ys.length) * byt ≤ 140737488355328)
    (h0 : ys = [] → aops P l (fset d (some (.slc sz xs true)) F) σ Q) (h : ys ≠ [] → ∀ b', b' ∉ keys σ → aops P l (fset d (some (.arr sz b' 0 (xs.length + ys.length))) F) ((b', .cells sz (xs ++ ys)) :: σ) Q) : aops P (⟨some d, .app sz byt, args, none⟩ :: l) F σ Q := by
  refine ⟨_, h1, ys, hy, hb, .inl rfl, ?_⟩
  cases xs with
  | nil => exact absurd rfl hxs
  | cons a xs => exact ⟨h0, fun hn b hb => h hn b hb⟩

theorem copyB_rep (c : UInt8) : ∀ (k j : Nat), copyB 1 k (List.replicate (j + 1) c) = List.replicate (j + 1 + k) c
  | 0, j => rfl
  | k + 1, j => by
    have e : (List.replicate (j + 1) c).getD ((List.replicate (j + 1) c).length - 1) 0 = c := by
      rw [List.length_replicate, List.getD_eq_getElem?_getD, List.getElem?_replicate, if_pos (by omega)]; rfl
    rw [copyB, e, ← List.replicate_succ', copyB_rep c k (j + 1)]
    congr 1; omega

theorem unpack_copies (c : UInt8) {n : Nat} (hn : 4 ≤ n) (h5 : n ≤ 5000) : unpack ((n + 1 : Nat) : Int) (putF [c] 1 n ++ [0]) = (0, List.replicate (n + 1) c) := by
  rw [unpack, if_neg (by omega), Int.toNat_natCast]
  have h1 := seqF_put (most := n + 1) (lits := [c]) (out := []) (r := [0]) (back := 1) (n := n) hn (by omega) (by omega) (by simp)
  rw [if_neg (by simp; omega)] at h1
  rw [unpF_go h1]
  have h2 : copyB 1 n ([] ++ [c]) = List.replicate (n + 1) c := by
    have := copyB_rep c n 0
    rw [show 0 + 1 + n = n + 1 by omega] at this
    exact this
  rw [h2]
  refine unpF_last ?_
  have h3 := seqF_last (most := n + 1) (lits := []) (out := List.replicate (n + 1) c)
  rw [if_neg (by simp), List.append_nil] at h3
  have h4 : putF [] 0 0 = [0] := by rw [putF, restF]; rfl
  rw [h4] at h3
  exact h3

theorem c_BlockCopies (a0 : Int) (g0 : 0 ≤ a0) (g1 : a0 ≤ 255) (a1 : Int) (h0 : -9223372036854775808 ≤ a1) (h1 : a1 ≤ 9223372036854775807) (σ : AHeap) : ACalls Try.prog f_ingotlaw4_BlockCopies [.int .u8 a0, .int .i64 a1] σ fun r σ' => r = .bool true ∧ σ' = σ := by
  obtain ⟨c, rfl⟩ : ∃ c : UInt8, a0 = (c.toNat : Int) := ⟨UInt8.ofNat a0.toNat, by rw [UInt8.toNat_ofNat']; omega⟩
  refine acalls_enter rfl ingotlaw4_BlockCopies_ok (Nat.le_of_ble_eq_true rfl) ?_
  refine aw_region ?_
  (repeat (refine st_q rfl rfl rfl ?_))
  (refine st_nil ?_; (repeat (first | refine kp_cons rfl ?_ | refine kp_skip ?_)); refine kp_nil ?_)
  refine aw_assoc ?_
  refine aw_reg ?_
  refine st_callv rfl (c_known _) ?_
  (repeat (refine st_q rfl rfl rfl ?_))
  (refine st_nil ?_; (repeat (first | refine kp_cons rfl ?_ | refine kp_skip ?_)); refine kp_nil ?_)
  refine awp_cond rfl (fun e => by cases e) (fun _ => ?_)
  refine aw_skip ?_
  refine aw_assoc ?_
  refine aw_cut (fun F' σ' => σ' = σ ∧ ∃ d : Bool, (d = true ↔ (a1 < 4 ∨ 5000 < a1)) ∧
    KP [0, 1, 18] F' fun G => G = fset 0 (some (.int .u8 (c.toNat : Int))) (fset 1 (some (.int .i64 a1)) (fset 18 (some (.bool d)) fnone))) ?_ ?_
  · (repeat (refine st_q rfl rfl rfl ?_))
    by_cases h2 : a1 < 4
    · rw [show decide (a1 < 4) = true from decide_eq_true h2]
      (repeat (first | refine st_gn rfl ?_ | refine st_gu rfl ?_ | refine st_q rfl rfl rfl ?_))
      refine st_nil ⟨rfl, true, by simp [h2], ?_⟩
      ((repeat (first | refine kp_cons rfl ?_ | refine kp_skip ?_)); refine kp_nil ?_)
      rfl
    rw [show decide (a1 < 4) = false from decide_eq_false h2]
    (repeat (first | refine st_gy rfl (st_q rfl rfl rfl ?_) | refine st_q rfl rfl rfl ?_))
    refine st_nil ⟨rfl, decide (5000 < a1), by simp only [decide_eq_true_eq]; omega, ?_⟩
    ((repeat (first | refine kp_cons rfl ?_ | refine kp_skip ?_)); refine kp_nil ?_)
    rfl
  rintro F' σ1 ⟨hσ1, d, hd, G, hG, rfl⟩
  rw [hσ1]
  refine kp_weaken (keep := [0, 1, 18]) ⟨_, hG, ?_⟩
  refine awp_cond rfl (fun h2 => ?_) (fun h2 => ?_)
  · refine aw_region ?_
    (repeat (refine st_q rfl rfl rfl ?_))
    (refine st_nil ?_; (repeat (first | refine kp_cons rfl ?_ | refine kp_skip ?_)); refine kp_nil ?_)
    refine awp_ret ?_
    exact ares rfl (HSub.refl _) ⟨rfl, rfl⟩
  refine aw_skip ?_
  have hn : ¬ (a1 < 4 ∨ 5000 < a1) := fun h => by rw [hd.2 h] at h2; cases h2
  obtain ⟨n, rfl⟩ : ∃ n : Nat, a1 = n := ⟨a1.toNat, by omega⟩
  have e1 : IntKind.wrap .i64 ((n : Int) - 4) = ((n - 4 : Nat) : Int) := by rw [w64 _ (by omega) (by omega)]; omega
  have e2 : IntKind.wrap .i64 ((n : Int) + 1) = ((n + 1 : Nat) : Int) := by rw [w64 _ (by omega) (by omega)]; omega
  have hu := unpack_copies c (n := n) (by omega) (by omega)
  have hputl := putF_length [c] 1 n
  have tail : ∀ (b' : Nat) (τ : AHeap), HSub σ τ → AWp Try.prog ingotlaw4_BlockCopies.n (ingotlaw4_BlockCopies.code.snd 6) (ARet ingotlaw4_BlockCopies.res fun r σ' => r = .bool true ∧ σ' = σ)
      (fset 0 (some (.int .u8 (c.toNat : Int))) (fset 1 (some (.int .i64 n)) (fset 7 (some (.arr 1 b' 0 (bytes (putF [c] 1 n ++ [0])).length)) fnone))) ((b', .cells 1 (bytes (putF [c] 1 n ++ [0]))) :: τ) := by
    intro b' τ hτ
    refine aw_region ?_
    (repeat (refine st_q rfl rfl rfl ?_))
    rw [e2]
    refine st_callv rfl (ACalls.freeze (c_Unpack' τ (by rw [List.length_append]; simp at hputl ⊢; omega) hu)) ?_
    (repeat (refine st_q rfl rfl rfl ?_))
    (refine st_nil ?_; (repeat (first | refine kp_cons rfl ?_ | refine kp_skip ?_)); refine kp_nil ?_)
    refine aw_assoc ?_
    refine aw_reg ?_
    (repeat (first | refine st_gy rfl (st_q rfl rfl rfl ?_) | refine st_q rfl rfl rfl ?_))
    rw [e2, show decide (((bytes (List.replicate (n + 1) c)).length : Int) ≠ ((n + 1 : Nat) : Int)) = false from decide_eq_false (by rw [bytes_length, List.length_replicate]; simp)]
    (repeat (refine st_q rfl rfl rfl ?_))
    (refine st_nil ?_; (repeat (first | refine kp_cons rfl ?_ | refine kp_skip ?_)); refine kp_nil ?_)
    refine awp_cond rfl (fun e => by cases e) (fun _ => ?_)
    refine aw_skip ?_
    refine aw_assoc ?_
    refine aw_reg ?_
    (repeat (refine st_q rfl rfl rfl ?_))
    (refine st_nil ?_; (repeat (first | refine kp_cons rfl ?_ | refine kp_skip ?_)); refine kp_nil ?_)
    refine awp_block ?_
    refine awp_loopN (fun k F σ' => ∃ j : Nat, F = fset 0 (some (.int .u8 (c.toNat : Int))) (fset 8 (some (.slc 1 (bytes (List.replicate (n + 1) c)) true)) (fset 10 (some (.int .i64 j)) fnone)) ∧ σ' = τ ∧ j ≤ n + 1 ∧ k = n + 1 - j) (n := n + 1) ⟨0, rfl, rfl, by omega, rfl⟩ ?_
    rintro k F σ' ⟨j, rfl, rfl, hj, rfl⟩
    refine aw_assoc ?_
    refine aw_reg ?_
    (repeat (refine st_q rfl rfl rfl ?_))
    rw [bytes_length, List.length_replicate]
    (refine st_nil ?_; (repeat (first | refine kp_cons rfl ?_ | refine kp_skip ?_)); refine kp_nil ?_)
    refine awp_condp (p := (j : Int) < ((n + 1 : Nat) : Int)) rfl (fun h3 => ?_) (fun h3 => ?_)
    · refine aw_skip ?_
      refine aw_block ?_
      have hx : (bytes (List.replicate (n + 1) c))[(j : Int).toNat]? = some (byte c) := by
        rw [bytes_get, Int.toNat_natCast, List.getElem?_replicate, if_pos (by omega)]; rfl
      refine aw_region ?_
      refine st_q rfl rfl rfl ?_
      refine st_q rfl rfl rfl ?_
      refine st_iad rfl (by omega) hx ?_
      (repeat (refine st_q rfl rfl rfl ?_))
      (refine st_nil ?_; (repeat (first | refine kp_cons rfl ?_ | refine kp_skip ?_)); refine kp_nil ?_)
      refine awp_condp (p := (c.toNat : Int) ≠ (c.toNat : Int)) rfl (fun h4 => absurd rfl h4) (fun _ => ?_)
      refine awp_skip ?_
      have e3 : IntKind.wrap .i64 ((j : Int) + 1) = ((j + 1 : Nat) : Int) := by rw [w64 _ (by omega) (by omega)]; omega
      refine kp_weaken (keep := [0, 8, 10]) ?_
      ((repeat (first | refine kp_cons rfl ?_ | refine kp_skip ?_)); refine kp_nil ?_)
      refine awp_region ?_
      (repeat (refine st_q rfl rfl rfl ?_))
      rw [e3]
      refine st_nil ?_
      refine kp_less (keep := [0, 8, 10]) ?_
      ((repeat (first | refine kp_cons rfl ?_ | refine kp_skip ?_)); refine kp_nil ?_)
      exact ⟨_, _, HSub.refl _, ⟨j + 1, rfl, rfl, by omega, rfl⟩, by omega⟩
    · refine awp_exit ?_
      show AWp _ _ _ _ _ _
      refine aw_region ?_
      (repeat (refine st_q rfl rfl rfl ?_))
      (refine st_nil ?_; (repeat (first | refine kp_cons rfl ?_ | refine kp_skip ?_)); refine kp_nil ?_)
      refine awp_ret ?_
      exact ares rfl hτ ⟨rfl, rfl⟩
  refine aw_region ?_
  (repeat (refine st_q rfl rfl rfl ?_))
  rw [e1]
  refine st_call rfl (c_lay (by omega)) ?_ ?_
  · obtain ⟨gv, gβ, hgr⟩ := Grow.ex (restF (n - 4))
    exact ⟨_, _, gv, gβ, rfl, hgr, rfl⟩
  rintro _ _ ⟨v, β, rfl, ho, rfl⟩
  (repeat (refine st_q rfl rfl rfl ?_))
  (refine st_nil ?_; (repeat (first | refine kp_cons rfl ?_ | refine kp_skip ?_)); refine kp_nil ?_)
  have hA : putF [c] 1 n = [UInt8.ofNat (1 * 16 + min (n - 4) 15), c, 1, 0] ++ restF (n - 4) := by
    rw [putF, if_neg (by omega), if_neg (by omega)]
    simp [restF]
  have hor := or4 1 (min (n - 4) 15) (by omega) (by omega)
  have e4 : some [AVal.slc 1 [.int .u8 (IntKind.wrap .u8 (intBits .or .i64 16 ((min (n - 4) 15 : Nat) : Int))), .int .u8 (c.toNat : Int), .int .u8 1, .int .u8 0] true, v] = some [.slc 1 (bytes [UInt8.ofNat (1 * 16 + min (n - 4) 15), c, 1, 0]) true, v] := by
    rw [show (16 : Int) = ((1 * 16 : Nat) : Int) from rfl, hor, conv8']; rfl
  have hrl := restF_length (n - 4)
  have hsub : HSub σ (β ++ σ) := HSub.of_sublist (List.sublist_append_right _ _)
  refine aw_region ?_
  (repeat (refine st_q rfl rfl rfl ?_))
  refine st_appS e4 (by simp [bytes]) ho.elems (by rw [bytes_length, bytes_length]; simp only [List.length_cons, List.length_nil]; omega) (fun hy => ?_) (fun hy b1 hb1 => ?_)
  · have hr0 : restF (n - 4) = [] := by simpa [bytes] using hy
    (repeat (refine st_q rfl rfl rfl ?_))
    (refine st_nil ?_; (repeat (first | refine kp_cons rfl ?_ | refine kp_skip ?_)); refine kp_nil ?_)
    refine aw_region ?_
    (repeat (refine st_q rfl rfl rfl ?_))
    refine st_appS (ys := bytes [0]) rfl (by simp [bytes]) rfl (by rw [bytes_length, bytes_length]; simp only [List.length_cons, List.length_nil]; omega) (fun hy => by simp [bytes] at hy) (fun _ b2 hb2 => ?_)
    (repeat (refine st_q rfl rfl rfl ?_))
    (refine st_nil ?_; (repeat (first | refine kp_cons rfl ?_ | refine kp_skip ?_)); refine kp_nil ?_)
    have := tail b2 (β ++ σ) hsub
    rw [hA, hr0] at this
    exact this
  · (repeat (refine st_q rfl rfl rfl ?_))
    (refine st_nil ?_; (repeat (first | refine kp_cons rfl ?_ | refine kp_skip ?_)); refine kp_nil ?_)
    refine aw_region ?_
    (repeat (refine st_q rfl rfl rfl ?_))
    refine st_app (ys := bytes [0]) rfl hget_head (by simp) rfl (by rw [List.length_append, bytes_length, bytes_length, bytes_length]; simp only [List.length_cons, List.length_nil]; omega) (fun b2 hb2 => ?_)
    rw [hren_head]
    (repeat (refine st_q rfl rfl rfl ?_))
    (refine st_nil ?_; (repeat (first | refine kp_cons rfl ?_ | refine kp_skip ?_)); refine kp_nil ?_)
    have := tail b2 (β ++ σ) hsub
    rw [hA, bytes_app, bytes_app] at this
    rw [show ∀ (x y : List AVal), (x ++ y).length = x.length + y.length from fun x y => List.length_append] at this
    exact this
end Go.Abs
