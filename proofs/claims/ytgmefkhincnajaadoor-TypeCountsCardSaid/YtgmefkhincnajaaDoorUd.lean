/- Contracts: are two trees the same? -/
import Derived.Test.YtgmefkhincnajaaDoorUb
namespace Go.Abs
open Go Go.Proofs
set_option linter.unusedVariables false
set_option linter.unusedSimpArgs false
set_option maxHeartbeats 4000000
attribute [local irreducible] AWp aops KP

mutual
def sameT : Ty → Ty → Bool
  | .mk k ns ks l p s, .mk k' ns' ks' l' p' s' => decide (k = k') && (decide (ns = ns') && (decide (l = l') && (decide (p = p') && (decide (s = s') && sameTL ks ks'))))
def sameTL : List Ty → List Ty → Bool
  | [], [] => true
  | a :: xs, b :: ys => sameT a b && sameTL xs ys
  | [], _ :: _ => false
  | _ :: _, [] => false
end
theorem sameT_iff : ∀ a b : Ty, sameT a b = true ↔ a = b := by
  refine Ty.ind fun k ns ks l p s ih b => ?_
  obtain ⟨k', ns', ks', l', p', s'⟩ := b
  have hL : ∀ (xs : List Ty), (∀ x ∈ xs, ∀ b, sameT x b = true ↔ x = b) → ∀ ys, sameTL xs ys = true ↔ xs = ys := by
    intro xs
    induction xs with
    | nil => intro _ ys; cases ys <;> simp [sameTL]
    | cons x xs ih2 =>
      intro h ys
      cases ys with
      | nil => simp [sameTL]
      | cons y ys =>
        rw [sameTL, Bool.and_eq_true, h x (by simp), ih2 (fun z hz => h z (by simp [hz])) ys]
        simp
  rw [sameT]
  simp only [Bool.and_eq_true, decide_eq_true_eq, hL ks ih ks', Ty.mk.injEq]
  constructor
  · rintro ⟨h1, h2, h3, h4, h5, h6⟩; exact ⟨h1, h2, h6, h3, h4, h5⟩
  · rintro ⟨h1, h2, h6, h3, h4, h5⟩; exact ⟨h1, h2, h3, h4, h5, h6⟩
theorem sameTL_len : ∀ (xs ys : List Ty), xs.length ≠ ys.length → sameTL xs ys = false
  | [], [], h => absurd rfl h
  | [], _ :: _, _ => by rw [sameTL]
  | _ :: _, [], _ => by rw [sameTL]
  | x :: xs, y :: ys, h => by rw [sameTL, sameTL_len xs ys (by simpa using h), Bool.and_false]

theorem c_EqualS (xs ys : List (List UInt8)) (hl : xs.length ≤ 140737488355328) (f g : Bool) (σ : AHeap) : ACalls Tryd.prog f_slices_Equal_string_string [.slc 1 (xs.map .str) f, .slc 1 (ys.map .str) g] σ fun r σ' => r = .bool (decide (xs = ys)) ∧ σ' = σ := by
  have el : ∀ l : List (List UInt8), (l.map AVal.str).length = l.length := fun l => List.length_map ..
  refine acalls_enter rfl slices_Equal_string_string_ok (Nat.le_of_ble_eq_true rfl) ?_
  (repeat (first | refine st_q rfl rfl rfl ?_ | refine st_gy rfl (st_q rfl rfl rfl ?_) | refine st_gn rfl ?_ | refine st_gu rfl ?_ | (refine st_nil ?_; (repeat (first | refine kp_cons rfl ?_ | refine kp_skip ?_)); refine kp_nil ?_) | refine awp_seq ?_ | refine aw_end (fun _ _ => rfl) ?_ | refine awp_block ?_ | refine aw_skipE (fun _ _ => rfl) ?_ | refine aw_exitE (fun _ _ => rfl) ?_ | refine awp_cond (t := true) rfl (fun _ => ?_) (fun e => by cases e) | refine awp_cond (t := false) rfl (fun e => by cases e) (fun _ => ?_)))
  rw [el, el]
  by_cases h1 : xs.length = ys.length
  rotate_left
  · (rw [show decide ((xs.length : Int) ≠ (ys.length : Int)) = true from decide_eq_true (by omega)])
    (repeat (first | refine st_q rfl rfl rfl ?_ | refine st_gy rfl (st_q rfl rfl rfl ?_) | refine st_gn rfl ?_ | refine st_gu rfl ?_ | (refine st_nil ?_; (repeat (first | refine kp_cons rfl ?_ | refine kp_skip ?_)); refine kp_nil ?_) | refine awp_seq ?_ | refine aw_end (fun _ _ => rfl) ?_ | refine awp_block ?_ | refine aw_skipE (fun _ _ => rfl) ?_ | refine aw_exitE (fun _ _ => rfl) ?_ | refine awp_cond (t := true) rfl (fun _ => ?_) (fun e => by cases e) | refine awp_cond (t := false) rfl (fun e => by cases e) (fun _ => ?_)))
    refine awp_ret ?_
    rw [decide_eq_false (fun h => h1 (by rw [h]))]
    exact ares rfl (HSub.refl _) ⟨rfl, rfl⟩
  (rw [show decide ((xs.length : Int) ≠ (ys.length : Int)) = false from decide_eq_false (by omega)])
  (repeat (first | refine st_q rfl rfl rfl ?_ | refine st_gy rfl (st_q rfl rfl rfl ?_) | refine st_gn rfl ?_ | refine st_gu rfl ?_ | (refine st_nil ?_; (repeat (first | refine kp_cons rfl ?_ | refine kp_skip ?_)); refine kp_nil ?_) | refine awp_seq ?_ | refine aw_end (fun _ _ => rfl) ?_ | refine awp_block ?_ | refine aw_skipE (fun _ _ => rfl) ?_ | refine aw_exitE (fun _ _ => rfl) ?_ | refine awp_cond (t := true) rfl (fun _ => ?_) (fun e => by cases e) | refine awp_cond (t := false) rfl (fun e => by cases e) (fun _ => ?_)))
  rw [el]
  refine awp_loopN (fun m F σ' => ∃ j : Nat, F = fset 0 (some (.slc 1 (xs.map .str) f)) (fset 1 (some (.slc 1 (ys.map .str) g)) (fset 12 (some (.int .i64 (xs.length : Nat))) (fset 13 (some (.int .i64 (j : Nat))) fnone))) ∧ σ = σ' ∧ j ≤ xs.length ∧ xs.take j = ys.take j ∧ m = xs.length - j) (n := xs.length)
    ⟨0, rfl, rfl, by omega, by simp, rfl⟩ ?_
  rintro m F σ' ⟨j, rfl, rfl, hj, hs, rfl⟩
  (repeat (first | refine st_q rfl rfl rfl ?_ | refine st_gy rfl (st_q rfl rfl rfl ?_) | refine st_gn rfl ?_ | refine st_gu rfl ?_ | (refine st_nil ?_; (repeat (first | refine kp_cons rfl ?_ | refine kp_skip ?_)); refine kp_nil ?_) | refine awp_seq ?_ | refine aw_end (fun _ _ => rfl) ?_ | refine awp_block ?_ | refine aw_skipE (fun _ _ => rfl) ?_ | refine aw_exitE (fun _ _ => rfl) ?_ | refine awp_cond (t := true) rfl (fun _ => ?_) (fun e => by cases e) | refine awp_cond (t := false) rfl (fun e => by cases e) (fun _ => ?_)))
  refine awp_condp (p := (j : Int) < (xs.length : Nat)) rfl (fun h5 => ?_) (fun h5 => ?_)
  · have hjl : j < xs.length := by omega
    have hjy : j < ys.length := by omega
    have hx := map_get (f := AVal.str) hjl
    have hy := map_get (f := AVal.str) hjy
    have hgx := List.getElem?_eq_getElem hjl
    have hgy := List.getElem?_eq_getElem hjy
    generalize xs[j] = x at hx hgx
    generalize ys[j] = y at hy hgy
    (repeat (first | refine st_q rfl rfl rfl ?_ | refine st_gy rfl (st_q rfl rfl rfl ?_) | refine st_gn rfl ?_ | refine st_gu rfl ?_ | (refine st_nil ?_; (repeat (first | refine kp_cons rfl ?_ | refine kp_skip ?_)); refine kp_nil ?_) | refine awp_seq ?_ | refine aw_end (fun _ _ => rfl) ?_ | refine awp_block ?_ | refine aw_skipE (fun _ _ => rfl) ?_ | refine aw_exitE (fun _ _ => rfl) ?_ | refine awp_cond (t := true) rfl (fun _ => ?_) (fun e => by cases e) | refine awp_cond (t := false) rfl (fun e => by cases e) (fun _ => ?_)))
    refine st_iad rfl (by omega) hx ?_
    (repeat (refine st_q rfl rfl rfl ?_))
    refine st_iad rfl (by omega) hy ?_
    (repeat (first | refine st_q rfl rfl rfl ?_ | refine st_gy rfl (st_q rfl rfl rfl ?_) | refine st_gn rfl ?_ | refine st_gu rfl ?_ | (refine st_nil ?_; (repeat (first | refine kp_cons rfl ?_ | refine kp_skip ?_)); refine kp_nil ?_) | refine awp_seq ?_ | refine aw_end (fun _ _ => rfl) ?_ | refine awp_block ?_ | refine aw_skipE (fun _ _ => rfl) ?_ | refine aw_exitE (fun _ _ => rfl) ?_ | refine awp_cond (t := true) rfl (fun _ => ?_) (fun e => by cases e) | refine awp_cond (t := false) rfl (fun e => by cases e) (fun _ => ?_)))
    by_cases hxy : x = y
    · subst hxy
      rw [show decide (x ≠ x) = false from decide_eq_false (fun h => h rfl)]
      (repeat (first | refine st_q rfl rfl rfl ?_ | refine st_gy rfl (st_q rfl rfl rfl ?_) | refine st_gn rfl ?_ | refine st_gu rfl ?_ | (refine st_nil ?_; (repeat (first | refine kp_cons rfl ?_ | refine kp_skip ?_)); refine kp_nil ?_) | refine awp_seq ?_ | refine aw_end (fun _ _ => rfl) ?_ | refine awp_block ?_ | refine aw_skipE (fun _ _ => rfl) ?_ | refine aw_exitE (fun _ _ => rfl) ?_ | refine awp_cond (t := true) rfl (fun _ => ?_) (fun e => by cases e) | refine awp_cond (t := false) rfl (fun e => by cases e) (fun _ => ?_)))
      refine aw_round ?_
      (repeat (refine st_q rfl rfl rfl ?_))
      rw [show IntKind.wrap .i64 ((j : Int) + 1) = ((j + 1 : Nat) : Int) by rw [w64 _ (by omega) (by omega)]; omega]
      (refine st_nil ?_; (repeat (first | refine kp_cons rfl ?_ | refine kp_skip ?_)); refine kp_nil ?_)
      exact ⟨_, xs.length - (j + 1), HSub.refl _, ⟨j + 1, rfl, rfl, by omega, by rw [List.take_add_one, List.take_add_one, hgx, hgy, hs], rfl⟩, by omega⟩
    · rw [show decide (x ≠ y) = true from decide_eq_true hxy]
      (repeat (first | refine st_q rfl rfl rfl ?_ | refine st_gy rfl (st_q rfl rfl rfl ?_) | refine st_gn rfl ?_ | refine st_gu rfl ?_ | (refine st_nil ?_; (repeat (first | refine kp_cons rfl ?_ | refine kp_skip ?_)); refine kp_nil ?_) | refine awp_seq ?_ | refine aw_end (fun _ _ => rfl) ?_ | refine awp_block ?_ | refine aw_skipE (fun _ _ => rfl) ?_ | refine aw_exitE (fun _ _ => rfl) ?_ | refine awp_cond (t := true) rfl (fun _ => ?_) (fun e => by cases e) | refine awp_cond (t := false) rfl (fun e => by cases e) (fun _ => ?_)))
      refine awp_ret ?_
      rw [decide_eq_false (fun h => by rw [h, hgy] at hgx; cases hgx; exact hxy rfl)]
      exact ares rfl (HSub.refl _) ⟨rfl, rfl⟩
  · have e1 : xs.take j = xs := List.take_of_length_le (by omega)
    have e2 : ys.take j = ys := List.take_of_length_le (by omega)
    rw [e1, e2] at hs
    (repeat (first | refine st_q rfl rfl rfl ?_ | refine st_gy rfl (st_q rfl rfl rfl ?_) | refine st_gn rfl ?_ | refine st_gu rfl ?_ | (refine st_nil ?_; (repeat (first | refine kp_cons rfl ?_ | refine kp_skip ?_)); refine kp_nil ?_) | refine awp_seq ?_ | refine aw_end (fun _ _ => rfl) ?_ | refine awp_block ?_ | refine aw_skipE (fun _ _ => rfl) ?_ | refine aw_exitE (fun _ _ => rfl) ?_ | refine awp_cond (t := true) rfl (fun _ => ?_) (fun e => by cases e) | refine awp_cond (t := false) rfl (fun e => by cases e) (fun _ => ?_)))
    refine awp_ret ?_
    rw [decide_eq_true hs]
    exact ares rfl (HSub.refl _) ⟨rfl, rfl⟩

theorem c_EqualF (xs ys : List Ty) (hl : xs.length ≤ 140737488355328) (hS : ∀ x ∈ xs, ∀ y ∈ ys, ∀ σ, ACalls Tryd.prog f_types_Same [.agg (cellsT x), .agg (cellsT y)] σ fun r σ' => r = .bool (sameT x y) ∧ σ' = σ) (f g : Bool) (σ : AHeap) :
    ACalls Tryd.prog f_slices_EqualFunc_api_Type_api_Type_api_Type_api_Type [.slc 6 (encTs xs) f, .slc 6 (encTs ys) g, .fn f_types_Same [] []] σ fun r σ' => r = .bool (sameTL xs ys) ∧ σ' = σ := by
  refine acalls_enter rfl slices_EqualFunc_api_Type_api_Type_api_Type_api_Type_ok (Nat.le_of_ble_eq_true rfl) ?_
  (repeat (first | refine st_q rfl rfl rfl ?_ | refine st_gy rfl (st_q rfl rfl rfl ?_) | refine st_gn rfl ?_ | refine st_gu rfl ?_ | (refine st_nil ?_; (repeat (first | refine kp_cons rfl ?_ | refine kp_skip ?_)); refine kp_nil ?_) | refine awp_seq ?_ | refine aw_end (fun _ _ => rfl) ?_ | refine awp_block ?_ | refine aw_skipE (fun _ _ => rfl) ?_ | refine aw_exitE (fun _ _ => rfl) ?_ | refine awp_cond (t := true) rfl (fun _ => ?_) (fun e => by cases e) | refine awp_cond (t := false) rfl (fun e => by cases e) (fun _ => ?_)))
  rw [encTs_length, encTs_length]
  by_cases h1 : xs.length = ys.length
  rotate_left
  · (rw [show decide ((xs.length : Int) ≠ (ys.length : Int)) = true from decide_eq_true (by omega)])
    (repeat (first | refine st_q rfl rfl rfl ?_ | refine st_gy rfl (st_q rfl rfl rfl ?_) | refine st_gn rfl ?_ | refine st_gu rfl ?_ | (refine st_nil ?_; (repeat (first | refine kp_cons rfl ?_ | refine kp_skip ?_)); refine kp_nil ?_) | refine awp_seq ?_ | refine aw_end (fun _ _ => rfl) ?_ | refine awp_block ?_ | refine aw_skipE (fun _ _ => rfl) ?_ | refine aw_exitE (fun _ _ => rfl) ?_ | refine awp_cond (t := true) rfl (fun _ => ?_) (fun e => by cases e) | refine awp_cond (t := false) rfl (fun e => by cases e) (fun _ => ?_)))
    refine awp_ret ?_
    rw [sameTL_len xs ys h1]
    exact ares rfl (HSub.refl _) ⟨rfl, rfl⟩
  (rw [show decide ((xs.length : Int) ≠ (ys.length : Int)) = false from decide_eq_false (by omega)])
  (repeat (first | refine st_q rfl rfl rfl ?_ | refine st_gy rfl (st_q rfl rfl rfl ?_) | refine st_gn rfl ?_ | refine st_gu rfl ?_ | (refine st_nil ?_; (repeat (first | refine kp_cons rfl ?_ | refine kp_skip ?_)); refine kp_nil ?_) | refine awp_seq ?_ | refine aw_end (fun _ _ => rfl) ?_ | refine awp_block ?_ | refine aw_skipE (fun _ _ => rfl) ?_ | refine aw_exitE (fun _ _ => rfl) ?_ | refine awp_cond (t := true) rfl (fun _ => ?_) (fun e => by cases e) | refine awp_cond (t := false) rfl (fun e => by cases e) (fun _ => ?_)))
  rw [encTs_length]
  refine awp_loopN (fun m F σ' => ∃ j : Nat, F = fset 1 (some (.slc 6 (encTs ys) g)) (fset 2 (some (.fn f_types_Same [] [])) (fset 15 (some (.slc 6 (encTs xs) f)) (fset 16 (some (.int .i64 (xs.length : Nat))) (fset 17 (some (.int .i64 (j : Nat))) fnone)))) ∧ σ = σ' ∧ j ≤ xs.length ∧ sameTL (xs.drop j) (ys.drop j) = sameTL xs ys ∧ m = xs.length - j) (n := xs.length)
    ⟨0, rfl, rfl, by omega, rfl, rfl⟩ ?_
  rintro m F σ' ⟨j, rfl, rfl, hj, hs, rfl⟩
  (repeat (first | refine st_q rfl rfl rfl ?_ | refine st_gy rfl (st_q rfl rfl rfl ?_) | refine st_gn rfl ?_ | refine st_gu rfl ?_ | (refine st_nil ?_; (repeat (first | refine kp_cons rfl ?_ | refine kp_skip ?_)); refine kp_nil ?_) | refine awp_seq ?_ | refine aw_end (fun _ _ => rfl) ?_ | refine awp_block ?_ | refine aw_skipE (fun _ _ => rfl) ?_ | refine aw_exitE (fun _ _ => rfl) ?_ | refine awp_cond (t := true) rfl (fun _ => ?_) (fun e => by cases e) | refine awp_cond (t := false) rfl (fun e => by cases e) (fun _ => ?_)))
  refine awp_condp (p := (j : Int) < (xs.length : Nat)) rfl (fun h5 => ?_) (fun h5 => ?_)
  · have hjl : j < xs.length := by omega
    have hjy : j < ys.length := by omega
    have hx : (encTs xs)[((j : Nat) : Int).toNat]? = some (.agg (cellsT xs[j])) := by rw [← encT_eq]; exact encTs_get (by rw [Int.toNat_natCast, List.getElem?_eq_getElem hjl])
    have hy : (encTs ys)[((j : Nat) : Int).toNat]? = some (.agg (cellsT ys[j])) := by rw [← encT_eq]; exact encTs_get (by rw [Int.toNat_natCast, List.getElem?_eq_getElem hjy])
    have hq := hS xs[j] (List.getElem_mem hjl) ys[j] (List.getElem_mem hjy)
    rw [List.drop_eq_getElem_cons hjl, List.drop_eq_getElem_cons hjy, sameTL] at hs
    generalize xs[j] = x at hx hq hs
    generalize ys[j] = y at hy hq hs
    refine aw_skipE (fun _ _ => rfl) ?_
    refine awp_seq ?_
    refine awp_block ?_
    refine awp_seq ?_
    refine aw_end (fun _ _ => rfl) ?_
    (repeat (refine st_q rfl rfl rfl ?_))
    refine st_iad rfl (by omega) hx ?_
    (repeat (refine st_q rfl rfl rfl ?_))
    refine st_alloc (by simp [AVal.cells, AVal.one]) fun b8 hb8 => ?_
    (repeat (refine st_q rfl rfl rfl ?_))
    refine st_store rfl hget_head rfl (by decide) (AVal.fit_iff.1 rfl) (fun h => by cases h) hset_head ?_
    (refine st_nil ?_; (repeat (first | refine kp_cons rfl ?_ | refine kp_skip ?_)); refine kp_nil ?_)
    refine awp_freezeP (d := 8) (cs := cellsT x) rfl ?_
    (refine kp_weaken (keep := [1, 2, 7, 8, 15, 16, 17]) ?_; ((repeat (first | refine kp_cons rfl ?_ | refine kp_skip ?_)); refine kp_nil ?_))
    refine awp_seq ?_
    refine aw_end (fun _ _ => rfl) ?_
    (repeat (refine st_q rfl rfl rfl ?_))
    refine st_iad rfl (by omega) hy ?_
    (repeat (refine st_q rfl rfl rfl ?_))
    refine st_alloc (by simp [AVal.cells, AVal.one]) fun b9 hb9 => ?_
    refine st_store rfl hget_head rfl (by decide) (AVal.fit_iff.1 rfl) (fun h => by cases h) hset_head ?_
    (refine st_nil ?_; (repeat (first | refine kp_cons rfl ?_ | refine kp_skip ?_)); refine kp_nil ?_)
    refine awp_freezeP (d := 9) (cs := cellsT y) rfl ?_
    (refine kp_weaken (keep := [1, 2, 8, 9, 15, 16, 17]) ?_; ((repeat (first | refine kp_cons rfl ?_ | refine kp_skip ?_)); refine kp_nil ?_))
    generalize sameT x y = z at hq hs
    refine awp_seq ?_
    refine aw_end (fun _ _ => rfl) ?_
    (repeat (refine st_q rfl rfl rfl ?_))
    refine st_cval rfl (by kernel_rfl) (hq _) ?_
    (repeat (refine st_q rfl rfl rfl ?_))
    (refine st_nil ?_; (repeat (first | refine kp_cons rfl ?_ | refine kp_skip ?_)); refine kp_nil ?_)
    cases z with
    | true =>
      rw [Bool.true_and] at hs
      refine awp_cond (t := false) rfl (fun e => by cases e) (fun _ => ?_)
      refine aw_skipE (fun _ _ => rfl) ?_
      (refine kp_weaken (keep := [1, 2, 15, 16, 17]) ?_; ((repeat (first | refine kp_cons rfl ?_ | refine kp_skip ?_)); refine kp_nil ?_))
      refine aw_round ?_
      (repeat (refine st_q rfl rfl rfl ?_))
      rw [show IntKind.wrap .i64 ((j : Int) + 1) = ((j + 1 : Nat) : Int) by rw [w64 _ (by omega) (by omega)]; omega]
      (refine st_nil ?_; (repeat (first | refine kp_cons rfl ?_ | refine kp_skip ?_)); refine kp_nil ?_)
      exact ⟨_, xs.length - (j + 1), HSub.refl _, ⟨j + 1, rfl, rfl, by omega, hs, rfl⟩, by omega⟩
    | false =>
      rw [Bool.false_and] at hs
      rw [← hs]
      (repeat (first | refine st_q rfl rfl rfl ?_ | refine st_gy rfl (st_q rfl rfl rfl ?_) | refine st_gn rfl ?_ | refine st_gu rfl ?_ | (refine st_nil ?_; (repeat (first | refine kp_cons rfl ?_ | refine kp_skip ?_)); refine kp_nil ?_) | refine awp_seq ?_ | refine aw_end (fun _ _ => rfl) ?_ | refine awp_block ?_ | refine aw_skipE (fun _ _ => rfl) ?_ | refine aw_exitE (fun _ _ => rfl) ?_ | refine awp_cond (t := true) rfl (fun _ => ?_) (fun e => by cases e) | refine awp_cond (t := false) rfl (fun e => by cases e) (fun _ => ?_)))
      refine awp_ret ?_
      exact ares rfl (HSub.refl _) ⟨rfl, rfl⟩
  · rw [List.drop_of_length_le (by omega), List.drop_of_length_le (by omega), sameTL] at hs
    rw [← hs]
    (repeat (first | refine st_q rfl rfl rfl ?_ | refine st_gy rfl (st_q rfl rfl rfl ?_) | refine st_gn rfl ?_ | refine st_gu rfl ?_ | (refine st_nil ?_; (repeat (first | refine kp_cons rfl ?_ | refine kp_skip ?_)); refine kp_nil ?_) | refine awp_seq ?_ | refine aw_end (fun _ _ => rfl) ?_ | refine awp_block ?_ | refine aw_skipE (fun _ _ => rfl) ?_ | refine aw_exitE (fun _ _ => rfl) ?_ | refine awp_cond (t := true) rfl (fun _ => ?_) (fun e => by cases e) | refine awp_cond (t := false) rfl (fun e => by cases e) (fun _ => ?_)))
    refine awp_ret ?_
    exact ares rfl (HSub.refl _) ⟨rfl, rfl⟩

theorem c_Same : ∀ a : Ty, a.Fit → ∀ b σ, ACalls Tryd.prog f_types_Same [encT a, encT b] σ fun r σ' => r = .bool (sameT a b) ∧ σ' = σ := by
  refine Ty.ind fun k ns ks l p s ih hfit b σ => ?_
  obtain ⟨k', ns', ks', l', p', s'⟩ := b
  have hfk : ks.length ≤ 140737488355328 ∧ ns.length ≤ 140737488355328 ∧ ∀ x ∈ ks, x.Fit := by cases hfit with | mk h1 h2 h3 h4 => exact ⟨h1, h2, h4⟩
  have hE := c_EqualS ns ns' hfk.2.1 false false
  have hF := c_EqualF ks ks' hfk.1 (fun x hx y _ σ => by have := ih x hx (hfk.2.2 x hx) y σ; rw [encT_eq, encT_eq] at this; exact this) false false
  rw [encT_eq, encT_eq]
  generalize hX : sameT (.mk k ns ks l p s) (.mk k' ns' ks' l' p' s') = X
  rw [sameT] at hX
  generalize sameTL ks ks' = Y at hF hX
  refine acalls_enter rfl types_Same_ok (Nat.le_of_ble_eq_true rfl) ?_
  refine aw_region ?_
  refine st_box rfl (AVal.fit_iff.1 rfl) fun b2 hb2 => ?_
  refine st_box rfl (AVal.fit_iff.1 rfl) fun b3 hb3 => ?_
  (repeat (refine st_q rfl rfl rfl ?_))
  (refine st_nil ?_; (repeat (first | refine kp_cons rfl ?_ | refine kp_skip ?_)); refine kp_nil ?_)
  refine awp_freezeP (d := 3) (cs := [.int .i64 k', .slc 1 (ns'.map .str) false, .slc 6 (encTs ks') false, .int .i64 l', .int .i64 p', .int .i64 s']) rfl ?_
  refine awp_freezeP (d := 2) (cs := [.int .i64 k, .slc 1 (ns.map .str) false, .slc 6 (encTs ks) false, .int .i64 l, .int .i64 p, .int .i64 s]) rfl ?_
  (repeat (first | refine st_q rfl rfl rfl ?_ | refine st_gy rfl (st_q rfl rfl rfl ?_) | refine st_gn rfl ?_ | refine st_gu rfl ?_ | (refine st_nil ?_; (repeat (first | refine kp_cons rfl ?_ | refine kp_skip ?_)); refine kp_nil ?_) | refine awp_seq ?_ | refine aw_end (fun _ _ => rfl) ?_ | refine awp_block ?_ | refine aw_skipE (fun _ _ => rfl) ?_ | refine aw_exitE (fun _ _ => rfl) ?_ | refine awp_cond (t := true) rfl (fun _ => ?_) (fun e => by cases e) | refine awp_cond (t := false) rfl (fun e => by cases e) (fun _ => ?_)))
  by_cases h1 : k = k'
  rotate_left
  · rw [decide_eq_false h1, Bool.false_and] at hX
    subst hX
    (rw [show decide (k = k') = false from decide_eq_false (by omega)])
    (repeat (first | refine st_q rfl rfl rfl ?_ | refine st_gy rfl (st_q rfl rfl rfl ?_) | refine st_gn rfl ?_ | refine st_gu rfl ?_ | (refine st_nil ?_; (repeat (first | refine kp_cons rfl ?_ | refine kp_skip ?_)); refine kp_nil ?_) | refine awp_seq ?_ | refine aw_end (fun _ _ => rfl) ?_ | refine awp_block ?_ | refine aw_skipE (fun _ _ => rfl) ?_ | refine aw_exitE (fun _ _ => rfl) ?_ | refine awp_cond (t := true) rfl (fun _ => ?_) (fun e => by cases e) | refine awp_cond (t := false) rfl (fun e => by cases e) (fun _ => ?_)))
    refine awp_ret ?_
    exact ares rfl (HSub.refl _) ⟨rfl, rfl⟩
  rw [decide_eq_true h1, Bool.true_and] at hX
  (rw [show decide (k = k') = true from decide_eq_true (by omega)])
  (repeat (first | refine st_q rfl rfl rfl ?_ | refine st_gy rfl (st_q rfl rfl rfl ?_) | refine st_gn rfl ?_ | refine st_gu rfl ?_))
  refine st_gy rfl (st_callv rfl (hE _) ?_)
  by_cases h2 : ns = ns'
  rotate_left
  · rw [decide_eq_false h2] at hX ⊢
    rw [Bool.false_and] at hX
    subst hX
    (repeat (first | refine st_q rfl rfl rfl ?_ | refine st_gy rfl (st_q rfl rfl rfl ?_) | refine st_gn rfl ?_ | refine st_gu rfl ?_ | (refine st_nil ?_; (repeat (first | refine kp_cons rfl ?_ | refine kp_skip ?_)); refine kp_nil ?_) | refine awp_seq ?_ | refine aw_end (fun _ _ => rfl) ?_ | refine awp_block ?_ | refine aw_skipE (fun _ _ => rfl) ?_ | refine aw_exitE (fun _ _ => rfl) ?_ | refine awp_cond (t := true) rfl (fun _ => ?_) (fun e => by cases e) | refine awp_cond (t := false) rfl (fun e => by cases e) (fun _ => ?_)))
    refine awp_ret ?_
    exact ares rfl (HSub.refl _) ⟨rfl, rfl⟩
  rw [decide_eq_true h2] at hX ⊢
  rw [Bool.true_and] at hX
  (repeat (first | refine st_q rfl rfl rfl ?_ | refine st_gy rfl (st_q rfl rfl rfl ?_) | refine st_gn rfl ?_ | refine st_gu rfl ?_))
  by_cases h3 : l = l'
  rotate_left
  · rw [decide_eq_false h3, Bool.false_and] at hX
    subst hX
    (rw [show decide (l = l') = false from decide_eq_false (by omega)])
    (repeat (first | refine st_q rfl rfl rfl ?_ | refine st_gy rfl (st_q rfl rfl rfl ?_) | refine st_gn rfl ?_ | refine st_gu rfl ?_ | (refine st_nil ?_; (repeat (first | refine kp_cons rfl ?_ | refine kp_skip ?_)); refine kp_nil ?_) | refine awp_seq ?_ | refine aw_end (fun _ _ => rfl) ?_ | refine awp_block ?_ | refine aw_skipE (fun _ _ => rfl) ?_ | refine aw_exitE (fun _ _ => rfl) ?_ | refine awp_cond (t := true) rfl (fun _ => ?_) (fun e => by cases e) | refine awp_cond (t := false) rfl (fun e => by cases e) (fun _ => ?_)))
    refine awp_ret ?_
    exact ares rfl (HSub.refl _) ⟨rfl, rfl⟩
  rw [decide_eq_true h3, Bool.true_and] at hX
  (rw [show decide (l = l') = true from decide_eq_true (by omega)])
  (repeat (first | refine st_q rfl rfl rfl ?_ | refine st_gy rfl (st_q rfl rfl rfl ?_) | refine st_gn rfl ?_ | refine st_gu rfl ?_))
  by_cases h4 : p = p'
  rotate_left
  · rw [decide_eq_false h4, Bool.false_and] at hX
    subst hX
    (rw [show decide (p = p') = false from decide_eq_false (by omega)])
    (repeat (first | refine st_q rfl rfl rfl ?_ | refine st_gy rfl (st_q rfl rfl rfl ?_) | refine st_gn rfl ?_ | refine st_gu rfl ?_ | (refine st_nil ?_; (repeat (first | refine kp_cons rfl ?_ | refine kp_skip ?_)); refine kp_nil ?_) | refine awp_seq ?_ | refine aw_end (fun _ _ => rfl) ?_ | refine awp_block ?_ | refine aw_skipE (fun _ _ => rfl) ?_ | refine aw_exitE (fun _ _ => rfl) ?_ | refine awp_cond (t := true) rfl (fun _ => ?_) (fun e => by cases e) | refine awp_cond (t := false) rfl (fun e => by cases e) (fun _ => ?_)))
    refine awp_ret ?_
    exact ares rfl (HSub.refl _) ⟨rfl, rfl⟩
  rw [decide_eq_true h4, Bool.true_and] at hX
  (rw [show decide (p = p') = true from decide_eq_true (by omega)])
  (repeat (first | refine st_q rfl rfl rfl ?_ | refine st_gy rfl (st_q rfl rfl rfl ?_) | refine st_gn rfl ?_ | refine st_gu rfl ?_))
  by_cases h5 : s = s'
  rotate_left
  · rw [decide_eq_false h5, Bool.false_and] at hX
    subst hX
    (rw [show decide (s = s') = false from decide_eq_false (by omega)])
    (repeat (first | refine st_q rfl rfl rfl ?_ | refine st_gy rfl (st_q rfl rfl rfl ?_) | refine st_gn rfl ?_ | refine st_gu rfl ?_ | (refine st_nil ?_; (repeat (first | refine kp_cons rfl ?_ | refine kp_skip ?_)); refine kp_nil ?_) | refine awp_seq ?_ | refine aw_end (fun _ _ => rfl) ?_ | refine awp_block ?_ | refine aw_skipE (fun _ _ => rfl) ?_ | refine aw_exitE (fun _ _ => rfl) ?_ | refine awp_cond (t := true) rfl (fun _ => ?_) (fun e => by cases e) | refine awp_cond (t := false) rfl (fun e => by cases e) (fun _ => ?_)))
    refine awp_ret ?_
    exact ares rfl (HSub.refl _) ⟨rfl, rfl⟩
  rw [decide_eq_true h5, Bool.true_and] at hX
  subst hX
  (rw [show decide (s = s') = true from decide_eq_true (by omega)])
  (repeat (first | refine st_q rfl rfl rfl ?_ | refine st_gy rfl (st_q rfl rfl rfl ?_) | refine st_gn rfl ?_ | refine st_gu rfl ?_))
  refine st_gy rfl (st_callv rfl (hF _) ?_)
  (repeat (first | refine st_q rfl rfl rfl ?_ | refine st_gy rfl (st_q rfl rfl rfl ?_) | refine st_gn rfl ?_ | refine st_gu rfl ?_ | (refine st_nil ?_; (repeat (first | refine kp_cons rfl ?_ | refine kp_skip ?_)); refine kp_nil ?_) | refine awp_seq ?_ | refine aw_end (fun _ _ => rfl) ?_ | refine awp_block ?_ | refine aw_skipE (fun _ _ => rfl) ?_ | refine aw_exitE (fun _ _ => rfl) ?_ | refine awp_cond (t := true) rfl (fun _ => ?_) (fun e => by cases e) | refine awp_cond (t := false) rfl (fun e => by cases e) (fun _ => ?_)))
  refine awp_ret ?_
  exact ares rfl (HSub.refl _) ⟨rfl, rfl⟩

theorem c_refSameT : ∀ a : Ty, a.Fit → ∀ b σ, ACalls Tryd.prog f_ingotref13_Same [encT a, encT b] σ fun r σ' => r = .bool (sameT a b) ∧ σ' = σ := by
  refine Ty.ind fun k ns ks l p s ih hfit b σ => ?_
  obtain ⟨k', ns', ks', l', p', s'⟩ := b
  have hfk : ks.length ≤ 140737488355328 ∧ ns.length ≤ 140737488355328 ∧ ∀ x ∈ ks, x.Fit := by cases hfit with | mk h1 h2 h3 h4 => exact ⟨h1, h2, h4⟩
  have hS : ∀ x ∈ ks, ∀ y σ, ACalls Tryd.prog f_ingotref13_Same [.agg (cellsT x), .agg (cellsT y)] σ fun r σ' => r = .bool (sameT x y) ∧ σ' = σ := fun x hx y σ => by have := ih x hx (hfk.2.2 x hx) y σ; rw [encT_eq, encT_eq] at this; exact this
  obtain ⟨hl1, hl2, _⟩ := hfk
  have el : ∀ l : List (List UInt8), (l.map AVal.str).length = l.length := fun l => List.length_map ..
  rw [encT_eq, encT_eq]
  generalize hX : sameT (.mk k ns ks l p s) (.mk k' ns' ks' l' p' s') = X
  rw [sameT] at hX
  refine acalls_enter rfl ingotref13_Same_ok (Nat.le_of_ble_eq_true rfl) ?_
  refine aw_region ?_
  refine st_box rfl (AVal.fit_iff.1 rfl) fun b2 hb2 => ?_
  refine st_box rfl (AVal.fit_iff.1 rfl) fun b3 hb3 => ?_
  (repeat (refine st_q rfl rfl rfl ?_))
  (refine st_nil ?_; (repeat (first | refine kp_cons rfl ?_ | refine kp_skip ?_)); refine kp_nil ?_)
  refine awp_freezeP (d := 3) (cs := [.int .i64 k', .slc 1 (ns'.map .str) false, .slc 6 (encTs ks') false, .int .i64 l', .int .i64 p', .int .i64 s']) rfl ?_
  refine awp_freezeP (d := 2) (cs := [.int .i64 k, .slc 1 (ns.map .str) false, .slc 6 (encTs ks) false, .int .i64 l, .int .i64 p, .int .i64 s]) rfl ?_
  (repeat (first | refine st_q rfl rfl rfl ?_ | refine st_gy rfl (st_q rfl rfl rfl ?_) | refine st_gn rfl ?_ | refine st_gu rfl ?_ | (refine st_nil ?_; (repeat (first | refine kp_cons rfl ?_ | refine kp_skip ?_)); refine kp_nil ?_) | refine awp_seq ?_ | refine aw_end (fun _ _ => rfl) ?_ | refine awp_block ?_ | refine aw_skipE (fun _ _ => rfl) ?_ | refine aw_exitE (fun _ _ => rfl) ?_ | refine awp_cond (t := true) rfl (fun _ => ?_) (fun e => by cases e) | refine awp_cond (t := false) rfl (fun e => by cases e) (fun _ => ?_)))
  by_cases h1 : k = k'
  rotate_left
  · have hX : X = false := by rw [← hX, decide_eq_false h1]; simp
    subst hX
    (rw [show decide (k ≠ k') = true from decide_eq_true (by omega)])
    (repeat (first | refine st_q rfl rfl rfl ?_ | refine st_gy rfl (st_q rfl rfl rfl ?_) | refine st_gn rfl ?_ | refine st_gu rfl ?_ | (refine st_nil ?_; (repeat (first | refine kp_cons rfl ?_ | refine kp_skip ?_)); refine kp_nil ?_) | refine awp_seq ?_ | refine aw_end (fun _ _ => rfl) ?_ | refine awp_block ?_ | refine aw_skipE (fun _ _ => rfl) ?_ | refine aw_exitE (fun _ _ => rfl) ?_ | refine awp_cond (t := true) rfl (fun _ => ?_) (fun e => by cases e) | refine awp_cond (t := false) rfl (fun e => by cases e) (fun _ => ?_)))
    refine awp_ret ?_
    exact ares rfl (HSub.refl _) ⟨rfl, rfl⟩
  (rw [show decide (k ≠ k') = false from decide_eq_false (by omega)])
  (repeat (first | refine st_q rfl rfl rfl ?_ | refine st_gy rfl (st_q rfl rfl rfl ?_) | refine st_gn rfl ?_ | refine st_gu rfl ?_))
  by_cases h3 : l = l'
  rotate_left
  · have hX : X = false := by rw [← hX, decide_eq_false h3]; simp
    subst hX
    (rw [show decide (l ≠ l') = true from decide_eq_true (by omega)])
    (repeat (first | refine st_q rfl rfl rfl ?_ | refine st_gy rfl (st_q rfl rfl rfl ?_) | refine st_gn rfl ?_ | refine st_gu rfl ?_ | (refine st_nil ?_; (repeat (first | refine kp_cons rfl ?_ | refine kp_skip ?_)); refine kp_nil ?_) | refine awp_seq ?_ | refine aw_end (fun _ _ => rfl) ?_ | refine awp_block ?_ | refine aw_skipE (fun _ _ => rfl) ?_ | refine aw_exitE (fun _ _ => rfl) ?_ | refine awp_cond (t := true) rfl (fun _ => ?_) (fun e => by cases e) | refine awp_cond (t := false) rfl (fun e => by cases e) (fun _ => ?_)))
    refine awp_ret ?_
    exact ares rfl (HSub.refl _) ⟨rfl, rfl⟩
  (rw [show decide (l ≠ l') = false from decide_eq_false (by omega)])
  (repeat (first | refine st_q rfl rfl rfl ?_ | refine st_gy rfl (st_q rfl rfl rfl ?_) | refine st_gn rfl ?_ | refine st_gu rfl ?_))
  by_cases h4 : p = p'
  rotate_left
  · have hX : X = false := by rw [← hX, decide_eq_false h4]; simp
    subst hX
    (rw [show decide (p ≠ p') = true from decide_eq_true (by omega)])
    (repeat (first | refine st_q rfl rfl rfl ?_ | refine st_gy rfl (st_q rfl rfl rfl ?_) | refine st_gn rfl ?_ | refine st_gu rfl ?_ | (refine st_nil ?_; (repeat (first | refine kp_cons rfl ?_ | refine kp_skip ?_)); refine kp_nil ?_) | refine awp_seq ?_ | refine aw_end (fun _ _ => rfl) ?_ | refine awp_block ?_ | refine aw_skipE (fun _ _ => rfl) ?_ | refine aw_exitE (fun _ _ => rfl) ?_ | refine awp_cond (t := true) rfl (fun _ => ?_) (fun e => by cases e) | refine awp_cond (t := false) rfl (fun e => by cases e) (fun _ => ?_)))
    refine awp_ret ?_
    exact ares rfl (HSub.refl _) ⟨rfl, rfl⟩
  (rw [show decide (p ≠ p') = false from decide_eq_false (by omega)])
  (repeat (first | refine st_q rfl rfl rfl ?_ | refine st_gy rfl (st_q rfl rfl rfl ?_) | refine st_gn rfl ?_ | refine st_gu rfl ?_))
  by_cases h5 : s = s'
  rotate_left
  · have hX : X = false := by rw [← hX, decide_eq_false h5]; simp
    subst hX
    (rw [show decide (s ≠ s') = true from decide_eq_true (by omega)])
    (repeat (first | refine st_q rfl rfl rfl ?_ | refine st_gy rfl (st_q rfl rfl rfl ?_) | refine st_gn rfl ?_ | refine st_gu rfl ?_ | (refine st_nil ?_; (repeat (first | refine kp_cons rfl ?_ | refine kp_skip ?_)); refine kp_nil ?_) | refine awp_seq ?_ | refine aw_end (fun _ _ => rfl) ?_ | refine awp_block ?_ | refine aw_skipE (fun _ _ => rfl) ?_ | refine aw_exitE (fun _ _ => rfl) ?_ | refine awp_cond (t := true) rfl (fun _ => ?_) (fun e => by cases e) | refine awp_cond (t := false) rfl (fun e => by cases e) (fun _ => ?_)))
    refine awp_ret ?_
    exact ares rfl (HSub.refl _) ⟨rfl, rfl⟩
  (rw [show decide (s ≠ s') = false from decide_eq_false (by omega)])
  (repeat (first | refine st_q rfl rfl rfl ?_ | refine st_gy rfl (st_q rfl rfl rfl ?_) | refine st_gn rfl ?_ | refine st_gu rfl ?_))
  rw [el, el]
  by_cases h6 : ns.length = ns'.length
  rotate_left
  · have hX : X = false := by rw [← hX, decide_eq_false (show ¬ ns = ns' from fun h => h6 (by rw [h]))]; simp
    subst hX
    (rw [show decide ((ns.length : Int) ≠ (ns'.length : Int)) = true from decide_eq_true (by omega)])
    (repeat (first | refine st_q rfl rfl rfl ?_ | refine st_gy rfl (st_q rfl rfl rfl ?_) | refine st_gn rfl ?_ | refine st_gu rfl ?_ | (refine st_nil ?_; (repeat (first | refine kp_cons rfl ?_ | refine kp_skip ?_)); refine kp_nil ?_) | refine awp_seq ?_ | refine aw_end (fun _ _ => rfl) ?_ | refine awp_block ?_ | refine aw_skipE (fun _ _ => rfl) ?_ | refine aw_exitE (fun _ _ => rfl) ?_ | refine awp_cond (t := true) rfl (fun _ => ?_) (fun e => by cases e) | refine awp_cond (t := false) rfl (fun e => by cases e) (fun _ => ?_)))
    refine awp_ret ?_
    exact ares rfl (HSub.refl _) ⟨rfl, rfl⟩
  (rw [show decide ((ns.length : Int) ≠ (ns'.length : Int)) = false from decide_eq_false (by omega)])
  (repeat (first | refine st_q rfl rfl rfl ?_ | refine st_gy rfl (st_q rfl rfl rfl ?_) | refine st_gn rfl ?_ | refine st_gu rfl ?_))
  rw [encTs_length, encTs_length]
  by_cases h7 : ks.length = ks'.length
  rotate_left
  · have hX : X = false := by rw [← hX, sameTL_len ks ks' h7]; simp
    subst hX
    (rw [show decide ((ks.length : Int) ≠ (ks'.length : Int)) = true from decide_eq_true (by omega)])
    (repeat (first | refine st_q rfl rfl rfl ?_ | refine st_gy rfl (st_q rfl rfl rfl ?_) | refine st_gn rfl ?_ | refine st_gu rfl ?_ | (refine st_nil ?_; (repeat (first | refine kp_cons rfl ?_ | refine kp_skip ?_)); refine kp_nil ?_) | refine awp_seq ?_ | refine aw_end (fun _ _ => rfl) ?_ | refine awp_block ?_ | refine aw_skipE (fun _ _ => rfl) ?_ | refine aw_exitE (fun _ _ => rfl) ?_ | refine awp_cond (t := true) rfl (fun _ => ?_) (fun e => by cases e) | refine awp_cond (t := false) rfl (fun e => by cases e) (fun _ => ?_)))
    refine awp_ret ?_
    exact ares rfl (HSub.refl _) ⟨rfl, rfl⟩
  (rw [show decide ((ks.length : Int) ≠ (ks'.length : Int)) = false from decide_eq_false (by omega)])
  rw [decide_eq_true h1, decide_eq_true h3, decide_eq_true h4, decide_eq_true h5, Bool.true_and, Bool.true_and, Bool.true_and, Bool.true_and] at hX
  (repeat (first | refine st_q rfl rfl rfl ?_ | refine st_gy rfl (st_q rfl rfl rfl ?_) | refine st_gn rfl ?_ | refine st_gu rfl ?_ | (refine st_nil ?_; (repeat (first | refine kp_cons rfl ?_ | refine kp_skip ?_)); refine kp_nil ?_) | refine awp_seq ?_ | refine aw_end (fun _ _ => rfl) ?_ | refine awp_block ?_ | refine aw_skipE (fun _ _ => rfl) ?_ | refine aw_exitE (fun _ _ => rfl) ?_ | refine awp_cond (t := true) rfl (fun _ => ?_) (fun e => by cases e) | refine awp_cond (t := false) rfl (fun e => by cases e) (fun _ => ?_)))
  refine awp_loopN (fun m F σ' => ∃ j : Nat, F = fset 2 (some (.iptr [.int .i64 k, .slc 1 (ns.map .str) false, .slc 6 (encTs ks) false, .int .i64 l, .int .i64 p, .int .i64 s])) (fset 3 (some (.iptr [.int .i64 k', .slc 1 (ns'.map .str) false, .slc 6 (encTs ks') false, .int .i64 l', .int .i64 p', .int .i64 s'])) (fset 5 (some (.int .i64 (j : Nat))) fnone)) ∧ σ = σ' ∧ j ≤ ns.length ∧ ns.take j = ns'.take j ∧ m = ns.length - j) (n := ns.length)
    ⟨0, rfl, rfl, by omega, by simp, rfl⟩ ?_
  rintro m F σ' ⟨j, rfl, rfl, hj, hs, rfl⟩
  (repeat (first | refine st_q rfl rfl rfl ?_ | refine st_gy rfl (st_q rfl rfl rfl ?_) | refine st_gn rfl ?_ | refine st_gu rfl ?_ | (refine st_nil ?_; (repeat (first | refine kp_cons rfl ?_ | refine kp_skip ?_)); refine kp_nil ?_) | refine awp_seq ?_ | refine aw_end (fun _ _ => rfl) ?_ | refine awp_block ?_ | refine aw_skipE (fun _ _ => rfl) ?_ | refine aw_exitE (fun _ _ => rfl) ?_ | refine awp_cond (t := true) rfl (fun _ => ?_) (fun e => by cases e) | refine awp_cond (t := false) rfl (fun e => by cases e) (fun _ => ?_)))
  rw [el]
  refine awp_condp (p := (j : Int) < (ns.length : Nat)) rfl (fun h5 => ?_) (fun h5 => ?_)
  · have hjl : j < ns.length := by omega
    have hjy : j < ns'.length := by omega
    have hx := map_get (f := AVal.str) hjl
    have hy := map_get (f := AVal.str) hjy
    have hgx := List.getElem?_eq_getElem hjl
    have hgy := List.getElem?_eq_getElem hjy
    generalize ns[j] = x at hx hgx
    generalize ns'[j] = y at hy hgy
    (repeat (first | refine st_q rfl rfl rfl ?_ | refine st_gy rfl (st_q rfl rfl rfl ?_) | refine st_gn rfl ?_ | refine st_gu rfl ?_ | (refine st_nil ?_; (repeat (first | refine kp_cons rfl ?_ | refine kp_skip ?_)); refine kp_nil ?_) | refine awp_seq ?_ | refine aw_end (fun _ _ => rfl) ?_ | refine awp_block ?_ | refine aw_skipE (fun _ _ => rfl) ?_ | refine aw_exitE (fun _ _ => rfl) ?_ | refine awp_cond (t := true) rfl (fun _ => ?_) (fun e => by cases e) | refine awp_cond (t := false) rfl (fun e => by cases e) (fun _ => ?_)))
    refine st_iad rfl (by omega) hx ?_
    (repeat (refine st_q rfl rfl rfl ?_))
    refine st_iad rfl (by omega) hy ?_
    (repeat (first | refine st_q rfl rfl rfl ?_ | refine st_gy rfl (st_q rfl rfl rfl ?_) | refine st_gn rfl ?_ | refine st_gu rfl ?_ | (refine st_nil ?_; (repeat (first | refine kp_cons rfl ?_ | refine kp_skip ?_)); refine kp_nil ?_) | refine awp_seq ?_ | refine aw_end (fun _ _ => rfl) ?_ | refine awp_block ?_ | refine aw_skipE (fun _ _ => rfl) ?_ | refine aw_exitE (fun _ _ => rfl) ?_ | refine awp_cond (t := true) rfl (fun _ => ?_) (fun e => by cases e) | refine awp_cond (t := false) rfl (fun e => by cases e) (fun _ => ?_)))
    by_cases hxy : x = y
    · subst hxy
      rw [show decide (x ≠ x) = false from decide_eq_false (fun h => h rfl)]
      (repeat (first | refine st_q rfl rfl rfl ?_ | refine st_gy rfl (st_q rfl rfl rfl ?_) | refine st_gn rfl ?_ | refine st_gu rfl ?_ | (refine st_nil ?_; (repeat (first | refine kp_cons rfl ?_ | refine kp_skip ?_)); refine kp_nil ?_) | refine awp_seq ?_ | refine aw_end (fun _ _ => rfl) ?_ | refine awp_block ?_ | refine aw_skipE (fun _ _ => rfl) ?_ | refine aw_exitE (fun _ _ => rfl) ?_ | refine awp_cond (t := true) rfl (fun _ => ?_) (fun e => by cases e) | refine awp_cond (t := false) rfl (fun e => by cases e) (fun _ => ?_)))
      refine aw_round ?_
      (repeat (refine st_q rfl rfl rfl ?_))
      rw [show IntKind.wrap .i64 ((j : Int) + 1) = ((j + 1 : Nat) : Int) by rw [w64 _ (by omega) (by omega)]; omega]
      (refine st_nil ?_; (repeat (first | refine kp_cons rfl ?_ | refine kp_skip ?_)); refine kp_nil ?_)
      exact ⟨_, ns.length - (j + 1), HSub.refl _, ⟨j + 1, rfl, rfl, by omega, by rw [List.take_add_one, List.take_add_one, hgx, hgy, hs], rfl⟩, by omega⟩
    · have hX : X = false := by rw [← hX, decide_eq_false (show ¬ ns = ns' from fun h => by rw [h, hgy] at hgx; cases hgx; exact hxy rfl)]; simp
      subst hX
      rw [show decide (x ≠ y) = true from decide_eq_true hxy]
      (repeat (first | refine st_q rfl rfl rfl ?_ | refine st_gy rfl (st_q rfl rfl rfl ?_) | refine st_gn rfl ?_ | refine st_gu rfl ?_ | (refine st_nil ?_; (repeat (first | refine kp_cons rfl ?_ | refine kp_skip ?_)); refine kp_nil ?_) | refine awp_seq ?_ | refine aw_end (fun _ _ => rfl) ?_ | refine awp_block ?_ | refine aw_skipE (fun _ _ => rfl) ?_ | refine aw_exitE (fun _ _ => rfl) ?_ | refine awp_cond (t := true) rfl (fun _ => ?_) (fun e => by cases e) | refine awp_cond (t := false) rfl (fun e => by cases e) (fun _ => ?_)))
      refine awp_ret ?_
      exact ares rfl (HSub.refl _) ⟨rfl, rfl⟩
  have e1 : ns.take j = ns := List.take_of_length_le (by omega)
  have e2 : ns'.take j = ns' := List.take_of_length_le (by omega)
  rw [e1, e2] at hs
  rw [decide_eq_true hs, Bool.true_and] at hX
  (repeat (first | refine st_q rfl rfl rfl ?_ | refine st_gy rfl (st_q rfl rfl rfl ?_) | refine st_gn rfl ?_ | refine st_gu rfl ?_ | (refine st_nil ?_; (repeat (first | refine kp_cons rfl ?_ | refine kp_skip ?_)); refine kp_nil ?_) | refine awp_seq ?_ | refine aw_end (fun _ _ => rfl) ?_ | refine awp_block ?_ | refine aw_skipE (fun _ _ => rfl) ?_ | refine aw_exitE (fun _ _ => rfl) ?_ | refine awp_cond (t := true) rfl (fun _ => ?_) (fun e => by cases e) | refine awp_cond (t := false) rfl (fun e => by cases e) (fun _ => ?_)))
  refine awp_loopN (fun m F σ' => ∃ j : Nat, F = fset 2 (some (.iptr [.int .i64 k, .slc 1 (ns.map .str) false, .slc 6 (encTs ks) false, .int .i64 l, .int .i64 p, .int .i64 s])) (fset 3 (some (.iptr [.int .i64 k', .slc 1 (ns'.map .str) false, .slc 6 (encTs ks') false, .int .i64 l', .int .i64 p', .int .i64 s'])) (fset 6 (some (.int .i64 (j : Nat))) fnone)) ∧ σ = σ' ∧ j ≤ ks.length ∧ sameTL (ks.drop j) (ks'.drop j) = X ∧ m = ks.length - j) (n := ks.length)
    ⟨0, rfl, rfl, by omega, hX, rfl⟩ ?_
  clear hX
  rintro m F σ' ⟨j, rfl, rfl, hj, hs, rfl⟩
  (repeat (first | refine st_q rfl rfl rfl ?_ | refine st_gy rfl (st_q rfl rfl rfl ?_) | refine st_gn rfl ?_ | refine st_gu rfl ?_ | (refine st_nil ?_; (repeat (first | refine kp_cons rfl ?_ | refine kp_skip ?_)); refine kp_nil ?_) | refine awp_seq ?_ | refine aw_end (fun _ _ => rfl) ?_ | refine awp_block ?_ | refine aw_skipE (fun _ _ => rfl) ?_ | refine aw_exitE (fun _ _ => rfl) ?_ | refine awp_cond (t := true) rfl (fun _ => ?_) (fun e => by cases e) | refine awp_cond (t := false) rfl (fun e => by cases e) (fun _ => ?_)))
  rw [encTs_length]
  refine awp_condp (p := (j : Int) < (ks.length : Nat)) rfl (fun h5 => ?_) (fun h5 => ?_)
  · have hjl : j < ks.length := by omega
    have hjy : j < ks'.length := by omega
    have hx : (encTs ks)[((j : Nat) : Int).toNat]? = some (.agg (cellsT ks[j])) := by rw [← encT_eq]; exact encTs_get (by rw [Int.toNat_natCast, List.getElem?_eq_getElem hjl])
    have hy : (encTs ks')[((j : Nat) : Int).toNat]? = some (.agg (cellsT ks'[j])) := by rw [← encT_eq]; exact encTs_get (by rw [Int.toNat_natCast, List.getElem?_eq_getElem hjy])
    have hq := hS ks[j] (List.getElem_mem hjl) ks'[j]
    rw [List.drop_eq_getElem_cons hjl, List.drop_eq_getElem_cons hjy, sameTL] at hs
    generalize ks[j] = x at hx hq hs
    generalize ks'[j] = y at hy hq hs
    generalize sameT x y = z at hq hs
    (repeat (first | refine st_q rfl rfl rfl ?_ | refine st_gy rfl (st_q rfl rfl rfl ?_) | refine st_gn rfl ?_ | refine st_gu rfl ?_ | (refine st_nil ?_; (repeat (first | refine kp_cons rfl ?_ | refine kp_skip ?_)); refine kp_nil ?_) | refine awp_seq ?_ | refine aw_end (fun _ _ => rfl) ?_ | refine awp_block ?_ | refine aw_skipE (fun _ _ => rfl) ?_ | refine aw_exitE (fun _ _ => rfl) ?_ | refine awp_cond (t := true) rfl (fun _ => ?_) (fun e => by cases e) | refine awp_cond (t := false) rfl (fun e => by cases e) (fun _ => ?_)))
    refine st_iad rfl (by omega) hx ?_
    (repeat (refine st_q rfl rfl rfl ?_))
    refine st_iad rfl (by omega) hy ?_
    (repeat (refine st_q rfl rfl rfl ?_))
    refine st_callv rfl (hq _) ?_
    (repeat (refine st_q rfl rfl rfl ?_))
    (refine st_nil ?_; (repeat (first | refine kp_cons rfl ?_ | refine kp_skip ?_)); refine kp_nil ?_)
    cases z with
    | true =>
      rw [Bool.true_and] at hs
      refine awp_cond (t := false) rfl (fun e => by cases e) (fun _ => ?_)
      refine aw_skipE (fun _ _ => rfl) ?_
      (refine kp_weaken (keep := [2, 3, 6]) ?_; ((repeat (first | refine kp_cons rfl ?_ | refine kp_skip ?_)); refine kp_nil ?_))
      refine aw_round ?_
      (repeat (refine st_q rfl rfl rfl ?_))
      rw [show IntKind.wrap .i64 ((j : Int) + 1) = ((j + 1 : Nat) : Int) by rw [w64 _ (by omega) (by omega)]; omega]
      (refine st_nil ?_; (repeat (first | refine kp_cons rfl ?_ | refine kp_skip ?_)); refine kp_nil ?_)
      exact ⟨_, ks.length - (j + 1), HSub.refl _, ⟨j + 1, rfl, rfl, by omega, hs, rfl⟩, by omega⟩
    | false =>
      rw [Bool.false_and] at hs
      subst hs
      (repeat (first | refine st_q rfl rfl rfl ?_ | refine st_gy rfl (st_q rfl rfl rfl ?_) | refine st_gn rfl ?_ | refine st_gu rfl ?_ | (refine st_nil ?_; (repeat (first | refine kp_cons rfl ?_ | refine kp_skip ?_)); refine kp_nil ?_) | refine awp_seq ?_ | refine aw_end (fun _ _ => rfl) ?_ | refine awp_block ?_ | refine aw_skipE (fun _ _ => rfl) ?_ | refine aw_exitE (fun _ _ => rfl) ?_ | refine awp_cond (t := true) rfl (fun _ => ?_) (fun e => by cases e) | refine awp_cond (t := false) rfl (fun e => by cases e) (fun _ => ?_)))
      refine awp_ret ?_
      exact ares rfl (HSub.refl _) ⟨rfl, rfl⟩
  · rw [List.drop_of_length_le (by omega), List.drop_of_length_le (by omega), sameTL] at hs
    subst hs
    (repeat (first | refine st_q rfl rfl rfl ?_ | refine st_gy rfl (st_q rfl rfl rfl ?_) | refine st_gn rfl ?_ | refine st_gu rfl ?_ | (refine st_nil ?_; (repeat (first | refine kp_cons rfl ?_ | refine kp_skip ?_)); refine kp_nil ?_) | refine awp_seq ?_ | refine aw_end (fun _ _ => rfl) ?_ | refine awp_block ?_ | refine aw_skipE (fun _ _ => rfl) ?_ | refine aw_exitE (fun _ _ => rfl) ?_ | refine awp_cond (t := true) rfl (fun _ => ?_) (fun e => by cases e) | refine awp_cond (t := false) rfl (fun e => by cases e) (fun _ => ?_)))
    refine awp_ret ?_
    exact ares rfl (HSub.refl _) ⟨rfl, rfl⟩
end Go.Abs
