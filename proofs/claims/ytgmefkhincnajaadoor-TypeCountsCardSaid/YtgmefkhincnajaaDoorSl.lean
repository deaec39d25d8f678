/- Contracts: slices.Clip, slices.Clone of texts, numbers, columns. -/
import Derived.Test.YtgmefkhincnajaaDoorAOkT
import Derived.Test.YtgmefkhincnajaaDoorTy
namespace Go.Abs
open Go Go.Proofs
set_option linter.unusedVariables false
set_option linter.unusedSimpArgs false
set_option maxHeartbeats 4000000
attribute [local irreducible] AWp aops KP

theorem c_Clip_string_string (xs : List AVal) (f : Bool) (σ : AHeap) : ACalls Tryd.prog f_slices_Clip_string_string [.slc 1 xs f] σ fun r σ' => r = .slc 1 xs true ∧ σ' = σ := by
  refine acalls_enter rfl slices_Clip_string_string_ok (Nat.le_of_ble_eq_true rfl) ?_
  (repeat (first | refine st_q rfl rfl rfl ?_ | refine st_gy rfl (st_q rfl rfl rfl ?_) | refine st_gn rfl ?_ | refine st_gu rfl ?_ | (refine st_nil ?_; (repeat (first | refine kp_cons rfl ?_ | refine kp_skip ?_)); refine kp_nil ?_) | refine awp_seq ?_ | refine aw_end (fun _ _ => rfl) ?_ | refine awp_block ?_ | refine aw_skipE (fun _ _ => rfl) ?_ | refine aw_exitE (fun _ _ => rfl) ?_ | refine awp_cond (t := true) rfl (fun _ => ?_) (fun e => by cases e) | refine awp_cond (t := false) rfl (fun e => by cases e) (fun _ => ?_)))
  refine st_clip_slc rfl (by omega) (by omega) ?_
  rw [Int.toNat_natCast, List.take_length]
  (repeat (first | refine st_q rfl rfl rfl ?_ | refine st_gy rfl (st_q rfl rfl rfl ?_) | refine st_gn rfl ?_ | refine st_gu rfl ?_ | (refine st_nil ?_; (repeat (first | refine kp_cons rfl ?_ | refine kp_skip ?_)); refine kp_nil ?_) | refine awp_seq ?_ | refine aw_end (fun _ _ => rfl) ?_ | refine awp_block ?_ | refine aw_skipE (fun _ _ => rfl) ?_ | refine aw_exitE (fun _ _ => rfl) ?_ | refine awp_cond (t := true) rfl (fun _ => ?_) (fun e => by cases e) | refine awp_cond (t := false) rfl (fun e => by cases e) (fun _ => ?_)))
  refine awp_ret ?_
  exact ares rfl (HSub.refl _) ⟨rfl, rfl⟩
theorem c_ClipG_string_string {v : AVal} {xs : List AVal} {β : AHeap} (ho : GrowG 1 v xs β) (σ : AHeap) : ACalls Tryd.prog f_slices_Clip_string_string [v] (β ++ σ) fun r σ' => r = .slc 1 xs true ∧ σ' = σ := by
  rcases ho with ⟨⟨z, rfl⟩, rfl, rfl⟩ | ⟨b, rfl, rfl⟩
  · exact ACalls.args (VRle.nil_slc z 1 true) (c_Clip_string_string [] true σ)
  refine acalls_enter rfl slices_Clip_string_string_ok (Nat.le_of_ble_eq_true rfl) ?_
  (repeat (first | refine st_q rfl rfl rfl ?_ | refine st_gy rfl (st_q rfl rfl rfl ?_) | refine st_gn rfl ?_ | refine st_gu rfl ?_ | (refine st_nil ?_; (repeat (first | refine kp_cons rfl ?_ | refine kp_skip ?_)); refine kp_nil ?_) | refine awp_seq ?_ | refine aw_end (fun _ _ => rfl) ?_ | refine awp_block ?_ | refine aw_skipE (fun _ _ => rfl) ?_ | refine aw_exitE (fun _ _ => rfl) ?_ | refine awp_cond (t := true) rfl (fun _ => ?_) (fun e => by cases e) | refine awp_cond (t := false) rfl (fun e => by cases e) (fun _ => ?_)))
  refine st_clip rfl hget_head (by omega) (by omega) (by omega) hdel_head ?_
  rw [List.drop_zero, Int.toNat_natCast, List.take_length]
  (repeat (first | refine st_q rfl rfl rfl ?_ | refine st_gy rfl (st_q rfl rfl rfl ?_) | refine st_gn rfl ?_ | refine st_gu rfl ?_ | (refine st_nil ?_; (repeat (first | refine kp_cons rfl ?_ | refine kp_skip ?_)); refine kp_nil ?_) | refine awp_seq ?_ | refine aw_end (fun _ _ => rfl) ?_ | refine awp_block ?_ | refine aw_skipE (fun _ _ => rfl) ?_ | refine aw_exitE (fun _ _ => rfl) ?_ | refine awp_cond (t := true) rfl (fun _ => ?_) (fun e => by cases e) | refine awp_cond (t := false) rfl (fun e => by cases e) (fun _ => ?_)))
  refine awp_ret ?_
  exact ares rfl (HSub.refl _) ⟨rfl, rfl⟩

theorem c_Clip_int_int (xs : List AVal) (f : Bool) (σ : AHeap) : ACalls Tryd.prog f_slices_Clip_int_int [.slc 1 xs f] σ fun r σ' => r = .slc 1 xs true ∧ σ' = σ := by
  refine acalls_enter rfl slices_Clip_int_int_ok (Nat.le_of_ble_eq_true rfl) ?_
  (repeat (first | refine st_q rfl rfl rfl ?_ | refine st_gy rfl (st_q rfl rfl rfl ?_) | refine st_gn rfl ?_ | refine st_gu rfl ?_ | (refine st_nil ?_; (repeat (first | refine kp_cons rfl ?_ | refine kp_skip ?_)); refine kp_nil ?_) | refine awp_seq ?_ | refine aw_end (fun _ _ => rfl) ?_ | refine awp_block ?_ | refine aw_skipE (fun _ _ => rfl) ?_ | refine aw_exitE (fun _ _ => rfl) ?_ | refine awp_cond (t := true) rfl (fun _ => ?_) (fun e => by cases e) | refine awp_cond (t := false) rfl (fun e => by cases e) (fun _ => ?_)))
  refine st_clip_slc rfl (by omega) (by omega) ?_
  rw [Int.toNat_natCast, List.take_length]
  (repeat (first | refine st_q rfl rfl rfl ?_ | refine st_gy rfl (st_q rfl rfl rfl ?_) | refine st_gn rfl ?_ | refine st_gu rfl ?_ | (refine st_nil ?_; (repeat (first | refine kp_cons rfl ?_ | refine kp_skip ?_)); refine kp_nil ?_) | refine awp_seq ?_ | refine aw_end (fun _ _ => rfl) ?_ | refine awp_block ?_ | refine aw_skipE (fun _ _ => rfl) ?_ | refine aw_exitE (fun _ _ => rfl) ?_ | refine awp_cond (t := true) rfl (fun _ => ?_) (fun e => by cases e) | refine awp_cond (t := false) rfl (fun e => by cases e) (fun _ => ?_)))
  refine awp_ret ?_
  exact ares rfl (HSub.refl _) ⟨rfl, rfl⟩
theorem c_ClipG_int_int {v : AVal} {xs : List AVal} {β : AHeap} (ho : GrowG 1 v xs β) (σ : AHeap) : ACalls Tryd.prog f_slices_Clip_int_int [v] (β ++ σ) fun r σ' => r = .slc 1 xs true ∧ σ' = σ := by
  rcases ho with ⟨⟨z, rfl⟩, rfl, rfl⟩ | ⟨b, rfl, rfl⟩
  · exact ACalls.args (VRle.nil_slc z 1 true) (c_Clip_int_int [] true σ)
  refine acalls_enter rfl slices_Clip_int_int_ok (Nat.le_of_ble_eq_true rfl) ?_
  (repeat (first | refine st_q rfl rfl rfl ?_ | refine st_gy rfl (st_q rfl rfl rfl ?_) | refine st_gn rfl ?_ | refine st_gu rfl ?_ | (refine st_nil ?_; (repeat (first | refine kp_cons rfl ?_ | refine kp_skip ?_)); refine kp_nil ?_) | refine awp_seq ?_ | refine aw_end (fun _ _ => rfl) ?_ | refine awp_block ?_ | refine aw_skipE (fun _ _ => rfl) ?_ | refine aw_exitE (fun _ _ => rfl) ?_ | refine awp_cond (t := true) rfl (fun _ => ?_) (fun e => by cases e) | refine awp_cond (t := false) rfl (fun e => by cases e) (fun _ => ?_)))
  refine st_clip rfl hget_head (by omega) (by omega) (by omega) hdel_head ?_
  rw [List.drop_zero, Int.toNat_natCast, List.take_length]
  (repeat (first | refine st_q rfl rfl rfl ?_ | refine st_gy rfl (st_q rfl rfl rfl ?_) | refine st_gn rfl ?_ | refine st_gu rfl ?_ | (refine st_nil ?_; (repeat (first | refine kp_cons rfl ?_ | refine kp_skip ?_)); refine kp_nil ?_) | refine awp_seq ?_ | refine aw_end (fun _ _ => rfl) ?_ | refine awp_block ?_ | refine aw_skipE (fun _ _ => rfl) ?_ | refine aw_exitE (fun _ _ => rfl) ?_ | refine awp_cond (t := true) rfl (fun _ => ?_) (fun e => by cases e) | refine awp_cond (t := false) rfl (fun e => by cases e) (fun _ => ?_)))
  refine awp_ret ?_
  exact ares rfl (HSub.refl _) ⟨rfl, rfl⟩

theorem c_Clip_types_Node_types_Node (xs : List AVal) (f : Bool) (σ : AHeap) : ACalls Tryd.prog f_slices_Clip_types_Node_types_Node [.slc 8 xs f] σ fun r σ' => r = .slc 8 xs true ∧ σ' = σ := by
  refine acalls_enter rfl slices_Clip_types_Node_types_Node_ok (Nat.le_of_ble_eq_true rfl) ?_
  (repeat (first | refine st_q rfl rfl rfl ?_ | refine st_gy rfl (st_q rfl rfl rfl ?_) | refine st_gn rfl ?_ | refine st_gu rfl ?_ | (refine st_nil ?_; (repeat (first | refine kp_cons rfl ?_ | refine kp_skip ?_)); refine kp_nil ?_) | refine awp_seq ?_ | refine aw_end (fun _ _ => rfl) ?_ | refine awp_block ?_ | refine aw_skipE (fun _ _ => rfl) ?_ | refine aw_exitE (fun _ _ => rfl) ?_ | refine awp_cond (t := true) rfl (fun _ => ?_) (fun e => by cases e) | refine awp_cond (t := false) rfl (fun e => by cases e) (fun _ => ?_)))
  refine st_clip_slc rfl (by omega) (by omega) ?_
  rw [Int.toNat_natCast, List.take_length]
  (repeat (first | refine st_q rfl rfl rfl ?_ | refine st_gy rfl (st_q rfl rfl rfl ?_) | refine st_gn rfl ?_ | refine st_gu rfl ?_ | (refine st_nil ?_; (repeat (first | refine kp_cons rfl ?_ | refine kp_skip ?_)); refine kp_nil ?_) | refine awp_seq ?_ | refine aw_end (fun _ _ => rfl) ?_ | refine awp_block ?_ | refine aw_skipE (fun _ _ => rfl) ?_ | refine aw_exitE (fun _ _ => rfl) ?_ | refine awp_cond (t := true) rfl (fun _ => ?_) (fun e => by cases e) | refine awp_cond (t := false) rfl (fun e => by cases e) (fun _ => ?_)))
  refine awp_ret ?_
  exact ares rfl (HSub.refl _) ⟨rfl, rfl⟩
theorem c_ClipG_types_Node_types_Node {v : AVal} {xs : List AVal} {β : AHeap} (ho : GrowG 8 v xs β) (σ : AHeap) : ACalls Tryd.prog f_slices_Clip_types_Node_types_Node [v] (β ++ σ) fun r σ' => r = .slc 8 xs true ∧ σ' = σ := by
  rcases ho with ⟨⟨z, rfl⟩, rfl, rfl⟩ | ⟨b, rfl, rfl⟩
  · exact ACalls.args (VRle.nil_slc z 8 true) (c_Clip_types_Node_types_Node [] true σ)
  refine acalls_enter rfl slices_Clip_types_Node_types_Node_ok (Nat.le_of_ble_eq_true rfl) ?_
  (repeat (first | refine st_q rfl rfl rfl ?_ | refine st_gy rfl (st_q rfl rfl rfl ?_) | refine st_gn rfl ?_ | refine st_gu rfl ?_ | (refine st_nil ?_; (repeat (first | refine kp_cons rfl ?_ | refine kp_skip ?_)); refine kp_nil ?_) | refine awp_seq ?_ | refine aw_end (fun _ _ => rfl) ?_ | refine awp_block ?_ | refine aw_skipE (fun _ _ => rfl) ?_ | refine aw_exitE (fun _ _ => rfl) ?_ | refine awp_cond (t := true) rfl (fun _ => ?_) (fun e => by cases e) | refine awp_cond (t := false) rfl (fun e => by cases e) (fun _ => ?_)))
  refine st_clip rfl hget_head (by omega) (by omega) (by omega) hdel_head ?_
  rw [List.drop_zero, Int.toNat_natCast, List.take_length]
  (repeat (first | refine st_q rfl rfl rfl ?_ | refine st_gy rfl (st_q rfl rfl rfl ?_) | refine st_gn rfl ?_ | refine st_gu rfl ?_ | (refine st_nil ?_; (repeat (first | refine kp_cons rfl ?_ | refine kp_skip ?_)); refine kp_nil ?_) | refine awp_seq ?_ | refine aw_end (fun _ _ => rfl) ?_ | refine awp_block ?_ | refine aw_skipE (fun _ _ => rfl) ?_ | refine aw_exitE (fun _ _ => rfl) ?_ | refine awp_cond (t := true) rfl (fun _ => ?_) (fun e => by cases e) | refine awp_cond (t := false) rfl (fun e => by cases e) (fun _ => ?_)))
  refine awp_ret ?_
  exact ares rfl (HSub.refl _) ⟨rfl, rfl⟩

theorem c_Clone_string_string (xs : List AVal) (f : Bool) (he : ∀ x ∈ xs, x.elem 1) (hb : xs.length * 16 ≤ 140737488355328) (σ : AHeap) : ACalls Tryd.prog f_slices_Clone_string_string [.slc 1 xs f] σ fun r σ' => r = .slc 1 xs false ∧ σ' = σ := by
  refine acalls_enter rfl slices_Clone_string_string_ok (Nat.le_of_ble_eq_true rfl) ?_
  have key : ∀ t : Bool, (t = true → xs = []) → AWp Tryd.prog slices_Clone_string_string.n (.cond (.t 4) (.seq (.region slices_Clone_string_string_r2 [2]) .ret) .skip) (AThen Tryd.prog slices_Clone_string_string.n (slices_Clone_string_string.code.snd 2) (ARet slices_Clone_string_string.res fun r σ' => r = .slc 1 xs false ∧ σ' = σ))
      (fset 0 (some (.slc 1 xs f)) (fset 4 (some (.bool t)) fnone)) σ := by
    intro t ht
    cases t with
    | true =>
      (repeat (first | refine st_q rfl rfl rfl ?_ | refine st_gy rfl (st_q rfl rfl rfl ?_) | refine st_gn rfl ?_ | refine st_gu rfl ?_ | (refine st_nil ?_; (repeat (first | refine kp_cons rfl ?_ | refine kp_skip ?_)); refine kp_nil ?_) | refine awp_seq ?_ | refine aw_end (fun _ _ => rfl) ?_ | refine awp_block ?_ | refine aw_skipE (fun _ _ => rfl) ?_ | refine aw_exitE (fun _ _ => rfl) ?_ | refine awp_cond (t := true) rfl (fun _ => ?_) (fun e => by cases e) | refine awp_cond (t := false) rfl (fun e => by cases e) (fun _ => ?_)))
      refine awp_ret ?_
      refine ares_v rfl ?_ (HSub.refl _) ⟨rfl, rfl⟩
      rw [ht rfl]
      exact VRle.trans (VRle.nil_slc 0 1 true) VRle.full
    | false =>
      (repeat (first | refine st_q rfl rfl rfl ?_ | refine st_gy rfl (st_q rfl rfl rfl ?_) | refine st_gn rfl ?_ | refine st_gu rfl ?_ | (refine st_nil ?_; (repeat (first | refine kp_cons rfl ?_ | refine kp_skip ?_)); refine kp_nil ?_) | refine awp_seq ?_ | refine aw_end (fun _ _ => rfl) ?_ | refine awp_block ?_ | refine aw_skipE (fun _ _ => rfl) ?_ | refine aw_exitE (fun _ _ => rfl) ?_ | refine awp_cond (t := true) rfl (fun _ => ?_) (fun e => by cases e) | refine awp_cond (t := false) rfl (fun e => by cases e) (fun _ => ?_)))
      refine st_app0 rfl (ys := xs) (by simp [elemsOf]) (by simpa using hb) fun b hb => ?_
      (repeat (first | refine st_q rfl rfl rfl ?_ | refine st_gy rfl (st_q rfl rfl rfl ?_) | refine st_gn rfl ?_ | refine st_gu rfl ?_ | (refine st_nil ?_; (repeat (first | refine kp_cons rfl ?_ | refine kp_skip ?_)); refine kp_nil ?_) | refine awp_seq ?_ | refine aw_end (fun _ _ => rfl) ?_ | refine awp_block ?_ | refine aw_skipE (fun _ _ => rfl) ?_ | refine aw_exitE (fun _ _ => rfl) ?_ | refine awp_cond (t := true) rfl (fun _ => ?_) (fun e => by cases e) | refine awp_cond (t := false) rfl (fun e => by cases e) (fun _ => ?_)))
      refine awp_ret ?_
      exact ares_s rfl (VShiftL.one (VShiftL.freeze rfl)) ⟨rfl, rfl⟩
  (repeat (first | refine st_q rfl rfl rfl ?_ | refine st_gy rfl (st_q rfl rfl rfl ?_) | refine st_gn rfl ?_ | refine st_gu rfl ?_ | (refine st_nil ?_; (repeat (first | refine kp_cons rfl ?_ | refine kp_skip ?_)); refine kp_nil ?_) | refine awp_seq ?_ | refine aw_end (fun _ _ => rfl) ?_ | refine awp_block ?_ | refine aw_skipE (fun _ _ => rfl) ?_ | refine aw_exitE (fun _ _ => rfl) ?_ | refine awp_cond (t := true) rfl (fun _ => ?_) (fun e => by cases e) | refine awp_cond (t := false) rfl (fun e => by cases e) (fun _ => ?_)))
  refine st_any rfl ?_
  refine ⟨fun _ => ?_, fun hx t => ?_⟩
  · (refine st_nil ?_; (repeat (first | refine kp_cons rfl ?_ | refine kp_skip ?_)); refine kp_nil ?_)
    exact key false (fun h => by cases h)
  · (refine st_nil ?_; (repeat (first | refine kp_cons rfl ?_ | refine kp_skip ?_)); refine kp_nil ?_)
    exact key t (fun _ => hx)
end Go.Abs
