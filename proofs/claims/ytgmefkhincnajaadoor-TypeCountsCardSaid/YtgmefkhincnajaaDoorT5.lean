/- Contracts: a tree's columns (types.Flatten). -/
import Derived.Test.YtgmefkhincnajaaDoorT5P
namespace Go.Abs
open Go Go.Proofs
set_option linter.unusedVariables false
set_option linter.unusedSimpArgs false
set_option maxHeartbeats 4000000
attribute [local irreducible] AWp aops KP

theorem c_flatten : ∀ (t : Ty), t.Small → ∀ (v : AVal) (xs : List AVal) (β : AHeap) (parent : Int) (deep : Nat) (σ : AHeap), GrowG 8 v xs β → xs.length + cnt t ≤ 1000 → deep + cnt t ≤ 1000 →
    ACalls Tryd.prog f_types_flatten [v, encT t, .int .i64 parent, .int .i64 (deep : Int)] (β ++ σ) fun r σ' => ∃ β', GrowG 8 r (xs ++ (flatT xs.length parent deep t).map encN) β' ∧ σ' = β' ++ σ := by
  refine Ty.ind fun k ns ks l p s ih hsmall v xs β parent deep σ ho hx hd => ?_
  cases hsmall with
  | mk hk1 hn1 hn4 hkids =>
  simp only [encT, Ty.kind, Ty.names, Ty.kids, Ty.len, Ty.prec, Ty.scale] at *
  have hlenks := cntL_length ks
  refine acalls_enter rfl types_flatten_ok (Nat.le_of_ble_eq_true rfl) ?_
  refine aw_region ?_
  refine st_box rfl (AVal.fit_iff.1 rfl) fun pb hpb => ?_
  (repeat (refine st_q rfl rfl rfl ?_))
  (refine st_nil ?_; (repeat (first | refine kp_cons rfl ?_ | refine kp_skip ?_)); refine kp_nil ?_)
  refine awp_freezeP (d := 5) (cs := [.int .i64 k, .slc 1 (ns.map .str) false, .slc 6 (encTs ks) false, .int .i64 l, .int .i64 p, .int .i64 s]) rfl ?_
  refine aw_region ?_
  refine st_q rfl rfl rfl ?_
  refine st_lens rfl ho.lens ?_
  (repeat (refine st_q rfl rfl rfl ?_))
  (refine st_nil ?_; (repeat (first | refine kp_cons rfl ?_ | refine kp_skip ?_)); refine kp_nil ?_)
  refine aw_region ?_
  (repeat (refine st_q rfl rfl rfl ?_))
  refine st_callp rfl (c_Clone_string_string _ _ (strs_elem ns) (by rw [List.length_map]; omega)) ?_
  refine st_callp rfl (c_Clip_string_string _ _) ?_
  (repeat (refine st_q rfl rfl rfl ?_))
  refine st_appG (ys := [.agg [.int .i64 k, .slc 0 [] true, .slc 1 (ns.map .str) true, .int .i64 l, .int .i64 p, .int .i64 s, .int .i64 parent, .int .i64 (deep : Int)]]) ho rfl rfl (by simp only [List.length_cons, List.length_nil]; omega) fun b1 hb1 => ?_
  (repeat (first | refine st_q rfl rfl rfl ?_ | refine st_gy rfl (st_q rfl rfl rfl ?_) | refine st_gn rfl ?_ | refine st_gu rfl ?_ | (refine st_nil ?_; (repeat (first | refine kp_cons rfl ?_ | refine kp_skip ?_)); refine kp_nil ?_) | refine awp_seq ?_ | refine aw_end (fun _ _ => rfl) ?_ | refine awp_block ?_ | refine aw_skipE (fun _ _ => rfl) ?_ | refine aw_exitE (fun _ _ => rfl) ?_ | refine awp_cond (t := true) rfl (fun _ => ?_) (fun e => by cases e) | refine awp_cond (t := false) rfl (fun e => by cases e) (fun _ => ?_)))
  rw [encTs_length]
  obtain ⟨x0, hx0⟩ : ∃ x0, x0 = AVal.agg [.int .i64 k, .slc 0 [] true, .slc 1 (ns.map .str) true, .int .i64 l, .int .i64 p, .int .i64 s, .int .i64 parent, .int .i64 (deep : Int)] := ⟨_, rfl⟩
  rw [← hx0]
  refine awp_loopN (fun m F σ' => ∃ (i b : Nat) (vk : AVal) (βk : AHeap) (R : List AVal), F = fset 0 (some (.arr 8 b 0 R.length)) (fset 3 (some (.int .i64 (deep : Int))) (fset 9 (some (.int .i64 (xs.length : Int))) (fset 10 (some vk) (fset 34 (some (.slc 6 (encTs ks) false)) (fset 35 (some (.int .i64 (ks.length : Int))) (fset 36 (some (.int .i64 (i : Int))) fnone)))))) ∧
    σ' = (b, .cells 8 R) :: (βk ++ σ) ∧ R = xs ++ x0 :: (flatL (xs.length + 1) (xs.length : Int) (deep + 1) (ks.take i)).map encN ∧ GrowG 1 vk (ints (kidIdx (xs.length + 1) (ks.take i))) βk ∧ i ≤ ks.length ∧ m = ks.length - i) (n := ks.length)
    ⟨0, b1, _, [], _, rfl, rfl, rfl, GrowG.nil 1 0, by omega, rfl⟩ ?_
  rintro m F σ' ⟨i, b, vk, βk, R, rfl, rfl, hR, hok, hi, rfl⟩
  have hRl : R.length = xs.length + 1 + cntL (ks.take i) := by rw [hR]; simp [flatL_len]; omega
  (repeat (first | refine st_q rfl rfl rfl ?_ | refine st_gy rfl (st_q rfl rfl rfl ?_) | refine st_gn rfl ?_ | refine st_gu rfl ?_ | (refine st_nil ?_; (repeat (first | refine kp_cons rfl ?_ | refine kp_skip ?_)); refine kp_nil ?_) | refine awp_seq ?_ | refine aw_end (fun _ _ => rfl) ?_ | refine awp_block ?_ | refine aw_skipE (fun _ _ => rfl) ?_ | refine aw_exitE (fun _ _ => rfl) ?_ | refine awp_cond (t := true) rfl (fun _ => ?_) (fun e => by cases e) | refine awp_cond (t := false) rfl (fun e => by cases e) (fun _ => ?_)))
  refine awp_condp (p := (i : Int) < (ks.length : Int)) rfl (fun h3 => ?_) (fun h3 => ?_)
  · have hil : i < ks.length := by omega
    have hget : ks[i]? = some ks[i] := List.getElem?_eq_getElem hil
    have hx' : (encTs ks)[(i : Int).toNat]? = some (encT ks[i]) := encTs_get (by rw [Int.toNat_natCast, hget])
    have hcn := cntL_take ks i _ hget
    have hkl := kidIdx_take ks (xs.length + 1) i _ hget
    have hfl := flatL_take ks (xs.length + 1) i (xs.length : Int) (deep + 1) _ hget
    simp only [cnt] at hx hd
    (repeat (first | refine st_q rfl rfl rfl ?_ | refine st_gy rfl (st_q rfl rfl rfl ?_) | refine st_gn rfl ?_ | refine st_gu rfl ?_ | (refine st_nil ?_; (repeat (first | refine kp_cons rfl ?_ | refine kp_skip ?_)); refine kp_nil ?_) | refine awp_seq ?_ | refine aw_end (fun _ _ => rfl) ?_ | refine awp_block ?_ | refine aw_skipE (fun _ _ => rfl) ?_ | refine aw_exitE (fun _ _ => rfl) ?_ | refine awp_cond (t := true) rfl (fun _ => ?_) (fun e => by cases e) | refine awp_cond (t := false) rfl (fun e => by cases e) (fun _ => ?_)))
    refine st_iad rfl (by omega) hx' ?_
    rw [encT_eq]
    (repeat (first | refine st_q rfl rfl rfl ?_ | refine st_gy rfl (st_q rfl rfl rfl ?_) | refine st_gn rfl ?_ | refine st_gu rfl ?_ | (refine st_nil ?_; (repeat (first | refine kp_cons rfl ?_ | refine kp_skip ?_)); refine kp_nil ?_) | refine awp_seq ?_ | refine aw_end (fun _ _ => rfl) ?_ | refine awp_block ?_ | refine aw_skipE (fun _ _ => rfl) ?_ | refine aw_exitE (fun _ _ => rfl) ?_ | refine awp_cond (t := true) rfl (fun _ => ?_) (fun e => by cases e) | refine awp_cond (t := false) rfl (fun e => by cases e) (fun _ => ?_)))
    refine st_alloc (by simp [AVal.cells, AVal.one]) fun vb hvb => ?_
    refine st_store rfl hget_head rfl (by decide) (AVal.fit_iff.1 rfl) (fun h => by cases h) hset_head ?_
    (refine st_nil ?_; (repeat (first | refine kp_cons rfl ?_ | refine kp_skip ?_)); refine kp_nil ?_)
    refine awp_freezeP (d := 12) (cs := cellsT ks[i]) rfl ?_
    refine awp_rot (β := [(b, .cells 8 R)]) (γ := βk) ?_
    refine awp_seq ?_
    refine aw_end (fun _ _ => rfl) ?_
    (repeat (refine st_q rfl rfl rfl ?_))
    refine st_appG (ys := [.int .i64 (R.length : Int)]) hok rfl rfl (by
      simp only [List.length_cons, List.length_nil, ints, List.length_map]
      have : ∀ (l : List Ty) (a : Nat), (kidIdx a l).length = l.length := by
        intro l; induction l with
        | nil => intro a; rfl
        | cons t l ih => intro a; simp [kidIdx, ih]
      rw [this, List.length_take]; omega) fun b2 hb2 => ?_
    (repeat (refine st_q rfl rfl rfl ?_))
    (refine st_nil ?_; (repeat (first | refine kp_cons rfl ?_ | refine kp_skip ?_)); refine kp_nil ?_)
    refine awp_rot (β := [(b2, .cells 1 _)]) (γ := [(b, .cells 8 R)]) ?_
    refine aw_end (fun _ _ => rfl) ?_
    (repeat (refine st_q rfl rfl rfl ?_))
    rw [show IntKind.wrap .i64 ((deep : Int) + 1) = ((deep + 1 : Nat) : Int) by rw [w64 _ (by omega) (by omega)]; omega]
    have hcw := ih ks[i] (List.getElem_mem hil) (hkids _ (List.getElem_mem hil)) (.arr 8 b 0 R.length) R [(b, .cells 8 R)] (xs.length : Int) (deep + 1) ([(b2, .cells 1 (ints (kidIdx (xs.length + 1) (ks.take i)) ++ [.int .i64 (R.length : Int)]))] ++ σ) GrowG.mk (by omega) (by omega)
    rw [encT_eq] at hcw
    refine st_call rfl hcw ?_ ?_
    · obtain ⟨gv, gβ, hgr⟩ := GrowG.ex 8 (R ++ (flatT R.length (xs.length : Int) (deep + 1) ks[i]).map encN)
      exact ⟨_, _, gβ, hgr, rfl⟩
    rintro r2 _ ⟨β2, ho2, rfl⟩
    obtain ⟨b3, rfl, rfl⟩ := ho2.arr (by rw [hR]; simp)
    (repeat (refine st_q rfl rfl rfl ?_))
    (refine st_nil ?_; (repeat (first | refine kp_cons rfl ?_ | refine kp_skip ?_)); refine kp_nil ?_)
    refine aw_round ?_
    (repeat (refine st_q rfl rfl rfl ?_))
    rw [show IntKind.wrap .i64 ((i : Int) + 1) = ((i + 1 : Nat) : Int) by rw [w64 _ (by omega) (by omega)]; omega]
    (refine st_nil ?_; (repeat (first | refine kp_cons rfl ?_ | refine kp_skip ?_)); refine kp_nil ?_)
    refine ⟨_, ks.length - (i + 1), HSub.refl _, ⟨i + 1, b3, _, _, _, rfl, rfl, ?_, ?_, by omega, rfl⟩, by omega⟩
    · rw [hfl, hRl, hR]; simp
    · rw [hkl]
      have e : ints (kidIdx (xs.length + 1) (ks.take i) ++ [xs.length + 1 + cntL (ks.take i)]) = ints (kidIdx (xs.length + 1) (ks.take i)) ++ [.int .i64 (R.length : Int)] := by
        rw [hRl]; simp [ints]
      rw [e]
      exact GrowG.mk
  · have hie : i = ks.length := by omega
    subst hie
    rw [List.take_length] at hR hok
    refine aw_exitE (fun _ _ => rfl) ?_
    refine awp_rot (β := [(b, .cells 8 R)]) (γ := βk) ?_
    refine aw_region ?_
    (repeat (refine st_q rfl rfl rfl ?_))
    refine st_callv rfl (c_ClipG_int_int hok ([(b, .cells 8 R)] ++ σ)) ?_
    refine st_iada rfl ⟨by omega, by omega⟩ ?_
    (repeat (refine st_q rfl rfl rfl ?_))
    have hxat : R[0 + ((xs.length : Nat) : Int).toNat]? = some x0 := by
      rw [hR, Nat.zero_add, Int.toNat_natCast]; simp
    refine st_store rfl hget_head hxat (by decide) (AVal.fit_iff.1 rfl) (fun h => by rw [hx0] at h; cases h) hset_head ?_
    (repeat (first | refine st_q rfl rfl rfl ?_ | refine st_gy rfl (st_q rfl rfl rfl ?_) | refine st_gn rfl ?_ | refine st_gu rfl ?_ | (refine st_nil ?_; (repeat (first | refine kp_cons rfl ?_ | refine kp_skip ?_)); refine kp_nil ?_) | refine awp_seq ?_ | refine aw_end (fun _ _ => rfl) ?_ | refine awp_block ?_ | refine aw_skipE (fun _ _ => rfl) ?_ | refine aw_exitE (fun _ _ => rfl) ?_ | refine awp_cond (t := true) rfl (fun _ => ?_) (fun e => by cases e) | refine awp_cond (t := false) rfl (fun e => by cases e) (fun _ => ?_)))
    refine awp_ret ?_
    refine ares rfl (HSub.refl _) ⟨_, .inr ⟨b, ?_, rfl⟩, ?_⟩
    · simp [tupOf, hR, flatT, flatL_len]
    · have e : R.set (0 + ((xs.length : Nat) : Int).toNat) (putCells x0 (0 + 1) (AVal.slc 1 (ints (kidIdx (xs.length + 1) ks)) true).cells) = xs ++ (flatT xs.length parent deep (.mk k ns ks l p s)).map encN := by
        rw [hR, Nat.zero_add, Int.toNat_natCast, List.set_append_right _ _ (Nat.le_refl _), Nat.sub_self, List.set_cons_zero, hx0, flatT]
        rfl
      rw [e]; rfl

theorem c_Flatten (t : Ty) (h : t.Fit) (σ : AHeap) : ACalls Tryd.prog f_types_Flatten [encT t] σ fun r σ' => r = .slc 8 ((flattenF t).map encN) true ∧ σ' = σ := by
  have hc := c_Check t h σ
  have hf := fun (hs : t.Small) => c_flatten t hs (.slc 0 [] true) [] [] (-1) 1 σ (GrowG.nil 8 0)
  rw [encT_eq] at *
  refine acalls_enter rfl types_Flatten_ok (Nat.le_of_ble_eq_true rfl) ?_
  refine aw_region ?_
  refine st_box rfl (AVal.fit_iff.1 rfl) fun pb hpb => ?_
  (repeat (refine st_q rfl rfl rfl ?_))
  (refine st_nil ?_; (repeat (first | refine kp_cons rfl ?_ | refine kp_skip ?_)); refine kp_nil ?_)
  refine awp_freezeP (d := 1) (cs := cellsT t) rfl ?_
  (repeat (first | refine st_q rfl rfl rfl ?_ | refine st_gy rfl (st_q rfl rfl rfl ?_) | refine st_gn rfl ?_ | refine st_gu rfl ?_ | (refine st_nil ?_; (repeat (first | refine kp_cons rfl ?_ | refine kp_skip ?_)); refine kp_nil ?_) | refine awp_seq ?_ | refine aw_end (fun _ _ => rfl) ?_ | refine awp_block ?_ | refine aw_skipE (fun _ _ => rfl) ?_ | refine aw_exitE (fun _ _ => rfl) ?_ | refine awp_cond (t := true) rfl (fun _ => ?_) (fun e => by cases e) | refine awp_cond (t := false) rfl (fun e => by cases e) (fun _ => ?_)))
  refine st_callv rfl hc ?_
  (repeat (first | refine st_q rfl rfl rfl ?_ | refine st_gy rfl (st_q rfl rfl rfl ?_) | refine st_gn rfl ?_ | refine st_gu rfl ?_ | (refine st_nil ?_; (repeat (first | refine kp_cons rfl ?_ | refine kp_skip ?_)); refine kp_nil ?_) | refine awp_seq ?_ | refine aw_end (fun _ _ => rfl) ?_ | refine awp_block ?_ | refine aw_skipE (fun _ _ => rfl) ?_ | refine aw_exitE (fun _ _ => rfl) ?_ | refine awp_cond (t := true) rfl (fun _ => ?_) (fun e => by cases e) | refine awp_cond (t := false) rfl (fun e => by cases e) (fun _ => ?_)))
  by_cases h0 : checkF t = 0
  · have hs := chk_ok t 1 0 h0
    (rw [show decide (((checkF t : Nat) : Int) ≠ 0) = false from decide_eq_false (by omega)])
    (repeat (first | refine st_q rfl rfl rfl ?_ | refine st_gy rfl (st_q rfl rfl rfl ?_) | refine st_gn rfl ?_ | refine st_gu rfl ?_ | (refine st_nil ?_; (repeat (first | refine kp_cons rfl ?_ | refine kp_skip ?_)); refine kp_nil ?_) | refine awp_seq ?_ | refine aw_end (fun _ _ => rfl) ?_ | refine awp_block ?_ | refine aw_skipE (fun _ _ => rfl) ?_ | refine aw_exitE (fun _ _ => rfl) ?_ | refine awp_cond (t := true) rfl (fun _ => ?_) (fun e => by cases e) | refine awp_cond (t := false) rfl (fun e => by cases e) (fun _ => ?_)))
    refine st_call rfl (hf hs.2.1 (by simp; omega) (by omega)) ?_ ?_
    · obtain ⟨gv, gβ, hgr⟩ := GrowG.ex 8 ([] ++ (flatT 0 (-1) 1 t).map encN)
      exact ⟨_, _, gβ, hgr, rfl⟩
    rintro r2 _ ⟨β2, ho2, rfl⟩
    refine st_callv rfl (c_ClipG_types_Node_types_Node ho2 σ) ?_
    (repeat (first | refine st_q rfl rfl rfl ?_ | refine st_gy rfl (st_q rfl rfl rfl ?_) | refine st_gn rfl ?_ | refine st_gu rfl ?_ | (refine st_nil ?_; (repeat (first | refine kp_cons rfl ?_ | refine kp_skip ?_)); refine kp_nil ?_) | refine awp_seq ?_ | refine aw_end (fun _ _ => rfl) ?_ | refine awp_block ?_ | refine aw_skipE (fun _ _ => rfl) ?_ | refine aw_exitE (fun _ _ => rfl) ?_ | refine awp_cond (t := true) rfl (fun _ => ?_) (fun e => by cases e) | refine awp_cond (t := false) rfl (fun e => by cases e) (fun _ => ?_)))
    refine awp_ret ?_
    exact ares rfl (HSub.refl _) ⟨by rw [flattenF, if_pos h0]; rfl, rfl⟩
  · (rw [show decide (((checkF t : Nat) : Int) ≠ 0) = true from decide_eq_true (by omega)])
    (repeat (first | refine st_q rfl rfl rfl ?_ | refine st_gy rfl (st_q rfl rfl rfl ?_) | refine st_gn rfl ?_ | refine st_gu rfl ?_ | (refine st_nil ?_; (repeat (first | refine kp_cons rfl ?_ | refine kp_skip ?_)); refine kp_nil ?_) | refine awp_seq ?_ | refine aw_end (fun _ _ => rfl) ?_ | refine awp_block ?_ | refine aw_skipE (fun _ _ => rfl) ?_ | refine aw_exitE (fun _ _ => rfl) ?_ | refine awp_cond (t := true) rfl (fun _ => ?_) (fun e => by cases e) | refine awp_cond (t := false) rfl (fun e => by cases e) (fun _ => ?_)))
    refine awp_ret ?_
    refine ares_v rfl ?_ (HSub.refl _) ⟨rfl, rfl⟩
    rw [flattenF, if_neg h0]
    exact VRle.nil_slc 0 8 true
end Go.Abs
