/- Plain: few types. -/
import Derived.Test.YtgmefkhincnajaaDoorDa
import Derived.Test.YtgmefkhincnajaaDoorAOkLT
namespace Go.Abs
open Go Go.Proofs
set_option linter.unusedVariables false
set_option linter.unusedSimpArgs false
set_option maxHeartbeats 4000000
mutual
/-- How many types there are; too many: a thousand. -/
def fewT (deep : Nat) : Ty → Nat
  | .mk k ns ks l p s => if 20 < deep ∨ 300 < ks.length ∨ 300 < ns.length then 1000 else if ns.any (fun s => decide (200 < s.length)) = true then 1000 else fewTL (deep + 1) 1 ks
def fewTL (deep n : Nat) : List Ty → Nat
  | [] => n
  | t :: ts => if 1000 < n + fewT deep t then 1000 else fewTL deep (n + fewT deep t) ts
end
theorem fewTL_ge : ∀ (ts : List Ty) (deep n : Nat), n ≤ 1000 → n ≤ fewTL deep n ts
  | [], deep, n, h => by rw [fewTL]; omega
  | t :: ts, deep, n, h => by
    rw [fewTL]
    split
    · exact h
    · have := fewTL_ge ts deep (n + fewT deep t) (by omega)
      omega
theorem fewTL_mem : ∀ (ts : List Ty) (deep n : Nat), n ≤ 1000 → fewTL deep n ts < 1000 → ∀ t ∈ ts, fewT deep t < 1000 ∧ n + fewT deep t ≤ fewTL deep n ts
  | [], _, _, _, _, t, ht => by cases ht
  | t :: ts, deep, n, h, hlt, u, hu => by
    rw [fewTL] at hlt ⊢
    split at hlt
    · omega
    · rename_i h1
      rw [if_neg h1]
      have hge := fewTL_ge ts deep (n + fewT deep t) (by omega)
      rcases List.mem_cons.1 hu with rfl | hu
      · omega
      · have := fewTL_mem ts deep (n + fewT deep t) (by omega) hlt u hu
        omega
theorem fewT_le : ∀ (t : Ty) (deep : Nat), fewT deep t ≤ 1000 := by
  refine Ty.ind fun k ns ks l p s ih deep => ?_
  have hL : ∀ (ts : List Ty) (deep n : Nat), n ≤ 1000 → fewTL deep n ts ≤ 1000 := by
    intro ts
    induction ts with
    | nil => intro deep n h; rw [fewTL]; exact h
    | cons t ts ih2 =>
      intro deep n h
      rw [fewTL]
      split
      · omega
      · exact ih2 deep _ (by omega)
  rw [fewT]
  split
  · omega
  · split
    · omega
    · exact hL ks _ 1 (by omega)
/-- What few types are. -/
inductive Ty.Few : Ty → Prop
  | mk {t : Ty} (h1 : t.kids.length ≤ 300) (h2 : t.names.length ≤ 300) (h4 : ∀ s ∈ t.names, s.length ≤ 200) (h : ∀ k ∈ t.kids, Ty.Few k) : Ty.Few t
theorem fewT_few : ∀ (t : Ty) (deep : Nat), fewT deep t < 1000 → t.Few := by
  refine Ty.ind fun k ns ks l p s ih deep h => ?_
  rw [fewT] at h
  split at h
  · omega
  · split at h
    · omega
    · rename_i h1 h2
      refine .mk (by show ks.length ≤ 300; omega) (by show ns.length ≤ 300; omega) (fun s hs => ?_) fun t ht => ih t ht (deep + 1) (fewTL_mem ks (deep + 1) 1 (by omega) h t ht).1
      refine Nat.le_of_not_lt fun h3 => h2 ?_
      exact List.any_eq_true.2 ⟨s, hs, decide_eq_true h3⟩
theorem Ty.Few.fit : ∀ t : Ty, t.Few → t.Fit := by
  refine Ty.ind fun k ns ks l p s ih h => ?_
  cases h with
  | mk h1 h2 h4 h3 => exact .mk (by omega) (by omega) (fun s hs => Nat.le_trans (h4 s hs) (by unfold maxLen; omega)) fun t ht => ih t ht (h3 t ht)

attribute [local irreducible] AWp aops KP
theorem c_few13 : ∀ (t : Ty) (deep : Nat), deep ≤ 1000 → ∀ σ, ACalls Tryd.prog f_ingotlaw13_few [encT t, .int .i64 (deep : Int)] σ fun r σ' => r = .int .i64 (fewT deep t : Int) ∧ σ' = σ := by
  refine Ty.ind fun k ns ks l p s ih deep hd σ => ?_
  rw [encT_eq]
  refine acalls_enter rfl ingotlaw13_few_ok (Nat.le_of_ble_eq_true rfl) ?_
  refine aw_region ?_
  refine st_box rfl (AVal.fit_iff.1 rfl) fun b2 hb2 => ?_
  (repeat (refine st_q rfl rfl rfl ?_))
  (refine st_nil ?_; (repeat (first | refine kp_cons rfl ?_ | refine kp_skip ?_)); refine kp_nil ?_)
  refine awp_freezeP (d := 2) (cs := [.int .i64 k, .slc 1 (ns.map .str) false, .slc 6 (encTs ks) false, .int .i64 l, .int .i64 p, .int .i64 s]) rfl ?_
  generalize hX : fewT deep (.mk k ns ks l p s) = X
  rw [fewT] at hX
  by_cases h1 : 20 < deep
  · (repeat (first | refine st_q rfl rfl rfl ?_ | refine st_gy rfl (st_q rfl rfl rfl ?_) | refine st_ldp rfl hget_head rfl rfl ?_ | refine st_gy rfl (st_ldp rfl hget_head rfl rfl ?_) | refine st_b2s rfl rfl ?_ | refine st_gy rfl (st_b2s rfl rfl ?_) | refine st_gn rfl ?_ | refine st_gu rfl ?_ | (refine st_nil ?_; (repeat (first | refine kp_cons rfl ?_ | refine kp_skip ?_)); refine kp_nil ?_) | refine awp_seq ?_ | refine aw_end (fun _ _ => rfl) ?_ | refine awp_block ?_ | refine aw_skipE (fun _ _ => rfl) ?_ | refine aw_exitE (fun _ _ => rfl) ?_ | refine awp_cond (t := true) rfl (fun _ => ?_) (fun e => by cases e) | refine awp_cond (t := false) rfl (fun e => by cases e) (fun _ => ?_)))
    (rw [show decide ((20 : Int) < (deep : Int)) = true from decide_eq_true (by omega)])
    (repeat (first | refine st_q rfl rfl rfl ?_ | refine st_gy rfl (st_q rfl rfl rfl ?_) | refine st_ldp rfl hget_head rfl rfl ?_ | refine st_gy rfl (st_ldp rfl hget_head rfl rfl ?_) | refine st_b2s rfl rfl ?_ | refine st_gy rfl (st_b2s rfl rfl ?_) | refine st_gn rfl ?_ | refine st_gu rfl ?_ | (refine st_nil ?_; (repeat (first | refine kp_cons rfl ?_ | refine kp_skip ?_)); refine kp_nil ?_) | refine awp_seq ?_ | refine aw_end (fun _ _ => rfl) ?_ | refine awp_block ?_ | refine aw_skipE (fun _ _ => rfl) ?_ | refine aw_exitE (fun _ _ => rfl) ?_ | refine awp_cond (t := true) rfl (fun _ => ?_) (fun e => by cases e) | refine awp_cond (t := false) rfl (fun e => by cases e) (fun _ => ?_)))
    (refine awp_ret ?_; exact ares rfl (HSub.refl _) ⟨(by rw [← hX, if_pos (.inl h1)]; rfl), rfl⟩)
  (repeat (first | refine st_q rfl rfl rfl ?_ | refine st_gy rfl (st_q rfl rfl rfl ?_) | refine st_ldp rfl hget_head rfl rfl ?_ | refine st_gy rfl (st_ldp rfl hget_head rfl rfl ?_) | refine st_b2s rfl rfl ?_ | refine st_gy rfl (st_b2s rfl rfl ?_) | refine st_gn rfl ?_ | refine st_gu rfl ?_ | (refine st_nil ?_; (repeat (first | refine kp_cons rfl ?_ | refine kp_skip ?_)); refine kp_nil ?_) | refine awp_seq ?_ | refine aw_end (fun _ _ => rfl) ?_ | refine awp_block ?_ | refine aw_skipE (fun _ _ => rfl) ?_ | refine aw_exitE (fun _ _ => rfl) ?_ | refine awp_cond (t := true) rfl (fun _ => ?_) (fun e => by cases e) | refine awp_cond (t := false) rfl (fun e => by cases e) (fun _ => ?_)))
  (rw [show decide ((20 : Int) < (deep : Int)) = false from decide_eq_false (by omega)])
  (repeat (first | refine st_q rfl rfl rfl ?_ | refine st_gy rfl (st_q rfl rfl rfl ?_) | refine st_ldp rfl hget_head rfl rfl ?_ | refine st_gy rfl (st_ldp rfl hget_head rfl rfl ?_) | refine st_b2s rfl rfl ?_ | refine st_gy rfl (st_b2s rfl rfl ?_) | refine st_gn rfl ?_ | refine st_gu rfl ?_ | (refine st_nil ?_; (repeat (first | refine kp_cons rfl ?_ | refine kp_skip ?_)); refine kp_nil ?_) | refine awp_seq ?_ | refine aw_end (fun _ _ => rfl) ?_ | refine awp_block ?_ | refine aw_skipE (fun _ _ => rfl) ?_ | refine aw_exitE (fun _ _ => rfl) ?_ | refine awp_cond (t := true) rfl (fun _ => ?_) (fun e => by cases e) | refine awp_cond (t := false) rfl (fun e => by cases e) (fun _ => ?_)))
  rw [encTs_length]
  by_cases h2 : 300 < ks.length
  · (rw [show decide ((300 : Int) < (ks.length : Int)) = true from decide_eq_true (by omega)])
    (repeat (first | refine st_q rfl rfl rfl ?_ | refine st_gy rfl (st_q rfl rfl rfl ?_) | refine st_ldp rfl hget_head rfl rfl ?_ | refine st_gy rfl (st_ldp rfl hget_head rfl rfl ?_) | refine st_b2s rfl rfl ?_ | refine st_gy rfl (st_b2s rfl rfl ?_) | refine st_gn rfl ?_ | refine st_gu rfl ?_ | (refine st_nil ?_; (repeat (first | refine kp_cons rfl ?_ | refine kp_skip ?_)); refine kp_nil ?_) | refine awp_seq ?_ | refine aw_end (fun _ _ => rfl) ?_ | refine awp_block ?_ | refine aw_skipE (fun _ _ => rfl) ?_ | refine aw_exitE (fun _ _ => rfl) ?_ | refine awp_cond (t := true) rfl (fun _ => ?_) (fun e => by cases e) | refine awp_cond (t := false) rfl (fun e => by cases e) (fun _ => ?_)))
    (refine awp_ret ?_; exact ares rfl (HSub.refl _) ⟨(by rw [← hX, if_pos (.inr (.inl h2))]; rfl), rfl⟩)
  (rw [show decide ((300 : Int) < (ks.length : Int)) = false from decide_eq_false (by omega)])
  (repeat (first | refine st_q rfl rfl rfl ?_ | refine st_gy rfl (st_q rfl rfl rfl ?_) | refine st_ldp rfl hget_head rfl rfl ?_ | refine st_gy rfl (st_ldp rfl hget_head rfl rfl ?_) | refine st_b2s rfl rfl ?_ | refine st_gy rfl (st_b2s rfl rfl ?_) | refine st_gn rfl ?_ | refine st_gu rfl ?_ | (refine st_nil ?_; (repeat (first | refine kp_cons rfl ?_ | refine kp_skip ?_)); refine kp_nil ?_) | refine awp_seq ?_ | refine aw_end (fun _ _ => rfl) ?_ | refine awp_block ?_ | refine aw_skipE (fun _ _ => rfl) ?_ | refine aw_exitE (fun _ _ => rfl) ?_ | refine awp_cond (t := true) rfl (fun _ => ?_) (fun e => by cases e) | refine awp_cond (t := false) rfl (fun e => by cases e) (fun _ => ?_)))
  rw [List.length_map]
  by_cases h3 : 300 < ns.length
  · (rw [show decide ((300 : Int) < (ns.length : Int)) = true from decide_eq_true (by omega)])
    (repeat (first | refine st_q rfl rfl rfl ?_ | refine st_gy rfl (st_q rfl rfl rfl ?_) | refine st_ldp rfl hget_head rfl rfl ?_ | refine st_gy rfl (st_ldp rfl hget_head rfl rfl ?_) | refine st_b2s rfl rfl ?_ | refine st_gy rfl (st_b2s rfl rfl ?_) | refine st_gn rfl ?_ | refine st_gu rfl ?_ | (refine st_nil ?_; (repeat (first | refine kp_cons rfl ?_ | refine kp_skip ?_)); refine kp_nil ?_) | refine awp_seq ?_ | refine aw_end (fun _ _ => rfl) ?_ | refine awp_block ?_ | refine aw_skipE (fun _ _ => rfl) ?_ | refine aw_exitE (fun _ _ => rfl) ?_ | refine awp_cond (t := true) rfl (fun _ => ?_) (fun e => by cases e) | refine awp_cond (t := false) rfl (fun e => by cases e) (fun _ => ?_)))
    (refine awp_ret ?_; exact ares rfl (HSub.refl _) ⟨(by rw [← hX, if_pos (.inr (.inr h3))]; rfl), rfl⟩)
  (rw [show decide ((300 : Int) < (ns.length : Int)) = false from decide_eq_false (by omega)])
  (repeat (first | refine st_q rfl rfl rfl ?_ | refine st_gy rfl (st_q rfl rfl rfl ?_) | refine st_ldp rfl hget_head rfl rfl ?_ | refine st_gy rfl (st_ldp rfl hget_head rfl rfl ?_) | refine st_b2s rfl rfl ?_ | refine st_gy rfl (st_b2s rfl rfl ?_) | refine st_gn rfl ?_ | refine st_gu rfl ?_ | (refine st_nil ?_; (repeat (first | refine kp_cons rfl ?_ | refine kp_skip ?_)); refine kp_nil ?_) | refine awp_seq ?_ | refine aw_end (fun _ _ => rfl) ?_ | refine awp_block ?_ | refine aw_skipE (fun _ _ => rfl) ?_ | refine aw_exitE (fun _ _ => rfl) ?_ | refine awp_cond (t := true) rfl (fun _ => ?_) (fun e => by cases e) | refine awp_cond (t := false) rfl (fun e => by cases e) (fun _ => ?_)))
  rw [if_neg (by omega)] at hX
  refine awp_loopN (fun m F σ' => ∃ (j : Nat), F = fset 1 (some (.int .i64 (deep : Int))) (fset 2 (some (.iptr [.int .i64 k, .slc 1 (ns.map .str) false, .slc 6 (encTs ks) false, .int .i64 l, .int .i64 p, .int .i64 s])) (fset 5 (some (.int .i64 1)) (fset 6 (some (.int .i64 (j : Int))) fnone))) ∧
    σ = σ' ∧ j ≤ ns.length ∧ (ns.take j).any (fun s => decide (200 < s.length)) = false ∧ m = ns.length - j) (n := ns.length) ⟨0, rfl, rfl, by omega, by simp, rfl⟩ ?_
  rintro m F σ' ⟨j, rfl, rfl, hj, hno, rfl⟩
  (repeat (first | refine st_q rfl rfl rfl ?_ | refine st_gy rfl (st_q rfl rfl rfl ?_) | refine st_ldp rfl hget_head rfl rfl ?_ | refine st_gy rfl (st_ldp rfl hget_head rfl rfl ?_) | refine st_b2s rfl rfl ?_ | refine st_gy rfl (st_b2s rfl rfl ?_) | refine st_gn rfl ?_ | refine st_gu rfl ?_ | (refine st_nil ?_; (repeat (first | refine kp_cons rfl ?_ | refine kp_skip ?_)); refine kp_nil ?_) | refine awp_seq ?_ | refine aw_end (fun _ _ => rfl) ?_ | refine awp_block ?_ | refine aw_skipE (fun _ _ => rfl) ?_ | refine aw_exitE (fun _ _ => rfl) ?_ | refine awp_cond (t := true) rfl (fun _ => ?_) (fun e => by cases e) | refine awp_cond (t := false) rfl (fun e => by cases e) (fun _ => ?_)))
  rw [List.length_map]
  refine awp_condp (p := (j : Int) < (ns.length : Int)) rfl (fun h5 => ?_) (fun h5 => ?_)
  · have hjl : j < ns.length := by omega
    (repeat (first | refine st_q rfl rfl rfl ?_ | refine st_gy rfl (st_q rfl rfl rfl ?_) | refine st_ldp rfl hget_head rfl rfl ?_ | refine st_gy rfl (st_ldp rfl hget_head rfl rfl ?_) | refine st_b2s rfl rfl ?_ | refine st_gy rfl (st_b2s rfl rfl ?_) | refine st_gn rfl ?_ | refine st_gu rfl ?_ | (refine st_nil ?_; (repeat (first | refine kp_cons rfl ?_ | refine kp_skip ?_)); refine kp_nil ?_) | refine awp_seq ?_ | refine aw_end (fun _ _ => rfl) ?_ | refine awp_block ?_ | refine aw_skipE (fun _ _ => rfl) ?_ | refine aw_exitE (fun _ _ => rfl) ?_ | refine awp_cond (t := true) rfl (fun _ => ?_) (fun e => by cases e) | refine awp_cond (t := false) rfl (fun e => by cases e) (fun _ => ?_)))
    refine st_iad rfl (by omega) (map_get hjl) ?_
    (repeat (first | refine st_q rfl rfl rfl ?_ | refine st_gy rfl (st_q rfl rfl rfl ?_) | refine st_ldp rfl hget_head rfl rfl ?_ | refine st_gy rfl (st_ldp rfl hget_head rfl rfl ?_) | refine st_b2s rfl rfl ?_ | refine st_gy rfl (st_b2s rfl rfl ?_) | refine st_gn rfl ?_ | refine st_gu rfl ?_ | (refine st_nil ?_; (repeat (first | refine kp_cons rfl ?_ | refine kp_skip ?_)); refine kp_nil ?_) | refine awp_seq ?_ | refine aw_end (fun _ _ => rfl) ?_ | refine awp_block ?_ | refine aw_skipE (fun _ _ => rfl) ?_ | refine aw_exitE (fun _ _ => rfl) ?_ | refine awp_cond (t := true) rfl (fun _ => ?_) (fun e => by cases e) | refine awp_cond (t := false) rfl (fun e => by cases e) (fun _ => ?_)))
    by_cases h6 : 200 < (ns[j]).length
    · (rw [show decide ((200 : Int) < ((ns[j]).length : Int)) = true from decide_eq_true (by omega)])
      (repeat (first | refine st_q rfl rfl rfl ?_ | refine st_gy rfl (st_q rfl rfl rfl ?_) | refine st_ldp rfl hget_head rfl rfl ?_ | refine st_gy rfl (st_ldp rfl hget_head rfl rfl ?_) | refine st_b2s rfl rfl ?_ | refine st_gy rfl (st_b2s rfl rfl ?_) | refine st_gn rfl ?_ | refine st_gu rfl ?_ | (refine st_nil ?_; (repeat (first | refine kp_cons rfl ?_ | refine kp_skip ?_)); refine kp_nil ?_) | refine awp_seq ?_ | refine aw_end (fun _ _ => rfl) ?_ | refine awp_block ?_ | refine aw_skipE (fun _ _ => rfl) ?_ | refine aw_exitE (fun _ _ => rfl) ?_ | refine awp_cond (t := true) rfl (fun _ => ?_) (fun e => by cases e) | refine awp_cond (t := false) rfl (fun e => by cases e) (fun _ => ?_)))
      refine awp_ret ?_
      refine ares rfl (HSub.refl _) ⟨?_, rfl⟩
      have : ns.any (fun s => decide (200 < s.length)) = true := List.any_eq_true.2 ⟨ns[j], List.getElem_mem hjl, decide_eq_true h6⟩
      rw [← hX, if_pos this]; rfl
    · (rw [show decide ((200 : Int) < ((ns[j]).length : Int)) = false from decide_eq_false (by omega)])
      (repeat (first | refine st_q rfl rfl rfl ?_ | refine st_gy rfl (st_q rfl rfl rfl ?_) | refine st_ldp rfl hget_head rfl rfl ?_ | refine st_gy rfl (st_ldp rfl hget_head rfl rfl ?_) | refine st_b2s rfl rfl ?_ | refine st_gy rfl (st_b2s rfl rfl ?_) | refine st_gn rfl ?_ | refine st_gu rfl ?_ | (refine st_nil ?_; (repeat (first | refine kp_cons rfl ?_ | refine kp_skip ?_)); refine kp_nil ?_) | refine awp_seq ?_ | refine aw_end (fun _ _ => rfl) ?_ | refine awp_block ?_ | refine aw_skipE (fun _ _ => rfl) ?_ | refine aw_exitE (fun _ _ => rfl) ?_ | refine awp_cond (t := true) rfl (fun _ => ?_) (fun e => by cases e) | refine awp_cond (t := false) rfl (fun e => by cases e) (fun _ => ?_)))
      refine aw_round ?_
      (repeat (refine st_q rfl rfl rfl ?_))
      rw [show IntKind.wrap .i64 ((j : Int) + 1) = ((j + 1 : Nat) : Int) by rw [w64 _ (by omega) (by omega)]; omega]
      (refine st_nil ?_; (repeat (first | refine kp_cons rfl ?_ | refine kp_skip ?_)); refine kp_nil ?_)
      refine ⟨_, ns.length - (j + 1), HSub.refl _, ⟨j + 1, rfl, rfl, by omega, ?_, rfl⟩, by omega⟩
      rw [← List.take_append_getElem hjl, List.any_append, hno]
      simp; omega
  · rw [show ns.take j = ns from List.take_of_length_le (by omega)] at hno
    rw [if_neg (by rw [hno]; simp)] at hX
    (repeat (first | refine st_q rfl rfl rfl ?_ | refine st_gy rfl (st_q rfl rfl rfl ?_) | refine st_ldp rfl hget_head rfl rfl ?_ | refine st_gy rfl (st_ldp rfl hget_head rfl rfl ?_) | refine st_b2s rfl rfl ?_ | refine st_gy rfl (st_b2s rfl rfl ?_) | refine st_gn rfl ?_ | refine st_gu rfl ?_ | (refine st_nil ?_; (repeat (first | refine kp_cons rfl ?_ | refine kp_skip ?_)); refine kp_nil ?_) | refine awp_seq ?_ | refine aw_end (fun _ _ => rfl) ?_ | refine awp_block ?_ | refine aw_skipE (fun _ _ => rfl) ?_ | refine aw_exitE (fun _ _ => rfl) ?_ | refine awp_cond (t := true) rfl (fun _ => ?_) (fun e => by cases e) | refine awp_cond (t := false) rfl (fun e => by cases e) (fun _ => ?_)))
    refine awp_loopN (fun m F σ' => ∃ (j n : Nat), F = fset 1 (some (.int .i64 (deep : Int))) (fset 2 (some (.iptr [.int .i64 k, .slc 1 (ns.map .str) false, .slc 6 (encTs ks) false, .int .i64 l, .int .i64 p, .int .i64 s])) (fset 5 (some (.int .i64 (n : Int))) (fset 7 (some (.int .i64 (j : Int))) fnone))) ∧
      σ = σ' ∧ j ≤ ks.length ∧ n ≤ 1000 ∧ fewTL (deep + 1) n (ks.drop j) = X ∧ m = ks.length - j) (n := ks.length) ⟨0, 1, rfl, rfl, by omega, by omega, hX, rfl⟩ ?_
    rintro m F σ' ⟨j, n, rfl, rfl, hj, hn, hXj, rfl⟩
    (repeat (first | refine st_q rfl rfl rfl ?_ | refine st_gy rfl (st_q rfl rfl rfl ?_) | refine st_ldp rfl hget_head rfl rfl ?_ | refine st_gy rfl (st_ldp rfl hget_head rfl rfl ?_) | refine st_b2s rfl rfl ?_ | refine st_gy rfl (st_b2s rfl rfl ?_) | refine st_gn rfl ?_ | refine st_gu rfl ?_ | (refine st_nil ?_; (repeat (first | refine kp_cons rfl ?_ | refine kp_skip ?_)); refine kp_nil ?_) | refine awp_seq ?_ | refine aw_end (fun _ _ => rfl) ?_ | refine awp_block ?_ | refine aw_skipE (fun _ _ => rfl) ?_ | refine aw_exitE (fun _ _ => rfl) ?_ | refine awp_cond (t := true) rfl (fun _ => ?_) (fun e => by cases e) | refine awp_cond (t := false) rfl (fun e => by cases e) (fun _ => ?_)))
    rw [encTs_length]
    refine awp_condp (p := (j : Int) < (ks.length : Int)) rfl (fun h5 => ?_) (fun h5 => ?_)
    · have hjl : j < ks.length := by omega
      have h1 : (encTs ks)[((j : Nat) : Int).toNat]? = some (.agg (cellsT ks[j])) := by rw [← encT_eq]; exact encTs_get (by rw [Int.toNat_natCast, List.getElem?_eq_getElem hjl])
      have hc := ih ks[j] (List.getElem_mem hjl) (deep + 1) (by omega)
      rw [encT_eq] at hc
      have hle := fewT_le ks[j] (deep + 1)
      rw [List.drop_eq_getElem_cons hjl, fewTL] at hXj
      generalize fewT (deep + 1) ks[j] = q at hc hle hXj
      (repeat (first | refine st_q rfl rfl rfl ?_ | refine st_gy rfl (st_q rfl rfl rfl ?_) | refine st_ldp rfl hget_head rfl rfl ?_ | refine st_gy rfl (st_ldp rfl hget_head rfl rfl ?_) | refine st_b2s rfl rfl ?_ | refine st_gy rfl (st_b2s rfl rfl ?_) | refine st_gn rfl ?_ | refine st_gu rfl ?_ | (refine st_nil ?_; (repeat (first | refine kp_cons rfl ?_ | refine kp_skip ?_)); refine kp_nil ?_) | refine awp_seq ?_ | refine aw_end (fun _ _ => rfl) ?_ | refine awp_block ?_ | refine aw_skipE (fun _ _ => rfl) ?_ | refine aw_exitE (fun _ _ => rfl) ?_ | refine awp_cond (t := true) rfl (fun _ => ?_) (fun e => by cases e) | refine awp_cond (t := false) rfl (fun e => by cases e) (fun _ => ?_)))
      refine st_iad rfl (by omega) h1 ?_
      (repeat (first | refine st_q rfl rfl rfl ?_ | refine st_gy rfl (st_q rfl rfl rfl ?_) | refine st_ldp rfl hget_head rfl rfl ?_ | refine st_gy rfl (st_ldp rfl hget_head rfl rfl ?_) | refine st_b2s rfl rfl ?_ | refine st_gy rfl (st_b2s rfl rfl ?_) | refine st_gn rfl ?_ | refine st_gu rfl ?_ | (refine st_nil ?_; (repeat (first | refine kp_cons rfl ?_ | refine kp_skip ?_)); refine kp_nil ?_) | refine awp_seq ?_ | refine aw_end (fun _ _ => rfl) ?_ | refine awp_block ?_ | refine aw_skipE (fun _ _ => rfl) ?_ | refine aw_exitE (fun _ _ => rfl) ?_ | refine awp_cond (t := true) rfl (fun _ => ?_) (fun e => by cases e) | refine awp_cond (t := false) rfl (fun e => by cases e) (fun _ => ?_)))
      rw [show IntKind.wrap .i64 ((deep : Int) + 1) = ((deep + 1 : Nat) : Int) by rw [w64 _ (by omega) (by omega)]; omega]
      (first | refine st_callv rfl (hc _) ?_ | refine st_gy rfl (st_callv rfl (hc _) ?_) | refine st_callp rfl hc ?_ | refine st_gy rfl (st_callp rfl hc ?_))
      (repeat (first | refine st_q rfl rfl rfl ?_ | refine st_gy rfl (st_q rfl rfl rfl ?_) | refine st_ldp rfl hget_head rfl rfl ?_ | refine st_gy rfl (st_ldp rfl hget_head rfl rfl ?_) | refine st_b2s rfl rfl ?_ | refine st_gy rfl (st_b2s rfl rfl ?_) | refine st_gn rfl ?_ | refine st_gu rfl ?_ | (refine st_nil ?_; (repeat (first | refine kp_cons rfl ?_ | refine kp_skip ?_)); refine kp_nil ?_) | refine awp_seq ?_ | refine aw_end (fun _ _ => rfl) ?_ | refine awp_block ?_ | refine aw_skipE (fun _ _ => rfl) ?_ | refine aw_exitE (fun _ _ => rfl) ?_ | refine awp_cond (t := true) rfl (fun _ => ?_) (fun e => by cases e) | refine awp_cond (t := false) rfl (fun e => by cases e) (fun _ => ?_)))
      rw [show IntKind.wrap .i64 ((n : Int) + (q : Int)) = ((n + q : Nat) : Int) by rw [w64 _ (by omega) (by omega)]; omega]
      by_cases h7 : 1000 < n + q
      · (rw [show decide ((1000 : Int) < ((n + q : Nat) : Int)) = true from decide_eq_true (by omega)])
        (repeat (first | refine st_q rfl rfl rfl ?_ | refine st_gy rfl (st_q rfl rfl rfl ?_) | refine st_ldp rfl hget_head rfl rfl ?_ | refine st_gy rfl (st_ldp rfl hget_head rfl rfl ?_) | refine st_b2s rfl rfl ?_ | refine st_gy rfl (st_b2s rfl rfl ?_) | refine st_gn rfl ?_ | refine st_gu rfl ?_ | (refine st_nil ?_; (repeat (first | refine kp_cons rfl ?_ | refine kp_skip ?_)); refine kp_nil ?_) | refine awp_seq ?_ | refine aw_end (fun _ _ => rfl) ?_ | refine awp_block ?_ | refine aw_skipE (fun _ _ => rfl) ?_ | refine aw_exitE (fun _ _ => rfl) ?_ | refine awp_cond (t := true) rfl (fun _ => ?_) (fun e => by cases e) | refine awp_cond (t := false) rfl (fun e => by cases e) (fun _ => ?_)))
        (refine awp_ret ?_; exact ares rfl (HSub.refl _) ⟨(by rw [← hXj, if_pos h7]; rfl), rfl⟩)
      · (rw [show decide ((1000 : Int) < ((n + q : Nat) : Int)) = false from decide_eq_false (by omega)])
        rw [if_neg h7] at hXj
        (repeat (first | refine st_q rfl rfl rfl ?_ | refine st_gy rfl (st_q rfl rfl rfl ?_) | refine st_ldp rfl hget_head rfl rfl ?_ | refine st_gy rfl (st_ldp rfl hget_head rfl rfl ?_) | refine st_b2s rfl rfl ?_ | refine st_gy rfl (st_b2s rfl rfl ?_) | refine st_gn rfl ?_ | refine st_gu rfl ?_ | (refine st_nil ?_; (repeat (first | refine kp_cons rfl ?_ | refine kp_skip ?_)); refine kp_nil ?_) | refine awp_seq ?_ | refine aw_end (fun _ _ => rfl) ?_ | refine awp_block ?_ | refine aw_skipE (fun _ _ => rfl) ?_ | refine aw_exitE (fun _ _ => rfl) ?_ | refine awp_cond (t := true) rfl (fun _ => ?_) (fun e => by cases e) | refine awp_cond (t := false) rfl (fun e => by cases e) (fun _ => ?_)))
        refine aw_round ?_
        (repeat (refine st_q rfl rfl rfl ?_))
        rw [show IntKind.wrap .i64 ((j : Int) + 1) = ((j + 1 : Nat) : Int) by rw [w64 _ (by omega) (by omega)]; omega]
        (refine st_nil ?_; (repeat (first | refine kp_cons rfl ?_ | refine kp_skip ?_)); refine kp_nil ?_)
        exact ⟨_, ks.length - (j + 1), HSub.refl _, ⟨j + 1, n + q, rfl, rfl, by omega, by omega, hXj, rfl⟩, by omega⟩
    · rw [List.drop_of_length_le (by omega), fewTL] at hXj
      subst hXj
      (repeat (first | refine st_q rfl rfl rfl ?_ | refine st_gy rfl (st_q rfl rfl rfl ?_) | refine st_ldp rfl hget_head rfl rfl ?_ | refine st_gy rfl (st_ldp rfl hget_head rfl rfl ?_) | refine st_b2s rfl rfl ?_ | refine st_gy rfl (st_b2s rfl rfl ?_) | refine st_gn rfl ?_ | refine st_gu rfl ?_ | (refine st_nil ?_; (repeat (first | refine kp_cons rfl ?_ | refine kp_skip ?_)); refine kp_nil ?_) | refine awp_seq ?_ | refine aw_end (fun _ _ => rfl) ?_ | refine awp_block ?_ | refine aw_skipE (fun _ _ => rfl) ?_ | refine aw_exitE (fun _ _ => rfl) ?_ | refine awp_cond (t := true) rfl (fun _ => ?_) (fun e => by cases e) | refine awp_cond (t := false) rfl (fun e => by cases e) (fun _ => ?_)))
      (refine awp_ret ?_; exact ares rfl (HSub.refl _) ⟨rfl, rfl⟩)

theorem c_Few13 (t : Ty) (σ : AHeap) : ACalls Tryd.prog f_ingotlaw13_Few [encT t] σ fun r σ' => r = .bool (decide (fewT 1 t ≤ 150)) ∧ σ' = σ := by
  have hc := c_few13 t 1 (by omega)
  rw [encT_eq] at hc ⊢
  refine acalls_enter rfl ingotlaw13_Few_ok (Nat.le_of_ble_eq_true rfl) ?_
  refine aw_region ?_
  refine st_box rfl (AVal.fit_iff.1 rfl) fun b2 hb2 => ?_
  (repeat (refine st_q rfl rfl rfl ?_))
  (refine st_nil ?_; (repeat (first | refine kp_cons rfl ?_ | refine kp_skip ?_)); refine kp_nil ?_)
  refine awp_freezeP (d := 1) (cs := cellsT t) rfl ?_
  (repeat (first | refine st_q rfl rfl rfl ?_ | refine st_gy rfl (st_q rfl rfl rfl ?_) | refine st_ldp rfl hget_head rfl rfl ?_ | refine st_gy rfl (st_ldp rfl hget_head rfl rfl ?_) | refine st_b2s rfl rfl ?_ | refine st_gy rfl (st_b2s rfl rfl ?_) | refine st_gn rfl ?_ | refine st_gu rfl ?_ | (refine st_nil ?_; (repeat (first | refine kp_cons rfl ?_ | refine kp_skip ?_)); refine kp_nil ?_) | refine awp_seq ?_ | refine aw_end (fun _ _ => rfl) ?_ | refine awp_block ?_ | refine aw_skipE (fun _ _ => rfl) ?_ | refine aw_exitE (fun _ _ => rfl) ?_ | refine awp_cond (t := true) rfl (fun _ => ?_) (fun e => by cases e) | refine awp_cond (t := false) rfl (fun e => by cases e) (fun _ => ?_)))
  (first | refine st_callv rfl (hc _) ?_ | refine st_gy rfl (st_callv rfl (hc _) ?_) | refine st_callp rfl hc ?_ | refine st_gy rfl (st_callp rfl hc ?_))
  (repeat (first | refine st_q rfl rfl rfl ?_ | refine st_gy rfl (st_q rfl rfl rfl ?_) | refine st_ldp rfl hget_head rfl rfl ?_ | refine st_gy rfl (st_ldp rfl hget_head rfl rfl ?_) | refine st_b2s rfl rfl ?_ | refine st_gy rfl (st_b2s rfl rfl ?_) | refine st_gn rfl ?_ | refine st_gu rfl ?_ | (refine st_nil ?_; (repeat (first | refine kp_cons rfl ?_ | refine kp_skip ?_)); refine kp_nil ?_) | refine awp_seq ?_ | refine aw_end (fun _ _ => rfl) ?_ | refine awp_block ?_ | refine aw_skipE (fun _ _ => rfl) ?_ | refine aw_exitE (fun _ _ => rfl) ?_ | refine awp_cond (t := true) rfl (fun _ => ?_) (fun e => by cases e) | refine awp_cond (t := false) rfl (fun e => by cases e) (fun _ => ?_)))
  refine awp_ret ?_
  refine ares rfl (HSub.refl _) ⟨?_, rfl⟩
  simp only [tupOf, AVal.bool.injEq, decide_eq_decide]
  omega

end Go.Abs
