/- Contracts: a block written. -/
import Derived.Test.YtjlidaopbpefpaaLz9
namespace Go.Abs
open Go Go.Proofs Go.Abs.Lz
set_option linter.unusedVariables false
set_option linter.unusedSimpArgs false

theorem findF_length (bs : List UInt8) (t : List Int) (from_ at_ : Nat) (out : List UInt8) : from_ ≤ at_ → at_ ≤ bs.length → (∀ (i : Nat) (x : Int), t[i]? = some x → x < at_) → out.length ≤ 2 * from_ → (findF bs t from_ at_ out).length ≤ 5 + 3 * bs.length := by
  fun_induction findF bs t from_ at_ out
  · rename_i t from_ at_ out h h2 ih
    intro h3 h4 h5 h6
    refine ih (by omega) (by omega) ?_ h6
    intro i x hx
    rw [List.getElem?_set] at hx
    split at hx
    · split at hx
      · cases hx; omega
      · cases hx
    · have := h5 i x hx; omega
  · rename_i t from_ at_ out h h2 ih
    intro h3 h4 h5 h6
    have hr := runF_ge bs (t.getD (hashF (bs.drop at_)) 0).toNat at_ 4
    have hle : at_ + runF bs (t.getD (hashF (bs.drop at_)) 0).toNat at_ 4 ≤ bs.length := by
      have : ∀ n, at_ + n ≤ bs.length → at_ + runF bs (t.getD (hashF (bs.drop at_)) 0).toNat at_ n ≤ bs.length := by
        intro n
        fun_induction runF bs (t.getD (hashF (bs.drop at_)) 0).toNat at_ n <;> intro hh <;> first | omega | (rename_i ih; exact ih (by omega))
      exact this 4 h
    refine ih (by omega) hle ?_ ?_
    · intro i x hx
      rw [List.getElem?_set] at hx
      split at hx
      · split at hx
        · cases hx; omega
        · cases hx
      · have := h5 i x hx; omega
    · have hpl := putF_length ((bs.drop from_).take (at_ - from_)) (at_ - (t.getD (hashF (bs.drop at_)) 0).toNat) (runF bs (t.getD (hashF (bs.drop at_)) 0).toNat at_ 4)
      have hll : ((bs.drop from_).take (at_ - from_)).length = at_ - from_ := by rw [List.length_take, List.length_drop]; omega
      rw [hll] at hpl
      rw [List.length_append]
      omega
  · rename_i t from_ at_ out h
    intro h3 h4 h5 h6
    have hpl := putF_length (bs.drop from_) 0 0
    rw [List.length_drop] at hpl
    rw [List.length_append]
    omega

theorem c_Pack {σ : AHeap} {bs : List UInt8} {f : Bool} (hb : bs.length ≤ 140737488355328) : ACalls Try.prog f_lz4_Pack [.slc 1 (bytes bs) f] σ fun r σ' => r = .slc 1 (bytes (packF bs)) true ∧ σ' = σ := by
  refine acalls_enter rfl lz4_Pack_ok (Nat.le_of_ble_eq_true rfl) ?_
  refine aw_region ?_
  (repeat (refine st_q rfl rfl rfl ?_))
  (refine st_nil ?_; (repeat (first | refine kp_cons rfl ?_ | refine kp_skip ?_)); refine kp_nil ?_)
  refine aw_assoc ?_
  refine aw_reg ?_
  (repeat (refine st_q rfl rfl rfl ?_))
  (refine st_nil ?_; (repeat (first | refine kp_cons rfl ?_ | refine kp_skip ?_)); refine kp_nil ?_)
  refine awp_condp (p := (1048576 : Int) < ((bytes bs).length : Int)) rfl (fun h => ?_) (fun h => ?_)
  all_goals rw [bytes_length] at h
  · refine aw_region ?_
    (repeat (refine st_q rfl rfl rfl ?_))
    (refine st_nil ?_; (repeat (first | refine kp_cons rfl ?_ | refine kp_skip ?_)); refine kp_nil ?_)
    refine awp_ret ?_
    have e : packF bs = [] := by rw [packF, if_pos (by omega)]
    rw [e]
    exact ares_v rfl (VRle.nil_slc 0 1 true) (HSub.refl _) ⟨rfl, rfl⟩
  refine aw_skip ?_
  have e : packF bs = if (putF bs 0 0).length < (findF bs (List.replicate 4096 (-1)) 0 0 []).length then putF bs 0 0 else findF bs (List.replicate 4096 (-1)) 0 0 [] := by rw [packF, if_neg (by omega)]
  rw [e]
  have hfl : (findF bs (List.replicate 4096 (-1)) 0 0 []).length ≤ 5 + 3 * bs.length := by
    refine findF_length bs _ 0 0 [] (by omega) (by omega) ?_ (by simp)
    intro i x h
    have := List.eq_of_mem_replicate (List.mem_of_getElem? h)
    omega
  refine aw_region ?_
  refine st_call (C := fun r σ' => ∃ b, b ∉ keys σ ∧ r = .arr 1 b 0 4096 ∧ σ' = (b, .cells 1 (ints (List.replicate 4096 (-1)))) :: σ) rfl (c_table σ) ?_ ?_
  · have : ∃ b, b ∉ keys σ := ⟨(keys σ).foldr (fun a b => max (a + 1) b) 0, by
      have : ∀ (l : List Nat) (x : Nat), x ∈ l → x < l.foldr (fun a b => max (a + 1) b) 0 := by
        intro l
        induction l with
        | nil => intro x h; cases h
        | cons a l ih =>
          intro x h
          simp only [List.foldr_cons]
          rcases List.mem_cons.1 h with rfl | h
          · omega
          · have := ih x h; omega
      exact fun h => absurd (this _ _ h) (by omega)⟩
    obtain ⟨b, hb⟩ := this
    exact ⟨_, _, b, hb, rfl, rfl⟩
  rintro _ _ ⟨b, hbk, rfl, rfl⟩
  (repeat (refine st_q rfl rfl rfl ?_))
  refine st_call rfl (c_find (by omega)) ?_ ?_
  · obtain ⟨gv, gβ, hgr⟩ := Grow.ex (findF bs (List.replicate 4096 (-1)) 0 0 [])
    exact ⟨_, _, gβ, hgr, rfl⟩
  generalize findF bs (List.replicate 4096 (-1)) 0 0 [] = X at *
  rintro r _ ⟨β, ho, rfl⟩
  (repeat (refine st_q rfl rfl rfl ?_))
  (refine st_nil ?_; (repeat (first | refine kp_cons rfl ?_ | refine kp_skip ?_)); refine kp_nil ?_)
  refine aw_assoc ?_
  refine aw_reg ?_
  (repeat (refine st_q rfl rfl rfl ?_))
  refine st_call rfl (ACalls.args (VRle.refl _) (c_put (β := []) (τ := β ++ σ) (back := 0) (n := 0) (Grow.nil 0) (.inl rfl) (by omega) (by simp; omega))) ?_ ?_
  · obtain ⟨gv, gβ, hgr⟩ := Grow.ex ([] ++ putF bs 0 0)
    exact ⟨_, _, gβ, hgr, rfl⟩
  rw [List.nil_append]
  have hpl := putF_length bs 0 0
  generalize putF bs 0 0 = Y at *
  rintro r2 _ ⟨β2, ho2, rfl⟩
  (repeat (refine st_q rfl rfl rfl ?_))
  (refine st_nil ?_; (repeat (first | refine kp_cons rfl ?_ | refine kp_skip ?_)); refine kp_nil ?_)
  refine aw_seq ?_
  refine aw_reg ?_
  refine st_q rfl rfl rfl ?_
  refine st_lens rfl ho2.lens ?_
  refine st_q rfl rfl rfl ?_
  refine st_lens rfl ho.lens ?_
  (repeat (refine st_q rfl rfl rfl ?_))
  (refine st_nil ?_; (repeat (first | refine kp_cons rfl ?_ | refine kp_skip ?_)); refine kp_nil ?_)
  refine awp_condp (p := (Y.length : Int) < (X.length : Int)) rfl (fun h2 => ?_) (fun h2 => ?_)
  · refine aw_reg ?_
    (repeat (refine st_q rfl rfl rfl ?_))
    (refine st_nil ?_; (repeat (first | refine kp_cons rfl ?_ | refine kp_skip ?_)); refine kp_nil ?_)
    refine aw_region ?_
    (repeat (refine st_q rfl rfl rfl ?_))
    refine st_call rfl (ho2.clip) ⟨_, _, rfl, rfl⟩ ?_
    rintro _ _ ⟨rfl, rfl⟩
    (repeat (refine st_q rfl rfl rfl ?_))
    (refine st_nil ?_; (repeat (first | refine kp_cons rfl ?_ | refine kp_skip ?_)); refine kp_nil ?_)
    refine awp_ret ?_
    rw [if_pos (by omega)]
    exact ares rfl (HSub.of_sublist (List.sublist_append_right _ _)) ⟨rfl, rfl⟩
  · refine aw_skip ?_
    refine kp_weaken (keep := [3]) ?_
    ((repeat (first | refine kp_cons rfl ?_ | refine kp_skip ?_)); refine kp_nil ?_)
    have hsub : HSub (β ++ σ) (β2 ++ (β ++ σ)) := HSub.of_sublist (List.sublist_append_right _ _)
    refine awp_weaken (FSub.refl _) hsub ?_
    refine aw_region ?_
    (repeat (refine st_q rfl rfl rfl ?_))
    refine st_call rfl (ho.clip) ⟨_, _, rfl, rfl⟩ ?_
    rintro _ _ ⟨rfl, rfl⟩
    (repeat (refine st_q rfl rfl rfl ?_))
    (refine st_nil ?_; (repeat (first | refine kp_cons rfl ?_ | refine kp_skip ?_)); refine kp_nil ?_)
    refine awp_ret ?_
    rw [if_neg (by omega)]
    exact ares rfl (HSub.refl _) ⟨rfl, rfl⟩
end Go.Abs
