/- Contracts: a block read. -/
import Derived.Test.YtjlidaopbpefpaaLz3
namespace Go.Abs
open Go Go.Proofs Go.Abs.Lz
set_option linter.unusedVariables false
set_option linter.unusedSimpArgs false

theorem seqF_suffix {most : Nat} {l out r o : List UInt8} (h : seqF most l out = .go r o) : ∃ k, k ≤ l.length ∧ l.drop k = r := by
  unfold seqF at h
  split at h
  · cases h
  · rename_i t l1
    split at h
    · cases h
    · rename_i n l2 e2
      obtain ⟨k2, hk2, rfl⟩ := lenN_suffix e2
      split at h
      · cases h
      · split at h
        · cases h
        · split at h
          · cases h
          · cases h
          · rename_i a b l4 e4
            split at h
            · cases h
            · rename_i m l5 e5
              obtain ⟨k5, hk5, rfl⟩ := lenN_suffix e5
              split at h
              · cases h
              · split at h
                · cases h
                · cases h
                  rw [List.drop_drop] at e4
                  have h1 := congrArg List.length e4
                  simp only [List.length_drop, List.length_cons] at h1
                  have h2 := congrArg (List.drop (2 + k5)) e4
                  rw [List.drop_drop] at h2
                  have h3 : (a :: b :: l4).drop (2 + k5) = l4.drop k5 := by rw [← List.drop_drop]; rfl
                  rw [h3] at h2
                  refine ⟨k2 + n + (2 + k5) + 1, by simp only [List.length_cons]; omega, ?_⟩
                  rw [List.drop_succ_cons, h2]
theorem seqF_err_pos {most e : Nat} {l out : List UInt8} (h : seqF most l out = .err e) : e ≠ 0 := by
  unfold seqF at h
  split at h
  · cases h; decide
  · split at h
    · cases h; decide
    · split at h
      · cases h; decide
      · split at h
        · cases h; decide
        · split at h
          · cases h
          · cases h; decide
          · split at h
            · cases h; decide
            · split at h
              · cases h; decide
              · split at h <;> cases h
                decide

/-! ### A block -/

theorem Grow.ex (xs : List UInt8) : ∃ v β, Grow v xs β := ⟨.arr 1 0 0 xs.length, _, .inr ⟨0, rfl, rfl⟩⟩

theorem Grow.clip {v : AVal} {xs : List UInt8} {β τ : AHeap} (ho : Grow v xs β) : ACalls Try.prog f_slices_Clip_byte_byte [v] (β ++ τ) fun r σ' => r = .slc 1 (bytes xs) true ∧ σ' = τ := by
  refine acalls_enter rfl slices_Clip_byte_byte_ok (Nat.le_of_ble_eq_true rfl) ?_
  refine aw_region ?_
  (repeat (refine st_q rfl rfl rfl ?_))
  (refine st_nil ?_; (repeat (first | refine kp_cons rfl ?_ | refine kp_skip ?_)); refine kp_nil ?_)
  refine aw_region ?_
  refine st_q rfl rfl rfl ?_
  refine st_q rfl rfl rfl ?_
  refine st_lens rfl ho.lens ?_
  refine st_q rfl rfl rfl ?_
  refine st_lens rfl ho.lens ?_
  rcases ho with ⟨⟨z, rfl⟩, rfl, rfl⟩ | ⟨b, rfl, rfl⟩
  · refine st_any rfl (?_ : astep _ (.clip 1) _ _ _)
    refine ⟨.slc z [] true, by simp [asub, bnds], ?_⟩
    show aops _ _ (fset 8 _ _) _ _
    (repeat (refine st_q rfl rfl rfl ?_))
    (refine st_nil ?_; (repeat (first | refine kp_cons rfl ?_ | refine kp_skip ?_)); refine kp_nil ?_)
    refine awp_ret ?_
    exact ares_v rfl (VRle.nil_slc z 1 true) (HSub.refl _) ⟨rfl, rfl⟩
  · refine st_clip rfl hget_head (by rw [bytes_length]; omega) (by omega) (by omega) hdel_head ?_
    have e : ((bytes xs).drop 0).take ((xs.length : Int).toNat) = bytes xs := by
      rw [List.drop_zero]; exact List.take_of_length_le (by rw [bytes_length]; exact Nat.le_refl _)
    rw [e]
    (repeat (refine st_q rfl rfl rfl ?_))
    (refine st_nil ?_; (repeat (first | refine kp_cons rfl ?_ | refine kp_skip ?_)); refine kp_nil ?_)
    refine awp_ret ?_
    exact ares rfl (HSub.refl _) ⟨rfl, rfl⟩

theorem c_Unpack (σ : AHeap) {bs : List UInt8} {f : Bool} {most : Int} (hb : bs.length ≤ 140737488355328) :
    ACalls Try.prog f_lz4_Unpack [.slc 1 (bytes bs) f, .int .i64 most] σ fun r σ' => r = .tup [.slc 1 (bytes (unpack most bs).2) true, .int .i64 (unpack most bs).1] ∧ σ' = σ := by
  refine acalls_enter rfl lz4_Unpack_ok (Nat.le_of_ble_eq_true rfl) ?_
  refine aw_region ?_
  (repeat (refine st_q rfl rfl rfl ?_))
  (refine st_nil ?_; (repeat (first | refine kp_cons rfl ?_ | refine kp_skip ?_)); refine kp_nil ?_)
  refine aw_assoc ?_
  refine aw_reg ?_
  (repeat (refine st_q rfl rfl rfl ?_))
  have hnil : ∀ e : Nat, VRle [.tup [.slc 0 [] true, .int .i64 e]] [.tup [.slc 1 (bytes []) true, .int .i64 e]] := fun e => VRle.tup (VRle.cons (VRle.nil_slc 0 1 true) (VRle.refl _))
  by_cases h1 : most < 0 ∨ 1048576 < most
  · have hu : unpack most bs = (1, []) := by rw [unpack, if_pos h1]
    have hcode : ∀ F, AWp Try.prog lz4_Unpack.n (.seq (.region lz4_Unpack_r2 [4, 5]) .ret) (AThen Try.prog lz4_Unpack.n (lz4_Unpack.code.snd 2) (ARet lz4_Unpack.res fun r σ' => r = .tup [.slc 1 (bytes (unpack most bs).2) true, .int .i64 (unpack most bs).1] ∧ σ' = σ)) F σ := fun F => by
      refine aw_region ?_
      (repeat (refine st_q rfl rfl rfl ?_))
      (refine st_nil ?_; (repeat (first | refine kp_cons rfl ?_ | refine kp_skip ?_)); refine kp_nil ?_)
      refine awp_ret ?_
      rw [hu]
      exact ares_v rfl (hnil 1) (HSub.refl _) ⟨rfl, rfl⟩
    by_cases h2 : most < 0
    · have hd : decide (most < 0) = true := decide_eq_true h2
      rw [hd]
      (repeat (refine st_gn rfl ?_))
      (repeat (refine st_q rfl rfl rfl ?_))
      (refine st_nil ?_; (repeat (first | refine kp_cons rfl ?_ | refine kp_skip ?_)); refine kp_nil ?_)
      exact awp_cond rfl (fun _ => hcode _) (fun e => by cases e)
    · have hd : decide (most < 0) = false := decide_eq_false h2
      rw [hd]
      (repeat (refine st_gy rfl (st_q rfl rfl rfl ?_)))
      (repeat (refine st_q rfl rfl rfl ?_))
      (refine st_nil ?_; (repeat (first | refine kp_cons rfl ?_ | refine kp_skip ?_)); refine kp_nil ?_)
      exact awp_condp (p := 1048576 < most) rfl (fun _ => hcode _) (fun e => absurd h1 (by omega))
  have hd : decide (most < 0) = false := decide_eq_false (by omega)
  rw [hd]
  (repeat (refine st_gy rfl (st_q rfl rfl rfl ?_)))
  (repeat (refine st_q rfl rfl rfl ?_))
  (refine st_nil ?_; (repeat (first | refine kp_cons rfl ?_ | refine kp_skip ?_)); refine kp_nil ?_)
  refine awp_condp (p := 1048576 < most) rfl (fun _ => by omega) (fun _ => ?_)
  refine aw_skip ?_
  obtain ⟨m, rfl⟩ : ∃ m : Nat, most = m := ⟨most.toNat, by omega⟩
  have hu : unpack m bs = unpF m bs [] := by rw [unpack, if_neg h1]; rfl
  rw [hu]
  refine aw_region ?_
  (repeat (refine st_q rfl rfl rfl ?_))
  refine st_box rfl (AVal.fit_iff.1 rfl) fun b hbk => ?_
  (repeat (refine st_q rfl rfl rfl ?_))
  (refine st_nil ?_; (repeat (first | refine kp_cons rfl ?_ | refine kp_skip ?_)); refine kp_nil ?_)
  refine awp_block ?_
  refine awp_loopN (fun k F σ' => ∃ (i : Nat) (β : AHeap) (v : AVal) (o : List UInt8), F = fset 1 (some (.int .i64 m)) (fset 6 (some (.ptr b 0 0)) fnone) ∧ σ' = β ++ (b, rdr bs f i v) :: σ ∧ Grow v o β ∧ i ≤ bs.length ∧ o.length ≤ m ∧ k = (bs.drop i).length ∧ unpF m (bs.drop i) o = unpF m bs []) (n := bs.length)
    ⟨0, [], .slc 0 [] true, [], rfl, rfl, Grow.nil 0, by omega, by simp, by simp, by simp⟩ ?_
  rintro k F σ' ⟨i, β, v, o, rfl, rfl, ho, hi, hom, rfl, hU⟩
  refine awp_block ?_
  refine aw_region ?_
  (repeat (refine st_q rfl rfl rfl ?_))
  have hc := c_sequence (τ := σ) (rb := b) ho hi rfl hb (by omega) hom (X := seqF m (bs.drop i) o) rfl (f := f)
  cases hX : seqF m (bs.drop i) o with
  | err e =>
    rw [hX] at hc
    rw [unpF_err hX] at hU
    refine st_call rfl hc ⟨_, _, rfl, rfl⟩ ?_
    rintro _ _ ⟨rfl, rfl⟩
    (repeat (refine st_q rfl rfl rfl ?_))
    (refine st_nil ?_; (repeat (first | refine kp_cons rfl ?_ | refine kp_skip ?_)); refine kp_nil ?_)
    have he : decide ((e : Int) ≠ 0) = true := decide_eq_true (by have := seqF_err_pos hX; omega)
    refine awp_block ?_
    refine aw_region ?_
    (repeat (refine st_q rfl rfl rfl ?_))
    (refine st_nil ?_; (repeat (first | refine kp_cons rfl ?_ | refine kp_skip ?_)); refine kp_nil ?_)
    refine awp_cond (congrArg (fun x => some (AVal.bool x)) he) (fun _ => ?_) (fun e => by cases e)
    refine aw_region ?_
    (repeat (refine st_q rfl rfl rfl ?_))
    (refine st_nil ?_; (repeat (first | refine kp_cons rfl ?_ | refine kp_skip ?_)); refine kp_nil ?_)
    refine awp_ret ?_
    rw [← hU]
    exact ares_v rfl (hnil e) (HSub.refl _) ⟨rfl, rfl⟩
  | last o' =>
    rw [hX] at hc
    rw [unpF_last hX] at hU
    obtain ⟨gv, gβ, hgr⟩ := Grow.ex o'
    refine st_call rfl hc ⟨_, _, rfl, gβ, gv, 0, hgr, rfl⟩ ?_
    rintro _ _ ⟨rfl, β', v', i', ho', rfl⟩
    (repeat (refine st_q rfl rfl rfl ?_))
    (refine st_nil ?_; (repeat (first | refine kp_cons rfl ?_ | refine kp_skip ?_)); refine kp_nil ?_)
    refine awp_block ?_
    refine aw_region ?_
    (repeat (refine st_q rfl rfl rfl ?_))
    (refine st_nil ?_; (repeat (first | refine kp_cons rfl ?_ | refine kp_skip ?_)); refine kp_nil ?_)
    refine awp_cond rfl (fun e => by cases e) (fun _ => ?_)
    refine aw_region ?_
    (repeat (refine st_q rfl rfl rfl ?_))
    (refine st_nil ?_; (repeat (first | refine kp_cons rfl ?_ | refine kp_skip ?_)); refine kp_nil ?_)
    refine awp_cond rfl (fun _ => ?_) (fun e => by cases e)
    refine awp_nd fun nd => ?_
    have hrb : b ∉ keys β' := keys_mid nd
    have hg : ∀ x, hget (β' ++ (b, x) :: σ) b = some x := fun x => by rw [hget_app hrb]; exact hget_head
    refine aw_region ?_
    (repeat (first | refine st_q rfl rfl rfl ?_ | refine st_ldp rfl (hg _) rfl rfl ?_))
    refine st_call rfl (ho'.clip) ⟨_, _, rfl, rfl⟩ ?_
    rintro _ _ ⟨rfl, rfl⟩
    (repeat (refine st_q rfl rfl rfl ?_))
    (refine st_nil ?_; (repeat (first | refine kp_cons rfl ?_ | refine kp_skip ?_)); refine kp_nil ?_)
    refine awp_ret ?_
    rw [← hU]
    exact ares rfl (HSub.tail _ _) ⟨rfl, rfl⟩
  | go l' o' =>
    rw [hX] at hc
    rw [unpF_go hX] at hU
    obtain ⟨gv, gβ, hgr⟩ := Grow.ex o'
    obtain ⟨k, hk1, hk2⟩ := seqF_suffix hX
    refine st_call rfl hc ⟨_, _, rfl, gβ, gv, i + k, hgr, ?_, ?_, rfl⟩ ?_
    · simp only [List.length_drop] at hk1; omega
    · rw [← hk2, List.drop_drop]
    rintro _ _ ⟨rfl, β', v', i', ho', hi', hl', rfl⟩
    (repeat (refine st_q rfl rfl rfl ?_))
    (refine st_nil ?_; (repeat (first | refine kp_cons rfl ?_ | refine kp_skip ?_)); refine kp_nil ?_)
    refine awp_block ?_
    refine aw_region ?_
    (repeat (refine st_q rfl rfl rfl ?_))
    (refine st_nil ?_; (repeat (first | refine kp_cons rfl ?_ | refine kp_skip ?_)); refine kp_nil ?_)
    refine awp_cond rfl (fun e => by cases e) (fun _ => ?_)
    refine aw_region ?_
    (repeat (refine st_q rfl rfl rfl ?_))
    (refine st_nil ?_; (repeat (first | refine kp_cons rfl ?_ | refine kp_skip ?_)); refine kp_nil ?_)
    refine awp_cond rfl (fun e => by cases e) (fun _ => ?_)
    refine awp_skip ?_
    refine kp_less (keep := [1, 6]) ?_
    ((repeat (first | refine kp_cons rfl ?_ | refine kp_skip ?_)); refine kp_nil ?_)
    have hsh := seqF_short hX
    exact ⟨_, l'.length, HSub.refl _, ⟨i', β', v', o', rfl, rfl, ho', hi', seqF_most_go hX, by rw [hl'], by rw [hl']; exact hU⟩, hsh⟩
end Go.Abs
