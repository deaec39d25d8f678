/- Contracts: a sequence. -/
import Derived.Test.YtjlidaopbpefpaaLz2
namespace Go.Abs
open Go Go.Proofs Go.Abs.Lz
set_option linter.unusedVariables false
set_option linter.unusedSimpArgs false

theorem c_sequence {β τ : AHeap} {rb : Nat} {bs : List UInt8} {f : Bool} {i : Nat} {out : AVal} {l xs : List UInt8} {most : Nat} (ho : Grow out xs β) (hi : i ≤ bs.length) (hl : bs.drop i = l) (hb : bs.length ≤ 140737488355328) (hm : most ≤ 1048576) (hxs : xs.length ≤ most)
    {X : SeqR} (hX : seqF most l xs = X) :
    ACalls Try.prog f_lz4_reader_sequence [.ptr rb 0 0, .int .i64 most] (β ++ (rb, rdr bs f i out) :: τ) (SeqP τ rb bs f X) := by
  refine acalls_enter rfl lz4_reader_sequence_ok (Nat.le_of_ble_eq_true rfl) ?_
  refine awp_nd fun nd => ?_
  have hrb : rb ∉ keys β := keys_mid nd
  have hg : ∀ x, hget (β ++ (rb, x) :: τ) rb = some x := fun x => by rw [hget_app hrb]; exact hget_head
  have hs : ∀ x y, hset (β ++ (rb, x) :: τ) rb y = β ++ (rb, y) :: τ := fun x y => by rw [hset_app hrb, hset_head]
  have hsub : ∀ x, HSub τ (β ++ (rb, x) :: τ) := fun x => HSub.of_sublist ((List.sublist_cons_self _ _).trans (List.sublist_append_right _ _))
  have hlen := ho.lens
  refine aw_region ?_
  (repeat (refine st_q rfl rfl rfl ?_))
  (refine st_nil ?_; (repeat (first | refine kp_cons rfl ?_ | refine kp_skip ?_)); refine kp_nil ?_)
  refine aw_assoc ?_
  refine aw_reg ?_
  (repeat (first | refine st_q rfl rfl rfl ?_ | refine st_ldp rfl (hg _) rfl rfl ?_))
  (refine st_nil ?_; (repeat (first | refine kp_cons rfl ?_ | refine kp_skip ?_)); refine kp_nil ?_)
  unfold seqF at hX
  refine awp_condp (p := ((bytes bs).length : Int) ≤ i) rfl (fun h => ?_) (fun h => ?_)
  all_goals rw [bytes_length] at h
  · refine aw_region ?_
    (repeat (refine st_q rfl rfl rfl ?_))
    (refine st_nil ?_; (repeat (first | refine kp_cons rfl ?_ | refine kp_skip ?_)); refine kp_nil ?_)
    refine awp_ret ?_
    have e : l = [] := by rw [← hl]; exact List.drop_eq_nil_of_le (by omega)
    subst e
    simp only at hX
    subst hX
    exact ares rfl (hsub _) ⟨rfl, rfl⟩
  · refine aw_skip ?_
    obtain ⟨t, l1, rfl⟩ : ∃ t l1, l = t :: l1 := by
      cases l with
      | nil => exact absurd (drop_nil hl) (by omega)
      | cons t l1 => exact ⟨t, l1, rfl⟩
    obtain ⟨hi1, hx, hl1⟩ := drop_cons hl
    have hx' : (bytes bs)[(i : Int).toNat]? = some (byte t) := by rw [bytes_get]; simp [hx]
    have ht0 : t.toNat < 256 := t.toNat_lt
    refine aw_region ?_
    (repeat (first | refine st_q rfl rfl rfl ?_ | refine st_ldp rfl (hg _) rfl rfl ?_))
    refine st_iad rfl (by omega) hx' ?_
    (repeat (refine st_q rfl rfl rfl ?_))
    (refine st_nil ?_; (repeat (first | refine kp_cons rfl ?_ | refine kp_skip ?_)); refine kp_nil ?_)
    refine aw_region ?_
    (repeat (first | refine st_q rfl rfl rfl ?_ | refine st_ldp rfl (hg _) rfl rfl ?_))
    refine st_store rfl (hg _) rfl (by decide) (AVal.fit_iff.1 rfl) (fun e => by cases e) (hs _ _) ?_
    refine st_nil ?_
    ((repeat (first | refine kp_cons rfl ?_ | refine kp_skip ?_)); refine kp_nil ?_)
    have e1 : IntKind.wrap .i64 (t.toNat : Int) = (t.toNat : Int) := w64 _ (by omega) (by omega)
    have e4 : IntKind.wrap .i64 ((i : Int) + 1) = ((i + 1 : Nat) : Int) := by rw [w64 _ (by omega) (by omega)]; omega
    rw [e1, e4]
    refine aw_region ?_
    (repeat (refine st_q rfl rfl rfl ?_))
    have e5 : Int.fdiv (t.toNat : Int) 16 = ((t.toNat / 16 : Nat) : Int) := by rw [Int.fdiv_eq_ediv_of_nonneg _ (by omega)]; omega
    simp only at hX
    have hc := c_length (hg (rdr bs f (i + 1) out)) (by omega) hl1 (show t.toNat / 16 ≤ 15 by omega) hb
    cases hL : lenN l1 (t.toNat / 16) with
    | none =>
      rw [hL] at hX hc
      simp only at hX
      subst hX
      refine st_call (congrArg (fun x => some [AVal.ptr rb 0 0, AVal.int .i64 x]) e5) hc ⟨_, _, rfl, 0, rfl⟩ ?_
      rintro _ _ ⟨rfl, i2, rfl⟩
      (repeat (refine st_q rfl rfl rfl ?_))
      (refine st_nil ?_; (repeat (first | refine kp_cons rfl ?_ | refine kp_skip ?_)); refine kp_nil ?_)
      rw [hs]
      refine aw_block ?_
      refine aw_region ?_
      (repeat (refine st_q rfl rfl rfl ?_))
      (refine st_nil ?_; (repeat (first | refine kp_cons rfl ?_ | refine kp_skip ?_)); refine kp_nil ?_)
      refine awp_cond rfl (fun _ => ?_) (fun e => by cases e)
      refine aw_region ?_
      (repeat (refine st_q rfl rfl rfl ?_))
      (refine st_nil ?_; (repeat (first | refine kp_cons rfl ?_ | refine kp_skip ?_)); refine kp_nil ?_)
      refine awp_ret ?_
      exact ares rfl (hsub _) ⟨rfl, rfl⟩
    | some p =>
      obtain ⟨n, l2⟩ := p
      rw [hL] at hX hc
      simp only at hX
      obtain ⟨k, hk1, hk2⟩ := lenN_suffix hL
      refine st_call (congrArg (fun x => some [AVal.ptr rb 0 0, AVal.int .i64 x]) e5) hc ⟨_, _, rfl, i + 1 + k, ?_, ?_, rfl⟩ ?_
      · have := drop_len hl1 (by omega); omega
      · rw [← hk2, ← hl1, List.drop_drop]
      rintro _ _ ⟨rfl, i2, hi2, hl2, rfl⟩
      (repeat (refine st_q rfl rfl rfl ?_))
      (refine st_nil ?_; (repeat (first | refine kp_cons rfl ?_ | refine kp_skip ?_)); refine kp_nil ?_)
      rw [hs]
      refine aw_block ?_
      refine aw_region ?_
      (repeat (refine st_q rfl rfl rfl ?_))
      (refine st_nil ?_; (repeat (first | refine kp_cons rfl ?_ | refine kp_skip ?_)); refine kp_nil ?_)
      refine awp_cond rfl (fun e => by cases e) (fun _ => ?_)
      refine aw_region ?_
      (repeat (first | refine st_q rfl rfl rfl ?_ | refine st_ldp rfl (hg _) rfl rfl ?_))
      refine st_lens rfl hlen ?_
      (repeat (refine st_q rfl rfl rfl ?_))
      (refine st_nil ?_; (repeat (first | refine kp_cons rfl ?_ | refine kp_skip ?_)); refine kp_nil ?_)
      have e6 : IntKind.wrap .i64 ((most : Int) - (xs.length : Int)) = (most : Int) - (xs.length : Int) := w64 _ (by omega) (by omega)
      rw [e6]
      refine awp_condp (p := (most : Int) - (xs.length : Int) < (min n 2097152 : Nat)) rfl (fun h2 => ?_) (fun h2 => ?_)
      · refine aw_region ?_
        (repeat (refine st_q rfl rfl rfl ?_))
        (refine st_nil ?_; (repeat (first | refine kp_cons rfl ?_ | refine kp_skip ?_)); refine kp_nil ?_)
        refine awp_ret ?_
        rw [if_pos (by omega)] at hX
        subst hX
        exact ares rfl (hsub _) ⟨rfl, rfl⟩
      rw [if_neg (by omega)] at hX
      rw [show min n 2097152 = n by omega]
      refine aw_region ?_
      (repeat (first | refine st_q rfl rfl rfl ?_ | refine st_ldp rfl (hg _) rfl rfl ?_))
      (refine st_nil ?_; (repeat (first | refine kp_cons rfl ?_ | refine kp_skip ?_)); refine kp_nil ?_)
      have e7 : IntKind.wrap .i64 (((bytes bs).length : Int) - (i2 : Int)) = (l2.length : Int) := by
        have := drop_len hl2 hi2
        rw [bytes_length, w64 _ (by omega) (by omega)]; omega
      rw [e7]
      refine awp_condp (p := (l2.length : Int) < n) rfl (fun h3 => ?_) (fun h3 => ?_)
      · refine aw_region ?_
        (repeat (refine st_q rfl rfl rfl ?_))
        (refine st_nil ?_; (repeat (first | refine kp_cons rfl ?_ | refine kp_skip ?_)); refine kp_nil ?_)
        refine awp_ret ?_
        rw [if_pos (by omega)] at hX
        subst hX
        exact ares rfl (hsub _) ⟨rfl, rfl⟩
      rw [if_neg (by omega)] at hX
      refine awp_skip ?_
      have hln := drop_len hl2 hi2
      refine kp_weaken (keep := [0, 1, 6, 7]) ?_
      ((repeat (first | refine kp_cons rfl ?_ | refine kp_skip ?_)); refine kp_nil ?_)
      refine aw_region ?_
      (repeat (first | refine st_q rfl rfl rfl ?_ | refine st_ldp rfl (hg _) rfl rfl ?_))
      have e8 : IntKind.wrap .i64 ((i2 : Int) + (n : Int)) = ((i2 + n : Nat) : Int) := by rw [w64 _ (by omega) (by omega)]; omega
      rw [e8]
      refine st_slc rfl rfl ⟨by omega, by omega, by rw [bytes_length]; omega, by omega⟩ ?_
      have e9 : ((bytes bs).drop ((i2 : Int).toNat)).take (((i2 + n : Nat) : Int) - (i2 : Int)).toNat = bytes (l2.take n) := by
        rw [bytes_drop, bytes_take, show ((i2 : Int).toNat) = i2 from rfl, hl2, show (((i2 + n : Nat) : Int) - (i2 : Int)).toNat = n by omega]
      rw [e9]
      refine st_appO (ys := l2.take n) ho rfl (by simp [elemsOf]) (by rw [List.length_take]; omega) fun b' hb' => ?_
      have hne : b' ≠ rb := fun e => hb' (by rw [e, keys_app]; simp)
      generalize ho1 : xs ++ l2.take n = o1 at *
      have hol : o1.length = xs.length + n := by rw [← ho1, List.length_append, List.length_take]; omega
      (repeat (refine st_q rfl rfl rfl ?_))
      refine st_store rfl (hget_tail hne hget_head) rfl (by decide) (AVal.fit_iff.1 rfl) (fun e => by cases e) (hset_tail hne hset_head) ?_
      refine st_nil ?_
      ((repeat (first | refine kp_cons rfl ?_ | refine kp_skip ?_)); refine kp_nil ?_)
      change AWp _ _ _ _ _ ((b', .cells 1 (bytes o1)) :: (rb, rdr bs f i2 (.arr 1 b' 0 o1.length)) :: τ)
      have hg1 : ∀ x, hget ((b', .cells 1 (bytes o1)) :: (rb, x) :: τ) rb = some x := fun x => hget_tail hne hget_head
      have hs1 : ∀ x y, hset ((b', .cells 1 (bytes o1)) :: (rb, x) :: τ) rb y = (b', .cells 1 (bytes o1)) :: (rb, y) :: τ := fun x y => hset_tail hne hset_head
      have hsub1 : ∀ x, HSub τ ((b', .cells 1 (bytes o1)) :: (rb, x) :: τ) := fun x => HSub.of_sublist ((List.sublist_cons_self _ _).trans (List.sublist_cons_self _ _))
      refine aw_assoc ?_
      refine aw_reg ?_
      (repeat (first | refine st_q rfl rfl rfl ?_ | refine st_ldp rfl (hg1 _) rfl rfl ?_))
      refine st_store rfl (hg1 _) rfl (by decide) (AVal.fit_iff.1 rfl) (fun e => by cases e) (hs1 _ _) ?_
      refine st_nil ?_
      ((repeat (first | refine kp_cons rfl ?_ | refine kp_skip ?_)); refine kp_nil ?_)
      rw [e8]
      have hl3 : bs.drop (i2 + n) = l2.drop n := by rw [← hl2, List.drop_drop]
      generalize hi3 : i2 + n = i3 at *
      have hi3' : i3 ≤ bs.length := by omega
      refine aw_seq ?_
      refine aw_reg ?_
      (repeat (first | refine st_q rfl rfl rfl ?_ | refine st_ldp rfl (hg1 _) rfl rfl ?_))
      (refine st_nil ?_; (repeat (first | refine kp_cons rfl ?_ | refine kp_skip ?_)); refine kp_nil ?_)
      refine awp_condp (p := (i3 : Int) = ((bytes bs).length : Int)) rfl (fun h4 => ?_) (fun h4 => ?_)
      all_goals rw [bytes_length] at h4
      · refine aw_region ?_
        (repeat (refine st_q rfl rfl rfl ?_))
        (refine st_nil ?_; (repeat (first | refine kp_cons rfl ?_ | refine kp_skip ?_)); refine kp_nil ?_)
        refine awp_ret ?_
        have e : l2.drop n = [] := by rw [← hl3]; exact List.drop_eq_nil_of_le (by omega)
        rw [e] at hX
        simp only at hX
        subst hX
        exact ares rfl (HSub.refl _) ⟨rfl, [(b', .cells 1 (bytes o1))], _, i3, .inr ⟨b', rfl, rfl⟩, rfl⟩
      refine aw_skip ?_
      refine aw_assoc ?_
      refine aw_reg ?_
      (repeat (first | refine st_q rfl rfl rfl ?_ | refine st_ldp rfl (hg1 _) rfl rfl ?_))
      (refine st_nil ?_; (repeat (first | refine kp_cons rfl ?_ | refine kp_skip ?_)); refine kp_nil ?_)
      have e10 : IntKind.wrap .i64 (((bytes bs).length : Int) - (i3 : Int)) = ((l2.drop n).length : Int) := by
        have := drop_len hl3 hi3'
        rw [bytes_length, w64 _ (by omega) (by omega)]; omega
      rw [e10]
      refine awp_condp (p := ((l2.drop n).length : Int) < 2) rfl (fun h5 => ?_) (fun h5 => ?_)
      · refine aw_region ?_
        (repeat (refine st_q rfl rfl rfl ?_))
        (refine st_nil ?_; (repeat (first | refine kp_cons rfl ?_ | refine kp_skip ?_)); refine kp_nil ?_)
        refine awp_ret ?_
        have : ∃ x, l2.drop n = [x] := by
          have := drop_len hl3 hi3'
          cases hd : l2.drop n with
          | nil => rw [hd] at this; simp only [List.length_nil] at this; omega
          | cons x r => cases r with
            | nil => exact ⟨x, rfl⟩
            | cons y r => rw [hd] at h5; simp only [List.length_cons] at h5; omega
        obtain ⟨x, hx⟩ := this
        rw [hx] at hX
        simp only at hX
        subst hX
        exact ares rfl (hsub1 _) ⟨rfl, rfl⟩
      refine aw_skip ?_
      obtain ⟨a, b, l4, hab⟩ : ∃ a b l4, l2.drop n = a :: b :: l4 := by
        cases hd : l2.drop n with
        | nil => rw [hd] at h5; simp only [List.length_nil] at h5; omega
        | cons x r => cases r with
          | nil => rw [hd] at h5; simp only [List.length_cons, List.length_nil] at h5; omega
          | cons y r => exact ⟨x, y, r, rfl⟩
      rw [hab] at hX hl3
      simp only at hX
      obtain ⟨hj1, hxa, hl4⟩ := drop_cons hl3
      obtain ⟨hj2, hxb, hl5⟩ := drop_cons hl4
      have hxa' : (bytes bs)[(i3 : Int).toNat]? = some (byte a) := by rw [bytes_get]; simp [hxa]
      have hxb' : (bytes bs)[((i3 + 1 : Nat) : Int).toNat]? = some (byte b) := by rw [bytes_get]; simp [hxb]
      refine kp_weaken (keep := [0, 1, 6]) ?_
      ((repeat (first | refine kp_cons rfl ?_ | refine kp_skip ?_)); refine kp_nil ?_)
      exact c_seq_tail hb hm hne (by omega) (by omega) hxa hxb (by simpa [List.drop_drop, Nat.add_assoc] using hl5) hX
end Go.Abs
