/- Contracts: a sequence's copy. -/
import Derived.Test.YtjlidaopbpefpaaLz1
namespace Go.Abs
open Go Go.Proofs Go.Abs.Lz
set_option linter.unusedVariables false
set_option linter.unusedSimpArgs false

/-- A sequence, from its copy on. -/
theorem c_seq_tail {τ : AHeap} {rb b' : Nat} {bs : List UInt8} {f : Bool} {i3 : Nat} {o1 l4 : List UInt8} {t a b : UInt8} {most : Nat} (hb : bs.length ≤ 140737488355328) (hm : most ≤ 1048576) (hne : b' ≠ rb) (hol : o1.length ≤ most) (hi3 : i3 + 2 ≤ bs.length)
    (hxa : bs[i3]? = some a) (hxb : bs[i3 + 1]? = some b) (hl4 : bs.drop (i3 + 2) = l4)
    {X : SeqR} (hX : (match lenN l4 (t.toNat % 16) with
          | none => SeqR.err 3
          | some (m, l5) =>
            if a.toNat + 256 * b.toNat = 0 ∨ o1.length < a.toNat + 256 * b.toNat then .err 2
            else if most < o1.length + (m + 4) then .err 4
            else .go l5 (copyB (a.toNat + 256 * b.toNat) (m + 4) o1)) = X) :
    AWp Try.prog lz4_reader_sequence.n (lz4_reader_sequence.code.snd 9) (ARet lz4_reader_sequence.res (SeqP τ rb bs f X))
      (fset 0 (some (.ptr rb 0 0)) (fset 1 (some (.int .i64 most)) (fset 6 (some (.int .i64 t.toNat)) fnone))) ((b', .cells 1 (bytes o1)) :: (rb, rdr bs f i3 (.arr 1 b' 0 o1.length)) :: τ) := by
  have hg1 : ∀ x, hget ((b', .cells 1 (bytes o1)) :: (rb, x) :: τ) rb = some x := fun x => hget_tail hne hget_head
  have hs1 : ∀ x y, hset ((b', .cells 1 (bytes o1)) :: (rb, x) :: τ) rb y = (b', .cells 1 (bytes o1)) :: (rb, y) :: τ := fun x y => hset_tail hne hset_head
  have hsub1 : ∀ x, HSub τ ((b', .cells 1 (bytes o1)) :: (rb, x) :: τ) := fun x => HSub.of_sublist ((List.sublist_cons_self _ _).trans (List.sublist_cons_self _ _))
  have hxa' : (bytes bs)[(i3 : Int).toNat]? = some (byte a) := by rw [bytes_get]; simp [hxa]
  have hxb' : (bytes bs)[((i3 + 1 : Nat) : Int).toNat]? = some (byte b) := by rw [bytes_get]; simp [hxb]
  have ht0 : t.toNat < 256 := t.toNat_lt
  have ha0 : a.toNat < 256 := a.toNat_lt
  have hb0 : b.toNat < 256 := b.toNat_lt
  have e11 : IntKind.wrap .i64 ((i3 : Int) + 1) = ((i3 + 1 : Nat) : Int) := by rw [w64 _ (by omega) (by omega)]; omega
  have e12 : IntKind.wrap .i64 (a.toNat : Int) = (a.toNat : Int) := w64 _ (by omega) (by omega)
  have e13 : IntKind.wrap .i64 (b.toNat : Int) = (b.toNat : Int) := w64 _ (by omega) (by omega)
  have e14 : IntKind.wrap .i64 ((b.toNat : Int) * 256) = ((b.toNat * 256 : Nat) : Int) := by rw [w64 _ (by omega) (by omega)]; omega
  have e15 := or8 a.toNat b.toNat ha0 hb0
  have e16 : IntKind.wrap .i64 ((i3 : Int) + 2) = ((i3 + 2 : Nat) : Int) := by rw [w64 _ (by omega) (by omega)]; omega
  refine aw_region ?_
  (repeat (first | refine st_q rfl rfl rfl ?_ | refine st_ldp rfl (hg1 _) rfl rfl ?_))
  refine st_iad rfl (by omega) hxa' ?_
  (repeat (first | refine st_q rfl rfl rfl ?_ | refine st_ldp rfl (hg1 _) rfl rfl ?_))
  rw [e11, e12]
  refine st_iad rfl (by omega) hxb' ?_
  refine st_q rfl rfl rfl ?_
  refine st_q rfl rfl rfl ?_
  rw [e13]
  refine st_shl rfl (by decide) ?_
  change aops _ _ (fset _ (some (.int .i64 (IntKind.wrap .i64 ((b.toNat : Int) * 256)))) _) _ _
  rw [e14]
  refine st_q rfl (congrArg (fun x => some (AVal.int .i64 x)) e15) rfl ?_
  (repeat (refine st_q rfl rfl rfl ?_))
  generalize hbk : a.toNat + 256 * b.toNat = back at *
  (refine st_nil ?_; (repeat (first | refine kp_cons rfl ?_ | refine kp_skip ?_)); refine kp_nil ?_)
  refine aw_region ?_
  (repeat (first | refine st_q rfl rfl rfl ?_ | refine st_ldp rfl (hg1 _) rfl rfl ?_))
  refine st_store rfl (hg1 _) rfl (by decide) (AVal.fit_iff.1 rfl) (fun e => by cases e) (hs1 _ _) ?_
  refine st_nil ?_
  ((repeat (first | refine kp_cons rfl ?_ | refine kp_skip ?_)); refine kp_nil ?_)
  rw [e16]
  refine aw_region ?_
  (repeat (refine st_q rfl rfl rfl ?_))
  have e17 := and15 t.toNat ht0
  have hc := c_length (σ := (b', .cells 1 (bytes o1)) :: (rb, rdr bs f (i3 + 2) (.arr 1 b' 0 o1.length)) :: τ) (hg1 (rdr bs f (i3 + 2) (.arr 1 b' 0 o1.length))) (by omega) hl4 (show t.toNat % 16 ≤ 15 by omega) hb
  cases hL : lenN l4 (t.toNat % 16) with
  | none =>
    rw [hL] at hX hc
    simp only at hX
    subst hX
    refine st_call (congrArg (fun x => some [AVal.ptr rb 0 0, AVal.int .i64 x]) e17) hc ⟨_, _, rfl, 0, rfl⟩ ?_
    rintro _ _ ⟨rfl, i2, rfl⟩
    (repeat (refine st_q rfl rfl rfl ?_))
    (refine st_nil ?_; (repeat (first | refine kp_cons rfl ?_ | refine kp_skip ?_)); refine kp_nil ?_)
    rw [hs1]
    refine aw_block ?_
    refine aw_region ?_
    (repeat (refine st_q rfl rfl rfl ?_))
    (refine st_nil ?_; (repeat (first | refine kp_cons rfl ?_ | refine kp_skip ?_)); refine kp_nil ?_)
    refine awp_cond rfl (fun _ => ?_) (fun e => by cases e)
    refine aw_region ?_
    (repeat (refine st_q rfl rfl rfl ?_))
    (refine st_nil ?_; (repeat (first | refine kp_cons rfl ?_ | refine kp_skip ?_)); refine kp_nil ?_)
    refine awp_ret ?_
    exact ares rfl (hsub1 _) ⟨rfl, rfl⟩
  | some p =>
    obtain ⟨m, l5⟩ := p
    rw [hL] at hX hc
    simp only at hX
    obtain ⟨k, hk1, hk2⟩ := lenN_suffix hL
    refine st_call (congrArg (fun x => some [AVal.ptr rb 0 0, AVal.int .i64 x]) e17) hc ⟨_, _, rfl, i3 + 2 + k, ?_, ?_, rfl⟩ ?_
    · have := drop_len hl4 (by omega); omega
    · rw [← hk2, ← hl4, List.drop_drop]
    rintro _ _ ⟨rfl, i4, hi4, hl5, rfl⟩
    (repeat (refine st_q rfl rfl rfl ?_))
    (refine st_nil ?_; (repeat (first | refine kp_cons rfl ?_ | refine kp_skip ?_)); refine kp_nil ?_)
    rw [hs1]
    refine aw_block ?_
    refine aw_region ?_
    (repeat (refine st_q rfl rfl rfl ?_))
    (refine st_nil ?_; (repeat (first | refine kp_cons rfl ?_ | refine kp_skip ?_)); refine kp_nil ?_)
    refine awp_cond rfl (fun e => by cases e) (fun _ => ?_)
    by_cases hz : back = 0
    · rw [if_pos (.inl hz)] at hX
      subst hX
      have hd : decide ((back : Int) = 0) = true := decide_eq_true (by omega)
      refine aw_region ?_
      (repeat (refine st_q rfl rfl rfl ?_))
      rw [hd]
      (repeat (refine st_gn rfl ?_))
      (repeat (refine st_q rfl rfl rfl ?_))
      (refine st_nil ?_; (repeat (first | refine kp_cons rfl ?_ | refine kp_skip ?_)); refine kp_nil ?_)
      refine awp_cond rfl (fun _ => ?_) (fun e => by cases e)
      refine aw_region ?_
      (repeat (refine st_q rfl rfl rfl ?_))
      (refine st_nil ?_; (repeat (first | refine kp_cons rfl ?_ | refine kp_skip ?_)); refine kp_nil ?_)
      refine awp_ret ?_
      exact ares rfl (hsub1 _) ⟨rfl, rfl⟩
    have hd : decide ((back : Int) = 0) = false := decide_eq_false (by omega)
    refine aw_region ?_
    (repeat (refine st_q rfl rfl rfl ?_))
    rw [hd]
    (repeat (first | refine st_gy rfl (st_q rfl rfl rfl ?_) | refine st_gy rfl (st_ldp rfl (hg1 _) rfl rfl ?_)))
    (repeat (refine st_q rfl rfl rfl ?_))
    (refine st_nil ?_; (repeat (first | refine kp_cons rfl ?_ | refine kp_skip ?_)); refine kp_nil ?_)
    refine awp_condp (p := (o1.length : Int) < back) rfl (fun h2 => ?_) (fun h2 => ?_)
    · rw [if_pos (.inr (by omega))] at hX
      subst hX
      refine aw_region ?_
      (repeat (refine st_q rfl rfl rfl ?_))
      (refine st_nil ?_; (repeat (first | refine kp_cons rfl ?_ | refine kp_skip ?_)); refine kp_nil ?_)
      refine awp_ret ?_
      exact ares rfl (hsub1 _) ⟨rfl, rfl⟩
    rw [if_neg (by omega)] at hX
    refine aw_region ?_
    (repeat (first | refine st_q rfl rfl rfl ?_ | refine st_ldp rfl (hg1 _) rfl rfl ?_))
    (refine st_nil ?_; (repeat (first | refine kp_cons rfl ?_ | refine kp_skip ?_)); refine kp_nil ?_)
    have e18 : IntKind.wrap .i64 (((min m 2097152 : Nat) : Int) + 4) = ((min m 2097152 + 4 : Nat) : Int) := by rw [w64 _ (by omega) (by omega)]; omega
    have e19 : IntKind.wrap .i64 ((most : Int) - (o1.length : Int)) = (most : Int) - (o1.length : Int) := w64 _ (by omega) (by omega)
    rw [e18, e19]
    refine awp_condp (p := (most : Int) - (o1.length : Int) < ((min m 2097152 + 4 : Nat) : Int)) rfl (fun h3 => ?_) (fun h3 => ?_)
    · rw [if_pos (by omega)] at hX
      subst hX
      refine aw_region ?_
      (repeat (refine st_q rfl rfl rfl ?_))
      (refine st_nil ?_; (repeat (first | refine kp_cons rfl ?_ | refine kp_skip ?_)); refine kp_nil ?_)
      refine awp_ret ?_
      exact ares rfl (hsub1 _) ⟨rfl, rfl⟩
    rw [if_neg (by omega)] at hX
    subst hX
    refine awp_skip ?_
    rw [show min m 2097152 = m by omega] at e18 ⊢
    refine aw_assoc ?_
    refine aw_reg ?_
    (repeat (refine st_q rfl rfl rfl ?_))
    rw [e18]
    (refine st_nil ?_; (repeat (first | refine kp_cons rfl ?_ | refine kp_skip ?_)); refine kp_nil ?_)
    refine awp_block ?_
    refine awp_loopN (fun k F σ' => ∃ (j c : Nat) (o : List UInt8), F = fset 0 (some (.ptr rb 0 0)) (fset 9 (some (.int .i64 back)) (fset 189 (some (.int .i64 (m + 4 : Nat))) (fset 190 (some (.int .i64 j)) fnone))) ∧
      σ' = (c, .cells 1 (bytes o)) :: (rb, rdr bs f i4 (.arr 1 c 0 o.length)) :: τ ∧ c ≠ rb ∧ o.length = o1.length + j ∧ j ≤ m + 4 ∧ k = m + 4 - j ∧ copyB back k o = copyB back (m + 4) o1) (n := m + 4)
      ⟨0, b', o1, rfl, rfl, hne, by omega, by omega, by omega, rfl⟩ ?_
    rintro k F σ' ⟨j, c, o, rfl, rfl, hcr, hoj, hjm, rfl, hcp⟩
    have hg2 : ∀ x, hget ((c, .cells 1 (bytes o)) :: (rb, x) :: τ) rb = some x := fun x => hget_tail hcr hget_head
    refine aw_region ?_
    (repeat (refine st_q rfl rfl rfl ?_))
    (refine st_nil ?_; (repeat (first | refine kp_cons rfl ?_ | refine kp_skip ?_)); refine kp_nil ?_)
    refine aw_condp (p := (j : Int) < (m + 4 : Nat)) rfl (fun h4 => ?_) (fun h4 => ?_)
    · refine aw_skip ?_
      refine aw_block ?_
      have e20 : IntKind.wrap .i64 ((o.length : Int) - (back : Int)) = ((o.length - back : Nat) : Int) := by rw [w64 _ (by omega) (by omega)]; omega
      have hoc : o[o.length - back]? = some (o.getD (o.length - back) 0) := by
        rw [List.getD_eq_getElem?_getD, List.getElem?_eq_getElem (by omega)]; rfl
      generalize hcc : o.getD (o.length - back) 0 = cc at *
      have hoc' : (bytes o)[0 + ((o.length - back : Nat) : Int).toNat]? = some (byte cc) := by rw [bytes_get, Nat.zero_add]; simp [hoc]
      refine awp_region ?_
      (repeat (first | refine st_q rfl rfl rfl ?_ | refine st_ldp rfl (hg2 _) rfl rfl ?_))
      rw [e20]
      refine st_iada rfl ⟨by omega, by omega⟩ ?_
      refine st_ldp rfl hget_head hoc' rfl ?_
      (repeat (refine st_q rfl rfl rfl ?_))
      refine st_appO (β := [(c, .cells 1 (bytes o))]) (ys := [cc]) (.inr ⟨c, rfl, rfl⟩) rfl rfl (by simp only [List.length_cons, List.length_nil]; omega) fun c' hc' => ?_
      have hne' : c' ≠ rb := fun e => hc' (by rw [e, keys_app]; simp)
      (repeat (refine st_q rfl rfl rfl ?_))
      refine st_store rfl (hget_tail hne' hget_head) rfl (by decide) (AVal.fit_iff.1 rfl) (fun e => by cases e) (hset_tail hne' hset_head) ?_
      refine st_nil ?_
      refine kp_weaken (keep := [0, 9, 189, 190]) ?_
      ((repeat (first | refine kp_cons rfl ?_ | refine kp_skip ?_)); refine kp_nil ?_)
      refine awp_region ?_
      (repeat (refine st_q rfl rfl rfl ?_))
      refine st_nil ?_
      refine kp_less (keep := [0, 9, 189, 190]) ?_
      ((repeat (first | refine kp_cons rfl ?_ | refine kp_skip ?_)); refine kp_nil ?_)
      have e21 : IntKind.wrap .i64 ((j : Int) + 1) = ((j + 1 : Nat) : Int) := by rw [w64 _ (by omega) (by omega)]; omega
      rw [e21]
      refine ⟨_, m + 4 - (j + 1), HSub.refl _, ⟨j + 1, c', o ++ [cc], rfl, rfl, hne', by simp; omega, by omega, rfl, ?_⟩, by omega⟩
      rw [← hcp, show m + 4 - j = (m + 4 - (j + 1)) + 1 by omega, copyB, hcc]
    · refine awp_exit ?_
      show AWp _ _ _ _ _ _
      refine aw_region ?_
      (repeat (refine st_q rfl rfl rfl ?_))
      (refine st_nil ?_; (repeat (first | refine kp_cons rfl ?_ | refine kp_skip ?_)); refine kp_nil ?_)
      refine awp_ret ?_
      have e22 : m + 4 - j = 0 := by omega
      rw [e22, copyB] at hcp
      subst hcp
      exact ares rfl (HSub.refl _) ⟨rfl, [(c, .cells 1 (bytes _))], _, i4, .inr ⟨c, rfl, rfl⟩, hi4, hl5, rfl⟩
end Go.Abs
