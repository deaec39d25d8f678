/- Contracts: the search, whole. -/
import Derived.Test.YtjlidaopbpefpaaLz8
namespace Go.Abs
open Go Go.Proofs Go.Abs.Lz
set_option linter.unusedVariables false
set_option linter.unusedSimpArgs false

/-- From a hit on. -/
theorem find_tail {bs : List UInt8} {f : Bool} {tb : Nat} {τ β : AHeap} {T : ABlk} {v : AVal} {out : List UInt8} {from_ at_ o : Nat} {Q : APost} (hb : bs.length ≤ 1048576) (h4 : at_ + 4 ≤ bs.length) (hlo : -1 ≤ (o : Int)) (hhi : (o : Int) < at_) (hfa : from_ ≤ at_) (hal : at_ ≤ bs.length) (hol : out.length ≤ 2 * from_) (ho : Grow v out β)
    (hQ : ∀ (n : Nat) (β' : AHeap) (r : AVal), runF bs o at_ 4 = n → 4 ≤ n → at_ + n ≤ bs.length → Grow r (out ++ putF ((bs.drop from_).take (at_ - from_)) (at_ - o) n) β' →
      ∀ F, FSub (fset 0 (some (.arr 1 tb 0 4096)) (fset 1 (some (.slc 1 (bytes bs) f)) (fset 5 (some r) (fset 6 (some (.int .i64 (at_ + n : Nat))) (fset 7 (some (.int .i64 (at_ + n : Nat))) fnone))))) F → Q .normal F (β' ++ (tb, T) :: τ)) :
    AWp Try.prog lz4_find.n ((lz4_find_l1.snd 1).body.snd 4) Q (fset 0 (some (.arr 1 tb 0 4096)) (fset 1 (some (.slc 1 (bytes bs) f)) (fset 5 (some v) (fset 6 (some (.int .i64 from_)) (fset 7 (some (.int .i64 at_)) (fset 9 (some (.int .i64 o)) fnone)))))) (β ++ (tb, T) :: τ) := by
  generalize hH : β ++ (tb, T) :: τ = H
  refine aw_region ?_
  (repeat (refine st_q rfl rfl rfl ?_))
  (refine st_nil ?_; (repeat (first | refine kp_cons rfl ?_ | refine kp_skip ?_)); refine kp_nil ?_)
  refine aw_block ?_
  refine awp_loopN (fun k F' σ' => ∃ n : Nat, F' = fset 0 (some (.arr 1 tb 0 4096)) (fset 1 (some (.slc 1 (bytes bs) f)) (fset 5 (some v) (fset 6 (some (.int .i64 from_)) (fset 7 (some (.int .i64 at_)) (fset 9 (some (.int .i64 o)) (fset 10 (some (.int .i64 n)) fnone)))))) ∧
    σ' = H ∧ 4 ≤ n ∧ at_ + n ≤ bs.length ∧ k = bs.length - (at_ + n) ∧ runF bs o at_ n = runF bs o at_ 4) (n := bs.length - (at_ + 4)) ⟨4, rfl, rfl, by omega, h4, rfl, rfl⟩ ?_
  rintro k F'' σ2 ⟨n, rfl, hσ2, hn4, hnl, rfl, hrun⟩
  rw [hσ2]
  have e9 : IntKind.wrap .i64 ((at_ : Int) + (n : Int)) = ((at_ + n : Nat) : Int) := by rw [w64 _ (by omega) (by omega)]; omega
  have e10 : IntKind.wrap .i64 ((o : Int) + (n : Int)) = ((o + n : Nat) : Int) := by rw [w64 _ (by omega) (by omega)]; omega
  refine aw_assoc ?_
  refine aw_cut (fun F' σ' => σ' = H ∧ ∃ d : Bool, (d = true ↔ (at_ + n < bs.length ∧ bs.getD (o + n) 0 = bs.getD (at_ + n) 0)) ∧
    KP [0, 1, 5, 6, 7, 9, 10, 72] F' fun G => G = fset 0 (some (.arr 1 tb 0 4096)) (fset 1 (some (.slc 1 (bytes bs) f)) (fset 5 (some v) (fset 6 (some (.int .i64 from_)) (fset 7 (some (.int .i64 at_)) (fset 9 (some (.int .i64 o)) (fset 10 (some (.int .i64 n)) (fset 72 (some (.bool d)) fnone)))))))) ?_ ?_
  · exact r11_ok hb hlo hhi hnl
  rintro F3 σ3 ⟨hσ3, d2, hd2, hkp2⟩
  rw [hσ3]
  obtain ⟨G2, hG2, rfl⟩ := hkp2
  refine kp_weaken (keep := [0, 1, 5, 6, 7, 9, 10, 72]) ⟨_, hG2, ?_⟩
  refine awp_cond rfl (fun h6 => ?_) (fun h6 => ?_)
  · refine aw_skip ?_
    obtain ⟨h7, h8⟩ := hd2.1 h6
    have e11 : IntKind.wrap .i64 ((n : Int) + 1) = ((n + 1 : Nat) : Int) := by rw [w64 _ (by omega) (by omega)]; omega
    refine awp_block ?_
    refine awp_region ?_
    (repeat (refine st_q rfl rfl rfl ?_))
    rw [e11]
    refine st_nil ?_
    refine kp_less (keep := [0, 1, 5, 6, 7, 9, 10]) ?_
    ((repeat (first | refine kp_cons rfl ?_ | refine kp_skip ?_)); refine kp_nil ?_)
    refine ⟨_, bs.length - (at_ + (n + 1)), HSub.refl _, ⟨n + 1, rfl, rfl, by omega, by omega, rfl, ?_⟩, by omega⟩
    rw [← hrun]
    conv => rhs; rw [runF, dif_pos h7, if_pos h8]
  refine awp_exit ?_
  show AWp _ _ _ _ _ _
  have hrn : runF bs o at_ 4 = n := by
    rw [← hrun, runF]
    by_cases h7 : at_ + n < bs.length
    · rw [dif_pos h7, if_neg (fun h8 => by rw [hd2.2 ⟨h7, h8⟩] at h6; cases h6)]
    · rw [dif_neg h7]
  refine kp_weaken (keep := [0, 1, 5, 6, 7, 9, 10]) ?_
  ((repeat (first | refine kp_cons rfl ?_ | refine kp_skip ?_)); refine kp_nil ?_)
  refine aw_region ?_
  (repeat (refine st_q rfl rfl rfl ?_))
  refine st_slc rfl rfl ⟨by omega, by omega, by rw [bytes_length]; omega, by omega⟩ ?_
  have e12 : ((bytes bs).drop ((from_ : Int).toNat)).take ((at_ : Int) - (from_ : Int)).toNat = bytes ((bs.drop from_).take (at_ - from_)) := by
    rw [bytes_drop, bytes_take]; congr 2; omega
  rw [e12]
  (repeat (refine st_q rfl rfl rfl ?_))
  have e13 : IntKind.wrap .i64 ((at_ : Int) - (o : Int)) = ((at_ - o : Nat) : Int) := by rw [w64 _ (by omega) (by omega)]; omega
  rw [e13]
  have hpl := putF_length ((bs.drop from_).take (at_ - from_)) (at_ - o) n
  have hll : ((bs.drop from_).take (at_ - from_)).length = at_ - from_ := by rw [List.length_take, List.length_drop]; omega
  rw [hll] at hpl
  subst hH
  refine st_call rfl (c_put (f := _) (back := at_ - o) (n := n) ho (.inr hn4) (by omega) (by rw [hll]; omega)) ?_ ?_
  · obtain ⟨gv, gβ, hgr⟩ := Grow.ex (out ++ putF ((bs.drop from_).take (at_ - from_)) (at_ - o) n)
    exact ⟨_, _, gβ, hgr, rfl⟩
  rintro r _ ⟨β', ho', rfl⟩
  (repeat (refine st_q rfl rfl rfl ?_))
  refine st_nil ?_
  refine kp_cons (i := 0) rfl ?_
  refine kp_cons (i := 1) rfl ?_
  refine kp_cons (i := 5) rfl ?_
  refine kp_cons (i := 7) rfl ?_
  refine kp_cons (i := 10) rfl ?_
  (repeat (refine kp_skip ?_))
  refine kp_nil ?_
  refine aw_region ?_
  (repeat (refine st_q rfl rfl rfl ?_))
  rw [e9]
  (refine st_nil ?_; (repeat (first | refine kp_cons rfl ?_ | refine kp_skip ?_)); refine kp_nil ?_)
  refine awp_region ?_
  (repeat (refine st_q rfl rfl rfl ?_))
  refine st_nil ?_
  refine hQ n β' r hrn hn4 hnl ho' _ ?_
  exact FSub.set (FSub.set (FSub.set (FSub.set (FSub.set (FSub.none _) (fun y e => by cases e; rfl)) (fun y e => by cases e; rfl)) (fun y e => by cases e; rfl)) (fun y e => by cases e; rfl)) (fun y e => by cases e; rfl)

theorem c_find {τ : AHeap} {bs : List UInt8} {f : Bool} {tb : Nat} (hb : bs.length ≤ 1048576) :
    ACalls Try.prog f_lz4_find [.arr 1 tb 0 4096, .slc 1 (bytes bs) f] ((tb, .cells 1 (ints (List.replicate 4096 (-1)))) :: τ) fun r σ' => ∃ β', Grow r (findF bs (List.replicate 4096 (-1)) 0 0 []) β' ∧ σ' = β' ++ τ := by
  generalize hX : findF bs (List.replicate 4096 (-1)) 0 0 [] = X
  have ht0 : (List.replicate 4096 (-1 : Int)).length = 4096 := List.length_replicate
  have ht1 : ∀ (i : Nat) (x : Int), (List.replicate 4096 (-1 : Int))[i]? = some x → x = -1 := by
    intro i x h
    have := List.mem_of_getElem? h
    exact List.eq_of_mem_replicate this
  generalize List.replicate 4096 (-1 : Int) = t0 at *
  refine acalls_enter rfl lz4_find_ok (Nat.le_of_ble_eq_true rfl) ?_
  refine aw_region ?_
  (repeat (refine st_q rfl rfl rfl ?_))
  (refine st_nil ?_; (repeat (first | refine kp_cons rfl ?_ | refine kp_skip ?_)); refine kp_nil ?_)
  refine aw_region ?_
  (repeat (refine st_q rfl rfl rfl ?_))
  (refine st_nil ?_; (repeat (first | refine kp_cons rfl ?_ | refine kp_skip ?_)); refine kp_nil ?_)
  refine aw_region ?_
  (repeat (refine st_q rfl rfl rfl ?_))
  (refine st_nil ?_; (repeat (first | refine kp_cons rfl ?_ | refine kp_skip ?_)); refine kp_nil ?_)
  refine aw_assoc ?_
  refine aw_reg ?_
  (repeat (refine st_q rfl rfl rfl ?_))
  (refine st_nil ?_; (repeat (first | refine kp_cons rfl ?_ | refine kp_skip ?_)); refine kp_nil ?_)
  refine awp_block ?_
  refine awp_loopN (findInv bs f tb τ X) (n := bs.length) ⟨0, 0, t0, [], .slc 0 [] true, [], rfl, rfl, Grow.nil 0, ht0, by omega, by omega, fun i x h => by rw [ht1 i x h]; omega, by simp, by omega, hX⟩ ?_
  rintro k F σ ⟨at_, from_, t, out, v, β, rfl, rfl, ho, htl, hfa, hal, htb, hol, rfl, hF⟩
  refine aw_assoc ?_
  refine aw_reg ?_
  (repeat (refine st_q rfl rfl rfl ?_))
  (refine st_nil ?_; (repeat (first | refine kp_cons rfl ?_ | refine kp_skip ?_)); refine kp_nil ?_)
  have e1 : IntKind.wrap .i64 ((at_ : Int) + 4) = ((at_ + 4 : Nat) : Int) := by rw [w64 _ (by omega) (by omega)]; omega
  rw [e1]
  refine awp_condp (p := ((at_ + 4 : Nat) : Int) ≤ ((bytes bs).length : Int)) rfl (fun h => ?_) (fun h => ?_)
  all_goals rw [bytes_length] at h
  · refine aw_skip ?_
    have h4 : at_ + 4 ≤ bs.length := by omega
    refine awp_block ?_
    refine aw_region ?_
    (repeat (refine st_q rfl rfl rfl ?_))
    refine st_slc rfl rfl ⟨by omega, by rw [bytes_length]; omega, by omega, by omega⟩ ?_
    have e2 : ((bytes bs).drop ((at_ : Int).toNat)).take (((bytes bs).length : Int) - (at_ : Int)).toNat = bytes (bs.drop at_) := by
      rw [bytes_drop, bytes_take, bytes_length]
      congr 1
      exact List.take_of_length_le (by rw [List.length_drop]; omega)
    rw [e2]
    refine st_callv rfl (c_hash (by rw [List.length_drop]; omega)) ?_
    (repeat (refine st_q rfl rfl rfl ?_))
    (refine st_nil ?_; (repeat (first | refine kp_cons rfl ?_ | refine kp_skip ?_)); refine kp_nil ?_)
    have hh := hashF_lt (bs.drop at_)
    generalize hhd : hashF (bs.drop at_) = hs at *
    obtain ⟨old, hold⟩ : ∃ old, t[hs]? = some old := ⟨t[hs], List.getElem?_eq_getElem (by omega)⟩
    have hgd : t.getD (hashF (bs.drop at_)) 0 = old := by rw [hhd, List.getD_eq_getElem?_getD, hold]; rfl
    obtain ⟨hlo, hhi⟩ := htb hs old hold
    refine awp_nd fun nd => ?_
    have htb' : tb ∉ keys β := keys_mid nd
    have hg : ∀ x, hget (β ++ (tb, x) :: τ) tb = some x := fun x => by rw [hget_app htb']; exact hget_head
    have hst : ∀ x y, hset (β ++ (tb, x) :: τ) tb y = β ++ (tb, y) :: τ := fun x y => by rw [hset_app htb', hset_head]
    have hold' : (ints t)[0 + (hs : Int).toNat]? = some (.int .i64 old) := by rw [ints_get, Nat.zero_add]; simp [hold]
    refine aw_region ?_
    refine st_q rfl rfl rfl ?_
    refine st_q rfl rfl rfl ?_
    refine st_iada rfl ⟨by omega, by omega⟩ ?_
    refine st_ldp rfl (hg _) hold' rfl ?_
    (repeat (refine st_q rfl rfl rfl ?_))
    (refine st_nil ?_; (repeat (first | refine kp_cons rfl ?_ | refine kp_skip ?_)); refine kp_nil ?_)
    refine aw_region ?_
    refine st_q rfl rfl rfl ?_
    refine st_q rfl rfl rfl ?_
    refine st_q rfl rfl rfl ?_
    refine st_iada rfl ⟨by omega, by omega⟩ ?_
    refine st_store rfl (hg _) hold' (by decide) (AVal.fit_iff.1 rfl) (fun _ => ⟨rfl, rfl⟩) (hst _ _) ?_
    refine st_nil ?_
    ((repeat (first | refine kp_cons rfl ?_ | refine kp_skip ?_)); refine kp_nil ?_)
    have e3 : (ints t).set (0 + (hs : Int).toNat) (putCells (.int .i64 old) 0 (AVal.int .i64 (at_ : Int)).cells) = ints (t.set hs at_) := by
      rw [← ints_set, Nat.zero_add]; rfl
    rw [e3]
    have htl' : (t.set hs (at_ : Int)).length = 4096 := by rw [List.length_set, htl]
    have htb2 : ∀ (m : Nat), at_ < m → ∀ (i : Nat) (x : Int), (t.set hs (at_ : Int))[i]? = some x → -1 ≤ x ∧ x < m := by
      intro m hm i x hx
      rw [List.getElem?_set] at hx
      split at hx
      · split at hx
        · cases hx; omega
        · cases hx
      · have := htb i x hx; omega
    -- what a place that is passed over leaves
    have skip : (old < 0 ∨ 65535 < (at_ : Int) - old ∨ (bs.drop old.toNat).take 4 ≠ (bs.drop at_).take 4) → findInv bs f tb τ X (bs.length - (at_ + 1))
        (fset 0 (some (.arr 1 tb 0 4096)) (fset 1 (some (.slc 1 (bytes bs) f)) (fset 5 (some v) (fset 6 (some (.int .i64 from_)) (fset 7 (some (.int .i64 (at_ + 1 : Nat))) fnone))))) (β ++ (tb, .cells 1 (ints (t.set hs at_))) :: τ) := fun hsk =>
      ⟨at_ + 1, from_, t.set hs at_, out, v, β, rfl, rfl, ho, htl', by omega, by omega, htb2 _ (by omega), hol, rfl, by rw [← hF, findF_skip h4 hgd hsk, hhd]⟩
    generalize hH : β ++ (tb, ABlk.cells 1 (ints (t.set hs at_))) :: τ = H at *
    refine aw_assoc ?_
    refine aw_cut (fun F' σ' => σ' = H ∧ ∃ d : Bool, (d = true ↔ (old < 0 ∨ 65535 < (at_ : Int) - old ∨ (bs.drop old.toNat).take 4 ≠ (bs.drop at_).take 4)) ∧
      KP [0, 1, 5, 6, 7, 9, 49] F' fun G => G = fset 0 (some (.arr 1 tb 0 4096)) (fset 1 (some (.slc 1 (bytes bs) f)) (fset 5 (some v) (fset 6 (some (.int .i64 from_)) (fset 7 (some (.int .i64 at_)) (fset 9 (some (.int .i64 old)) (fset 49 (some (.bool d)) fnone))))))) ?_ ?_
    · exact r8_ok hb h4 hlo hhi
    rintro F' σ1 ⟨hσ1, d, hd, hkp⟩
    rw [hσ1]
    refine kp_weaken (keep := [0, 1, 5, 6, 7, 9, 49]) ?_
    obtain ⟨G, hG1, rfl⟩ := hkp
    refine ⟨_, hG1, ?_⟩
    refine awp_cond rfl (fun h5 => ?_) (fun h5 => ?_)
    · have e8 : IntKind.wrap .i64 ((at_ : Int) + 1) = ((at_ + 1 : Nat) : Int) := by rw [w64 _ (by omega) (by omega)]; omega
      refine aw_region ?_
      (repeat (refine st_q rfl rfl rfl ?_))
      rw [e8]
      (refine st_nil ?_; (repeat (first | refine kp_cons rfl ?_ | refine kp_skip ?_)); refine kp_nil ?_)
      refine awp_exit ?_
      refine kp_less (I := findInv bs f tb τ X) (keep := [0, 1, 5, 6, 7]) ?_
      ((repeat (first | refine kp_cons rfl ?_ | refine kp_skip ?_)); refine kp_nil ?_)
      exact ⟨_, _, HSub.refl _, skip (hd.1 h5), by omega⟩
    refine aw_skip ?_
    have hC : ¬ (old < 0 ∨ 65535 < (at_ : Int) - old ∨ (bs.drop old.toNat).take 4 ≠ (bs.drop at_).take 4) := fun h => by rw [hd.2 h] at h5; cases h5
    obtain ⟨o, rfl⟩ : ∃ o : Nat, old = o := ⟨old.toNat, by omega⟩
    rw [Int.toNat_natCast] at hC
    subst hH
    refine kp_weaken (keep := [0, 1, 5, 6, 7, 9]) ?_
    ((repeat (first | refine kp_cons rfl ?_ | refine kp_skip ?_)); refine kp_nil ?_)
    refine find_tail hb h4 hlo hhi hfa hal hol ho fun n β' r hrn hn4 hnl ho' F hF' => ?_
    have hpl := putF_length ((bs.drop from_).take (at_ - from_)) (at_ - o) n
    have hll : ((bs.drop from_).take (at_ - from_)).length = at_ - from_ := by rw [List.length_take, List.length_drop]; omega
    rw [hll] at hpl
    refine ⟨_, _, bs.length - (at_ + n), hF', HSub.refl _, ⟨at_ + n, at_ + n, t.set hs at_, _, r, β', rfl, rfl, ho', htl', by omega, hnl, htb2 _ (by omega), ?_, rfl, ?_⟩, by omega⟩
    · rw [List.length_append]; omega
    · rw [← hF, findF_hit h4 hgd hC hrn, hhd]
  · refine awp_exit ?_
    show AWp _ _ _ _ _ _
    refine aw_region ?_
    (repeat (refine st_q rfl rfl rfl ?_))
    refine st_slc rfl rfl ⟨by omega, by rw [bytes_length]; omega, by omega, by omega⟩ ?_
    have e2 : ((bytes bs).drop ((from_ : Int).toNat)).take (((bytes bs).length : Int) - (from_ : Int)).toNat = bytes (bs.drop from_) := by
      rw [bytes_drop, bytes_take, bytes_length]
      congr 1
      exact List.take_of_length_le (by rw [List.length_drop]; omega)
    rw [e2]
    refine st_call rfl (c_put (back := 0) (n := 0) ho (.inl rfl) (by omega) (by rw [List.length_drop]; omega)) ?_ ?_
    · obtain ⟨gv, gβ, hgr⟩ := Grow.ex (out ++ putF (bs.drop from_) 0 0)
      exact ⟨_, _, gβ, hgr, rfl⟩
    rintro r _ ⟨β', ho', rfl⟩
    (repeat (refine st_q rfl rfl rfl ?_))
    (refine st_nil ?_; (repeat (first | refine kp_cons rfl ?_ | refine kp_skip ?_)); refine kp_nil ?_)
    refine awp_ret ?_
    rw [findF_end (by omega)] at hF
    rw [hF] at ho'
    exact ares rfl (HSub.of_sublist ((List.Sublist.refl β').append (List.sublist_cons_self _ _))) ⟨β', ho', rfl⟩
end Go.Abs
