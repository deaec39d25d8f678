/- Contracts: the reference's reading. -/
import Derived.Test.YtjlidaopbpefpaaLzB
namespace Go.Abs
open Go Go.Proofs Go.Abs.Lz
set_option linter.unusedVariables false
set_option linter.unusedSimpArgs false

theorem lenL_bound : ∀ {l : List UInt8} {n m : Nat} {r : List UInt8}, lenL l n = some (m, r) → m ≤ n + 255 * l.length
  | [], _, _, _, h => by simp [lenL] at h
  | c :: l, n, m, r, h => by
    have hc := c.toNat_lt
    simp only [Nat.reducePow] at hc
    unfold lenL at h
    split at h
    · simp only [Option.some.injEq, Prod.mk.injEq] at h
      simp only [List.length_cons]; omega
    · have := lenL_bound h
      simp only [List.length_cons]; omega
theorem lenN_bound {l : List UInt8} {n m : Nat} {r : List UInt8} (h : lenN l n = some (m, r)) : m ≤ n + 255 * l.length := by
  unfold lenN at h
  split at h
  · simp only [Option.some.injEq, Prod.mk.injEq] at h
    omega
  · exact lenL_bound h

theorem c_more {σ : AHeap} {bs : List UInt8} {f : Bool} {i n : Nat} {l : List UInt8} (hi : i ≤ bs.length) (hl : bs.drop i = l) (hn : n ≤ 15) (hb : bs.length ≤ 140737488355328) :
    ACalls Try.prog f_ingotref4_more [.slc 1 (bytes bs) f, .int .i64 i, .int .i64 n] σ fun r σ' => σ' = σ ∧
      match lenN l n with
      | none => r = .tup [.int .i64 0, .int .i64 (-1)]
      | some (m, l') => m ≤ 15 + 255 * bs.length ∧ ∃ j : Nat, j ≤ bs.length ∧ bs.drop j = l' ∧ r = .tup [.int .i64 m, .int .i64 j] := by
  refine acalls_enter rfl ingotref4_more_ok (Nat.le_of_ble_eq_true rfl) ?_
  refine aw_region ?_
  (repeat (refine st_q rfl rfl rfl ?_))
  (refine st_nil ?_; (repeat (first | refine kp_cons rfl ?_ | refine kp_skip ?_)); refine kp_nil ?_)
  refine aw_assoc ?_
  refine aw_reg ?_
  (repeat (refine st_q rfl rfl rfl ?_))
  (refine st_nil ?_; (repeat (first | refine kp_cons rfl ?_ | refine kp_skip ?_)); refine kp_nil ?_)
  refine awp_condp (p := (n : Int) < 15) rfl (fun h => ?_) (fun h => ?_)
  · refine aw_region ?_
    (repeat (refine st_q rfl rfl rfl ?_))
    (refine st_nil ?_; (repeat (first | refine kp_cons rfl ?_ | refine kp_skip ?_)); refine kp_nil ?_)
    refine awp_ret ?_
    refine ares rfl (HSub.refl _) ⟨rfl, ?_⟩
    have e : lenN l n = some (n, l) := by simp only [lenN]; rw [if_pos (by omega)]
    rw [e]
    exact ⟨by omega, i, hi, hl, rfl⟩
  refine aw_skip ?_
  have e : lenN l n = lenL l n := by simp only [lenN]; rw [if_neg (by omega)]
  rw [e]
  refine kp_weaken (keep := [0, 1, 2]) ?_
  ((repeat (first | refine kp_cons rfl ?_ | refine kp_skip ?_)); refine kp_nil ?_)
  refine awp_block ?_
  refine awp_loopN (fun k F σ' => ∃ (j m : Nat), F = fset 0 (some (.slc 1 (bytes bs) f)) (fset 1 (some (.int .i64 j)) (fset 2 (some (.int .i64 m)) fnone)) ∧ σ' = σ ∧ j ≤ bs.length ∧ m ≤ 15 + 255 * j ∧ k = bs.length - j ∧ lenL (bs.drop j) m = lenL l n) (n := bs.length - i)
    ⟨i, n, rfl, rfl, hi, by omega, rfl, by rw [hl]⟩ ?_
  rintro k F σ' ⟨j, m, rfl, rfl, hj, hm, rfl, hL⟩
  refine awp_block ?_
  refine aw_assoc ?_
  refine aw_reg ?_
  (repeat (refine st_q rfl rfl rfl ?_))
  (refine st_nil ?_; (repeat (first | refine kp_cons rfl ?_ | refine kp_skip ?_)); refine kp_nil ?_)
  refine awp_condp (p := (j : Int) = ((bytes bs).length : Int)) rfl (fun h1 => ?_) (fun h1 => ?_)
  all_goals rw [bytes_length] at h1
  · refine aw_region ?_
    (repeat (refine st_q rfl rfl rfl ?_))
    (refine st_nil ?_; (repeat (first | refine kp_cons rfl ?_ | refine kp_skip ?_)); refine kp_nil ?_)
    refine awp_ret ?_
    have e5 : bs.drop j = [] := List.drop_eq_nil_of_le (by omega)
    rw [e5] at hL
    have e6 : lenL l n = none := by rw [← hL]; rfl
    refine ares rfl (HSub.refl _) ⟨rfl, ?_⟩
    rw [e6]
    rfl
  refine aw_skip ?_
  have hj' : j < bs.length := by omega
  obtain ⟨c, r, hc⟩ : ∃ c r, bs.drop j = c :: r := by
    cases h2 : bs.drop j with
    | nil => exact absurd (drop_nil h2) (by omega)
    | cons c r => exact ⟨c, r, rfl⟩
  obtain ⟨_, hx, hr⟩ := drop_cons hc
  have hx' : (bytes bs)[(j : Int).toNat]? = some (byte c) := by rw [bytes_get]; simp [hx]
  have hc0 : c.toNat < 256 := c.toNat_lt
  have e1 : IntKind.wrap .i64 (c.toNat : Int) = (c.toNat : Int) := w64 _ (by omega) (by omega)
  have e2 : IntKind.wrap .i64 ((m : Int) + (c.toNat : Int)) = ((m + c.toNat : Nat) : Int) := by rw [w64 _ (by omega) (by omega)]; omega
  have e4 : IntKind.wrap .i64 ((j : Int) + 1) = ((j + 1 : Nat) : Int) := by rw [w64 _ (by omega) (by omega)]; omega
  have e7 : IntKind.wrap .i64 (((j + 1 : Nat) : Int) - 1) = (j : Int) := by rw [w64 _ (by omega) (by omega)]; omega
  refine aw_region ?_
  refine st_q rfl rfl rfl ?_
  refine st_q rfl rfl rfl ?_
  refine st_q rfl rfl rfl ?_
  refine st_iad rfl (by omega) hx' ?_
  (repeat (refine st_q rfl rfl rfl ?_))
  rw [e1, e2]
  (refine st_nil ?_; (repeat (first | refine kp_cons rfl ?_ | refine kp_skip ?_)); refine kp_nil ?_)
  refine aw_region ?_
  (repeat (refine st_q rfl rfl rfl ?_))
  rw [e4]
  (refine st_nil ?_; (repeat (first | refine kp_cons rfl ?_ | refine kp_skip ?_)); refine kp_nil ?_)
  refine aw_region ?_
  refine st_q rfl rfl rfl ?_
  refine st_q rfl rfl rfl ?_
  refine st_q rfl rfl rfl ?_
  rw [e7]
  refine st_iad rfl (by omega) hx' ?_
  (repeat (refine st_q rfl rfl rfl ?_))
  (refine st_nil ?_; (repeat (first | refine kp_cons rfl ?_ | refine kp_skip ?_)); refine kp_nil ?_)
  refine awp_condp (p := (c.toNat : Int) ≠ 255) rfl (fun h2 => ?_) (fun h2 => ?_)
  · refine aw_region ?_
    (repeat (refine st_q rfl rfl rfl ?_))
    (refine st_nil ?_; (repeat (first | refine kp_cons rfl ?_ | refine kp_skip ?_)); refine kp_nil ?_)
    refine awp_ret ?_
    refine ares rfl (HSub.refl _) ⟨rfl, ?_⟩
    have e5 : lenL l n = some (m + c.toNat, r) := by rw [← hL, hc]; simp only [lenL]; rw [if_pos (by omega)]
    rw [e5]
    exact ⟨by omega, j + 1, by omega, hr, rfl⟩
  · refine awp_skip ?_
    refine kp_less (keep := [0, 1, 2]) ?_
    ((repeat (first | refine kp_cons rfl ?_ | refine kp_skip ?_)); refine kp_nil ?_)
    refine ⟨_, _, HSub.refl _, ⟨j + 1, m + c.toNat, rfl, rfl, by omega, by omega, rfl, ?_⟩, by omega⟩
    rw [← hL, hc, hr]
    conv => rhs; unfold lenL
    rw [if_neg (by omega)]

/-! ### The loop of the reference's Unpack -/

def refInv (bs : List UInt8) (f : Bool) (most : Nat) (σ : AHeap) (k : Nat) (F : AFrame) (σ' : AHeap) : Prop :=
  ∃ (i : Nat) (o : List UInt8) (v : AVal) (β : AHeap), F = fset 0 (some (.slc 1 (bytes bs) f)) (fset 1 (some (.int .i64 most)) (fset 6 (some v) (fset 7 (some (.int .i64 i)) fnone))) ∧ σ' = β ++ σ ∧ Grow v o β ∧
    i ≤ bs.length ∧ o.length ≤ most ∧ k = (bs.drop i).length ∧ unpF most (bs.drop i) o = unpF most bs []

def RefR (σ : AHeap) (x : Nat × List UInt8) (r : AVal) (σ' : AHeap) : Prop := ∃ v β, r = .tup [v, .int .i64 x.1] ∧ Grow v x.2 β ∧ σ' = β ++ σ

def seqU (most : Nat) (y : Nat × List UInt8) : SeqR → Prop
  | .err e => y = (e, [])
  | .last o => y = (0, o)
  | .go r o => unpF most r o = y
theorem seqU_of {most : Nat} {l o : List UInt8} {X : SeqR} (h : seqF most l o = X) : seqU most (unpF most l o) X := by
  cases X with
  | err e => exact unpF_err h
  | last o' => exact unpF_last h
  | go r o' => exact (unpF_go h).symm

/-- From a copy on. -/
theorem ref_tail {σ : AHeap} {b' : Nat} {bs : List UInt8} {f : Bool} {i3 k0 : Nat} {o1 l4 : List UInt8} {t a b : UInt8} {most : Nat} (hb : bs.length ≤ 140737488355328) (hm : most ≤ 1048576) (hol : o1.length ≤ most) (hi3 : i3 + 2 ≤ bs.length)
    (hxa : bs[i3]? = some a) (hxb : bs[i3 + 1]? = some b) (hl4 : bs.drop (i3 + 2) = l4) (hk : l4.length < k0)
    (hU : seqU most (unpF most bs []) (match lenN l4 (t.toNat % 16) with
          | none => SeqR.err 3
          | some (m, l5) =>
            if a.toNat + 256 * b.toNat = 0 ∨ o1.length < a.toNat + 256 * b.toNat then .err 2
            else if most < o1.length + (m + 4) then .err 4
            else .go l5 (copyB (a.toNat + 256 * b.toNat) (m + 4) o1))) :
    AWp Try.prog ingotref4_Unpack.n (ingotref4_Unpack_l1.body.snd 11) (AInBlock 1 (ALess (refInv bs f most σ) k0 (AInBlock 0 (ARet ingotref4_Unpack.res (RefR σ (unpF most bs []))))))
      (fset 0 (some (.slc 1 (bytes bs) f)) (fset 1 (some (.int .i64 most)) (fset 6 (some (.arr 1 b' 0 o1.length)) (fset 7 (some (.int .i64 i3)) (fset 8 (some (.int .i64 t.toNat)) fnone))))) ((b', .cells 1 (bytes o1)) :: σ) := by
  have hxa' : (bytes bs)[(i3 : Int).toNat]? = some (byte a) := by rw [bytes_get]; simp [hxa]
  have hxb' : (bytes bs)[((i3 + 1 : Nat) : Int).toNat]? = some (byte b) := by rw [bytes_get]; simp [hxb]
  have ht0 : t.toNat < 256 := t.toNat_lt
  have ha0 : a.toNat < 256 := a.toNat_lt
  have hb0 : b.toNat < 256 := b.toNat_lt
  have e11 : IntKind.wrap .i64 ((i3 : Int) + 1) = ((i3 + 1 : Nat) : Int) := by rw [w64 _ (by omega) (by omega)]; omega
  have e12 : IntKind.wrap .i64 (a.toNat : Int) = (a.toNat : Int) := w64 _ (by omega) (by omega)
  have e13 : IntKind.wrap .i64 (b.toNat : Int) = (b.toNat : Int) := w64 _ (by omega) (by omega)
  have e14 : IntKind.wrap .i64 ((b.toNat : Int) * 256) = ((b.toNat * 256 : Nat) : Int) := by rw [w64 _ (by omega) (by omega)]; omega
  have e15 := or8 a.toNat b.toNat ha0 hb0
  have e16 : IntKind.wrap .i64 ((i3 : Int) + 2) = ((i3 + 2 : Nat) : Int) := by rw [w64 _ (by omega) (by omega)]; omega
  have e17 := and15 t.toNat ht0
  have hnil : ∀ (e : Nat), unpF most bs [] = (e, []) → RefR σ (unpF most bs []) (.tup [.slc 0 [] true, .int .i64 e]) σ := fun e h => by rw [h]; exact ⟨_, [], rfl, Grow.nil 0, rfl⟩
  refine aw_region ?_
  refine st_q rfl rfl rfl ?_
  refine st_q rfl rfl rfl ?_
  refine st_iad rfl (by omega) hxa' ?_
  (repeat (refine st_q rfl rfl rfl ?_))
  rw [e11, e12]
  refine st_iad rfl (by omega) hxb' ?_
  refine st_q rfl rfl rfl ?_
  refine st_q rfl rfl rfl ?_
  rw [e13]
  refine st_shl rfl (by decide) ?_
  change aops _ _ (fset _ (some (.int .i64 (IntKind.wrap .i64 ((b.toNat : Int) * 256)))) _) _ _
  rw [e14]
  refine st_q rfl (congrArg (fun x => some (AVal.int .i64 x)) e15) rfl ?_
  (repeat (refine st_q rfl rfl rfl ?_))
  generalize hbk : a.toNat + 256 * b.toNat = back at *
  (refine st_nil ?_; (repeat (first | refine kp_cons rfl ?_ | refine kp_skip ?_)); refine kp_nil ?_)
  refine aw_region ?_
  (repeat (refine st_q rfl rfl rfl ?_))
  rw [e16, e17]
  have hc := c_more (σ := (b', .cells 1 (bytes o1)) :: σ) (bs := bs) (f := f) (i := i3 + 2) (n := t.toNat % 16) (by omega) hl4 (by omega) hb
  cases hL : lenN l4 (t.toNat % 16) with
  | none =>
    rw [hL] at hU hc
    refine st_call rfl hc ⟨_, _, rfl, rfl⟩ ?_
    rintro _ _ ⟨rfl, rfl⟩
    (repeat (refine st_q rfl rfl rfl ?_))
    (refine st_nil ?_; (repeat (first | refine kp_cons rfl ?_ | refine kp_skip ?_)); refine kp_nil ?_)
    refine aw_assoc ?_
    refine aw_reg ?_
    (repeat (refine st_q rfl rfl rfl ?_))
    (refine st_nil ?_; (repeat (first | refine kp_cons rfl ?_ | refine kp_skip ?_)); refine kp_nil ?_)
    refine awp_cond rfl (fun _ => ?_) (fun e => by cases e)
    refine aw_region ?_
    (repeat (refine st_q rfl rfl rfl ?_))
    (refine st_nil ?_; (repeat (first | refine kp_cons rfl ?_ | refine kp_skip ?_)); refine kp_nil ?_)
    refine awp_ret ?_
    exact ares rfl (HSub.tail _ _) (hnil 3 hU)
  | some p =>
    obtain ⟨m, l5⟩ := p
    rw [hL] at hU hc
    simp only at hU hc
    obtain ⟨kk, hk1, hk2⟩ := lenN_suffix hL
    have hsh := lenN_short hL
    refine st_call (C := fun r σ' => σ' = (b', .cells 1 (bytes o1)) :: σ ∧ m ≤ 15 + 255 * bs.length ∧ ∃ j : Nat, j ≤ bs.length ∧ bs.drop j = l5 ∧ r = .tup [.int .i64 m, .int .i64 j]) rfl hc ?_ ?_
    · have hbd := lenN_bound hL
      have hdl := drop_len hl4 (by omega)
      exact ⟨_, _, rfl, by omega, i3 + 2 + kk, by omega, by rw [← hk2, ← hl4, List.drop_drop], rfl⟩
    rintro _ _ ⟨rfl, hmb, i4, hi4, hl5, rfl⟩
    (repeat (refine st_q rfl rfl rfl ?_))
    (refine st_nil ?_; (repeat (first | refine kp_cons rfl ?_ | refine kp_skip ?_)); refine kp_nil ?_)
    refine aw_assoc ?_
    refine aw_reg ?_
    (repeat (refine st_q rfl rfl rfl ?_))
    (refine st_nil ?_; (repeat (first | refine kp_cons rfl ?_ | refine kp_skip ?_)); refine kp_nil ?_)
    refine awp_condp (p := (i4 : Int) < 0) rfl (fun h => by omega) (fun _ => ?_)
    refine aw_skip ?_
    refine aw_region ?_
    (repeat (refine st_q rfl rfl rfl ?_))
    (refine st_nil ?_; (repeat (first | refine kp_cons rfl ?_ | refine kp_skip ?_)); refine kp_nil ?_)
    by_cases hz : back = 0
    · rw [if_pos (.inl hz)] at hU
      have hd : decide ((back : Int) = 0) = true := decide_eq_true (by omega)
      refine aw_assoc ?_
      refine aw_reg ?_
      (repeat (refine st_q rfl rfl rfl ?_))
      rw [hd]
      (repeat (refine st_gn rfl ?_))
      (repeat (refine st_q rfl rfl rfl ?_))
      (refine st_nil ?_; (repeat (first | refine kp_cons rfl ?_ | refine kp_skip ?_)); refine kp_nil ?_)
      refine awp_cond rfl (fun _ => ?_) (fun e => by cases e)
      refine aw_region ?_
      (repeat (refine st_q rfl rfl rfl ?_))
      (refine st_nil ?_; (repeat (first | refine kp_cons rfl ?_ | refine kp_skip ?_)); refine kp_nil ?_)
      refine awp_ret ?_
      exact ares rfl (HSub.tail _ _) (hnil 2 hU)
    have hd : decide ((back : Int) = 0) = false := decide_eq_false (by omega)
    refine aw_assoc ?_
    refine aw_reg ?_
    (repeat (refine st_q rfl rfl rfl ?_))
    rw [hd]
    (repeat (refine st_gy rfl (st_q rfl rfl rfl ?_)))
    (repeat (refine st_q rfl rfl rfl ?_))
    (refine st_nil ?_; (repeat (first | refine kp_cons rfl ?_ | refine kp_skip ?_)); refine kp_nil ?_)
    refine awp_condp (p := (o1.length : Int) < back) rfl (fun h2 => ?_) (fun h2 => ?_)
    · rw [if_pos (.inr (by omega))] at hU
      refine aw_region ?_
      (repeat (refine st_q rfl rfl rfl ?_))
      (refine st_nil ?_; (repeat (first | refine kp_cons rfl ?_ | refine kp_skip ?_)); refine kp_nil ?_)
      refine awp_ret ?_
      exact ares rfl (HSub.tail _ _) (hnil 2 hU)
    rw [if_neg (by omega)] at hU
    refine aw_skip ?_
    have e18 : IntKind.wrap .i64 ((m : Int) + 4) = ((m + 4 : Nat) : Int) := by rw [w64 _ (by omega) (by omega)]; omega
    have e19 : IntKind.wrap .i64 ((most : Int) - (o1.length : Int)) = (most : Int) - (o1.length : Int) := w64 _ (by omega) (by omega)
    refine aw_region ?_
    (repeat (refine st_q rfl rfl rfl ?_))
    rw [e18]
    (refine st_nil ?_; (repeat (first | refine kp_cons rfl ?_ | refine kp_skip ?_)); refine kp_nil ?_)
    refine aw_assoc ?_
    refine aw_reg ?_
    (repeat (refine st_q rfl rfl rfl ?_))
    rw [e19]
    (refine st_nil ?_; (repeat (first | refine kp_cons rfl ?_ | refine kp_skip ?_)); refine kp_nil ?_)
    refine awp_condp (p := (most : Int) - (o1.length : Int) < ((m + 4 : Nat) : Int)) rfl (fun h3 => ?_) (fun h3 => ?_)
    · rw [if_pos (by omega)] at hU
      refine aw_region ?_
      (repeat (refine st_q rfl rfl rfl ?_))
      (refine st_nil ?_; (repeat (first | refine kp_cons rfl ?_ | refine kp_skip ?_)); refine kp_nil ?_)
      refine awp_ret ?_
      exact ares rfl (HSub.tail _ _) (hnil 4 hU)
    rw [if_neg (by omega)] at hU
    refine aw_skip ?_
    refine kp_weaken (keep := [0, 1, 6, 7, 11, 12]) ?_
    ((repeat (first | refine kp_cons rfl ?_ | refine kp_skip ?_)); refine kp_nil ?_)
    refine aw_region ?_
    (repeat (refine st_q rfl rfl rfl ?_))
    (refine st_nil ?_; (repeat (first | refine kp_cons rfl ?_ | refine kp_skip ?_)); refine kp_nil ?_)
    refine awp_block ?_
    refine awp_loopN (fun k F σ' => ∃ (j c : Nat) (o : List UInt8), F = fset 0 (some (.slc 1 (bytes bs) f)) (fset 1 (some (.int .i64 most)) (fset 6 (some (.arr 1 c 0 o.length)) (fset 7 (some (.int .i64 i4)) (fset 11 (some (.int .i64 back)) (fset 12 (some (.int .i64 (m + 4 : Nat))) (fset 14 (some (.int .i64 j)) fnone)))))) ∧
      σ' = (c, .cells 1 (bytes o)) :: σ ∧ o.length = o1.length + j ∧ j ≤ m + 4 ∧ k = m + 4 - j ∧ copyB back k o = copyB back (m + 4) o1) (n := m + 4)
      ⟨0, b', o1, rfl, rfl, by omega, by omega, by omega, rfl⟩ ?_
    rintro k F σ' ⟨j, c, o, rfl, rfl, hoj, hjm, rfl, hcp⟩
    refine aw_assoc ?_
    refine aw_reg ?_
    (repeat (refine st_q rfl rfl rfl ?_))
    (refine st_nil ?_; (repeat (first | refine kp_cons rfl ?_ | refine kp_skip ?_)); refine kp_nil ?_)
    refine awp_condp (p := (j : Int) < (m + 4 : Nat)) rfl (fun h4 => ?_) (fun h4 => ?_)
    · refine aw_skip ?_
      refine aw_block ?_
      have e20 : IntKind.wrap .i64 ((o.length : Int) - (back : Int)) = ((o.length - back : Nat) : Int) := by rw [w64 _ (by omega) (by omega)]; omega
      have hoc : o[o.length - back]? = some (o.getD (o.length - back) 0) := by
        rw [List.getD_eq_getElem?_getD, List.getElem?_eq_getElem (by omega)]; rfl
      generalize hcc : o.getD (o.length - back) 0 = cc at *
      have hoc' : (bytes o)[0 + ((o.length - back : Nat) : Int).toNat]? = some (byte cc) := by rw [bytes_get, Nat.zero_add]; simp [hoc]
      refine awp_region ?_
      (repeat (refine st_q rfl rfl rfl ?_))
      rw [e20]
      refine st_iada rfl ⟨by omega, by omega⟩ ?_
      refine st_ldp rfl hget_head hoc' rfl ?_
      (repeat (refine st_q rfl rfl rfl ?_))
      refine st_appO (β := [(c, .cells 1 (bytes o))]) (ys := [cc]) (.inr ⟨c, rfl, rfl⟩) rfl rfl (by simp only [List.length_cons, List.length_nil]; omega) fun c' hc' => ?_
      (repeat (refine st_q rfl rfl rfl ?_))
      refine st_nil ?_
      refine kp_weaken (keep := [0, 1, 6, 7, 11, 12, 14]) ?_
      ((repeat (first | refine kp_cons rfl ?_ | refine kp_skip ?_)); refine kp_nil ?_)
      have e21 : IntKind.wrap .i64 ((j : Int) + 1) = ((j + 1 : Nat) : Int) := by rw [w64 _ (by omega) (by omega)]; omega
      refine awp_region ?_
      (repeat (refine st_q rfl rfl rfl ?_))
      rw [e21]
      refine st_nil ?_
      refine kp_less (keep := [0, 1, 6, 7, 11, 12, 14]) ?_
      ((repeat (first | refine kp_cons rfl ?_ | refine kp_skip ?_)); refine kp_nil ?_)
      refine ⟨_, m + 4 - (j + 1), HSub.refl _, ⟨j + 1, c', o ++ [cc], rfl, rfl, by simp; omega, by omega, rfl, ?_⟩, by omega⟩
      rw [← hcp, show m + 4 - j = (m + 4 - (j + 1)) + 1 by omega, copyB, hcc]
    · refine awp_exit ?_
      have e22 : m + 4 - j = 0 := by omega
      rw [e22, copyB] at hcp
      subst hcp
      refine kp_less (I := refInv bs f most σ) (keep := [0, 1, 6, 7]) ?_
      ((repeat (first | refine kp_cons rfl ?_ | refine kp_skip ?_)); refine kp_nil ?_)
      exact ⟨_, l5.length, HSub.refl _, ⟨i4, _, _, [(c, .cells 1 (bytes _))], rfl, rfl, .inr ⟨c, rfl, rfl⟩, hi4, by omega, by rw [hl5], by rw [hl5]; exact hU⟩, by omega⟩

theorem c_refUnpack (σ : AHeap) {bs : List UInt8} {f : Bool} {most : Int} (hb : bs.length ≤ 140737488355328) :
    ACalls Try.prog f_ingotref4_Unpack [.slc 1 (bytes bs) f, .int .i64 most] σ (RefR σ (unpack most bs)) := by
  refine acalls_enter rfl ingotref4_Unpack_ok (Nat.le_of_ble_eq_true rfl) ?_
  refine aw_region ?_
  (repeat (refine st_q rfl rfl rfl ?_))
  (refine st_nil ?_; (repeat (first | refine kp_cons rfl ?_ | refine kp_skip ?_)); refine kp_nil ?_)
  refine aw_assoc ?_
  refine aw_reg ?_
  (repeat (refine st_q rfl rfl rfl ?_))
  by_cases h1 : most < 0 ∨ 1048576 < most
  · have hu : unpack most bs = (1, []) := by rw [unpack, if_pos h1]
    rw [hu]
    have hcode : ∀ F, AWp Try.prog ingotref4_Unpack.n (.seq (.region ingotref4_Unpack_r2 [4, 5]) .ret) (AThen Try.prog ingotref4_Unpack.n (ingotref4_Unpack.code.snd 2) (ARet ingotref4_Unpack.res (RefR σ (1, [])))) F σ := fun F => by
      refine aw_region ?_
      (repeat (refine st_q rfl rfl rfl ?_))
      (refine st_nil ?_; (repeat (first | refine kp_cons rfl ?_ | refine kp_skip ?_)); refine kp_nil ?_)
      refine awp_ret ?_
      exact ares rfl (HSub.refl _) ⟨_, [], rfl, Grow.nil 0, rfl⟩
    by_cases h2 : most < 0
    · rw [show decide (most < 0) = true from decide_eq_true h2]
      (repeat (refine st_gn rfl ?_))
      (repeat (refine st_q rfl rfl rfl ?_))
      (refine st_nil ?_; (repeat (first | refine kp_cons rfl ?_ | refine kp_skip ?_)); refine kp_nil ?_)
      exact awp_cond rfl (fun _ => hcode _) (fun e => by cases e)
    · rw [show decide (most < 0) = false from decide_eq_false h2]
      (repeat (refine st_gy rfl (st_q rfl rfl rfl ?_)))
      (repeat (refine st_q rfl rfl rfl ?_))
      (refine st_nil ?_; (repeat (first | refine kp_cons rfl ?_ | refine kp_skip ?_)); refine kp_nil ?_)
      exact awp_condp (p := 1048576 < most) rfl (fun _ => hcode _) (fun e => absurd h1 (by omega))
  rw [show decide (most < 0) = false from decide_eq_false (by omega)]
  (repeat (refine st_gy rfl (st_q rfl rfl rfl ?_)))
  (repeat (refine st_q rfl rfl rfl ?_))
  (refine st_nil ?_; (repeat (first | refine kp_cons rfl ?_ | refine kp_skip ?_)); refine kp_nil ?_)
  refine awp_condp (p := 1048576 < most) rfl (fun _ => by omega) (fun _ => ?_)
  refine aw_skip ?_
  obtain ⟨m, rfl⟩ : ∃ m : Nat, most = m := ⟨most.toNat, by omega⟩
  have hu : unpack m bs = unpF m bs [] := by rw [unpack, if_neg h1]; rfl
  rw [hu]
  refine aw_region ?_
  (repeat (refine st_q rfl rfl rfl ?_))
  (refine st_nil ?_; (repeat (first | refine kp_cons rfl ?_ | refine kp_skip ?_)); refine kp_nil ?_)
  refine aw_region ?_
  (repeat (refine st_q rfl rfl rfl ?_))
  (refine st_nil ?_; (repeat (first | refine kp_cons rfl ?_ | refine kp_skip ?_)); refine kp_nil ?_)
  refine awp_block ?_
  refine awp_loopN (refInv bs f m σ) (n := bs.length) ⟨0, [], .slc 0 [] true, [], rfl, rfl, Grow.nil 0, by omega, by simp, by simp, by simp⟩ ?_
  rintro k F σ' ⟨i, xs, v, β, rfl, rfl, ho, hi, hxm, rfl, hUU⟩
  have hnil : ∀ (e : Nat), unpF m bs [] = (e, []) → RefR σ (unpF m bs []) (.tup [.slc 0 [] true, .int .i64 e]) σ := fun e h => by rw [h]; exact ⟨_, [], rfl, Grow.nil 0, rfl⟩
  have hU := seqU_of (most := m) (l := bs.drop i) (o := xs) rfl
  rw [hUU] at hU
  generalize hl : bs.drop i = l at hU ⊢
  have hsub : HSub σ (β ++ σ) := HSub.of_sublist (List.sublist_append_right _ _)
  have hlen := ho.lens
  unfold seqF at hU
  refine awp_block ?_
  refine aw_assoc ?_
  refine aw_reg ?_
  (repeat (refine st_q rfl rfl rfl ?_))
  (refine st_nil ?_; (repeat (first | refine kp_cons rfl ?_ | refine kp_skip ?_)); refine kp_nil ?_)
  refine awp_condp (p := (i : Int) = ((bytes bs).length : Int)) rfl (fun h => ?_) (fun h => ?_)
  all_goals rw [bytes_length] at h
  · refine aw_region ?_
    (repeat (refine st_q rfl rfl rfl ?_))
    (refine st_nil ?_; (repeat (first | refine kp_cons rfl ?_ | refine kp_skip ?_)); refine kp_nil ?_)
    refine awp_ret ?_
    have e : l = [] := by rw [← hl]; exact List.drop_eq_nil_of_le (by omega)
    subst e
    exact ares rfl hsub (hnil 3 hU)
  refine aw_skip ?_
  obtain ⟨t, l1, rfl⟩ : ∃ t l1, l = t :: l1 := by
    cases l with
    | nil => exact absurd (drop_nil hl) (by omega)
    | cons t l1 => exact ⟨t, l1, rfl⟩
  obtain ⟨hi1, hx, hl1⟩ := drop_cons hl
  have hx' : (bytes bs)[(i : Int).toNat]? = some (byte t) := by rw [bytes_get]; simp [hx]
  have ht0 : t.toNat < 256 := t.toNat_lt
  have e1 : IntKind.wrap .i64 (t.toNat : Int) = (t.toNat : Int) := w64 _ (by omega) (by omega)
  have e4 : IntKind.wrap .i64 ((i : Int) + 1) = ((i + 1 : Nat) : Int) := by rw [w64 _ (by omega) (by omega)]; omega
  have e5 : Int.fdiv (t.toNat : Int) (2 ^ (Nat.min ((4 : Int).toNat) IntKind.i64.bits)) = ((t.toNat / 16 : Nat) : Int) := by
    show Int.fdiv (t.toNat : Int) 16 = _
    rw [Int.fdiv_eq_ediv_of_nonneg _ (by omega)]; omega
  refine aw_region ?_
  refine st_q rfl rfl rfl ?_
  refine st_q rfl rfl rfl ?_
  refine st_iad rfl (by omega) hx' ?_
  (repeat (refine st_q rfl rfl rfl ?_))
  rw [e1]
  (refine st_nil ?_; (repeat (first | refine kp_cons rfl ?_ | refine kp_skip ?_)); refine kp_nil ?_)
  refine aw_region ?_
  refine st_q rfl rfl rfl ?_
  refine st_q rfl rfl rfl ?_
  refine st_q rfl rfl rfl ?_
  refine st_q rfl rfl rfl ?_
  refine st_shr rfl (by decide) ?_
  rw [e4, e5]
  simp only at hU
  have hc := c_more (σ := β ++ σ) (bs := bs) (f := f) (i := i + 1) (n := t.toNat / 16) (by omega) hl1 (by omega) hb
  cases hL : lenN l1 (t.toNat / 16) with
  | none =>
    rw [hL] at hU hc
    refine st_call rfl hc ⟨_, _, rfl, rfl⟩ ?_
    rintro _ _ ⟨rfl, rfl⟩
    (repeat (refine st_q rfl rfl rfl ?_))
    (refine st_nil ?_; (repeat (first | refine kp_cons rfl ?_ | refine kp_skip ?_)); refine kp_nil ?_)
    refine aw_assoc ?_
    refine aw_reg ?_
    (repeat (refine st_q rfl rfl rfl ?_))
    (refine st_nil ?_; (repeat (first | refine kp_cons rfl ?_ | refine kp_skip ?_)); refine kp_nil ?_)
    refine awp_cond rfl (fun _ => ?_) (fun e => by cases e)
    refine aw_region ?_
    (repeat (refine st_q rfl rfl rfl ?_))
    (refine st_nil ?_; (repeat (first | refine kp_cons rfl ?_ | refine kp_skip ?_)); refine kp_nil ?_)
    refine awp_ret ?_
    exact ares rfl hsub (hnil 3 hU)
  | some p =>
  obtain ⟨n, l2⟩ := p
  rw [hL] at hU hc
  simp only at hU hc
  obtain ⟨kk, hk1, hk2⟩ := lenN_suffix hL
  have hsh := lenN_short hL
  refine st_call (C := fun r σ' => σ' = β ++ σ ∧ n ≤ 15 + 255 * bs.length ∧ ∃ j : Nat, j ≤ bs.length ∧ bs.drop j = l2 ∧ r = .tup [.int .i64 n, .int .i64 j]) rfl hc ?_ ?_
  · have hbd := lenN_bound hL
    have hdl := drop_len hl1 (by omega)
    exact ⟨_, _, rfl, by omega, i + 1 + kk, by omega, by rw [← hk2, ← hl1, List.drop_drop], rfl⟩
  rintro _ _ ⟨rfl, hmb, i2, hi2, hl2, rfl⟩
  (repeat (refine st_q rfl rfl rfl ?_))
  (refine st_nil ?_; (repeat (first | refine kp_cons rfl ?_ | refine kp_skip ?_)); refine kp_nil ?_)
  refine aw_assoc ?_
  refine aw_reg ?_
  (repeat (refine st_q rfl rfl rfl ?_))
  (refine st_nil ?_; (repeat (first | refine kp_cons rfl ?_ | refine kp_skip ?_)); refine kp_nil ?_)
  refine awp_condp (p := (i2 : Int) < 0) rfl (fun h => by omega) (fun _ => ?_)
  refine aw_skip ?_
  refine aw_region ?_
  (repeat (refine st_q rfl rfl rfl ?_))
  (refine st_nil ?_; (repeat (first | refine kp_cons rfl ?_ | refine kp_skip ?_)); refine kp_nil ?_)
  refine aw_assoc ?_
  refine aw_reg ?_
  (repeat (refine st_q rfl rfl rfl ?_))
  refine st_lens rfl hlen ?_
  (repeat (refine st_q rfl rfl rfl ?_))
  have e6 : IntKind.wrap .i64 ((m : Int) - (xs.length : Int)) = (m : Int) - (xs.length : Int) := w64 _ (by omega) (by omega)
  rw [e6]
  (refine st_nil ?_; (repeat (first | refine kp_cons rfl ?_ | refine kp_skip ?_)); refine kp_nil ?_)
  refine awp_condp (p := (m : Int) - (xs.length : Int) < (n : Int)) rfl (fun h2 => ?_) (fun h2 => ?_)
  · rw [if_pos (by omega)] at hU
    refine aw_region ?_
    (repeat (refine st_q rfl rfl rfl ?_))
    (refine st_nil ?_; (repeat (first | refine kp_cons rfl ?_ | refine kp_skip ?_)); refine kp_nil ?_)
    refine awp_ret ?_
    exact ares rfl hsub (hnil 4 hU)
  rw [if_neg (by omega)] at hU
  refine aw_skip ?_
  have hln := drop_len hl2 hi2
  refine aw_assoc ?_
  refine aw_reg ?_
  (repeat (refine st_q rfl rfl rfl ?_))
  have e7 : IntKind.wrap .i64 (((bytes bs).length : Int) - (i2 : Int)) = (l2.length : Int) := by
    rw [bytes_length, w64 _ (by omega) (by omega)]; omega
  rw [e7]
  (refine st_nil ?_; (repeat (first | refine kp_cons rfl ?_ | refine kp_skip ?_)); refine kp_nil ?_)
  refine awp_condp (p := (l2.length : Int) < n) rfl (fun h3 => ?_) (fun h3 => ?_)
  · rw [if_pos (by omega)] at hU
    refine aw_region ?_
    (repeat (refine st_q rfl rfl rfl ?_))
    (refine st_nil ?_; (repeat (first | refine kp_cons rfl ?_ | refine kp_skip ?_)); refine kp_nil ?_)
    refine awp_ret ?_
    exact ares rfl hsub (hnil 3 hU)
  rw [if_neg (by omega)] at hU
  refine aw_skip ?_
  refine kp_weaken (keep := [0, 1, 6, 7, 8, 9]) ?_
  ((repeat (first | refine kp_cons rfl ?_ | refine kp_skip ?_)); refine kp_nil ?_)
  refine aw_region ?_
  (repeat (refine st_q rfl rfl rfl ?_))
  have e8 : IntKind.wrap .i64 ((i2 : Int) + (n : Int)) = ((i2 + n : Nat) : Int) := by rw [w64 _ (by omega) (by omega)]; omega
  rw [e8]
  refine st_slc rfl rfl ⟨by omega, by omega, by rw [bytes_length]; omega, by omega⟩ ?_
  have e9 : ((bytes bs).drop ((i2 : Int).toNat)).take (((i2 + n : Nat) : Int) - (i2 : Int)).toNat = bytes (l2.take n) := by
    rw [bytes_drop, bytes_take, show ((i2 : Int).toNat) = i2 from rfl, hl2, show (((i2 + n : Nat) : Int) - (i2 : Int)).toNat = n by omega]
  rw [e9]
  refine st_appO (ys := l2.take n) ho rfl (by simp [elemsOf]) (by rw [List.length_take]; omega) fun b' hb' => ?_
  generalize ho1 : xs ++ l2.take n = o1 at *
  have hol : o1.length = xs.length + n := by rw [← ho1, List.length_append, List.length_take]; omega
  (repeat (refine st_q rfl rfl rfl ?_))
  (refine st_nil ?_; (repeat (first | refine kp_cons rfl ?_ | refine kp_skip ?_)); refine kp_nil ?_)
  refine aw_region ?_
  (repeat (refine st_q rfl rfl rfl ?_))
  rw [e8]
  have hl3 : bs.drop (i2 + n) = l2.drop n := by rw [← hl2, List.drop_drop]
  generalize hi3 : i2 + n = i3 at *
  have hi3' : i3 ≤ bs.length := by omega
  (refine st_nil ?_; (repeat (first | refine kp_cons rfl ?_ | refine kp_skip ?_)); refine kp_nil ?_)
  refine aw_assoc ?_
  refine aw_reg ?_
  (repeat (refine st_q rfl rfl rfl ?_))
  (refine st_nil ?_; (repeat (first | refine kp_cons rfl ?_ | refine kp_skip ?_)); refine kp_nil ?_)
  refine awp_condp (p := (i3 : Int) = ((bytes bs).length : Int)) rfl (fun h4 => ?_) (fun h4 => ?_)
  all_goals rw [bytes_length] at h4
  · refine aw_region ?_
    (repeat (refine st_q rfl rfl rfl ?_))
    (refine st_nil ?_; (repeat (first | refine kp_cons rfl ?_ | refine kp_skip ?_)); refine kp_nil ?_)
    refine awp_ret ?_
    have e : l2.drop n = [] := by rw [← hl3]; exact List.drop_eq_nil_of_le (by omega)
    rw [e] at hU
    have hU' : unpF m bs [] = (0, o1) := hU
    rw [hU']
    exact ares rfl (HSub.refl _) ⟨_, [(b', .cells 1 (bytes o1))], rfl, .inr ⟨b', rfl, rfl⟩, rfl⟩
  refine aw_skip ?_
  refine aw_assoc ?_
  refine aw_reg ?_
  (repeat (refine st_q rfl rfl rfl ?_))
  have e10 : IntKind.wrap .i64 (((bytes bs).length : Int) - (i3 : Int)) = ((l2.drop n).length : Int) := by
    have := drop_len hl3 hi3'
    rw [bytes_length, w64 _ (by omega) (by omega)]; omega
  rw [e10]
  (refine st_nil ?_; (repeat (first | refine kp_cons rfl ?_ | refine kp_skip ?_)); refine kp_nil ?_)
  refine awp_condp (p := ((l2.drop n).length : Int) < 2) rfl (fun h5 => ?_) (fun h5 => ?_)
  · refine aw_region ?_
    (repeat (refine st_q rfl rfl rfl ?_))
    (refine st_nil ?_; (repeat (first | refine kp_cons rfl ?_ | refine kp_skip ?_)); refine kp_nil ?_)
    refine awp_ret ?_
    have : ∃ x, l2.drop n = [x] := by
      have := drop_len hl3 hi3'
      cases hd : l2.drop n with
      | nil => rw [hd] at this; simp only [List.length_nil] at this; omega
      | cons x r => cases r with
        | nil => exact ⟨x, rfl⟩
        | cons y r => rw [hd] at h5; simp only [List.length_cons] at h5; omega
    obtain ⟨x, hx⟩ := this
    rw [hx] at hU
    exact ares rfl (HSub.tail _ _) (hnil 3 hU)
  refine aw_skip ?_
  obtain ⟨a, b, l4, hab⟩ : ∃ a b l4, l2.drop n = a :: b :: l4 := by
    cases hd : l2.drop n with
    | nil => rw [hd] at h5; simp only [List.length_nil] at h5; omega
    | cons x r => cases r with
      | nil => rw [hd] at h5; simp only [List.length_cons, List.length_nil] at h5; omega
      | cons y r => exact ⟨x, y, r, rfl⟩
  rw [hab] at hU hl3
  simp only at hU
  obtain ⟨hj1, hxa, hl4⟩ := drop_cons hl3
  obtain ⟨hj2, hxb, hl5⟩ := drop_cons hl4
  have hlk := drop_len hl5 (by omega)
  have hcons : (t :: l1).length = l1.length + 1 := rfl
  refine kp_weaken (keep := [0, 1, 6, 7, 8]) ?_
  ((repeat (first | refine kp_cons rfl ?_ | refine kp_skip ?_)); refine kp_nil ?_)
  exact ref_tail hb (by omega) (by omega) (by omega) hxa hxb (by simpa [Nat.add_assoc] using hl5) (by omega) hU
end Go.Abs
