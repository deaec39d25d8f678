/- Contracts: a length, a sequence, a block read. -/
import Derived.Test.YtjlidaopbpefpaaAbsT
import Derived.Test.YtjlidaopbpefpaaACode
import Derived.Test.YtjlidaopbpefpaaAOk
import Derived.Test.YtjlidaopbpefpaaLzS
namespace Go.Abs
open Go Go.Proofs Go.Abs.Lz
set_option linter.unusedVariables false
set_option linter.unusedSimpArgs false

theorem drop_cons {α : Type} {l : List α} {i : Nat} {x : α} {r : List α} (h : l.drop i = x :: r) : i < l.length ∧ l[i]? = some x ∧ l.drop (i + 1) = r := by
  have h1 : i < l.length := by
    apply Nat.lt_of_not_le; intro h'; rw [List.drop_eq_nil_of_le h'] at h; cases h
  refine ⟨h1, ?_, ?_⟩
  · have := congrArg (fun l => l[0]?) h
    simpa using this
  · have := congrArg (List.drop 1) h
    simpa [List.drop_drop] using this
theorem drop_nil {α : Type} {l : List α} {i : Nat} (h : l.drop i = []) : l.length ≤ i := by simpa using h
theorem drop_len {α : Type} {l r : List α} {i : Nat} (h : l.drop i = r) (hi : i ≤ l.length) : l.length = i + r.length := by
  have := congrArg List.length h
  simp only [List.length_drop] at this
  omega

/-- The reader's block. -/
def rdr (bs : List UInt8) (f : Bool) (i : Nat) (out : AVal) : ABlk := .cells 3 [.agg [.slc 1 (bytes bs) f, .int .i64 i, out]]

/-- What a call of 'length' leaves. -/
def LenR (σ : AHeap) (rb : Nat) (bs : List UInt8) (f : Bool) (out : AVal) (x : Option (Nat × List UInt8)) (r : AVal) (σ' : AHeap) : Prop :=
  match x with
  | none => r = .tup [.int .i64 0, .bool false] ∧ ∃ i : Nat, σ' = hset σ rb (rdr bs f i out)
  | some (m, l) => r = .tup [.int .i64 (min m 2097152 : Nat), .bool true] ∧ ∃ i : Nat, i ≤ bs.length ∧ bs.drop i = l ∧ σ' = hset σ rb (rdr bs f i out)

theorem c_length {σ : AHeap} {rb : Nat} {bs : List UInt8} {f : Bool} {i : Nat} {out : AVal} {l : List UInt8} {n : Nat} (hg : hget σ rb = some (rdr bs f i out)) (hi : i ≤ bs.length) (hl : bs.drop i = l) (hn : n ≤ 15) (hb : bs.length ≤ 140737488355328) :
    ACalls Try.prog f_lz4_reader_length [.ptr rb 0 0, .int .i64 n] σ (LenR σ rb bs f out (lenN l n)) := by
  refine acalls_enter rfl lz4_reader_length_ok (Nat.le_of_ble_eq_true rfl) ?_
  refine aw_region ?_
  (repeat (refine st_q rfl rfl rfl ?_))
  (refine st_nil ?_; (repeat (first | refine kp_cons rfl ?_ | refine kp_skip ?_)); refine kp_nil ?_)
  refine aw_assoc ?_
  refine aw_reg ?_
  (repeat (refine st_q rfl rfl rfl ?_))
  (refine st_nil ?_; (repeat (first | refine kp_cons rfl ?_ | refine kp_skip ?_)); refine kp_nil ?_)
  refine awp_condp (p := (n : Int) < 15) rfl (fun h => ?_) (fun h => ?_)
  · refine aw_region ?_
    (repeat (refine st_q rfl rfl rfl ?_))
    (refine st_nil ?_; (repeat (first | refine kp_cons rfl ?_ | refine kp_skip ?_)); refine kp_nil ?_)
    refine awp_ret ?_
    refine ares rfl (HSub.refl _) ?_
    have e : lenN l n = some (n, l) := by simp only [lenN]; rw [if_pos (by omega)]
    rw [e]
    refine ⟨?_, i, hi, hl, (hset_self hg).symm⟩
    rw [show min n 2097152 = n by omega]
    rfl
  · refine aw_skip ?_
    have e : lenN l n = lenL l n := by simp only [lenN]; rw [if_neg (by omega)]
    rw [e]
    refine kp_weaken (keep := [0, 1]) ?_
    ((repeat (first | refine kp_cons rfl ?_ | refine kp_skip ?_)); refine kp_nil ?_)
    refine aw_block ?_
    refine awp_loopN (fun k F σ' => ∃ (j m : Nat), F = fset 0 (some (.ptr rb 0 0)) (fset 1 (some (.int .i64 (min m 2097152 : Nat))) fnone) ∧ σ' = hset σ rb (rdr bs f j out) ∧ j ≤ bs.length ∧ k = bs.length - j ∧ lenL (bs.drop j) m = lenL l n) (n := bs.length - i) ⟨i, n, ?_, (hset_self hg).symm, hi, rfl, by rw [hl]⟩ ?_
    · rw [show min n 2097152 = n by omega]
    · rintro k F σ' ⟨j, m, rfl, rfl, hj, rfl, hL⟩
      have hg' : hget (hset σ rb (rdr bs f j out)) rb = some (rdr bs f j out) := hget_hset_same hg
      refine aw_assoc ?_
      refine aw_reg ?_
      (repeat (first | refine st_q rfl rfl rfl ?_ | refine st_ldp rfl hg' rfl rfl ?_))
      (refine st_nil ?_; (repeat (first | refine kp_cons rfl ?_ | refine kp_skip ?_)); refine kp_nil ?_)
      refine awp_condp (p := (j : Int) < (bytes bs).length) rfl (fun h1 => ?_) (fun h1 => ?_)
      all_goals rw [bytes_length] at h1
      · refine aw_skip ?_
        have hj' : j < bs.length := by omega
        obtain ⟨c, r, hc⟩ : ∃ c r, bs.drop j = c :: r := by
          cases h2 : bs.drop j with
          | nil => exact absurd (drop_nil h2) (by omega)
          | cons c r => exact ⟨c, r, rfl⟩
        obtain ⟨_, hx, hr⟩ := drop_cons hc
        have hx' : (bytes bs)[(j : Int).toNat]? = some (byte c) := by rw [bytes_get]; simp [hx]
        have hc0 : c.toNat < 256 := c.toNat_lt
        refine awp_block ?_
        refine aw_region ?_
        (repeat (first | refine st_q rfl rfl rfl ?_ | refine st_ldp rfl hg' rfl rfl ?_))
        refine st_iad rfl (by omega) hx' ?_
        (repeat (refine st_q rfl rfl rfl ?_))
        (refine st_nil ?_; (repeat (first | refine kp_cons rfl ?_ | refine kp_skip ?_)); refine kp_nil ?_)
        refine aw_region ?_
        (repeat (first | refine st_q rfl rfl rfl ?_ | refine st_ldp rfl hg' rfl rfl ?_))
        refine st_store rfl hg' rfl (by decide) (AVal.fit_iff.1 rfl) (fun e => by cases e) rfl ?_
        refine st_nil ?_
        ((repeat (first | refine kp_cons rfl ?_ | refine kp_skip ?_)); refine kp_nil ?_)
        refine aw_region ?_
        (repeat (refine st_q rfl rfl rfl ?_))
        (refine st_nil ?_; (repeat (first | refine kp_cons rfl ?_ | refine kp_skip ?_)); refine kp_nil ?_)
        refine aw_region ?_
        (repeat (refine st_q rfl rfl rfl ?_))
        (refine st_nil ?_; (repeat (first | refine kp_cons rfl ?_ | refine kp_skip ?_)); refine kp_nil ?_)
        have e1 : IntKind.wrap .i64 (c.toNat : Int) = (c.toNat : Int) := w64 _ (by omega) (by omega)
        have e2 : IntKind.wrap .i64 (((min m 2097152 : Nat) : Int) + (c.toNat : Int)) = (((min m 2097152 : Nat) : Int) + (c.toNat : Int)) := w64 _ (by omega) (by omega)
        have e3 : (if (2097152 : Int) < ((min m 2097152 : Nat) : Int) + (c.toNat : Int) then 2097152 else ((min m 2097152 : Nat) : Int) + (c.toNat : Int)) = ((min (m + c.toNat) 2097152 : Nat) : Int) := by split <;> omega
        have e4 : IntKind.wrap .i64 ((j : Int) + 1) = ((j + 1 : Nat) : Int) := by rw [w64 _ (by omega) (by omega)]; omega
        rw [hset_hset, e1, e2, e3, e4]
        refine awp_condp (p := (c.toNat : Int) < 255) rfl (fun h2 => ?_) (fun h2 => ?_)
        · refine aw_region ?_
          (repeat (refine st_q rfl rfl rfl ?_))
          (refine st_nil ?_; (repeat (first | refine kp_cons rfl ?_ | refine kp_skip ?_)); refine kp_nil ?_)
          refine awp_ret ?_
          refine ares rfl (HSub.refl _) ?_
          have e5 : lenL l n = some (m + c.toNat, r) := by rw [← hL, hc]; simp only [lenL]; rw [if_pos (by omega)]
          rw [e5]
          exact ⟨rfl, j + 1, by omega, hr, rfl⟩
        · refine awp_skip ?_
          refine kp_less (keep := [0, 1]) ?_
          ((repeat (first | refine kp_cons rfl ?_ | refine kp_skip ?_)); refine kp_nil ?_)
          refine ⟨_, _, HSub.refl _, ⟨j + 1, m + c.toNat, rfl, rfl, by omega, rfl, ?_⟩, by omega⟩
          rw [← hL, hc, hr]
          conv => rhs; unfold lenL
          rw [if_neg (by omega)]
      · refine awp_exit ?_
        show AWp _ _ _ _ _ _
        refine aw_region ?_
        (repeat (refine st_q rfl rfl rfl ?_))
        (refine st_nil ?_; (repeat (first | refine kp_cons rfl ?_ | refine kp_skip ?_)); refine kp_nil ?_)
        refine awp_ret ?_
        refine ares rfl (HSub.refl _) ?_
        have e5 : bs.drop j = [] := List.drop_eq_nil_of_le (by omega)
        rw [e5] at hL
        have e6 : lenL l n = none := by rw [← hL]; rfl
        rw [e6]
        exact ⟨rfl, j, rfl⟩

theorem lenL_suffix : ∀ {l : List UInt8} {n m : Nat} {r : List UInt8}, lenL l n = some (m, r) → ∃ k, k ≤ l.length ∧ l.drop k = r
  | [], _, _, _, h => by simp [lenL] at h
  | c :: l, n, m, r, h => by
    unfold lenL at h
    split at h
    · simp only [Option.some.injEq, Prod.mk.injEq] at h
      obtain ⟨_, rfl⟩ := h
      exact ⟨1, by simp, rfl⟩
    · obtain ⟨k, h1, h2⟩ := lenL_suffix h
      exact ⟨k + 1, by simpa using h1, by simpa using h2⟩
theorem lenN_suffix {l : List UInt8} {n m : Nat} {r : List UInt8} (h : lenN l n = some (m, r)) : ∃ k, k ≤ l.length ∧ l.drop k = r := by
  unfold lenN at h
  split at h
  · simp only [Option.some.injEq, Prod.mk.injEq] at h
    exact ⟨0, by simp, by simpa using h.2⟩
  · exact lenL_suffix h

theorem keys_mid {β τ : AHeap} {rb : Nat} {x : ABlk} (nd : (keys (β ++ (rb, x) :: τ)).Nodup) : rb ∉ keys β := by
  rw [keys_app] at nd
  intro h
  have := (List.nodup_append.1 nd).2.2 rb h rb (by simp)
  exact this rfl

theorem ibAnd (a b : Nat) (ha : a < 9223372036854775808) (hb : b < 9223372036854775808) : intBits .and .i64 (a : Int) (b : Int) = ((a &&& b : Nat) : Int) := by
  have h1 : a &&& b ≤ a := Nat.and_le_left
  show IntKind.wrap .i64 ((BitVec.ofInt 64 (a : Int) &&& BitVec.ofInt 64 (b : Int)).toNat : Int) = _
  rw [BitVec.toNat_and, BitVec.ofInt_natCast, BitVec.ofInt_natCast, BitVec.toNat_ofNat, BitVec.toNat_ofNat, Nat.mod_eq_of_lt (by omega), Nat.mod_eq_of_lt (by omega)]
  exact w64 _ (by omega) (by omega)
theorem ibOr (a b : Nat) (ha : a < 9223372036854775808) (hb : b < 9223372036854775808) : intBits .or .i64 (a : Int) (b : Int) = ((a ||| b : Nat) : Int) := by
  have h1 : a ||| b < 2 ^ 63 := Nat.or_lt_two_pow (by omega) (by omega)
  show IntKind.wrap .i64 ((BitVec.ofInt 64 (a : Int) ||| BitVec.ofInt 64 (b : Int)).toNat : Int) = _
  rw [BitVec.toNat_or, BitVec.ofInt_natCast, BitVec.ofInt_natCast, BitVec.toNat_ofNat, BitVec.toNat_ofNat, Nat.mod_eq_of_lt (by omega), Nat.mod_eq_of_lt (by omega)]
  exact w64 _ (by omega) (by omega)
theorem and15 (t : Nat) (h : t < 256) : intBits .and .i64 (t : Int) 15 = ((t % 16 : Nat) : Int) := by
  have := Nat.and_two_pow_sub_one_eq_mod t 4
  simp only [Nat.reducePow, Nat.reduceSub] at this
  rw [← this]
  exact ibAnd t 15 (by omega) (by omega)
theorem or8 (a b : Nat) (ha : a < 256) (hb : b < 256) : intBits .or .i64 (a : Int) ((b * 256 : Nat) : Int) = ((a + 256 * b : Nat) : Int) := by
  have e : a ||| b * 256 = a + 256 * b := by
    have := Nat.shiftLeft_add_eq_or_of_lt (i := 8) (b := a) (by omega) b
    rw [Nat.shiftLeft_eq] at this
    simp only [Nat.reducePow] at this
    rw [Nat.or_comm, ← this, Nat.add_comm, Nat.mul_comm]
  rw [ibOr _ _ (by omega) (by omega), e]

/-- What a call of 'sequence' leaves. -/
def SeqP (τ : AHeap) (rb : Nat) (bs : List UInt8) (f : Bool) (x : SeqR) (r : AVal) (σ' : AHeap) : Prop :=
  match x with
  | .err e => r = .tup [.bool false, .int .i64 e] ∧ σ' = τ
  | .last o => r = .tup [.bool true, .int .i64 0] ∧ ∃ (β : AHeap) (v : AVal) (i : Nat), Grow v o β ∧ σ' = β ++ (rb, rdr bs f i v) :: τ
  | .go l o => r = .tup [.bool false, .int .i64 0] ∧ ∃ (β : AHeap) (v : AVal) (i : Nat), Grow v o β ∧ i ≤ bs.length ∧ bs.drop i = l ∧ σ' = β ++ (rb, rdr bs f i v) :: τ

end Go.Abs
