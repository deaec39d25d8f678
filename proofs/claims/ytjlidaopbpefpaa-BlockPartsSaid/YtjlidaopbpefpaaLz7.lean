/- Contracts: the table, the hash, the comparison. -/
import Derived.Test.YtjlidaopbpefpaaLz6
namespace Go.Abs
open Go Go.Proofs Go.Abs.Lz
set_option linter.unusedVariables false
set_option linter.unusedSimpArgs false

def ints (l : List Int) : List AVal := l.map fun n => .int .i64 n
theorem ints_length (l : List Int) : (ints l).length = l.length := by simp [ints]
theorem ints_get (l : List Int) (i : Nat) : (ints l)[i]? = (l[i]?).map fun n => .int .i64 n := by simp [ints]
theorem ints_set (l : List Int) (i : Nat) (n : Int) : (ints l).set i (.int .i64 n) = ints (l.set i n) := by simp [ints, List.map_set]

theorem c_table (σ : AHeap) : ACalls Try.prog f_lz4_table [] σ fun r σ' => ∃ b, b ∉ keys σ ∧ r = .arr 1 b 0 4096 ∧ σ' = (b, .cells 1 (ints (List.replicate 4096 (-1)))) :: σ := by
  refine acalls_enter rfl lz4_table_ok (Nat.le_of_ble_eq_true rfl) ?_
  refine aw_region ?_
  (repeat (refine st_q rfl rfl rfl ?_))
  refine st_nil ?_
  refine kp_nil ?_
  refine aw_region ?_
  refine st_mks rfl (AVal.fit_iff.1 rfl) (by omega) (by omega) (by omega) (by omega) fun b hb => ?_
  have hz : ∃ ys : List Int, ys.length = 4096 ∧ List.replicate (4096 : Int).toNat (AVal.int .i64 0) = ints ys := ⟨List.replicate 4096 0, List.length_replicate, (List.map_replicate (f := fun n => AVal.int .i64 n)).symm⟩
  obtain ⟨ys, hys, e0⟩ := hz
  rw [e0]
  change aops _ _ (fset _ (some (.arr 1 b 0 4096)) _) _ _
  (repeat (refine st_q rfl rfl rfl ?_))
  (refine st_nil ?_; (repeat (first | refine kp_cons rfl ?_ | refine kp_skip ?_)); refine kp_nil ?_)
  refine aw_assoc ?_
  refine aw_reg ?_
  (repeat (refine st_q rfl rfl rfl ?_))
  (refine st_nil ?_; (repeat (first | refine kp_cons rfl ?_ | refine kp_skip ?_)); refine kp_nil ?_)
  refine awp_block ?_
  refine awp_loopN (fun k F σ' => ∃ (j : Nat) (ys : List Int), F = fset 1 (some (.arr 1 b 0 4096)) (fset 5 (some (.int .i64 (4096 : Nat))) (fset 6 (some (.int .i64 j)) fnone)) ∧ σ' = (b, .cells 1 (ints ys)) :: σ ∧ ys.length = 4096 ∧ j ≤ 4096 ∧ k = 4096 - j ∧ ∀ i, i < j → ys[i]? = some (-1)) (n := 4096)
    ⟨0, ys, rfl, rfl, hys, by omega, by omega, fun i h => absurd h (by omega)⟩ ?_
  rintro k F σ' ⟨j, ys, rfl, rfl, hl, hj, rfl, hm⟩
  refine aw_region ?_
  (repeat (refine st_q rfl rfl rfl ?_))
  (refine st_nil ?_; (repeat (first | refine kp_cons rfl ?_ | refine kp_skip ?_)); refine kp_nil ?_)
  refine aw_condp (p := (j : Int) < (4096 : Nat)) rfl (fun h => ?_) (fun h => ?_)
  · refine aw_skip ?_
    refine aw_block ?_
    refine aw_region ?_
    (repeat (refine st_q rfl rfl rfl ?_))
    (refine st_nil ?_; (repeat (first | refine kp_cons rfl ?_ | refine kp_skip ?_)); refine kp_nil ?_)
    obtain ⟨y, hy⟩ : ∃ y, ys[j]? = some y := ⟨ys[j], List.getElem?_eq_getElem (by omega)⟩
    have hy' : (ints ys)[0 + (j : Int).toNat]? = some (.int .i64 y) := by rw [ints_get, Nat.zero_add]; simp [hy]
    refine awp_region ?_
    refine st_q rfl rfl rfl ?_
    refine st_q rfl rfl rfl ?_
    refine st_iada rfl ⟨by omega, by omega⟩ ?_
    refine st_store rfl hget_head hy' (by decide) (AVal.fit_iff.1 rfl) (fun _ => ⟨rfl, rfl⟩) hset_head ?_
    refine st_nil ?_
    refine kp_weaken (keep := [1, 5, 6]) ?_
    ((repeat (first | refine kp_cons rfl ?_ | refine kp_skip ?_)); refine kp_nil ?_)
    have e1 : (ints ys).set (0 + (j : Int).toNat) (putCells (.int .i64 y) 0 (AVal.int .i64 (-1)).cells) = ints (ys.set j (-1)) := by
      rw [← ints_set, Nat.zero_add]; rfl
    rw [e1]
    have e2 : IntKind.wrap .i64 ((j : Int) + 1) = ((j + 1 : Nat) : Int) := by rw [w64 _ (by omega) (by omega)]; omega
    refine awp_region ?_
    (repeat (refine st_q rfl rfl rfl ?_))
    rw [e2]
    refine st_nil ?_
    refine kp_less (keep := [1, 5, 6]) ?_
    ((repeat (first | refine kp_cons rfl ?_ | refine kp_skip ?_)); refine kp_nil ?_)
    refine ⟨_, 4096 - (j + 1), HSub.refl _, ⟨j + 1, ys.set j (-1), rfl, rfl, by simp [hl], by omega, rfl, ?_⟩, by omega⟩
    intro i hi
    rw [List.getElem?_set]
    by_cases hij : j = i
    · subst hij; simp; omega
    · simp [hij]; exact hm i (by omega)
  · refine awp_exit ?_
    show AWp _ _ _ _ _ _
    refine aw_region ?_
    (repeat (refine st_q rfl rfl rfl ?_))
    (refine st_nil ?_; (repeat (first | refine kp_cons rfl ?_ | refine kp_skip ?_)); refine kp_nil ?_)
    refine awp_ret ?_
    have e3 : ys = List.replicate 4096 (-1) := by
      apply List.ext_getElem?
      intro i
      rw [List.getElem?_replicate]
      by_cases hi : i < 4096
      · rw [if_pos hi]; exact hm i (by omega)
      · rw [if_neg hi]; exact List.getElem?_eq_none (by omega)
    rw [e3]
    exact ares rfl (HSub.refl _) ⟨b, hb, rfl, rfl⟩

theorem ibOr32 (a b : Nat) (ha : a < 4294967296) (hb : b < 4294967296) : intBits .or .u32 (a : Int) (b : Int) = ((a ||| b : Nat) : Int) := by
  have h1 : a ||| b < 2 ^ 32 := Nat.or_lt_two_pow (by omega) (by omega)
  show IntKind.wrap .u32 ((BitVec.ofInt 32 (a : Int) ||| BitVec.ofInt 32 (b : Int)).toNat : Int) = _
  rw [BitVec.toNat_or, BitVec.ofInt_natCast, BitVec.ofInt_natCast, BitVec.toNat_ofNat, BitVec.toNat_ofNat, Nat.mod_eq_of_lt (by omega), Nat.mod_eq_of_lt (by omega), w32]
  omega
theorem orS32 (a b i : Nat) (ha : a < 2 ^ i) (hi : a + b * 2 ^ i < 4294967296) : intBits .or .u32 (a : Int) ((b * 2 ^ i : Nat) : Int) = ((a + b * 2 ^ i : Nat) : Int) := by
  have e : a ||| b * 2 ^ i = a + b * 2 ^ i := by
    have := Nat.shiftLeft_add_eq_or_of_lt (i := i) (b := a) ha b
    rw [Nat.shiftLeft_eq] at this
    rw [Nat.or_comm, ← this, Nat.add_comm]
  rw [ibOr32 _ _ (by omega) (by omega), e]

theorem c_hash {σ : AHeap} {l : List UInt8} {f : Bool} (hl : 4 ≤ l.length) : ACalls Try.prog f_lz4_hash [.slc 1 (bytes l) f] σ fun r σ' => r = .int .i64 (hashF l : Nat) ∧ σ' = σ := by
  obtain ⟨a, b, c, d, r, rfl⟩ : ∃ a b c d r, l = a :: b :: c :: d :: r := by
    match l, hl with
    | a :: b :: c :: d :: r, _ => exact ⟨a, b, c, d, r, rfl⟩
  have ha := a.toNat_lt
  have hb := b.toNat_lt
  have hc := c.toNat_lt
  have hd := d.toNat_lt
  simp only [Nat.reducePow] at ha hb hc hd
  refine acalls_enter rfl lz4_hash_ok (Nat.le_of_ble_eq_true rfl) ?_
  refine aw_region ?_
  (repeat (refine st_q rfl rfl rfl ?_))
  (refine st_nil ?_; (repeat (first | refine kp_cons rfl ?_ | refine kp_skip ?_)); refine kp_nil ?_)
  refine aw_region ?_
  (repeat (refine st_q rfl rfl rfl ?_))
  (refine st_nil ?_; (repeat (first | refine kp_cons rfl ?_ | refine kp_skip ?_)); refine kp_nil ?_)
  refine aw_region ?_
  (repeat (refine st_q rfl rfl rfl ?_))
  (refine st_nil ?_; (repeat (first | refine kp_cons rfl ?_ | refine kp_skip ?_)); refine kp_nil ?_)
  refine awp_ret ?_
  refine ares rfl (HSub.refl _) ⟨?_, rfl⟩
  have e1 : ∀ x : Nat, x < 4294967296 → IntKind.wrap .u32 (x : Int) = (x : Int) := fun x hx => by rw [w32]; omega
  have e2 : IntKind.wrap .u32 ((b.toNat : Int) * 256) = ((b.toNat * 2 ^ 8 : Nat) : Int) := by rw [w32]; omega
  have e3 : IntKind.wrap .u32 ((c.toNat : Int) * 65536) = ((c.toNat * 2 ^ 16 : Nat) : Int) := by rw [w32]; omega
  have e4 : IntKind.wrap .u32 ((d.toNat : Int) * 16777216) = ((d.toNat * 2 ^ 24 : Nat) : Int) := by rw [w32]; omega
  show AVal.int .i64 (IntKind.wrap .i64 (Int.fdiv (IntKind.wrap .u32 (intBits .or .u32 (intBits .or .u32 (intBits .or .u32 (IntKind.wrap .u32 (a.toNat : Int)) (IntKind.wrap .u32 (IntKind.wrap .u32 (b.toNat : Int) * 256)))
    (IntKind.wrap .u32 (IntKind.wrap .u32 (c.toNat : Int) * 65536))) (IntKind.wrap .u32 (IntKind.wrap .u32 (d.toNat : Int) * 16777216)) * 2654435761)) 1048576)) = _
  rw [e1 _ (by omega), e1 _ (by omega), e1 _ (by omega), e1 _ (by omega), e2, e3, e4, orS32 _ _ 8 (by omega) (by omega), orS32 _ _ 16 (by omega) (by omega), orS32 _ _ 24 (by omega) (by omega)]
  have e5 : ∀ v : Nat, IntKind.wrap .u32 ((v : Int) * 2654435761) = ((v * 2654435761 % 4294967296 : Nat) : Int) := fun v => by rw [w32]; omega
  rw [e5, Int.fdiv_eq_ediv_of_nonneg _ (by omega)]
  simp only [hashF, hash4, Nat.reducePow]
  have hy : (a.toNat + b.toNat * 256 + c.toNat * 65536 + d.toNat * 16777216) * 2654435761 % 4294967296 < 4294967296 := Nat.mod_lt _ (by omega)
  generalize (a.toNat + b.toNat * 256 + c.toNat * 65536 + d.toNat * 16777216) * 2654435761 % 4294967296 = y at *
  rw [w64 _ (by omega) (by omega)]
  rfl

theorem c_Equal {σ : AHeap} {a b : List UInt8} {f g : Bool} (hla : a.length ≤ 140737488355328) : ACalls Try.prog f_slices_Equal_byte_byte [.slc 1 (bytes a) f, .slc 1 (bytes b) g] σ fun r σ' => r = .bool (decide (a = b)) ∧ σ' = σ := by
  refine acalls_enter rfl slices_Equal_byte_byte_ok (Nat.le_of_ble_eq_true rfl) ?_
  refine aw_region ?_
  (repeat (refine st_q rfl rfl rfl ?_))
  (refine st_nil ?_; (repeat (first | refine kp_cons rfl ?_ | refine kp_skip ?_)); refine kp_nil ?_)
  refine aw_assoc ?_
  refine aw_reg ?_
  (repeat (refine st_q rfl rfl rfl ?_))
  (refine st_nil ?_; (repeat (first | refine kp_cons rfl ?_ | refine kp_skip ?_)); refine kp_nil ?_)
  refine awp_condp (p := ((bytes a).length : Int) ≠ ((bytes b).length : Int)) rfl (fun h => ?_) (fun h => ?_)
  all_goals rw [bytes_length, bytes_length] at h
  · refine aw_region ?_
    (repeat (refine st_q rfl rfl rfl ?_))
    (refine st_nil ?_; (repeat (first | refine kp_cons rfl ?_ | refine kp_skip ?_)); refine kp_nil ?_)
    refine awp_ret ?_
    have e : decide (a = b) = false := decide_eq_false (fun e => h (by rw [e]))
    rw [e]
    exact ares rfl (HSub.refl _) ⟨rfl, rfl⟩
  refine aw_skip ?_
  have hlen : a.length = b.length := by omega
  refine aw_assoc ?_
  refine aw_reg ?_
  (repeat (refine st_q rfl rfl rfl ?_))
  (refine st_nil ?_; (repeat (first | refine kp_cons rfl ?_ | refine kp_skip ?_)); refine kp_nil ?_)
  refine awp_block ?_
  refine awp_loopN (fun k F σ' => ∃ (j : Nat), F = fset 0 (some (.slc 1 (bytes a) f)) (fset 1 (some (.slc 1 (bytes b) g)) (fset 12 (some (.int .i64 ((bytes a).length : Nat))) (fset 13 (some (.int .i64 j)) fnone))) ∧ σ' = σ ∧ j ≤ a.length ∧ k = a.length - j ∧ a.take j = b.take j) (n := a.length)
    ⟨0, rfl, rfl, by omega, by omega, by simp⟩ ?_
  rintro k F σ' ⟨j, rfl, rfl, hj, rfl, hm⟩
  refine aw_region ?_
  (repeat (refine st_q rfl rfl rfl ?_))
  (refine st_nil ?_; (repeat (first | refine kp_cons rfl ?_ | refine kp_skip ?_)); refine kp_nil ?_)
  refine aw_condp (p := (j : Int) < ((bytes a).length : Nat)) rfl (fun h2 => ?_) (fun h2 => ?_)
  all_goals rw [bytes_length] at h2
  · refine aw_skip ?_
    refine aw_block ?_
    refine aw_region ?_
    (repeat (refine st_q rfl rfl rfl ?_))
    (refine st_nil ?_; (repeat (first | refine kp_cons rfl ?_ | refine kp_skip ?_)); refine kp_nil ?_)
    obtain ⟨x, hx⟩ : ∃ x, a[j]? = some x := ⟨a[j], List.getElem?_eq_getElem (by omega)⟩
    obtain ⟨y, hy⟩ : ∃ y, b[j]? = some y := ⟨b[j], List.getElem?_eq_getElem (by omega)⟩
    have hx' : (bytes a)[(j : Int).toNat]? = some (byte x) := by rw [bytes_get]; simp [hx]
    have hy' : (bytes b)[(j : Int).toNat]? = some (byte y) := by rw [bytes_get]; simp [hy]
    refine aw_region ?_
    refine st_q rfl rfl rfl ?_
    refine st_q rfl rfl rfl ?_
    refine st_iad rfl (by omega) hx' ?_
    refine st_q rfl rfl rfl ?_
    refine st_q rfl rfl rfl ?_
    refine st_q rfl rfl rfl ?_
    refine st_iad rfl (by omega) hy' ?_
    (repeat (refine st_q rfl rfl rfl ?_))
    (refine st_nil ?_; (repeat (first | refine kp_cons rfl ?_ | refine kp_skip ?_)); refine kp_nil ?_)
    refine awp_condp (p := ((x.toNat : Int) ≠ (y.toNat : Int))) rfl (fun h3 => ?_) (fun h3 => ?_)
    · refine aw_region ?_
      (repeat (refine st_q rfl rfl rfl ?_))
      (refine st_nil ?_; (repeat (first | refine kp_cons rfl ?_ | refine kp_skip ?_)); refine kp_nil ?_)
      refine awp_ret ?_
      have e : decide (a = b) = false := decide_eq_false (fun e => by subst e; rw [hx] at hy; cases hy; exact h3 rfl)
      rw [e]
      exact ares rfl (HSub.refl _) ⟨rfl, rfl⟩
    · refine awp_skip ?_
      have e2 : IntKind.wrap .i64 ((j : Int) + 1) = ((j + 1 : Nat) : Int) := by rw [w64 _ (by omega) (by omega)]; omega
      refine kp_weaken (keep := [0, 1, 12, 13]) ?_
      ((repeat (first | refine kp_cons rfl ?_ | refine kp_skip ?_)); refine kp_nil ?_)
      refine awp_region ?_
      (repeat (refine st_q rfl rfl rfl ?_))
      rw [e2]
      refine st_nil ?_
      refine kp_less (keep := [0, 1, 12, 13]) ?_
      ((repeat (first | refine kp_cons rfl ?_ | refine kp_skip ?_)); refine kp_nil ?_)
      refine ⟨_, a.length - (j + 1), HSub.refl _, ⟨j + 1, rfl, rfl, by omega, rfl, ?_⟩, by omega⟩
      have hxy : x = y := UInt8.toNat_inj.1 (by omega)
      subst hxy
      rw [List.take_add_one, List.take_add_one, hx, hy, hm]
  · refine awp_exit ?_
    show AWp _ _ _ _ _ _
    refine aw_region ?_
    (repeat (refine st_q rfl rfl rfl ?_))
    (refine st_nil ?_; (repeat (first | refine kp_cons rfl ?_ | refine kp_skip ?_)); refine kp_nil ?_)
    refine awp_ret ?_
    have e3 : a = b := by
      rw [List.take_of_length_le (by omega), List.take_of_length_le (by omega)] at hm
      exact hm
    have e : decide (a = b) = true := decide_eq_true e3
    rw [e]
    exact ares rfl (HSub.refl _) ⟨rfl, rfl⟩
end Go.Abs
