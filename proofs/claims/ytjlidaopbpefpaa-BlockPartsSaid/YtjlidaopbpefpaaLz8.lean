/- Contracts: the search. -/
import Derived.Test.YtjlidaopbpefpaaLz7
namespace Go.Abs
open Go Go.Proofs Go.Abs.Lz
set_option linter.unusedVariables false
set_option linter.unusedSimpArgs false

theorem findF_skip {bs : List UInt8} {t : List Int} {from_ at_ : Nat} {out : List UInt8} (h : at_ + 4 ≤ bs.length) {old : Int} (ho : t.getD (hashF (bs.drop at_)) 0 = old) (h2 : old < 0 ∨ 65535 < (at_ : Int) - old ∨ (bs.drop old.toNat).take 4 ≠ (bs.drop at_).take 4) :
    findF bs t from_ at_ out = findF bs (t.set (hashF (bs.drop at_)) at_) from_ (at_ + 1) out := by
  subst ho
  rw [findF, dif_pos h, if_pos h2]
theorem findF_hit {bs : List UInt8} {t : List Int} {from_ at_ : Nat} {out : List UInt8} (h : at_ + 4 ≤ bs.length) {old : Nat} (ho : t.getD (hashF (bs.drop at_)) 0 = (old : Int)) (h2 : ¬ ((old : Int) < 0 ∨ 65535 < (at_ : Int) - (old : Int) ∨ (bs.drop old).take 4 ≠ (bs.drop at_).take 4)) {n : Nat} (hn : runF bs old at_ 4 = n) :
    findF bs t from_ at_ out = findF bs (t.set (hashF (bs.drop at_)) at_) (at_ + n) (at_ + n) (out ++ putF ((bs.drop from_).take (at_ - from_)) (at_ - old) n) := by
  subst hn
  rw [findF, dif_pos h, if_neg (by rw [ho]; exact h2), ho]
  rfl
theorem findF_end {bs : List UInt8} {t : List Int} {from_ at_ : Nat} {out : List UInt8} (h : ¬ at_ + 4 ≤ bs.length) : findF bs t from_ at_ out = out ++ putF (bs.drop from_) 0 0 := by
  rw [findF, dif_neg h]

/-- The loop's state. -/
def findInv (bs : List UInt8) (f : Bool) (tb : Nat) (τ : AHeap) (X : List UInt8) (k : Nat) (F : AFrame) (σ : AHeap) : Prop :=
  ∃ (at_ from_ : Nat) (t : List Int) (out : List UInt8) (v : AVal) (β : AHeap),
    F = fset 0 (some (.arr 1 tb 0 4096)) (fset 1 (some (.slc 1 (bytes bs) f)) (fset 5 (some v) (fset 6 (some (.int .i64 from_)) (fset 7 (some (.int .i64 at_)) fnone)))) ∧
    σ = β ++ (tb, .cells 1 (ints t)) :: τ ∧ Grow v out β ∧ t.length = 4096 ∧ from_ ≤ at_ ∧ at_ ≤ bs.length ∧ (∀ (i : Nat) (x : Int), t[i]? = some x → -1 ≤ x ∧ x < at_) ∧ out.length ≤ 2 * from_ ∧ k = bs.length - at_ ∧ findF bs t from_ at_ out = X


theorem r8_ok {bs : List UInt8} {f : Bool} {tb : Nat} {H : AHeap} {v : AVal} {from_ at_ : Nat} {old : Int} (hb : bs.length ≤ 1048576) (h4 : at_ + 4 ≤ bs.length) (hlo : -1 ≤ old) (hhi : old < at_) :
    aops Try.prog lz4_find_r8 (fset 0 (some (.arr 1 tb 0 4096)) (fset 1 (some (.slc 1 (bytes bs) f)) (fset 5 (some v) (fset 6 (some (.int .i64 from_)) (fset 7 (some (.int .i64 at_)) (fset 9 (some (.int .i64 old)) fnone)))))) H
      (fun F' σ' => σ' = H ∧ ∃ d : Bool, (d = true ↔ (old < 0 ∨ 65535 < (at_ : Int) - old ∨ (bs.drop old.toNat).take 4 ≠ (bs.drop at_).take 4)) ∧
      KP [0, 1, 5, 6, 7, 9, 49] F' fun G => G = fset 0 (some (.arr 1 tb 0 4096)) (fset 1 (some (.slc 1 (bytes bs) f)) (fset 5 (some v) (fset 6 (some (.int .i64 from_)) (fset 7 (some (.int .i64 at_)) (fset 9 (some (.int .i64 old)) (fset 49 (some (.bool d)) fnone))))))) := by
  have e1 : IntKind.wrap .i64 ((at_ : Int) + 4) = ((at_ + 4 : Nat) : Int) := by rw [w64 _ (by omega) (by omega)]; omega
  (repeat (refine st_q rfl rfl rfl ?_))
  by_cases h5 : old < 0
  · have hd : decide (old < 0) = true := decide_eq_true h5
    rw [hd]
    (repeat (refine st_gn rfl ?_))
    (repeat (refine st_q rfl rfl rfl ?_))
    (repeat (refine st_gn rfl ?_))
    (repeat (refine st_q rfl rfl rfl ?_))
    refine st_nil ⟨rfl, true, by simp [h5], ?_⟩
    ((repeat (first | refine kp_cons rfl ?_ | refine kp_skip ?_)); refine kp_nil ?_)
    rfl
  have hd : decide (old < 0) = false := decide_eq_false h5
  rw [hd]
  (repeat (refine st_gy rfl (st_q rfl rfl rfl ?_)))
  have e4 : IntKind.wrap .i64 ((at_ : Int) - old) = (at_ : Int) - old := w64 _ (by omega) (by omega)
  rw [e4]
  (repeat (refine st_q rfl rfl rfl ?_))
  by_cases h6 : 65535 < (at_ : Int) - old
  · have hd2 : decide (65535 < (at_ : Int) - old) = true := decide_eq_true h6
    rw [hd2]
    (repeat (refine st_gn rfl ?_))
    (repeat (refine st_q rfl rfl rfl ?_))
    refine st_nil ⟨rfl, true, by simp [h6], ?_⟩
    ((repeat (first | refine kp_cons rfl ?_ | refine kp_skip ?_)); refine kp_nil ?_)
    rfl
  have hd2 : decide (65535 < (at_ : Int) - old) = false := decide_eq_false h6
  rw [hd2]
  obtain ⟨o, rfl⟩ : ∃ o : Nat, old = o := ⟨old.toNat, by omega⟩
  have e5 : IntKind.wrap .i64 ((o : Int) + 4) = ((o + 4 : Nat) : Int) := by rw [w64 _ (by omega) (by omega)]; omega
  (repeat (refine st_gy rfl (st_q rfl rfl rfl ?_)))
  rw [e5]
  refine st_gy rfl (st_slc rfl rfl ⟨by omega, by omega, by rw [bytes_length]; omega, by omega⟩ ?_)
  have e6 : ((bytes bs).drop ((o : Int).toNat)).take (((o + 4 : Nat) : Int) - (o : Int)).toNat = bytes ((bs.drop o).take 4) := by
    rw [bytes_drop, bytes_take]; congr 2; omega
  rw [e6]
  (repeat (refine st_gy rfl (st_q rfl rfl rfl ?_)))
  rw [e1]
  refine st_gy rfl (st_slc rfl rfl ⟨by omega, by omega, by rw [bytes_length]; omega, by omega⟩ ?_)
  have e7 : ((bytes bs).drop ((at_ : Int).toNat)).take (((at_ + 4 : Nat) : Int) - (at_ : Int)).toNat = bytes ((bs.drop at_).take 4) := by
    rw [bytes_drop, bytes_take]; congr 2; omega
  rw [e7]
  refine st_gy rfl (st_callv rfl (c_Equal (by rw [List.length_take]; omega)) ?_)
  (repeat (refine st_gy rfl (st_q rfl rfl rfl ?_)))
  (repeat (refine st_q rfl rfl rfl ?_))
  refine st_nil ⟨rfl, !decide ((bs.drop o).take 4 = (bs.drop at_).take 4), ?_, ?_⟩
  · simp only [Int.toNat_natCast, Bool.not_eq_true', decide_eq_false_iff_not]
    exact ⟨fun h => .inr (.inr h), fun h => by rcases h with h | h | h <;> first | exact absurd h h5 | exact absurd h h6 | exact h⟩
  · ((repeat (first | refine kp_cons rfl ?_ | refine kp_skip ?_)); refine kp_nil ?_)
    rfl

theorem r11_ok {bs : List UInt8} {f : Bool} {tb : Nat} {H : AHeap} {v : AVal} {from_ at_ o n : Nat} (hb : bs.length ≤ 1048576) (hlo : -1 ≤ (o : Int)) (hhi : (o : Int) < at_) (hnl : at_ + n ≤ bs.length) :
    aops Try.prog lz4_find_r11 (fset 0 (some (.arr 1 tb 0 4096)) (fset 1 (some (.slc 1 (bytes bs) f)) (fset 5 (some v) (fset 6 (some (.int .i64 from_)) (fset 7 (some (.int .i64 at_)) (fset 9 (some (.int .i64 o)) (fset 10 (some (.int .i64 n)) fnone))))))) H
      (fun F' σ' => σ' = H ∧ ∃ d : Bool, (d = true ↔ (at_ + n < bs.length ∧ bs.getD (o + n) 0 = bs.getD (at_ + n) 0)) ∧
      KP [0, 1, 5, 6, 7, 9, 10, 72] F' fun G => G = fset 0 (some (.arr 1 tb 0 4096)) (fset 1 (some (.slc 1 (bytes bs) f)) (fset 5 (some v) (fset 6 (some (.int .i64 from_)) (fset 7 (some (.int .i64 at_)) (fset 9 (some (.int .i64 o)) (fset 10 (some (.int .i64 n)) (fset 72 (some (.bool d)) fnone)))))))) := by
  have e9 : IntKind.wrap .i64 ((at_ : Int) + (n : Int)) = ((at_ + n : Nat) : Int) := by rw [w64 _ (by omega) (by omega)]; omega
  have e10 : IntKind.wrap .i64 ((o : Int) + (n : Int)) = ((o + n : Nat) : Int) := by rw [w64 _ (by omega) (by omega)]; omega
  (repeat (refine st_q rfl rfl rfl ?_))
  rw [e9]
  by_cases h6 : at_ + n < bs.length
  · have hd : decide (((at_ + n : Nat) : Int) < ((bytes bs).length : Int)) = true := decide_eq_true (by rw [bytes_length]; omega)
    rw [hd]
    have hx : bs[o + n]? = some (bs.getD (o + n) 0) := by rw [List.getD_eq_getElem?_getD, List.getElem?_eq_getElem (by omega)]; rfl
    have hy : bs[at_ + n]? = some (bs.getD (at_ + n) 0) := by rw [List.getD_eq_getElem?_getD, List.getElem?_eq_getElem (by omega)]; rfl
    generalize bs.getD (o + n) 0 = x at *
    generalize bs.getD (at_ + n) 0 = y at *
    have hx' : (bytes bs)[((o + n : Nat) : Int).toNat]? = some (byte x) := by rw [bytes_get, Int.toNat_natCast, hx]; rfl
    have hy' : (bytes bs)[((at_ + n : Nat) : Int).toNat]? = some (byte y) := by rw [bytes_get, Int.toNat_natCast, hy]; rfl
    (repeat (refine st_gy rfl (st_q rfl rfl rfl ?_)))
    rw [e10]
    refine st_gy rfl (st_iad rfl (by omega) hx' ?_)
    (repeat (refine st_gy rfl (st_q rfl rfl rfl ?_)))
    rw [e9]
    refine st_gy rfl (st_iad rfl (by omega) hy' ?_)
    (repeat (refine st_gy rfl (st_q rfl rfl rfl ?_)))
    (repeat (refine st_q rfl rfl rfl ?_))
    refine st_nil ⟨rfl, decide ((x.toNat : Int) = (y.toNat : Int)), ?_, ?_⟩
    · simp only [decide_eq_true_eq]
      exact ⟨fun h => ⟨h6, UInt8.toNat_inj.1 (by omega)⟩, fun h => by rw [h.2]⟩
    · ((repeat (first | refine kp_cons rfl ?_ | refine kp_skip ?_)); refine kp_nil ?_)
      rfl
  · have hd : decide (((at_ + n : Nat) : Int) < ((bytes bs).length : Int)) = false := decide_eq_false (by rw [bytes_length]; omega)
    rw [hd]
    (repeat (refine st_gn rfl ?_))
    (repeat (refine st_q rfl rfl rfl ?_))
    refine st_nil ⟨rfl, false, by simp [h6], ?_⟩
    ((repeat (first | refine kp_cons rfl ?_ | refine kp_skip ?_)); refine kp_nil ?_)
    rfl

end Go.Abs
