/- Contracts: the kinds' words; how many types are in one; numbers as9 texts. -/
import Derived.Test.YtgmefkhincnajaaDoorUa
import Derived.Test.YtgmefkhincnajaaDoorDd
import Derived.Test.YtgmefkhincnajaaDoorAOkU
namespace Go.Abs
open Go Go.Proofs
set_option linter.unusedVariables false
set_option linter.unusedSimpArgs false
set_option maxHeartbeats 4000000
theorem st_cat {P : Program} {l : List AOper} {F : AFrame} {σ : AHeap} {Q : AFrame → AHeap → Prop} {d : Nat} {args : List AOpd} {s t : List UInt8} (h1 : evs F args = some [.str s, .str t]) (hl : s.length + t.length ≤ maxLen) (h : aops P l (fset d (some (.str (s ++ t))) F) σ Q) : aops P (⟨some d, .bin .add, args, none⟩ :: l) F σ Q :=
  st_q h1 (by simp [aquiet, abin, binStr, hl]) rfl h
attribute [local irreducible] AWp aops KP

def wordsL : List (List UInt8) := [[98, 111, 111, 108, 101, 97, 110], [116, 105, 110, 121, 105, 110, 116], [115, 109, 97, 108, 108, 105, 110, 116], [105, 110, 116], [98, 105, 103, 105, 110, 116], [102, 108, 111, 97, 116], [100, 111, 117, 98, 108, 101], [115, 116, 114, 105, 110, 103], [98, 105, 110, 97, 114, 121], [116, 105, 109, 101, 115, 116, 97, 109, 112], [97, 114, 114, 97, 121], [109, 97, 112], [115, 116, 114, 117, 99, 116], [117, 110, 105, 111, 110, 116, 121, 112, 101], [100, 101, 99, 105, 109, 97, 108], [100, 97, 116, 101], [118, 97, 114, 99, 104, 97, 114], [99, 104, 97, 114]]
def wordF (k : Int) : List UInt8 := if k < 0 ∨ 17 < k then [] else wordsL.getD k.toNat []
def wordsS : List UInt8 := [98, 111, 111, 108, 101, 97, 110, 32, 116, 105, 110, 121, 105, 110, 116, 32, 115, 109, 97, 108, 108, 105, 110, 116, 32, 105, 110, 116, 32, 98, 105, 103, 105, 110, 116, 32, 102, 108, 111, 97, 116, 32, 100, 111, 117, 98, 108, 101, 32, 115, 116, 114, 105, 110, 103, 32, 98, 105, 110, 97, 114, 121, 32, 116, 105, 109, 101, 115, 116, 97, 109, 112, 32, 97, 114, 114, 97, 121, 32, 109, 97, 112, 32, 115, 116, 114, 117, 99, 116, 32, 117, 110, 105, 111, 110, 116, 121, 112, 101, 32, 100, 101, 99, 105, 109, 97, 108, 32, 100, 97, 116, 101, 32, 118, 97, 114, 99, 104, 97, 114, 32, 99, 104, 97, 114]
theorem words_fields : Lib.fields wordsS = wordsL := by decide +kernel
theorem word_at {k : Int} (h0 : 0 ≤ k) (h1 : k ≤ 17) : (wordsL.map AVal.str)[k.toNat]? = some (.str (wordF k)) := by
  have hl : wordsL.length = 18 := rfl
  rw [wordF, if_neg (by omega), List.getElem?_map, List.getD_eq_getElem?_getD, List.getElem?_eq_getElem (by omega)]; rfl
theorem wordF_len (k : Int) : (wordF k).length ≤ 9 := by
  unfold wordF
  split
  · simp
  · rename_i h
    have hl : wordsL.length = 18 := rfl
    rw [List.getD_eq_getElem?_getD, List.getElem?_eq_getElem (by omega), Option.getD_some]
    have : ∀ s ∈ wordsL, s.length ≤ 9 := by decide
    exact this _ (List.getElem_mem _)

theorem c_words (σ : AHeap) : ACalls Tryd.prog f_types_words [] σ fun r σ' => r = .slc 1 (wordsL.map .str) true ∧ σ' = σ := by
  have h := fun σ => c_Fields wordsS (by decide +kernel) (by decide +kernel) σ
  rw [words_fields] at h
  refine acalls_enter rfl types_words_ok (Nat.le_of_ble_eq_true rfl) ?_
  (repeat (first | refine st_q rfl rfl rfl ?_ | refine st_gy rfl (st_q rfl rfl rfl ?_) | refine st_gn rfl ?_ | refine st_gu rfl ?_ | (refine st_nil ?_; (repeat (first | refine kp_cons rfl ?_ | refine kp_skip ?_)); refine kp_nil ?_) | refine awp_seq ?_ | refine aw_end (fun _ _ => rfl) ?_ | refine awp_block ?_ | refine aw_skipE (fun _ _ => rfl) ?_ | refine aw_exitE (fun _ _ => rfl) ?_ | refine awp_cond (t := true) rfl (fun _ => ?_) (fun e => by cases e) | refine awp_cond (t := false) rfl (fun e => by cases e) (fun _ => ?_)))
  refine st_callv rfl (h _) ?_
  (repeat (first | refine st_q rfl rfl rfl ?_ | refine st_gy rfl (st_q rfl rfl rfl ?_) | refine st_gn rfl ?_ | refine st_gu rfl ?_ | (refine st_nil ?_; (repeat (first | refine kp_cons rfl ?_ | refine kp_skip ?_)); refine kp_nil ?_) | refine awp_seq ?_ | refine aw_end (fun _ _ => rfl) ?_ | refine awp_block ?_ | refine aw_skipE (fun _ _ => rfl) ?_ | refine aw_exitE (fun _ _ => rfl) ?_ | refine awp_cond (t := true) rfl (fun _ => ?_) (fun e => by cases e) | refine awp_cond (t := false) rfl (fun e => by cases e) (fun _ => ?_)))
  refine awp_ret ?_
  exact ares rfl (HSub.refl _) ⟨rfl, rfl⟩

theorem c_Word (k : Int) (σ : AHeap) : ACalls Tryd.prog f_types_Word [.int .i64 k] σ fun r σ' => r = .str (wordF k) ∧ σ' = σ := by
  refine acalls_enter rfl types_Word_ok (Nat.le_of_ble_eq_true rfl) ?_
  (repeat (first | refine st_q rfl rfl rfl ?_ | refine st_gy rfl (st_q rfl rfl rfl ?_) | refine st_gn rfl ?_ | refine st_gu rfl ?_ | (refine st_nil ?_; (repeat (first | refine kp_cons rfl ?_ | refine kp_skip ?_)); refine kp_nil ?_) | refine awp_seq ?_ | refine aw_end (fun _ _ => rfl) ?_ | refine awp_block ?_ | refine aw_skipE (fun _ _ => rfl) ?_ | refine aw_exitE (fun _ _ => rfl) ?_ | refine awp_cond (t := true) rfl (fun _ => ?_) (fun e => by cases e) | refine awp_cond (t := false) rfl (fun e => by cases e) (fun _ => ?_)))
  by_cases h0 : k < 0
  · (rw [show decide (k < 0) = true from decide_eq_true (by omega)])
    (repeat (first | refine st_q rfl rfl rfl ?_ | refine st_gy rfl (st_q rfl rfl rfl ?_) | refine st_gn rfl ?_ | refine st_gu rfl ?_ | (refine st_nil ?_; (repeat (first | refine kp_cons rfl ?_ | refine kp_skip ?_)); refine kp_nil ?_) | refine awp_seq ?_ | refine aw_end (fun _ _ => rfl) ?_ | refine awp_block ?_ | refine aw_skipE (fun _ _ => rfl) ?_ | refine aw_exitE (fun _ _ => rfl) ?_ | refine awp_cond (t := true) rfl (fun _ => ?_) (fun e => by cases e) | refine awp_cond (t := false) rfl (fun e => by cases e) (fun _ => ?_)))
    refine awp_ret ?_
    rw [wordF, if_pos (.inl h0)]
    exact ares rfl (HSub.refl _) ⟨rfl, rfl⟩
  (rw [show decide (k < 0) = false from decide_eq_false (by omega)])
  (repeat (first | refine st_q rfl rfl rfl ?_ | refine st_gy rfl (st_q rfl rfl rfl ?_) | refine st_gn rfl ?_ | refine st_gu rfl ?_))
  by_cases h1 : 17 < k
  · (rw [show decide (k > 17) = true from decide_eq_true (by omega)])
    (repeat (first | refine st_q rfl rfl rfl ?_ | refine st_gy rfl (st_q rfl rfl rfl ?_) | refine st_gn rfl ?_ | refine st_gu rfl ?_ | (refine st_nil ?_; (repeat (first | refine kp_cons rfl ?_ | refine kp_skip ?_)); refine kp_nil ?_) | refine awp_seq ?_ | refine aw_end (fun _ _ => rfl) ?_ | refine awp_block ?_ | refine aw_skipE (fun _ _ => rfl) ?_ | refine aw_exitE (fun _ _ => rfl) ?_ | refine awp_cond (t := true) rfl (fun _ => ?_) (fun e => by cases e) | refine awp_cond (t := false) rfl (fun e => by cases e) (fun _ => ?_)))
    refine awp_ret ?_
    rw [wordF, if_pos (.inr h1)]
    exact ares rfl (HSub.refl _) ⟨rfl, rfl⟩
  (rw [show decide (k > 17) = false from decide_eq_false (by omega)])
  (repeat (first | refine st_q rfl rfl rfl ?_ | refine st_gy rfl (st_q rfl rfl rfl ?_) | refine st_gn rfl ?_ | refine st_gu rfl ?_ | (refine st_nil ?_; (repeat (first | refine kp_cons rfl ?_ | refine kp_skip ?_)); refine kp_nil ?_) | refine awp_seq ?_ | refine aw_end (fun _ _ => rfl) ?_ | refine awp_block ?_ | refine aw_skipE (fun _ _ => rfl) ?_ | refine aw_exitE (fun _ _ => rfl) ?_ | refine awp_cond (t := true) rfl (fun _ => ?_) (fun e => by cases e) | refine awp_cond (t := false) rfl (fun e => by cases e) (fun _ => ?_)))
  refine st_callv rfl (c_words _) ?_
  (repeat (refine st_q rfl rfl rfl ?_))
  refine st_iad rfl (by omega) (word_at (by omega) (by omega)) ?_
  (repeat (first | refine st_q rfl rfl rfl ?_ | refine st_gy rfl (st_q rfl rfl rfl ?_) | refine st_gn rfl ?_ | refine st_gu rfl ?_ | (refine st_nil ?_; (repeat (first | refine kp_cons rfl ?_ | refine kp_skip ?_)); refine kp_nil ?_) | refine awp_seq ?_ | refine aw_end (fun _ _ => rfl) ?_ | refine awp_block ?_ | refine aw_skipE (fun _ _ => rfl) ?_ | refine aw_exitE (fun _ _ => rfl) ?_ | refine awp_cond (t := true) rfl (fun _ => ?_) (fun e => by cases e) | refine awp_cond (t := false) rfl (fun e => by cases e) (fun _ => ?_)))
  refine awp_ret ?_
  exact ares rfl (HSub.refl _) ⟨rfl, rfl⟩

theorem c_refWord (k : Int) (σ : AHeap) : ACalls Tryd.prog f_ingotref13_Word [.int .i64 k] σ fun r σ' => r = .str (wordF k) ∧ σ' = σ := by
  have main : ∀ L : List AVal, L = wordsL.map AVal.str → AWp Tryd.prog ingotref13_Word.n (ingotref13_Word.code.snd 2) (ARet ingotref13_Word.res fun r σ' => r = .str (wordF k) ∧ σ' = σ) (fset 0 (some (.int .i64 k)) (fset 3 (some (.slc 1 L true)) fnone)) σ := by
    intro L hL
    have hl : L.length = 18 := by rw [hL]; rfl
    have hw := fun h0 h1 => word_at (k := k) h0 h1
    rw [← hL] at hw
    clear hL
    (repeat (first | refine st_q rfl rfl rfl ?_ | refine st_gy rfl (st_q rfl rfl rfl ?_) | refine st_gn rfl ?_ | refine st_gu rfl ?_ | (refine st_nil ?_; (repeat (first | refine kp_cons rfl ?_ | refine kp_skip ?_)); refine kp_nil ?_) | refine awp_seq ?_ | refine aw_end (fun _ _ => rfl) ?_ | refine awp_block ?_ | refine aw_skipE (fun _ _ => rfl) ?_ | refine aw_exitE (fun _ _ => rfl) ?_ | refine awp_cond (t := true) rfl (fun _ => ?_) (fun e => by cases e) | refine awp_cond (t := false) rfl (fun e => by cases e) (fun _ => ?_)))
    by_cases h0 : k < 0
    · (rw [show decide (k < 0) = true from decide_eq_true (by omega)])
      (repeat (first | refine st_q rfl rfl rfl ?_ | refine st_gy rfl (st_q rfl rfl rfl ?_) | refine st_gn rfl ?_ | refine st_gu rfl ?_ | (refine st_nil ?_; (repeat (first | refine kp_cons rfl ?_ | refine kp_skip ?_)); refine kp_nil ?_) | refine awp_seq ?_ | refine aw_end (fun _ _ => rfl) ?_ | refine awp_block ?_ | refine aw_skipE (fun _ _ => rfl) ?_ | refine aw_exitE (fun _ _ => rfl) ?_ | refine awp_cond (t := true) rfl (fun _ => ?_) (fun e => by cases e) | refine awp_cond (t := false) rfl (fun e => by cases e) (fun _ => ?_)))
      refine awp_ret ?_
      rw [wordF, if_pos (.inl h0)]
      exact ares rfl (HSub.refl _) ⟨rfl, rfl⟩
    (rw [show decide (k < 0) = false from decide_eq_false (by omega)])
    (repeat (first | refine st_q rfl rfl rfl ?_ | refine st_gy rfl (st_q rfl rfl rfl ?_) | refine st_gn rfl ?_ | refine st_gu rfl ?_))
    rw [hl]
    by_cases h1 : 17 < k
    · (rw [show decide (k ≥ ((18 : Nat) : Int)) = true from decide_eq_true (by omega)])
      (repeat (first | refine st_q rfl rfl rfl ?_ | refine st_gy rfl (st_q rfl rfl rfl ?_) | refine st_gn rfl ?_ | refine st_gu rfl ?_ | (refine st_nil ?_; (repeat (first | refine kp_cons rfl ?_ | refine kp_skip ?_)); refine kp_nil ?_) | refine awp_seq ?_ | refine aw_end (fun _ _ => rfl) ?_ | refine awp_block ?_ | refine aw_skipE (fun _ _ => rfl) ?_ | refine aw_exitE (fun _ _ => rfl) ?_ | refine awp_cond (t := true) rfl (fun _ => ?_) (fun e => by cases e) | refine awp_cond (t := false) rfl (fun e => by cases e) (fun _ => ?_)))
      refine awp_ret ?_
      rw [wordF, if_pos (.inr h1)]
      exact ares rfl (HSub.refl _) ⟨rfl, rfl⟩
    (rw [show decide (k ≥ ((18 : Nat) : Int)) = false from decide_eq_false (by omega)])
    (repeat (first | refine st_q rfl rfl rfl ?_ | refine st_gy rfl (st_q rfl rfl rfl ?_) | refine st_gn rfl ?_ | refine st_gu rfl ?_ | (refine st_nil ?_; (repeat (first | refine kp_cons rfl ?_ | refine kp_skip ?_)); refine kp_nil ?_) | refine awp_seq ?_ | refine aw_end (fun _ _ => rfl) ?_ | refine awp_block ?_ | refine aw_skipE (fun _ _ => rfl) ?_ | refine aw_exitE (fun _ _ => rfl) ?_ | refine awp_cond (t := true) rfl (fun _ => ?_) (fun e => by cases e) | refine awp_cond (t := false) rfl (fun e => by cases e) (fun _ => ?_)))
    refine st_iad rfl (by omega) (hw (by omega) (by omega)) ?_
    (repeat (first | refine st_q rfl rfl rfl ?_ | refine st_gy rfl (st_q rfl rfl rfl ?_) | refine st_gn rfl ?_ | refine st_gu rfl ?_ | (refine st_nil ?_; (repeat (first | refine kp_cons rfl ?_ | refine kp_skip ?_)); refine kp_nil ?_) | refine awp_seq ?_ | refine aw_end (fun _ _ => rfl) ?_ | refine awp_block ?_ | refine aw_skipE (fun _ _ => rfl) ?_ | refine aw_exitE (fun _ _ => rfl) ?_ | refine awp_cond (t := true) rfl (fun _ => ?_) (fun e => by cases e) | refine awp_cond (t := false) rfl (fun e => by cases e) (fun _ => ?_)))
    refine awp_ret ?_
    exact ares rfl (HSub.refl _) ⟨rfl, rfl⟩
  refine acalls_enter rfl ingotref13_Word_ok (Nat.le_of_ble_eq_true rfl) ?_
  refine aw_region ?_
  (repeat (refine st_q rfl rfl rfl ?_))
  (refine st_nil ?_; (repeat (first | refine kp_cons rfl ?_ | refine kp_skip ?_)); refine kp_nil ?_)
  refine aw_region ?_
  (repeat (refine st_q rfl rfl rfl ?_))
  (refine st_nil ?_; (repeat (first | refine kp_cons rfl ?_ | refine kp_skip ?_)); refine kp_nil ?_)
  exact main _ rfl

theorem c_Count : ∀ t : Ty, cnt t ≤ 1000000 → ∀ σ, ACalls Tryd.prog f_types_Count [encT t] σ fun r σ' => r = .int .i64 (cnt t : Nat) ∧ σ' = σ := by
  refine Ty.ind fun k ns ks l p s ih hc σ => ?_
  rw [cnt] at hc ⊢
  rw [encT_eq]
  refine acalls_enter rfl types_Count_ok (Nat.le_of_ble_eq_true rfl) ?_
  refine aw_region ?_
  refine st_box rfl (AVal.fit_iff.1 rfl) fun b1 hb1 => ?_
  (repeat (refine st_q rfl rfl rfl ?_))
  (refine st_nil ?_; (repeat (first | refine kp_cons rfl ?_ | refine kp_skip ?_)); refine kp_nil ?_)
  refine awp_freezeP (d := 1) (cs := [.int .i64 k, .slc 1 (ns.map .str) false, .slc 6 (encTs ks) false, .int .i64 l, .int .i64 p, .int .i64 s]) rfl ?_
  (repeat (first | refine st_q rfl rfl rfl ?_ | refine st_gy rfl (st_q rfl rfl rfl ?_) | refine st_gn rfl ?_ | refine st_gu rfl ?_ | (refine st_nil ?_; (repeat (first | refine kp_cons rfl ?_ | refine kp_skip ?_)); refine kp_nil ?_) | refine awp_seq ?_ | refine aw_end (fun _ _ => rfl) ?_ | refine awp_block ?_ | refine aw_skipE (fun _ _ => rfl) ?_ | refine aw_exitE (fun _ _ => rfl) ?_ | refine awp_cond (t := true) rfl (fun _ => ?_) (fun e => by cases e) | refine awp_cond (t := false) rfl (fun e => by cases e) (fun _ => ?_)))
  rw [encTs_length]
  have hlen : ks.length ≤ cntL ks := by
    clear ih hc
    induction ks with
    | nil => simp
    | cons a b ih => have := cntL_pos a; rw [cntL, List.length_cons]; omega
  refine awp_loopN (fun m F σ' => ∃ (j n : Nat), F = fset 3 (some (.int .i64 (n : Int))) (fset 7 (some (.slc 6 (encTs ks) false)) (fset 8 (some (.int .i64 (ks.length : Nat))) (fset 9 (some (.int .i64 (j : Nat))) fnone))) ∧
    σ = σ' ∧ j ≤ ks.length ∧ n = 1 + cntL (ks.take j) ∧ m = ks.length - j) (n := ks.length) ⟨0, 1, rfl, rfl, by omega, by simp [cntL], rfl⟩ ?_
  rintro m F σ' ⟨j, n, rfl, rfl, hj, hn, rfl⟩
  (repeat (first | refine st_q rfl rfl rfl ?_ | refine st_gy rfl (st_q rfl rfl rfl ?_) | refine st_gn rfl ?_ | refine st_gu rfl ?_ | (refine st_nil ?_; (repeat (first | refine kp_cons rfl ?_ | refine kp_skip ?_)); refine kp_nil ?_) | refine awp_seq ?_ | refine aw_end (fun _ _ => rfl) ?_ | refine awp_block ?_ | refine aw_skipE (fun _ _ => rfl) ?_ | refine aw_exitE (fun _ _ => rfl) ?_ | refine awp_cond (t := true) rfl (fun _ => ?_) (fun e => by cases e) | refine awp_cond (t := false) rfl (fun e => by cases e) (fun _ => ?_)))
  refine awp_condp (p := (j : Int) < (ks.length : Nat)) rfl (fun h5 => ?_) (fun h5 => ?_)
  · have hjl : j < ks.length := by omega
    have h1 : (encTs ks)[((j : Nat) : Int).toNat]? = some (.agg (cellsT ks[j])) := by rw [← encT_eq]; exact encTs_get (by rw [Int.toNat_natCast, List.getElem?_eq_getElem hjl])
    have hcs := cntL_succ ks j _ (List.getElem?_eq_getElem hjl)
    have hle := cntL_le ks j _ (List.getElem?_eq_getElem hjl)
    have hq := ih ks[j] (List.getElem_mem hjl) (by omega)
    rw [encT_eq] at hq
    generalize ks[j] = u at h1 hcs hle hq
    refine aw_skipE (fun _ _ => rfl) ?_
    refine awp_seq ?_
    refine awp_block ?_
    refine awp_seq ?_
    refine aw_end (fun _ _ => rfl) ?_
    refine st_iad rfl (by omega) h1 ?_
    (repeat (refine st_q rfl rfl rfl ?_))
    refine st_alloc (by simp [AVal.cells, AVal.one]) fun b5 hb5 => ?_
    refine st_store rfl hget_head rfl (by decide) (AVal.fit_iff.1 rfl) (fun h => by cases h) hset_head ?_
    (refine st_nil ?_; (repeat (first | refine kp_cons rfl ?_ | refine kp_skip ?_)); refine kp_nil ?_)
    refine awp_freezeP (d := 5) (cs := cellsT u) rfl ?_
    (refine kp_weaken (keep := [3, 5, 7, 8, 9]) ?_; ((repeat (first | refine kp_cons rfl ?_ | refine kp_skip ?_)); refine kp_nil ?_))
    refine aw_end (fun _ _ => rfl) ?_
    (repeat (refine st_q rfl rfl rfl ?_))
    refine st_callv rfl (hq _) ?_
    (repeat (refine st_q rfl rfl rfl ?_))
    rw [show IntKind.wrap .i64 ((n : Int) + (cnt u : Nat)) = ((n + cnt u : Nat) : Int) by rw [w64 _ (by omega) (by omega)]; omega]
    (refine st_nil ?_; (repeat (first | refine kp_cons rfl ?_ | refine kp_skip ?_)); refine kp_nil ?_)
    refine aw_round ?_
    (repeat (refine st_q rfl rfl rfl ?_))
    rw [show IntKind.wrap .i64 ((j : Int) + 1) = ((j + 1 : Nat) : Int) by rw [w64 _ (by omega) (by omega)]; omega]
    (refine st_nil ?_; (repeat (first | refine kp_cons rfl ?_ | refine kp_skip ?_)); refine kp_nil ?_)
    exact ⟨_, ks.length - (j + 1), HSub.refl _, ⟨j + 1, n + cnt u, rfl, rfl, by omega, by omega, rfl⟩, by omega⟩
  · rw [List.take_of_length_le (by omega)] at hn
    subst hn
    (repeat (first | refine st_q rfl rfl rfl ?_ | refine st_gy rfl (st_q rfl rfl rfl ?_) | refine st_gn rfl ?_ | refine st_gu rfl ?_ | (refine st_nil ?_; (repeat (first | refine kp_cons rfl ?_ | refine kp_skip ?_)); refine kp_nil ?_) | refine awp_seq ?_ | refine aw_end (fun _ _ => rfl) ?_ | refine awp_block ?_ | refine aw_skipE (fun _ _ => rfl) ?_ | refine aw_exitE (fun _ _ => rfl) ?_ | refine awp_cond (t := true) rfl (fun _ => ?_) (fun e => by cases e) | refine awp_cond (t := false) rfl (fun e => by cases e) (fun _ => ?_)))
    refine awp_ret ?_
    exact ares rfl (HSub.refl _) ⟨rfl, rfl⟩

theorem c_refCount : ∀ t : Ty, cnt t ≤ 1000000 → ∀ σ, ACalls Tryd.prog f_ingotref13_Count [encT t] σ fun r σ' => r = .int .i64 (cnt t : Nat) ∧ σ' = σ := by
  refine Ty.ind fun k ns ks l p s ih hc σ => ?_
  rw [cnt] at hc ⊢
  rw [encT_eq]
  refine acalls_enter rfl ingotref13_Count_ok (Nat.le_of_ble_eq_true rfl) ?_
  refine aw_region ?_
  refine st_box rfl (AVal.fit_iff.1 rfl) fun b1 hb1 => ?_
  (repeat (refine st_q rfl rfl rfl ?_))
  (refine st_nil ?_; (repeat (first | refine kp_cons rfl ?_ | refine kp_skip ?_)); refine kp_nil ?_)
  refine awp_freezeP (d := 1) (cs := [.int .i64 k, .slc 1 (ns.map .str) false, .slc 6 (encTs ks) false, .int .i64 l, .int .i64 p, .int .i64 s]) rfl ?_
  (repeat (first | refine st_q rfl rfl rfl ?_ | refine st_gy rfl (st_q rfl rfl rfl ?_) | refine st_gn rfl ?_ | refine st_gu rfl ?_ | (refine st_nil ?_; (repeat (first | refine kp_cons rfl ?_ | refine kp_skip ?_)); refine kp_nil ?_) | refine awp_seq ?_ | refine aw_end (fun _ _ => rfl) ?_ | refine awp_block ?_ | refine aw_skipE (fun _ _ => rfl) ?_ | refine aw_exitE (fun _ _ => rfl) ?_ | refine awp_cond (t := true) rfl (fun _ => ?_) (fun e => by cases e) | refine awp_cond (t := false) rfl (fun e => by cases e) (fun _ => ?_)))
  have hlen : ks.length ≤ cntL ks := by
    clear ih hc
    induction ks with
    | nil => simp
    | cons a b ih => have := cntL_pos a; rw [cntL, List.length_cons]; omega
  refine awp_loopN (fun m F σ' => ∃ (j n : Nat), F = fset 1 (some (.iptr [.int .i64 k, .slc 1 (ns.map .str) false, .slc 6 (encTs ks) false, .int .i64 l, .int .i64 p, .int .i64 s])) (fset 3 (some (.int .i64 (n : Int))) (fset 4 (some (.int .i64 (j : Nat))) fnone)) ∧
    σ = σ' ∧ j ≤ ks.length ∧ n = 1 + cntL (ks.take j) ∧ m = ks.length - j) (n := ks.length) ⟨0, 1, rfl, rfl, by omega, by simp [cntL], rfl⟩ ?_
  rintro m F σ' ⟨j, n, rfl, rfl, hj, hn, rfl⟩
  (repeat (first | refine st_q rfl rfl rfl ?_ | refine st_gy rfl (st_q rfl rfl rfl ?_) | refine st_gn rfl ?_ | refine st_gu rfl ?_ | (refine st_nil ?_; (repeat (first | refine kp_cons rfl ?_ | refine kp_skip ?_)); refine kp_nil ?_) | refine awp_seq ?_ | refine aw_end (fun _ _ => rfl) ?_ | refine awp_block ?_ | refine aw_skipE (fun _ _ => rfl) ?_ | refine aw_exitE (fun _ _ => rfl) ?_ | refine awp_cond (t := true) rfl (fun _ => ?_) (fun e => by cases e) | refine awp_cond (t := false) rfl (fun e => by cases e) (fun _ => ?_)))
  rw [encTs_length]
  refine awp_condp (p := (j : Int) < (ks.length : Nat)) rfl (fun h5 => ?_) (fun h5 => ?_)
  · have hjl : j < ks.length := by omega
    have h1 : (encTs ks)[((j : Nat) : Int).toNat]? = some (.agg (cellsT ks[j])) := by rw [← encT_eq]; exact encTs_get (by rw [Int.toNat_natCast, List.getElem?_eq_getElem hjl])
    have hcs := cntL_succ ks j _ (List.getElem?_eq_getElem hjl)
    have hle := cntL_le ks j _ (List.getElem?_eq_getElem hjl)
    have hq := ih ks[j] (List.getElem_mem hjl) (by omega)
    rw [encT_eq] at hq
    generalize ks[j] = u at h1 hcs hle hq
    (repeat (first | refine st_q rfl rfl rfl ?_ | refine st_gy rfl (st_q rfl rfl rfl ?_) | refine st_gn rfl ?_ | refine st_gu rfl ?_ | (refine st_nil ?_; (repeat (first | refine kp_cons rfl ?_ | refine kp_skip ?_)); refine kp_nil ?_) | refine awp_seq ?_ | refine aw_end (fun _ _ => rfl) ?_ | refine awp_block ?_ | refine aw_skipE (fun _ _ => rfl) ?_ | refine aw_exitE (fun _ _ => rfl) ?_ | refine awp_cond (t := true) rfl (fun _ => ?_) (fun e => by cases e) | refine awp_cond (t := false) rfl (fun e => by cases e) (fun _ => ?_)))
    refine st_iad rfl (by omega) h1 ?_
    (repeat (refine st_q rfl rfl rfl ?_))
    refine st_callv rfl (hq _) ?_
    (repeat (refine st_q rfl rfl rfl ?_))
    rw [show IntKind.wrap .i64 ((n : Int) + (cnt u : Nat)) = ((n + cnt u : Nat) : Int) by rw [w64 _ (by omega) (by omega)]; omega]
    (repeat (refine st_q rfl rfl rfl ?_))
    (refine st_nil ?_; (repeat (first | refine kp_cons rfl ?_ | refine kp_skip ?_)); refine kp_nil ?_)
    refine aw_round ?_
    (repeat (refine st_q rfl rfl rfl ?_))
    rw [show IntKind.wrap .i64 ((j : Int) + 1) = ((j + 1 : Nat) : Int) by rw [w64 _ (by omega) (by omega)]; omega]
    (refine st_nil ?_; (repeat (first | refine kp_cons rfl ?_ | refine kp_skip ?_)); refine kp_nil ?_)
    exact ⟨_, ks.length - (j + 1), HSub.refl _, ⟨j + 1, n + cnt u, rfl, rfl, by omega, by omega, rfl⟩, by omega⟩
  · rw [List.take_of_length_le (by omega)] at hn
    subst hn
    (repeat (first | refine st_q rfl rfl rfl ?_ | refine st_gy rfl (st_q rfl rfl rfl ?_) | refine st_gn rfl ?_ | refine st_gu rfl ?_ | (refine st_nil ?_; (repeat (first | refine kp_cons rfl ?_ | refine kp_skip ?_)); refine kp_nil ?_) | refine awp_seq ?_ | refine aw_end (fun _ _ => rfl) ?_ | refine awp_block ?_ | refine aw_skipE (fun _ _ => rfl) ?_ | refine aw_exitE (fun _ _ => rfl) ?_ | refine awp_cond (t := true) rfl (fun _ => ?_) (fun e => by cases e) | refine awp_cond (t := false) rfl (fun e => by cases e) (fun _ => ?_)))
    refine awp_ret ?_
    exact ares rfl (HSub.refl _) ⟨rfl, rfl⟩

theorem dec_pre (v : Nat) : Lib.decDigits v = (if v < 10 then [] else Lib.decDigits (v / 10)) ++ [UInt8.ofNat (48 + v % 10)] := by
  rw [Lib.decDigits]
  split
  · rename_i h
    rw [Nat.mod_eq_of_lt h]; rfl
  · rfl
/-- A number's digits, as9 the reference makes them. -/
theorem c_decimal (n : Int) (h0 : 0 ≤ n) (h1 : n ≤ 9223372036854775807) (σ : AHeap) : ACalls Tryd.prog f_ingotref13_decimal [.int .i64 n] σ fun r σ' => r = .str (Lib.itoa n) ∧ σ' = σ := by
  obtain ⟨u, rfl⟩ : ∃ u : Nat, n = (u : Int) := ⟨n.toNat, by omega⟩
  have wu : ∀ n : Int, IntKind.wrap .u64 n = n % 18446744073709551616 := fun n => by simp [IntKind.wrap, IntKind.bits, IntKind.signed]
  have hd : ∀ v : Nat, v ≤ 9223372036854775807 → IntKind.wrap .u8 (IntKind.wrap .u64 (48 + ((v : Int).tmod 10))) = ((UInt8.ofNat (48 + v % 10)).toNat : Int) := fun v hv => by
    have : (UInt8.ofNat (48 + v % 10)).toNat = 48 + v % 10 := by
      rw [UInt8.toNat_ofNat']; omega
    rw [this, Int.tmod_eq_emod_of_nonneg (by omega), wu, w8]
    omega
  rw [Lib.itoa, if_neg (by omega), Int.toNat_natCast]
  refine acalls_enter rfl ingotref13_decimal_ok (Nat.le_of_ble_eq_true rfl) ?_
  refine aw_region ?_
  (repeat (refine st_q rfl rfl rfl ?_))
  (refine st_nil ?_; (repeat (first | refine kp_cons rfl ?_ | refine kp_skip ?_)); refine kp_nil ?_)
  refine aw_region ?_
  (repeat (refine st_q rfl rfl rfl ?_))
  rw [show IntKind.wrap .u64 (u : Int) = (u : Int) by rw [wu]; omega]
  (refine st_nil ?_; (repeat (first | refine kp_cons rfl ?_ | refine kp_skip ?_)); refine kp_nil ?_)
  refine awp_seq ?_
  refine awp_seq ?_
  refine aw_end (fun _ _ => rfl) ?_
  (repeat (refine st_q rfl rfl rfl ?_))
  (refine st_nil ?_; (repeat (first | refine kp_cons rfl ?_ | refine kp_skip ?_)); refine kp_nil ?_)
  refine awp_cond (t := false) rfl (fun e => by cases e) (fun _ => ?_)
  refine aw_skipE (fun _ _ => rfl) ?_
  refine aw_region ?_
  iterate 5 (refine st_q rfl rfl rfl ?_)
  rw [hd u (by omega)]
  refine st_b2s (bs := [UInt8.ofNat (48 + u % 10)]) rfl rfl ?_
  (repeat (first | refine st_q rfl rfl rfl ?_ | refine st_gy rfl (st_q rfl rfl rfl ?_) | refine st_gn rfl ?_ | refine st_gu rfl ?_ | (refine st_nil ?_; (repeat (first | refine kp_cons rfl ?_ | refine kp_skip ?_)); refine kp_nil ?_) | refine awp_seq ?_ | refine aw_end (fun _ _ => rfl) ?_ | refine awp_block ?_ | refine aw_skipE (fun _ _ => rfl) ?_ | refine aw_exitE (fun _ _ => rfl) ?_ | refine awp_cond (t := true) rfl (fun _ => ?_) (fun e => by cases e) | refine awp_cond (t := false) rfl (fun e => by cases e) (fun _ => ?_)))
  refine awp_loopN (fun m F σ' => ∃ (v : Nat) (s : List UInt8), F = fset 0 (some (.int .i64 (u : Int))) (fset 3 (some (.int .u64 (v : Int))) (fset 4 (some (.str s)) fnone)) ∧ σ = σ' ∧ v ≤ u ∧ s.length + v ≤ u + 1 ∧ Lib.decDigits u = (if v < 10 then [] else Lib.decDigits (v / 10)) ++ s ∧ m = v) (n := u)
    ⟨u, _, rfl, rfl, Nat.le_refl _, by simp; omega, dec_pre u, rfl⟩ ?_
  rintro m F σ' ⟨v, s, rfl, rfl, hv, hs, hdd, rfl⟩
  (repeat (first | refine st_q rfl rfl rfl ?_ | refine st_gy rfl (st_q rfl rfl rfl ?_) | refine st_gn rfl ?_ | refine st_gu rfl ?_ | (refine st_nil ?_; (repeat (first | refine kp_cons rfl ?_ | refine kp_skip ?_)); refine kp_nil ?_) | refine awp_seq ?_ | refine aw_end (fun _ _ => rfl) ?_ | refine awp_block ?_ | refine aw_skipE (fun _ _ => rfl) ?_ | refine aw_exitE (fun _ _ => rfl) ?_ | refine awp_cond (t := true) rfl (fun _ => ?_) (fun e => by cases e) | refine awp_cond (t := false) rfl (fun e => by cases e) (fun _ => ?_)))
  refine awp_condp (p := (m : Int) ≥ 10) rfl (fun h3 => ?_) (fun h3 => ?_)
  · have e1 : IntKind.wrap .u64 ((m : Int).tdiv 10) = ((m / 10 : Nat) : Int) := by
      rw [Int.tdiv_eq_ediv_of_nonneg (by omega), wu]; omega
    rw [if_neg (by omega), dec_pre (m / 10), List.append_assoc] at hdd
    refine aw_skipE (fun _ _ => rfl) ?_
    refine awp_block ?_
    refine awp_seq ?_
    refine aw_end (fun _ _ => rfl) ?_
    (repeat (refine st_q rfl rfl rfl ?_))
    rw [e1]
    (repeat (refine st_q rfl rfl rfl ?_))
    (refine st_nil ?_; (repeat (first | refine kp_cons rfl ?_ | refine kp_skip ?_)); refine kp_nil ?_)
    refine awp_region ?_
    iterate 5 (refine st_q rfl rfl rfl ?_)
    rw [hd (m / 10) (by omega)]
    refine st_b2s (bs := [UInt8.ofNat (48 + (m / 10) % 10)]) rfl rfl ?_
    (repeat (refine st_q rfl rfl rfl ?_))
    refine st_cat rfl (by simp only [List.length_singleton]; unfold maxLen; omega) ?_
    (repeat (refine st_q rfl rfl rfl ?_))
    refine st_nil ?_
    refine kp_less (keep := [0, 3, 4]) ?_
    ((repeat (first | refine kp_cons rfl ?_ | refine kp_skip ?_)); refine kp_nil ?_)
    exact ⟨_, m / 10, HSub.refl _, ⟨m / 10, _, rfl, rfl, by omega, by simp; omega, hdd, rfl⟩, by omega⟩
  · rw [if_pos (by omega), List.nil_append] at hdd
    rw [hdd]
    (repeat (first | refine st_q rfl rfl rfl ?_ | refine st_gy rfl (st_q rfl rfl rfl ?_) | refine st_gn rfl ?_ | refine st_gu rfl ?_ | (refine st_nil ?_; (repeat (first | refine kp_cons rfl ?_ | refine kp_skip ?_)); refine kp_nil ?_) | refine awp_seq ?_ | refine aw_end (fun _ _ => rfl) ?_ | refine awp_block ?_ | refine aw_skipE (fun _ _ => rfl) ?_ | refine aw_exitE (fun _ _ => rfl) ?_ | refine awp_cond (t := true) rfl (fun _ => ?_) (fun e => by cases e) | refine awp_cond (t := false) rfl (fun e => by cases e) (fun _ => ?_)))
    refine awp_ret ?_
    exact ares rfl (HSub.refl _) ⟨rfl, rfl⟩
end Go.Abs
