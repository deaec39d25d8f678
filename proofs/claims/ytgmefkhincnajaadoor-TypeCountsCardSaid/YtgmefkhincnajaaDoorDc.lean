/- Closing: all that are in a column (the reference). -/
import Derived.Test.YtgmefkhincnajaaDoorDb
namespace Go.Abs
open Go Go.Proofs
set_option linter.unusedVariables false
set_option linter.unusedSimpArgs false
set_option maxHeartbeats 4000000
attribute [local irreducible] AWp aops KP
def fillN : Nat → Nat → List Bool → List Bool
  | _, 0, k => k
  | a, n + 1, k => fillN (a + 1) n (k.set a true)
theorem fillN_len : ∀ (n a : Nat) (k : List Bool), (fillN a n k).length = k.length
  | 0, _, _ => rfl
  | n + 1, a, k => by rw [fillN, fillN_len n, List.length_set]
theorem fillN_add : ∀ (m a n : Nat) (k : List Bool), fillN a (m + n) k = fillN (a + m) n (fillN a m k)
  | 0, a, n, k => by rw [Nat.zero_add, fillN, Nat.add_zero]
  | m + 1, a, n, k => by rw [show m + 1 + n = m + n + 1 by omega, fillN, fillN_add m, fillN, show a + 1 + m = a + (m + 1) by omega]
theorem fillN_get : ∀ (n a : Nat) (k : List Bool) (x : Nat), (fillN a n k).getD x false = true ↔ (a ≤ x ∧ x < a + n ∧ x < k.length) ∨ k.getD x false = true
  | 0, a, k, x => by
    rw [fillN]
    constructor
    · exact .inr
    · rintro (h | h)
      · omega
      · exact h
  | n + 1, a, k, x => by
    rw [fillN, fillN_get n, List.length_set, List.getD_eq_getElem?_getD, List.getD_eq_getElem?_getD, List.getElem?_set]
    by_cases e : a = x
    · subst e
      rw [if_pos rfl]
      by_cases hl : a < k.length
      · rw [if_pos hl]
        simp
        omega
      · rw [if_neg hl, List.getElem?_eq_none (by omega)]
        simp
        omega
    · rw [if_neg e]
      constructor
      · rintro (h | h)
        · exact .inl (by omega)
        · exact .inr h
      · rintro (h | h)
        · exact .inl (by omega)
        · exact .inr h

theorem bools_set {l : List Bool} {i : Nat} (x : AVal) (hx : ∃ b, x = .bool b) : (l.map AVal.bool).set (0 + ((i : Nat) : Int).toNat) (putCells x 0 (AVal.bool true).cells) = (l.set i true).map AVal.bool := by
  obtain ⟨b, rfl⟩ := hx
  rw [Nat.zero_add, Int.toNat_natCast, List.map_set]; rfl

theorem c_refAll {l : List Nd} (hT : TreeN l) (hll : l.length ≤ 1000) : ∀ (t : Ty) (a : Nat) (n : Nd), l[a]? = some n → n.t = t → ∀ (H : AHeap) (b : Nat) (k : List Bool), hget H b = some (.cells 1 (k.map .bool)) → k.length = l.length → ∀ f,
    ACalls Tryd.prog f_ingotref13_all [.slc 9 (l.map encR) f, .arr 1 b 0 l.length, .int .i64 (a : Int)] H fun r H' => r = .tup [] ∧ H' = hset H b (.cells 1 ((fillN a (cnt t) k).map .bool)) := by
  refine Ty.ind fun kd nms ks le pr sc ih a n hn hnt H b k hb hk f => ?_
  have hal := (List.getElem?_eq_some_iff.1 hn).1
  have hkl := (hT.nok a n hn).len
  have hnk : n.t.kids = ks := by rw [hnt]; rfl
  rw [hnk] at hkl
  have hks : ks.length ≤ 1000 := by
    have := (hT.nok a n hn).len
    by_cases e : ks.length = 0
    · omega
    · have hx := List.getElem?_eq_getElem (show ks.length - 1 < n.kids.length by omega)
      obtain ⟨u, m, e1, e2, e3, _⟩ := (hT.nok a n hn).kids _ _ hx
      have h3 := (List.getElem?_eq_some_iff.1 e3).1
      have key : ∀ (ks : List Ty), ks.length ≤ cntL ks := by
        intro ks
        induction ks with
        | nil => exact Nat.le_refl _
        | cons t ts ih => have := cntL_pos t; rw [cntL, List.length_cons]; omega
      have := key (n.t.kids.take (ks.length - 1))
      rw [List.length_take, hnk] at this
      rw [hnk] at e2
      omega
  have hx0 : (l.map encR)[(a : Int).toNat]? = some (encR n) := by rw [Int.toNat_natCast, List.getElem?_map, hn]; rfl
  have hb0 : (k.map AVal.bool)[0 + ((a : Nat) : Int).toNat]? = some (.bool (k[a]'(by omega))) := by rw [Nat.zero_add, Int.toNat_natCast, List.getElem?_map, List.getElem?_eq_getElem (by omega)]; rfl
  have hil : (ints n.kids).length = n.kids.length := List.length_map ..
  refine acalls_enter rfl ingotref13_all_ok (Nat.le_of_ble_eq_true rfl) ?_
  refine aw_region ?_
  (repeat (refine st_q rfl rfl rfl ?_))
  refine st_iada rfl ⟨by omega, by omega⟩ ?_
  refine st_store rfl hb hb0 (by decide) (AVal.fit_iff.1 rfl) (fun _ => ⟨rfl, rfl⟩) rfl ?_
  rw [bools_set _ ⟨_, rfl⟩]
  (refine st_nil ?_; (repeat (first | refine kp_cons rfl ?_ | refine kp_skip ?_)); refine kp_nil ?_)
  (repeat (first | refine st_q rfl rfl rfl ?_ | refine st_gy rfl (st_q rfl rfl rfl ?_) | refine st_gn rfl ?_ | refine st_gu rfl ?_ | (refine st_nil ?_; (repeat (first | refine kp_cons rfl ?_ | refine kp_skip ?_)); refine kp_nil ?_) | refine awp_seq ?_ | refine aw_end (fun _ _ => rfl) ?_ | refine awp_block ?_ | refine aw_skipE (fun _ _ => rfl) ?_ | refine aw_exitE (fun _ _ => rfl) ?_ | refine awp_cond (t := true) rfl (fun _ => ?_) (fun e => by cases e) | refine awp_cond (t := false) rfl (fun e => by cases e) (fun _ => ?_)))
  obtain ⟨I, hI⟩ : ∃ I : Nat → AFrame → AHeap → Prop, I = fun m F σ' => ∃ j : Nat, F = fset 0 (some (.slc 9 (l.map encR) f)) (fset 1 (some (.arr 1 b 0 l.length)) (fset 2 (some (.int .i64 (a : Nat))) (fset 6 (some (.int .i64 (j : Nat))) fnone))) ∧ hset H b (.cells 1 ((fillN (a + 1) (cntL (ks.take j)) (k.set a true)).map .bool)) = σ' ∧ j ≤ ks.length ∧ m = ks.length - j := ⟨_, rfl⟩
  refine awp_loopN I (n := ks.length) (by rw [hI]; exact ⟨0, rfl, rfl, by omega, by omega⟩) ?_
  intro m0 F σ' hIm
  rw [hI] at hIm
  obtain ⟨j, rfl, rfl, hj, rfl⟩ := hIm
  (repeat (first | refine st_q rfl rfl rfl ?_ | refine st_gy rfl (st_q rfl rfl rfl ?_) | refine st_gn rfl ?_ | refine st_gu rfl ?_ | (refine st_nil ?_; (repeat (first | refine kp_cons rfl ?_ | refine kp_skip ?_)); refine kp_nil ?_) | refine awp_seq ?_ | refine aw_end (fun _ _ => rfl) ?_ | refine awp_block ?_ | refine aw_skipE (fun _ _ => rfl) ?_ | refine aw_exitE (fun _ _ => rfl) ?_ | refine awp_cond (t := true) rfl (fun _ => ?_) (fun e => by cases e) | refine awp_cond (t := false) rfl (fun e => by cases e) (fun _ => ?_)))
  refine st_iad rfl (by omega) hx0 ?_
  (repeat (first | refine st_q rfl rfl rfl ?_ | refine st_gy rfl (st_q rfl rfl rfl ?_) | refine st_gn rfl ?_ | refine st_gu rfl ?_ | (refine st_nil ?_; (repeat (first | refine kp_cons rfl ?_ | refine kp_skip ?_)); refine kp_nil ?_) | refine awp_seq ?_ | refine aw_end (fun _ _ => rfl) ?_ | refine awp_block ?_ | refine aw_skipE (fun _ _ => rfl) ?_ | refine aw_exitE (fun _ _ => rfl) ?_ | refine awp_cond (t := true) rfl (fun _ => ?_) (fun e => by cases e) | refine awp_cond (t := false) rfl (fun e => by cases e) (fun _ => ?_)))
  rw [hil, hkl]
  refine awp_condp (p := (j : Int) < (ks.length : Int)) rfl (fun h5 => ?_) (fun h5 => ?_)
  · have hjl : j < ks.length := by omega
    have hx := List.getElem?_eq_getElem (show j < n.kids.length by omega)
    obtain ⟨u, m, e1, e2, e3, e4, _⟩ := (hT.nok a n hn).kids _ _ hx
    rw [hnk] at e1 e2
    have hux : (ints n.kids)[(j : Int).toNat]? = some (.int .i64 ((n.kids[j] : Nat) : Int)) := by rw [Int.toNat_natCast, ints, List.getElem?_map, hx]; rfl
    generalize n.kids[j] = x at e2 e3 hux
    have hcs := cntL_succ ks j u e1
    have hc := ih u (List.mem_of_getElem? e1) x m e3 e4 (hset H b (.cells 1 ((fillN (a + 1) (cntL (ks.take j)) (k.set a true)).map .bool))) b (fillN (a + 1) (cntL (ks.take j)) (k.set a true)) (hget_hset_same hb) (by rw [fillN_len, List.length_set, hk]) f
    rw [hset_hset, e2, ← fillN_add, ← hcs, ← e2] at hc
    (repeat (first | refine st_q rfl rfl rfl ?_ | refine st_gy rfl (st_q rfl rfl rfl ?_) | refine st_gn rfl ?_ | refine st_gu rfl ?_ | (refine st_nil ?_; (repeat (first | refine kp_cons rfl ?_ | refine kp_skip ?_)); refine kp_nil ?_) | refine awp_seq ?_ | refine aw_end (fun _ _ => rfl) ?_ | refine awp_block ?_ | refine aw_skipE (fun _ _ => rfl) ?_ | refine aw_exitE (fun _ _ => rfl) ?_ | refine awp_cond (t := true) rfl (fun _ => ?_) (fun e => by cases e) | refine awp_cond (t := false) rfl (fun e => by cases e) (fun _ => ?_)))
    refine st_iad rfl (by omega) hx0 ?_
    (repeat (refine st_q rfl rfl rfl ?_))
    refine st_iad rfl (by omega) hux ?_
    (repeat (refine st_q rfl rfl rfl ?_))
    refine st_callv rfl hc ?_
    (repeat (first | refine st_q rfl rfl rfl ?_ | refine st_gy rfl (st_q rfl rfl rfl ?_) | refine st_gn rfl ?_ | refine st_gu rfl ?_ | (refine st_nil ?_; (repeat (first | refine kp_cons rfl ?_ | refine kp_skip ?_)); refine kp_nil ?_) | refine awp_seq ?_ | refine aw_end (fun _ _ => rfl) ?_ | refine awp_block ?_ | refine aw_skipE (fun _ _ => rfl) ?_ | refine aw_exitE (fun _ _ => rfl) ?_ | refine awp_cond (t := true) rfl (fun _ => ?_) (fun e => by cases e) | refine awp_cond (t := false) rfl (fun e => by cases e) (fun _ => ?_)))
    refine aw_round ?_
    (repeat (refine st_q rfl rfl rfl ?_))
    rw [show IntKind.wrap .i64 ((j : Int) + 1) = ((j + 1 : Nat) : Int) by rw [w64 _ (by omega) (by omega)]; omega]
    (refine st_nil ?_; (repeat (first | refine kp_cons rfl ?_ | refine kp_skip ?_)); refine kp_nil ?_)
    refine ⟨_, ks.length - (j + 1), HSub.refl _, ?_, by omega⟩
    rw [hI]
    exact ⟨j + 1, rfl, rfl, by omega, rfl⟩
  · have e : ks.take j = ks := List.take_of_length_le (by omega)
    rw [e]
    refine awp_exit ?_
    refine ⟨[], rfl, .tup [], _, VShift.of_sub (HSub.refl _), rfl, ?_⟩
    rw [cnt, show 1 + cntL ks = cntL ks + 1 by omega, fillN]
def upwF (l : List Nd) : Nat → Int → List Bool → List Bool
  | 0, _, k => k
  | f + 1, p, k => if p < 0 then k else match l[p.toNat]? with
    | none => k
    | some nd => upwF l f nd.parent ((if nd.t.kind ≠ 12 then fillN p.toNat (cnt nd.t) k else k).set p.toNat true)
theorem upwF_len (l : List Nd) : ∀ (f : Nat) (p : Int) (k : List Bool), (upwF l f p k).length = k.length
  | 0, _, _ => rfl
  | f + 1, p, k => by
    rw [upwF]
    split
    · rfl
    · split
      · rfl
      · rw [upwF_len l f, List.length_set]
        split
        · rw [fillN_len]
        · rfl
def sizeC (l : List Nd) (c : Nat) : Nat := match l[c]? with | some nd => cnt nd.t | none => 0
def closeL (l : List Nd) : List Int → List Bool → List Bool
  | [], k => k
  | c :: cs, k => closeL l cs (upwF l (c.toNat + 1) c (fillN c.toNat (sizeC l c.toNat) k))
def inCols (l : List Nd) (cols : List Int) : Bool := cols.all fun c => decide (0 ≤ c ∧ c < l.length)
def closeF (l : List Nd) (cols : List Int) : List Bool := closeL l cols (List.replicate l.length false)

theorem all_take {p : Int → Bool} {l : List Int} (h : ∀ i (hi : i < l.length), p l[i] = true) : l.all p = true := by
  rw [List.all_eq_true]
  intro x hx
  obtain ⟨i, hi, rfl⟩ := List.getElem_of_mem hx
  exact h i hi

theorem c_Close {l : List Nd} (hT : TreeN l) (hll : l.length ≤ 1000) (cols : List Int) (hcl : cols.length ≤ 1000000) (f g : Bool) (σ : AHeap) :
    ACalls Tryd.prog f_ingotref13_Close [.slc 9 (l.map encR) f, .slc 1 (cols.map (.int .i64)) g] σ fun r σ' => r = .tup [.slc 1 ((if inCols l cols = true then closeF l cols else []).map .bool) false, .int .i64 (if inCols l cols = true then 0 else 1)] ∧ σ' = σ := by
  have hml : (l.map encR).length = l.length := List.length_map ..
  have hmc : (cols.map (AVal.int .i64)).length = cols.length := List.length_map ..
  refine acalls_enter rfl ingotref13_Close_ok (Nat.le_of_ble_eq_true rfl) ?_
  (repeat (first | refine st_q rfl rfl rfl ?_ | refine st_gy rfl (st_q rfl rfl rfl ?_) | refine st_gn rfl ?_ | refine st_gu rfl ?_ | (refine st_nil ?_; (repeat (first | refine kp_cons rfl ?_ | refine kp_skip ?_)); refine kp_nil ?_) | refine awp_seq ?_ | refine aw_end (fun _ _ => rfl) ?_ | refine awp_block ?_ | refine aw_skipE (fun _ _ => rfl) ?_ | refine aw_exitE (fun _ _ => rfl) ?_ | refine awp_cond (t := true) rfl (fun _ => ?_) (fun e => by cases e) | refine awp_cond (t := false) rfl (fun e => by cases e) (fun _ => ?_)))
  rw [hml]
  refine st_mks rfl (AVal.fit_iff.1 rfl) (by omega) (by omega) (by omega) (by omega) fun b hb => ?_
  rw [Int.toNat_natCast]
  (repeat (first | refine st_q rfl rfl rfl ?_ | refine st_gy rfl (st_q rfl rfl rfl ?_) | refine st_gn rfl ?_ | refine st_gu rfl ?_ | (refine st_nil ?_; (repeat (first | refine kp_cons rfl ?_ | refine kp_skip ?_)); refine kp_nil ?_) | refine awp_seq ?_ | refine aw_end (fun _ _ => rfl) ?_ | refine awp_block ?_ | refine aw_skipE (fun _ _ => rfl) ?_ | refine aw_exitE (fun _ _ => rfl) ?_ | refine awp_cond (t := true) rfl (fun _ => ?_) (fun e => by cases e) | refine awp_cond (t := false) rfl (fun e => by cases e) (fun _ => ?_)))
  have hr0 : (List.replicate l.length (AVal.bool false)) = (List.replicate l.length false).map .bool := by rw [List.map_replicate]
  rw [hr0]
  refine awp_loopN (fun m F σ' => ∃ i : Nat, F = fset 0 (some (.slc 9 (l.map encR) f)) (fset 1 (some (.slc 1 (cols.map (.int .i64)) g)) (fset 6 (some (.arr 1 b 0 l.length)) (fset 7 (some (.int .i64 (i : Nat))) fnone))) ∧ (b, ABlk.cells 1 ((List.replicate l.length false).map .bool)) :: σ = σ' ∧ i ≤ cols.length ∧ (∀ j (hj : j < cols.length), j < i → decide (0 ≤ cols[j] ∧ cols[j] < l.length) = true) ∧ m = cols.length - i) (n := cols.length)
    ⟨0, rfl, rfl, by omega, fun j hj h => by omega, by omega⟩ ?_
  rintro m F σ' ⟨i, rfl, rfl, hi, hok, rfl⟩
  (repeat (first | refine st_q rfl rfl rfl ?_ | refine st_gy rfl (st_q rfl rfl rfl ?_) | refine st_gn rfl ?_ | refine st_gu rfl ?_ | (refine st_nil ?_; (repeat (first | refine kp_cons rfl ?_ | refine kp_skip ?_)); refine kp_nil ?_) | refine awp_seq ?_ | refine aw_end (fun _ _ => rfl) ?_ | refine awp_block ?_ | refine aw_skipE (fun _ _ => rfl) ?_ | refine aw_exitE (fun _ _ => rfl) ?_ | refine awp_cond (t := true) rfl (fun _ => ?_) (fun e => by cases e) | refine awp_cond (t := false) rfl (fun e => by cases e) (fun _ => ?_)))
  rw [hmc]
  refine awp_condp (p := (i : Int) < (cols.length : Nat)) rfl (fun h3 => ?_) (fun h3 => ?_)
  · have hil : i < cols.length := by omega
    have hx := map_get (f := AVal.int .i64) hil
    have hbad : ¬ (0 ≤ cols[i] ∧ cols[i] < l.length) → inCols l cols = false := fun h => by
      rw [inCols, List.all_eq_false]
      exact ⟨_, List.getElem_mem hil, by simpa using h⟩
    have hok2 : (0 ≤ cols[i] ∧ cols[i] < l.length) → ∀ j (hj : j < cols.length), j < i + 1 → decide (0 ≤ cols[j] ∧ cols[j] < l.length) = true := fun h j hj hlt => by
      by_cases e : j = i
      · subst e; exact decide_eq_true h
      · exact hok j hj (by omega)
    generalize cols[i] = y at hx hbad hok2
    (repeat (first | refine st_q rfl rfl rfl ?_ | refine st_gy rfl (st_q rfl rfl rfl ?_) | refine st_gn rfl ?_ | refine st_gu rfl ?_ | (refine st_nil ?_; (repeat (first | refine kp_cons rfl ?_ | refine kp_skip ?_)); refine kp_nil ?_) | refine awp_seq ?_ | refine aw_end (fun _ _ => rfl) ?_ | refine awp_block ?_ | refine aw_skipE (fun _ _ => rfl) ?_ | refine aw_exitE (fun _ _ => rfl) ?_ | refine awp_cond (t := true) rfl (fun _ => ?_) (fun e => by cases e) | refine awp_cond (t := false) rfl (fun e => by cases e) (fun _ => ?_)))
    refine st_iad rfl (by omega) hx ?_
    (repeat (first | refine st_q rfl rfl rfl ?_ | refine st_gy rfl (st_q rfl rfl rfl ?_) | refine st_gn rfl ?_ | refine st_gu rfl ?_ | (refine st_nil ?_; (repeat (first | refine kp_cons rfl ?_ | refine kp_skip ?_)); refine kp_nil ?_) | refine awp_seq ?_ | refine aw_end (fun _ _ => rfl) ?_ | refine awp_block ?_ | refine aw_skipE (fun _ _ => rfl) ?_ | refine aw_exitE (fun _ _ => rfl) ?_ | refine awp_cond (t := true) rfl (fun _ => ?_) (fun e => by cases e) | refine awp_cond (t := false) rfl (fun e => by cases e) (fun _ => ?_)))
    by_cases h4 : y < 0
    · (rw [show decide (y < 0) = true from decide_eq_true (by omega)])
      (repeat (first | refine st_q rfl rfl rfl ?_ | refine st_gy rfl (st_q rfl rfl rfl ?_) | refine st_gn rfl ?_ | refine st_gu rfl ?_ | (refine st_nil ?_; (repeat (first | refine kp_cons rfl ?_ | refine kp_skip ?_)); refine kp_nil ?_) | refine awp_seq ?_ | refine aw_end (fun _ _ => rfl) ?_ | refine awp_block ?_ | refine aw_skipE (fun _ _ => rfl) ?_ | refine aw_exitE (fun _ _ => rfl) ?_ | refine awp_cond (t := true) rfl (fun _ => ?_) (fun e => by cases e) | refine awp_cond (t := false) rfl (fun e => by cases e) (fun _ => ?_)))
      rw [hbad (by omega)]
      refine awp_ret ?_
      exact ares_v rfl (VRle.tup (VRle.cons (VRle.nilF _ _) (VRle.refl _))) (HSub.tail _ _) ⟨rfl, rfl⟩
    (rw [show decide (y < 0) = false from decide_eq_false (by omega)])
    (repeat (first | refine st_q rfl rfl rfl ?_ | refine st_gy rfl (st_q rfl rfl rfl ?_) | refine st_gn rfl ?_ | refine st_gu rfl ?_ | (refine st_nil ?_; (repeat (first | refine kp_cons rfl ?_ | refine kp_skip ?_)); refine kp_nil ?_) | refine awp_seq ?_ | refine aw_end (fun _ _ => rfl) ?_ | refine awp_block ?_ | refine aw_skipE (fun _ _ => rfl) ?_ | refine aw_exitE (fun _ _ => rfl) ?_ | refine awp_cond (t := true) rfl (fun _ => ?_) (fun e => by cases e) | refine awp_cond (t := false) rfl (fun e => by cases e) (fun _ => ?_)))
    refine st_gy rfl (st_iad rfl (by omega) hx ?_)
    (repeat (first | refine st_q rfl rfl rfl ?_ | refine st_gy rfl (st_q rfl rfl rfl ?_) | refine st_gn rfl ?_ | refine st_gu rfl ?_ | (refine st_nil ?_; (repeat (first | refine kp_cons rfl ?_ | refine kp_skip ?_)); refine kp_nil ?_) | refine awp_seq ?_ | refine aw_end (fun _ _ => rfl) ?_ | refine awp_block ?_ | refine aw_skipE (fun _ _ => rfl) ?_ | refine aw_exitE (fun _ _ => rfl) ?_ | refine awp_cond (t := true) rfl (fun _ => ?_) (fun e => by cases e) | refine awp_cond (t := false) rfl (fun e => by cases e) (fun _ => ?_)))
    rw [hml]
    by_cases h5 : (l.length : Int) ≤ y
    · (rw [show decide ((l.length : Int) ≤ y) = true from decide_eq_true (by omega)])
      (repeat (first | refine st_q rfl rfl rfl ?_ | refine st_gy rfl (st_q rfl rfl rfl ?_) | refine st_gn rfl ?_ | refine st_gu rfl ?_ | (refine st_nil ?_; (repeat (first | refine kp_cons rfl ?_ | refine kp_skip ?_)); refine kp_nil ?_) | refine awp_seq ?_ | refine aw_end (fun _ _ => rfl) ?_ | refine awp_block ?_ | refine aw_skipE (fun _ _ => rfl) ?_ | refine aw_exitE (fun _ _ => rfl) ?_ | refine awp_cond (t := true) rfl (fun _ => ?_) (fun e => by cases e) | refine awp_cond (t := false) rfl (fun e => by cases e) (fun _ => ?_)))
      rw [hbad (by omega)]
      refine awp_ret ?_
      exact ares_v rfl (VRle.tup (VRle.cons (VRle.nilF _ _) (VRle.refl _))) (HSub.tail _ _) ⟨rfl, rfl⟩
    (rw [show decide ((l.length : Int) ≤ y) = false from decide_eq_false (by omega)])
    (repeat (first | refine st_q rfl rfl rfl ?_ | refine st_gy rfl (st_q rfl rfl rfl ?_) | refine st_gn rfl ?_ | refine st_gu rfl ?_ | (refine st_nil ?_; (repeat (first | refine kp_cons rfl ?_ | refine kp_skip ?_)); refine kp_nil ?_) | refine awp_seq ?_ | refine aw_end (fun _ _ => rfl) ?_ | refine awp_block ?_ | refine aw_skipE (fun _ _ => rfl) ?_ | refine aw_exitE (fun _ _ => rfl) ?_ | refine awp_cond (t := true) rfl (fun _ => ?_) (fun e => by cases e) | refine awp_cond (t := false) rfl (fun e => by cases e) (fun _ => ?_)))
    (refine kp_weaken (keep := [0, 1, 6, 7]) ?_; ((repeat (first | refine kp_cons rfl ?_ | refine kp_skip ?_)); refine kp_nil ?_))
    refine aw_round ?_
    (repeat (refine st_q rfl rfl rfl ?_))
    rw [show IntKind.wrap .i64 ((i : Int) + 1) = ((i + 1 : Nat) : Int) by rw [w64 _ (by omega) (by omega)]; omega]
    (refine st_nil ?_; (repeat (first | refine kp_cons rfl ?_ | refine kp_skip ?_)); refine kp_nil ?_)
    exact ⟨_, cols.length - (i + 1), HSub.refl _, ⟨i + 1, rfl, rfl, by omega, hok2 (by omega), rfl⟩, by omega⟩
  have hin : inCols l cols = true := all_take fun j hj => hok j hj (by omega)
  rw [hin, if_pos rfl, if_pos rfl]
  refine aw_exitE (fun _ _ => rfl) ?_
  (refine kp_weaken (keep := [0, 1, 6]) ?_; ((repeat (first | refine kp_cons rfl ?_ | refine kp_skip ?_)); refine kp_nil ?_))
  (repeat (first | refine st_q rfl rfl rfl ?_ | refine st_gy rfl (st_q rfl rfl rfl ?_) | refine st_gn rfl ?_ | refine st_gu rfl ?_ | (refine st_nil ?_; (repeat (first | refine kp_cons rfl ?_ | refine kp_skip ?_)); refine kp_nil ?_) | refine awp_seq ?_ | refine aw_end (fun _ _ => rfl) ?_ | refine awp_block ?_ | refine aw_skipE (fun _ _ => rfl) ?_ | refine aw_exitE (fun _ _ => rfl) ?_ | refine awp_cond (t := true) rfl (fun _ => ?_) (fun e => by cases e) | refine awp_cond (t := false) rfl (fun e => by cases e) (fun _ => ?_)))
  obtain ⟨I, hI⟩ : ∃ I : Nat → AFrame → AHeap → Prop, I = fun m F σ' => ∃ (i : Nat) (k : List Bool), F = fset 0 (some (.slc 9 (l.map encR) f)) (fset 1 (some (.slc 1 (cols.map (.int .i64)) g)) (fset 6 (some (.arr 1 b 0 l.length)) (fset 8 (some (.int .i64 (i : Nat))) fnone))) ∧ (b, ABlk.cells 1 (k.map .bool)) :: σ = σ' ∧ k.length = l.length ∧ closeL l (cols.drop i) k = closeF l cols ∧ i ≤ cols.length ∧ m = cols.length - i := ⟨_, rfl⟩
  refine awp_loopN I (n := cols.length) (by rw [hI]; exact ⟨0, _, rfl, rfl, by simp, rfl, by omega, by omega⟩) ?_
  intro m0 F σ' hIm
  rw [hI] at hIm
  obtain ⟨i, k, rfl, rfl, hkl, hX, hi2, rfl⟩ := hIm
  (repeat (first | refine st_q rfl rfl rfl ?_ | refine st_gy rfl (st_q rfl rfl rfl ?_) | refine st_gn rfl ?_ | refine st_gu rfl ?_ | (refine st_nil ?_; (repeat (first | refine kp_cons rfl ?_ | refine kp_skip ?_)); refine kp_nil ?_) | refine awp_seq ?_ | refine aw_end (fun _ _ => rfl) ?_ | refine awp_block ?_ | refine aw_skipE (fun _ _ => rfl) ?_ | refine aw_exitE (fun _ _ => rfl) ?_ | refine awp_cond (t := true) rfl (fun _ => ?_) (fun e => by cases e) | refine awp_cond (t := false) rfl (fun e => by cases e) (fun _ => ?_)))
  rw [hmc]
  refine awp_condp (p := (i : Int) < (cols.length : Nat)) rfl (fun h4 => ?_) (fun h4 => ?_)
  · have hil : i < cols.length := by omega
    have hx := map_get (f := AVal.int .i64) hil
    have hy := of_decide_eq_true (hok i hil (by omega))
    rw [List.drop_eq_getElem_cons hil, closeL] at hX
    generalize cols[i] = y at hx hy hX
    obtain ⟨c, rfl⟩ : ∃ c : Nat, y = (c : Int) := ⟨y.toNat, by omega⟩
    rw [Int.toNat_natCast] at hX
    have hcl2 : c < l.length := by omega
    have hn := List.getElem?_eq_getElem hcl2
    have hsz : sizeC l c = cnt l[c].t := by rw [sizeC, hn]
    rw [hsz] at hX
    have hA := c_refAll hT hll l[c].t c l[c] hn rfl ((b, ABlk.cells 1 (k.map .bool)) :: σ) b k hget_head hkl f
    rw [hset_head] at hA
    have hk1l : (fillN c (cnt l[c].t) k).length = l.length := by rw [fillN_len, hkl]
    generalize fillN c (cnt l[c].t) k = k1 at hX hA hk1l
    clear hsz hn
    (repeat (first | refine st_q rfl rfl rfl ?_ | refine st_gy rfl (st_q rfl rfl rfl ?_) | refine st_gn rfl ?_ | refine st_gu rfl ?_ | (refine st_nil ?_; (repeat (first | refine kp_cons rfl ?_ | refine kp_skip ?_)); refine kp_nil ?_) | refine awp_seq ?_ | refine aw_end (fun _ _ => rfl) ?_ | refine awp_block ?_ | refine aw_skipE (fun _ _ => rfl) ?_ | refine aw_exitE (fun _ _ => rfl) ?_ | refine awp_cond (t := true) rfl (fun _ => ?_) (fun e => by cases e) | refine awp_cond (t := false) rfl (fun e => by cases e) (fun _ => ?_)))
    refine st_iad rfl (by omega) hx ?_
    (repeat (refine st_q rfl rfl rfl ?_))
    refine st_callv rfl hA ?_
    (repeat (first | refine st_q rfl rfl rfl ?_ | refine st_gy rfl (st_q rfl rfl rfl ?_) | refine st_gn rfl ?_ | refine st_gu rfl ?_ | (refine st_nil ?_; (repeat (first | refine kp_cons rfl ?_ | refine kp_skip ?_)); refine kp_nil ?_) | refine awp_seq ?_ | refine aw_end (fun _ _ => rfl) ?_ | refine awp_block ?_ | refine aw_skipE (fun _ _ => rfl) ?_ | refine aw_exitE (fun _ _ => rfl) ?_ | refine awp_cond (t := true) rfl (fun _ => ?_) (fun e => by cases e) | refine awp_cond (t := false) rfl (fun e => by cases e) (fun _ => ?_)))
    refine st_iad rfl (by omega) hx ?_
    (repeat (first | refine st_q rfl rfl rfl ?_ | refine st_gy rfl (st_q rfl rfl rfl ?_) | refine st_gn rfl ?_ | refine st_gu rfl ?_ | (refine st_nil ?_; (repeat (first | refine kp_cons rfl ?_ | refine kp_skip ?_)); refine kp_nil ?_) | refine awp_seq ?_ | refine aw_end (fun _ _ => rfl) ?_ | refine awp_block ?_ | refine aw_skipE (fun _ _ => rfl) ?_ | refine aw_exitE (fun _ _ => rfl) ?_ | refine awp_cond (t := true) rfl (fun _ => ?_) (fun e => by cases e) | refine awp_cond (t := false) rfl (fun e => by cases e) (fun _ => ?_)))
    obtain ⟨J, hJ⟩ : ∃ J : Nat → AFrame → AHeap → Prop, J = fun m F σ' => ∃ (p : Int) (k : List Bool) (fl : Nat), F = fset 0 (some (.slc 9 (l.map encR) f)) (fset 1 (some (.slc 1 (cols.map (.int .i64)) g)) (fset 6 (some (.arr 1 b 0 l.length)) (fset 8 (some (.int .i64 (i : Nat))) (fset 9 (some (.int .i64 p)) fnone)))) ∧ (b, ABlk.cells 1 (k.map .bool)) :: σ = σ' ∧ k.length = l.length ∧ closeL l (cols.drop (i + 1)) (upwF l fl p k) = closeF l cols ∧ -1 ≤ p ∧ p < l.length ∧ (p + 1).toNat ≤ fl ∧ m = (p + 1).toNat := ⟨_, rfl⟩
    refine awp_loopN J (n := c + 1) (by rw [hJ]; exact ⟨c, k1, c + 1, rfl, rfl, hk1l, hX, by omega, by omega, by omega, by omega⟩) ?_
    intro m1 F σ' hJm
    rw [hJ] at hJm
    obtain ⟨p, k2, fl, rfl, rfl, hk2l, hX2, hp1, hp2, hfl, rfl⟩ := hJm
    (repeat (first | refine st_q rfl rfl rfl ?_ | refine st_gy rfl (st_q rfl rfl rfl ?_) | refine st_gn rfl ?_ | refine st_gu rfl ?_ | (refine st_nil ?_; (repeat (first | refine kp_cons rfl ?_ | refine kp_skip ?_)); refine kp_nil ?_) | refine awp_seq ?_ | refine aw_end (fun _ _ => rfl) ?_ | refine awp_block ?_ | refine aw_skipE (fun _ _ => rfl) ?_ | refine aw_exitE (fun _ _ => rfl) ?_ | refine awp_cond (t := true) rfl (fun _ => ?_) (fun e => by cases e) | refine awp_cond (t := false) rfl (fun e => by cases e) (fun _ => ?_)))
    refine awp_condp (p := (0 : Int) ≤ p) rfl (fun h5 => ?_) (fun h5 => ?_)
    · obtain ⟨a, rfl⟩ : ∃ a : Nat, p = (a : Int) := ⟨p.toNat, by omega⟩
      have hal : a < l.length := by omega
      have hn := List.getElem?_eq_getElem hal
      have hpar : l[a].parent = -1 ∨ ∃ q : Nat, l[a].parent = (q : Int) ∧ q < a := by
        by_cases e : a = 0
        · subst e; exact .inl (hT.root _ hn).1
        · obtain ⟨⟨q, _, _, e1, e2, _⟩⟩ := hT.par a _ hn (by omega)
          exact .inr ⟨q, e1, e2⟩
      have hpp : -1 ≤ l[a].parent ∧ l[a].parent < a := by rcases hpar with e | ⟨q, e, _⟩ <;> omega
      clear hpar
      have hxn : (l.map encR)[(a : Int).toNat]? = some (encR l[a]) := by rw [Int.toNat_natCast, List.getElem?_map, hn]; rfl
      have hA := c_refAll hT hll l[a].t a l[a] hn rfl ((b, ABlk.cells 1 (k2.map .bool)) :: σ) b k2 hget_head hk2l f
      rw [hset_head] at hA
      obtain ⟨fl', hfl'⟩ : ∃ f, fl = f + 1 := ⟨fl - 1, by omega⟩
      subst hfl'
      rw [upwF, if_neg (by omega), Int.toNat_natCast, hn] at hX2
      simp only at hX2
      generalize l[a] = nd at hpp hxn hA hX2
      (repeat (first | refine st_q rfl rfl rfl ?_ | refine st_gy rfl (st_q rfl rfl rfl ?_) | refine st_gn rfl ?_ | refine st_gu rfl ?_ | (refine st_nil ?_; (repeat (first | refine kp_cons rfl ?_ | refine kp_skip ?_)); refine kp_nil ?_) | refine awp_seq ?_ | refine aw_end (fun _ _ => rfl) ?_ | refine awp_block ?_ | refine aw_skipE (fun _ _ => rfl) ?_ | refine aw_exitE (fun _ _ => rfl) ?_ | refine awp_cond (t := true) rfl (fun _ => ?_) (fun e => by cases e) | refine awp_cond (t := false) rfl (fun e => by cases e) (fun _ => ?_)))
      refine st_iad rfl (by omega) hxn ?_
      (repeat (first | refine st_q rfl rfl rfl ?_ | refine st_gy rfl (st_q rfl rfl rfl ?_) | refine st_gn rfl ?_ | refine st_gu rfl ?_ | (refine st_nil ?_; (repeat (first | refine kp_cons rfl ?_ | refine kp_skip ?_)); refine kp_nil ?_) | refine awp_seq ?_ | refine aw_end (fun _ _ => rfl) ?_ | refine awp_block ?_ | refine aw_skipE (fun _ _ => rfl) ?_ | refine aw_exitE (fun _ _ => rfl) ?_ | refine awp_cond (t := true) rfl (fun _ => ?_) (fun e => by cases e) | refine awp_cond (t := false) rfl (fun e => by cases e) (fun _ => ?_)))
      by_cases k12 : nd.t.kind = 12
      · (rw [show decide (nd.t.kind ≠ 12) = false from decide_eq_false (by omega)])
        rw [if_neg (by omega)] at hX2
        have hk3l := hk2l
        (repeat (first | refine st_q rfl rfl rfl ?_ | refine st_gy rfl (st_q rfl rfl rfl ?_) | refine st_gn rfl ?_ | refine st_gu rfl ?_ | (refine st_nil ?_; (repeat (first | refine kp_cons rfl ?_ | refine kp_skip ?_)); refine kp_nil ?_) | refine awp_seq ?_ | refine aw_end (fun _ _ => rfl) ?_ | refine awp_block ?_ | refine aw_skipE (fun _ _ => rfl) ?_ | refine aw_exitE (fun _ _ => rfl) ?_ | refine awp_cond (t := true) rfl (fun _ => ?_) (fun e => by cases e) | refine awp_cond (t := false) rfl (fun e => by cases e) (fun _ => ?_)))
        have hb0 : ((k2).map AVal.bool)[0 + ((a : Nat) : Int).toNat]? = some (.bool ((k2)[a]'(by omega))) := by rw [Nat.zero_add, Int.toNat_natCast, List.getElem?_map, List.getElem?_eq_getElem (by omega)]; rfl
        refine st_iada rfl ⟨by omega, by omega⟩ ?_
        refine st_store rfl hget_head hb0 (by decide) (AVal.fit_iff.1 rfl) (fun _ => ⟨rfl, rfl⟩) hset_head ?_
        rw [bools_set _ ⟨_, rfl⟩]
        (repeat (first | refine st_q rfl rfl rfl ?_ | refine st_gy rfl (st_q rfl rfl rfl ?_) | refine st_gn rfl ?_ | refine st_gu rfl ?_ | (refine st_nil ?_; (repeat (first | refine kp_cons rfl ?_ | refine kp_skip ?_)); refine kp_nil ?_) | refine awp_seq ?_ | refine aw_end (fun _ _ => rfl) ?_ | refine awp_block ?_ | refine aw_skipE (fun _ _ => rfl) ?_ | refine aw_exitE (fun _ _ => rfl) ?_ | refine awp_cond (t := true) rfl (fun _ => ?_) (fun e => by cases e) | refine awp_cond (t := false) rfl (fun e => by cases e) (fun _ => ?_)))
        refine aw_round ?_
        (repeat (refine st_q rfl rfl rfl ?_))
        refine st_iad rfl (by omega) hxn ?_
        (repeat (refine st_q rfl rfl rfl ?_))
        (refine st_nil ?_; (repeat (first | refine kp_cons rfl ?_ | refine kp_skip ?_)); refine kp_nil ?_)
        refine ⟨_, (nd.parent + 1).toNat, HSub.refl _, ?_, by omega⟩
        rw [hJ]
        exact ⟨nd.parent, (k2).set a true, fl', rfl, rfl, by rw [List.length_set, hk3l], hX2, by omega, by omega, by omega, rfl⟩
      · (rw [show decide (nd.t.kind ≠ 12) = true from decide_eq_true (by omega)])
        rw [if_pos k12] at hX2
        have hk3l : (fillN a (cnt nd.t) k2).length = l.length := by rw [fillN_len, hk2l]
        generalize fillN a (cnt nd.t) k2 = k3 at hX2 hA hk3l
        (repeat (first | refine st_q rfl rfl rfl ?_ | refine st_gy rfl (st_q rfl rfl rfl ?_) | refine st_gn rfl ?_ | refine st_gu rfl ?_ | (refine st_nil ?_; (repeat (first | refine kp_cons rfl ?_ | refine kp_skip ?_)); refine kp_nil ?_) | refine awp_seq ?_ | refine aw_end (fun _ _ => rfl) ?_ | refine awp_block ?_ | refine aw_skipE (fun _ _ => rfl) ?_ | refine aw_exitE (fun _ _ => rfl) ?_ | refine awp_cond (t := true) rfl (fun _ => ?_) (fun e => by cases e) | refine awp_cond (t := false) rfl (fun e => by cases e) (fun _ => ?_)))
        refine st_callv rfl hA ?_
        (repeat (first | refine st_q rfl rfl rfl ?_ | refine st_gy rfl (st_q rfl rfl rfl ?_) | refine st_gn rfl ?_ | refine st_gu rfl ?_ | (refine st_nil ?_; (repeat (first | refine kp_cons rfl ?_ | refine kp_skip ?_)); refine kp_nil ?_) | refine awp_seq ?_ | refine aw_end (fun _ _ => rfl) ?_ | refine awp_block ?_ | refine aw_skipE (fun _ _ => rfl) ?_ | refine aw_exitE (fun _ _ => rfl) ?_ | refine awp_cond (t := true) rfl (fun _ => ?_) (fun e => by cases e) | refine awp_cond (t := false) rfl (fun e => by cases e) (fun _ => ?_)))
        have hb0 : ((k3).map AVal.bool)[0 + ((a : Nat) : Int).toNat]? = some (.bool ((k3)[a]'(by omega))) := by rw [Nat.zero_add, Int.toNat_natCast, List.getElem?_map, List.getElem?_eq_getElem (by omega)]; rfl
        refine st_iada rfl ⟨by omega, by omega⟩ ?_
        refine st_store rfl hget_head hb0 (by decide) (AVal.fit_iff.1 rfl) (fun _ => ⟨rfl, rfl⟩) hset_head ?_
        rw [bools_set _ ⟨_, rfl⟩]
        (repeat (first | refine st_q rfl rfl rfl ?_ | refine st_gy rfl (st_q rfl rfl rfl ?_) | refine st_gn rfl ?_ | refine st_gu rfl ?_ | (refine st_nil ?_; (repeat (first | refine kp_cons rfl ?_ | refine kp_skip ?_)); refine kp_nil ?_) | refine awp_seq ?_ | refine aw_end (fun _ _ => rfl) ?_ | refine awp_block ?_ | refine aw_skipE (fun _ _ => rfl) ?_ | refine aw_exitE (fun _ _ => rfl) ?_ | refine awp_cond (t := true) rfl (fun _ => ?_) (fun e => by cases e) | refine awp_cond (t := false) rfl (fun e => by cases e) (fun _ => ?_)))
        refine aw_round ?_
        (repeat (refine st_q rfl rfl rfl ?_))
        refine st_iad rfl (by omega) hxn ?_
        (repeat (refine st_q rfl rfl rfl ?_))
        (refine st_nil ?_; (repeat (first | refine kp_cons rfl ?_ | refine kp_skip ?_)); refine kp_nil ?_)
        refine ⟨_, (nd.parent + 1).toNat, HSub.refl _, ?_, by omega⟩
        rw [hJ]
        exact ⟨nd.parent, (k3).set a true, fl', rfl, rfl, by rw [List.length_set, hk3l], hX2, by omega, by omega, by omega, rfl⟩
    · have e : upwF l fl p k2 = k2 := by
        cases fl with
        | zero => rfl
        | succ fl => rw [upwF, if_pos (by omega)]
      rw [e] at hX2
      (repeat (first | refine st_q rfl rfl rfl ?_ | refine st_gy rfl (st_q rfl rfl rfl ?_) | refine st_gn rfl ?_ | refine st_gu rfl ?_ | (refine st_nil ?_; (repeat (first | refine kp_cons rfl ?_ | refine kp_skip ?_)); refine kp_nil ?_) | refine awp_seq ?_ | refine aw_end (fun _ _ => rfl) ?_ | refine awp_block ?_ | refine aw_skipE (fun _ _ => rfl) ?_ | refine aw_exitE (fun _ _ => rfl) ?_ | refine awp_cond (t := true) rfl (fun _ => ?_) (fun e => by cases e) | refine awp_cond (t := false) rfl (fun e => by cases e) (fun _ => ?_)))
      refine aw_round ?_
      (repeat (refine st_q rfl rfl rfl ?_))
      rw [show IntKind.wrap .i64 ((i : Int) + 1) = ((i + 1 : Nat) : Int) by rw [w64 _ (by omega) (by omega)]; omega]
      (refine st_nil ?_; (repeat (first | refine kp_cons rfl ?_ | refine kp_skip ?_)); refine kp_nil ?_)
      refine ⟨_, cols.length - (i + 1), HSub.refl _, ?_, by omega⟩
      rw [hI]
      exact ⟨i + 1, k2, rfl, rfl, hk2l, hX2, by omega, rfl⟩
  · rw [List.drop_of_length_le (by omega), closeL] at hX
    subst hX
    refine aw_exitE (fun _ _ => rfl) ?_
    (refine kp_weaken (keep := [6]) ?_; ((repeat (first | refine kp_cons rfl ?_ | refine kp_skip ?_)); refine kp_nil ?_))
    refine awp_freeze (d := 6) (xs := (closeF l cols).map .bool) (by rw [List.length_map, hkl]; rfl) ?_
    (repeat (first | refine st_q rfl rfl rfl ?_ | refine st_gy rfl (st_q rfl rfl rfl ?_) | refine st_gn rfl ?_ | refine st_gu rfl ?_ | (refine st_nil ?_; (repeat (first | refine kp_cons rfl ?_ | refine kp_skip ?_)); refine kp_nil ?_) | refine awp_seq ?_ | refine aw_end (fun _ _ => rfl) ?_ | refine awp_block ?_ | refine aw_skipE (fun _ _ => rfl) ?_ | refine aw_exitE (fun _ _ => rfl) ?_ | refine awp_cond (t := true) rfl (fun _ => ?_) (fun e => by cases e) | refine awp_cond (t := false) rfl (fun e => by cases e) (fun _ => ?_)))
    refine awp_ret ?_
    exact ares rfl (HSub.refl _) ⟨rfl, rfl⟩
end Go.Abs
