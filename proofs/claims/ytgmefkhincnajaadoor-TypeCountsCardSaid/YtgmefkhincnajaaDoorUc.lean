/- Contracts: a tree as9 a text. -/
import Derived.Test.YtgmefkhincnajaaDoorUb
namespace Go.Abs
open Go Go.Proofs
set_option linter.unusedVariables false
set_option linter.unusedSimpArgs false
set_option maxHeartbeats 4000000
attribute [local irreducible] AWp aops KP

mutual
def txtF : Ty → List UInt8
  | .mk k ns ks l p s =>
    if k = 14 then wordF k ++ [40] ++ Lib.itoa p ++ [44] ++ Lib.itoa s ++ [41]
    else if k = 16 ∨ k = 17 then wordF k ++ [40] ++ Lib.itoa l ++ [41]
    else if leafF k = true then wordF k
    else wordF k ++ [60] ++ Lib.join (txtL k ns 0 ks) [44] ++ [62]
def txtL (k : Int) (ns : List (List UInt8)) (j : Nat) : List Ty → List (List UInt8)
  | [] => []
  | t :: ts => (if k = 12 ∧ j < ns.length then ns.getD j [] ++ [58] ++ txtF t else txtF t) :: txtL k ns (j + 1) ts
end
def txtK (k : Int) (ns : List (List UInt8)) (j : Nat) (t : Ty) : List UInt8 := if k = 12 ∧ j < ns.length then ns.getD j [] ++ [58] ++ txtF t else txtF t
theorem txtL_len (k : Int) (ns : List (List UInt8)) : ∀ (ks : List Ty) (j : Nat), (txtL k ns j ks).length = ks.length
  | [], j => by rw [txtL]; rfl
  | t :: ts, j => by rw [txtL, List.length_cons, List.length_cons, txtL_len k ns ts]
theorem txtL_get (k : Int) (ns : List (List UInt8)) : ∀ (ks : List Ty) (j i : Nat) (t : Ty), ks[i]? = some t → (txtL k ns j ks)[i]? = some (txtK k ns (j + i) t)
  | [], j, i, t, h => by simp at h
  | u :: us, j, 0, t, h => by
    simp only [List.getElem?_cons_zero, Option.some.injEq] at h
    subst h
    rw [txtL]; rfl
  | u :: us, j, i + 1, t, h => by
    rw [txtL, List.getElem?_cons_succ, txtL_get k ns us (j + 1) i t (by simpa using h)]
    rw [show j + 1 + i = j + (i + 1) by omega]

theorem Ty.Ok.nums {t : Ty} (h : t.Ok) : (t.kind = 14 → 1 ≤ t.prec ∧ t.prec ≤ 18 ∧ 0 ≤ t.scale ∧ t.scale ≤ t.prec) ∧ (t.kind = 16 ∨ t.kind = 17 → 1 ≤ t.len ∧ t.len ≤ 4096) ∧ ∀ s ∈ t.names, s.length ≤ 100 := by
  cases h with
  | mk h1 _ =>
    rw [ownF] at h1
    split at h1
    · cases h1
    · split at h1
      · cases h1
      · rename_i hr
        simp only [not_or, Bool.not_eq_false] at hr
        have := hr.2.2
        simp only [rightF, Bool.and_eq_true] at this
        obtain ⟨⟨⟨⟨_, _⟩, hn⟩, hl⟩, hp⟩ := this
        refine ⟨fun e => ?_, fun e => ?_, fun s hs => ?_⟩
        · rw [if_pos e] at hp
          exact of_decide_eq_true hp
        · rw [if_pos e] at hl
          exact of_decide_eq_true hl
        · rw [namesOk, Bool.and_eq_true] at hn
          exact (of_decide_eq_true (List.all_eq_true.1 hn.1 s hs)).2

theorem dec_len : ∀ u : Nat, (Lib.decDigits u).length ≤ u + 1 := by
  intro u
  induction u using Nat.strongRecOn with
  | _ u ih =>
    rw [dec_pre]
    split
    · simp
    · rename_i h
      have := ih (u / 10) (by omega)
      rw [List.length_append, List.length_singleton]
      omega
theorem itoa_len {n : Int} (h0 : 0 ≤ n) (h1 : n ≤ 4096) : (Lib.itoa n).length ≤ 4097 := by
  rw [Lib.itoa, if_neg (by omega)]
  have := dec_len n.toNat
  omega
theorem join_len (xs : List (List UInt8)) : (Lib.join xs [44]).length ≤ Lib.lens xs + xs.length := by
  cases xs with
  | nil => simp [Lib.join_nil]
  | cons x r =>
    rw [Lib.join_cons, List.length_append, Lib.joinTail_length]
    simp [Lib.lens]; omega
theorem join_take_succ (xs : List (List UInt8)) (j : Nat) (y : List UInt8) (h : xs[j]? = some y) : Lib.join (xs.take (j + 1)) [44] = (if j = 0 then [] else Lib.join (xs.take j) [44] ++ [44]) ++ y := by
  cases xs with
  | nil => simp at h
  | cons x r =>
    cases j with
    | zero =>
      simp only [List.getElem?_cons_zero, Option.some.injEq] at h
      subst h
      rw [List.take_succ_cons, List.take_zero, Lib.join_one, if_pos rfl]; rfl
    | succ j =>
      rw [List.take_succ_cons, List.take_succ_cons, Lib.join_cons, Lib.join_cons, if_neg (by omega), Lib.joinTail_take_succ _ _ _ _ (by simpa using h)]
      simp [List.append_assoc]
theorem txt_len : ∀ t : Ty, t.Ok → (txtF t).length + 200 ≤ 5400 * cnt t := by
  refine Ty.ind fun k ns ks l p s ih h => ?_
  obtain ⟨n1, n2, n3⟩ := h.nums
  simp only [Ty.kind, Ty.prec, Ty.scale, Ty.len, Ty.names] at n1 n2 n3
  have hw := wordF_len k
  have hL : ∀ (ks : List Ty) (j : Nat), (∀ t ∈ ks, (txtF t).length + 200 ≤ 5400 * cnt t) → Lib.lens (txtL k ns j ks) + ks.length + 98 * ks.length ≤ 5400 * cntL ks := by
    intro ks
    induction ks with
    | nil => intro j _; simp [txtL, Lib.lens, cntL]
    | cons t ts ih2 =>
      intro j ht
      have h1 := ht t (by simp)
      have h2 := ih2 (j + 1) fun t hm => ht t (by simp [hm])
      have h3 : (txtK k ns j t).length ≤ 101 + (txtF t).length := by
        unfold txtK
        split
        · rename_i hj
          have := n3 (ns.getD j []) (by rw [List.getD_eq_getElem?_getD, List.getElem?_eq_getElem hj.2]; exact List.getElem_mem hj.2)
          simp only [List.length_append, List.length_singleton]; omega
        · omega
      have h4 : Lib.lens (txtL k ns j (t :: ts)) = (txtK k ns j t).length + Lib.lens (txtL k ns (j + 1) ts) := by rw [txtL]; simp [Lib.lens, txtK]
      rw [h4, cntL, List.length_cons, Nat.mul_add]
      omega
  rw [txtF, cnt]
  split
  · rename_i e
    obtain ⟨a, b, c, d⟩ := n1 e
    have h1 := itoa_len (n := p) (by omega) (by omega)
    have h2 := itoa_len (n := s) (by omega) (by omega)
    have h3 : (Lib.itoa p).length ≤ 19 := by rw [Lib.itoa, if_neg (by omega)]; have := dec_len p.toNat; omega
    have h4 : (Lib.itoa s).length ≤ 19 := by rw [Lib.itoa, if_neg (by omega)]; have := dec_len s.toNat; omega
    simp only [List.length_append, List.length_singleton]; omega
  · split
    · rename_i e
      obtain ⟨a, b⟩ := n2 e
      have h1 := itoa_len (n := l) (by omega) (by omega)
      simp only [List.length_append, List.length_singleton]; omega
    · split
      · omega
      · have hk : ∀ t ∈ ks, t.Ok := by cases h with | mk _ h => exact h
        have h1 := hL ks 0 fun t ht => ih t ht (hk t ht)
        have h2 := join_len (txtL k ns 0 ks)
        rw [txtL_len] at h2
        simp only [List.length_append, List.length_singleton]; omega

theorem c_Text : ∀ t : Ty, t.Ok → cnt t ≤ 1000 → ∀ σ, ACalls Tryd.prog f_types_Text [encT t] σ fun r σ' => r = .str (txtF t) ∧ σ' = σ := by
  refine Ty.ind fun k ns ks l p s ih hok hc σ => ?_
  obtain ⟨n1, n2, n3⟩ := hok.nums
  simp only [Ty.kind, Ty.prec, Ty.scale, Ty.len, Ty.names] at n1 n2 n3
  have hkids : ∀ t ∈ ks, t.Ok := by cases hok with | mk _ h => exact h
  have hkk := hok.kinds.1
  simp only [Ty.kind, Ty.names, Ty.kids] at hkk
  rw [cnt] at hc
  have hwl := wordF_len k
  have htl := txtL_len k ns ks 0
  have hlen : ks.length ≤ cntL ks := by
    clear ih hc htl hkids hkk hok
    induction ks with
    | nil => simp
    | cons a b ih => have := cntL_pos a; rw [cntL, List.length_cons]; omega
  have hnm : (ns.map AVal.str).length = ns.length := List.length_map ..
  have hall := txt_len _ hok
  rw [cnt] at hall
  have hjl := join_len (txtL k ns 0 ks)
  have hget := fun i t h => txtL_get k ns ks 0 i t h
  have htk : ∀ (t : Ty), t ∈ ks → (txtF t).length ≤ 5400000 := fun t ht => by
    have h1 := txt_len t (hkids t ht)
    obtain ⟨j, hj⟩ := List.getElem?_of_mem ht
    have h2 := cntL_le ks j t hj
    omega
  have hjoin : (Lib.join (txtL k ns 0 ks) [44]).length ≤ 140737488355328 := by
    have hL : ∀ (ks : List Ty) (j : Nat), (∀ t ∈ ks, (txtF t).length ≤ 5400000) → Lib.lens (txtL k ns j ks) ≤ 5400101 * ks.length := by
      intro ks
      induction ks with
      | nil => intro j _; simp [txtL, Lib.lens]
      | cons t ts ih2 =>
        intro j ht
        have h1 := ht t (by simp)
        have h2 := ih2 (j + 1) fun t hm => ht t (by simp [hm])
        have h3 : (txtK k ns j t).length ≤ 101 + (txtF t).length := by
          unfold txtK
          split
          · rename_i hj
            have := n3 (ns.getD j []) (by rw [List.getD_eq_getElem?_getD, List.getElem?_eq_getElem hj.2]; exact List.getElem_mem hj.2)
            simp only [List.length_append, List.length_singleton]; omega
          · omega
        have h4 : Lib.lens (txtL k ns j (t :: ts)) = (txtK k ns j t).length + Lib.lens (txtL k ns (j + 1) ts) := by rw [txtL]; simp [Lib.lens, txtK]
        rw [h4, List.length_cons, Nat.mul_succ]
        omega
    have h1 := hL ks 0 htk
    have h2 : 5400101 * ks.length ≤ 5400101 * 1000 := Nat.mul_le_mul_left _ (by omega)
    omega
  have hword := c_Word k
  have hleaf := c_Leaf k
  rw [encT_eq]
  refine acalls_enter rfl types_Text_ok (Nat.le_of_ble_eq_true rfl) ?_
  refine aw_region ?_
  refine st_box rfl (AVal.fit_iff.1 rfl) fun b1 hb1 => ?_
  (repeat (refine st_q rfl rfl rfl ?_))
  (refine st_nil ?_; (repeat (first | refine kp_cons rfl ?_ | refine kp_skip ?_)); refine kp_nil ?_)
  refine awp_freezeP (d := 1) (cs := [.int .i64 k, .slc 1 (ns.map .str) false, .slc 6 (encTs ks) false, .int .i64 l, .int .i64 p, .int .i64 s]) rfl ?_
  (repeat (first | refine st_q rfl rfl rfl ?_ | refine st_gy rfl (st_q rfl rfl rfl ?_) | refine st_gn rfl ?_ | refine st_gu rfl ?_ | (refine st_nil ?_; (repeat (first | refine kp_cons rfl ?_ | refine kp_skip ?_)); refine kp_nil ?_) | refine awp_seq ?_ | refine aw_end (fun _ _ => rfl) ?_ | refine awp_block ?_ | refine aw_skipE (fun _ _ => rfl) ?_ | refine aw_exitE (fun _ _ => rfl) ?_ | refine awp_cond (t := true) rfl (fun _ => ?_) (fun e => by cases e) | refine awp_cond (t := false) rfl (fun e => by cases e) (fun _ => ?_)))
  rw [encTs_length]
  generalize hTL : txtL k ns 0 ks = TL at *
  refine awp_loopN (fun m F σ' => ∃ (j : Nat) (kv : AVal) (β : AHeap), F = fset 1 (some (.iptr [.int .i64 k, .slc 1 (ns.map .str) false, .slc 6 (encTs ks) false, .int .i64 l, .int .i64 p, .int .i64 s])) (fset 3 (some kv) (fset 9 (some (.slc 6 (encTs ks) false)) (fset 10 (some (.int .i64 (ks.length : Nat))) (fset 11 (some (.int .i64 (j : Nat))) fnone)))) ∧
    β ++ σ = σ' ∧ GrowG 1 kv ((TL.take j).map .str) β ∧ j ≤ ks.length ∧ m = ks.length - j) (n := ks.length) ⟨0, .slc 0 [] true, [], rfl, rfl, GrowG.nil 1 0, by omega, rfl⟩ ?_
  rintro m F σ' ⟨j, kv, β, rfl, rfl, ho, hj, rfl⟩
  (repeat (first | refine st_q rfl rfl rfl ?_ | refine st_gy rfl (st_q rfl rfl rfl ?_) | refine st_gn rfl ?_ | refine st_gu rfl ?_ | (refine st_nil ?_; (repeat (first | refine kp_cons rfl ?_ | refine kp_skip ?_)); refine kp_nil ?_) | refine awp_seq ?_ | refine aw_end (fun _ _ => rfl) ?_ | refine awp_block ?_ | refine aw_skipE (fun _ _ => rfl) ?_ | refine aw_exitE (fun _ _ => rfl) ?_ | refine awp_cond (t := true) rfl (fun _ => ?_) (fun e => by cases e) | refine awp_cond (t := false) rfl (fun e => by cases e) (fun _ => ?_)))
  refine awp_condp (p := (j : Int) < (ks.length : Nat)) rfl (fun h5 => ?_) (fun h5 => ?_)
  · have hjl : j < ks.length := by omega
    have h1 : (encTs ks)[((j : Nat) : Int).toNat]? = some (.agg (cellsT ks[j])) := by rw [← encT_eq]; exact encTs_get (by rw [Int.toNat_natCast, List.getElem?_eq_getElem hjl])
    have hle := cntL_le ks j _ (List.getElem?_eq_getElem hjl)
    have hum := List.getElem_mem hjl
    have hq := ih ks[j] hum (hkids _ hum) (by omega)
    have hgt := hget j _ (List.getElem?_eq_getElem hjl)
    have hul := htk _ hum
    rw [encT_eq] at hq
    rw [Nat.zero_add] at hgt
    generalize ks[j] = u at h1 hle hq hgt hul
    have hTk : (TL.take (j + 1)).map AVal.str = (TL.take j).map AVal.str ++ [.str (txtK k ns j u)] := by rw [List.take_add_one, hgt, List.map_append]; rfl
    have hTl : ((TL.take j).map AVal.str).length ≤ 1000 := by rw [List.length_map, List.length_take]; omega
    -- the text goes behind the others
    have put : ∀ (x : List UInt8), x = txtK k ns j u → ∀ Q : APost, AWp Tryd.prog types_Text.n (.region types_Text_r8 [1, 3, 9, 10, 11]) (AInBlock 1 (AThen Tryd.prog types_Text.n (.region types_Text_r9 [1, 3, 9, 10, 11]) (ALess (fun m F σ' => ∃ (j : Nat) (kv : AVal) (β : AHeap), F = fset 1 (some (.iptr [.int .i64 k, .slc 1 (ns.map .str) false, .slc 6 (encTs ks) false, .int .i64 l, .int .i64 p, .int .i64 s])) (fset 3 (some kv) (fset 9 (some (.slc 6 (encTs ks) false)) (fset 10 (some (.int .i64 (ks.length : Nat))) (fset 11 (some (.int .i64 (j : Nat))) fnone)))) ∧
          β ++ σ = σ' ∧ GrowG 1 kv ((TL.take j).map .str) β ∧ j ≤ ks.length ∧ m = ks.length - j) (ks.length - j) Q)))
        (fset 1 (some (.iptr [.int .i64 k, .slc 1 (ns.map .str) false, .slc 6 (encTs ks) false, .int .i64 l, .int .i64 p, .int .i64 s])) (fset 3 (some kv) (fset 6 (some (.str x)) (fset 9 (some (.slc 6 (encTs ks) false)) (fset 10 (some (.int .i64 (ks.length : Nat))) (fset 11 (some (.int .i64 (j : Nat))) fnone)))))) (β ++ σ) := by
      intro x hx Q
      subst hx
      refine aw_end (fun _ _ => rfl) ?_
      (repeat (refine st_q rfl rfl rfl ?_))
      refine st_appG (ys := [.str (txtK k ns j u)]) ho rfl rfl (by rw [List.length_singleton]; omega) fun b' hb' => ?_
      rw [← hTk]
      (repeat (refine st_q rfl rfl rfl ?_))
      (refine st_nil ?_; (repeat (first | refine kp_cons rfl ?_ | refine kp_skip ?_)); refine kp_nil ?_)
      refine aw_round ?_
      (repeat (refine st_q rfl rfl rfl ?_))
      rw [show IntKind.wrap .i64 ((j : Int) + 1) = ((j + 1 : Nat) : Int) by rw [w64 _ (by omega) (by omega)]; omega]
      (refine st_nil ?_; (repeat (first | refine kp_cons rfl ?_ | refine kp_skip ?_)); refine kp_nil ?_)
      exact ⟨_, ks.length - (j + 1), HSub.refl _, ⟨j + 1, _, [(b', _)], rfl, rfl, GrowG.mk, by omega, rfl⟩, by omega⟩
    refine aw_skipE (fun _ _ => rfl) ?_
    refine awp_seq ?_
    refine awp_block ?_
    refine awp_seq ?_
    refine aw_end (fun _ _ => rfl) ?_
    (repeat (refine st_q rfl rfl rfl ?_))
    refine st_iad rfl (by omega) h1 ?_
    (repeat (refine st_q rfl rfl rfl ?_))
    refine st_alloc (by simp [AVal.cells, AVal.one]) fun b5 hb5 => ?_
    (repeat (refine st_q rfl rfl rfl ?_))
    refine st_store rfl hget_head rfl (by decide) (AVal.fit_iff.1 rfl) (fun h => by cases h) hset_head ?_
    (refine st_nil ?_; (repeat (first | refine kp_cons rfl ?_ | refine kp_skip ?_)); refine kp_nil ?_)
    refine awp_freezeP (d := 5) (cs := cellsT u) rfl ?_
    (refine kp_weaken (keep := [1, 3, 4, 5, 9, 10, 11]) ?_; ((repeat (first | refine kp_cons rfl ?_ | refine kp_skip ?_)); refine kp_nil ?_))
    refine awp_seq ?_
    refine aw_end (fun _ _ => rfl) ?_
    (repeat (refine st_q rfl rfl rfl ?_))
    refine st_callv rfl (hq _) ?_
    (repeat (refine st_q rfl rfl rfl ?_))
    (refine st_nil ?_; (repeat (first | refine kp_cons rfl ?_ | refine kp_skip ?_)); refine kp_nil ?_)
    refine awp_seq ?_
    refine awp_seq ?_
    refine aw_end (fun _ _ => rfl) ?_
    (repeat (refine st_q rfl rfl rfl ?_))
    by_cases k12 : k = 12
    · (rw [show decide (k = 12) = true from decide_eq_true (by omega)])
      (repeat (first | refine st_q rfl rfl rfl ?_ | refine st_gy rfl (st_q rfl rfl rfl ?_) | refine st_gn rfl ?_ | refine st_gu rfl ?_))
      rw [hnm]
      by_cases hjn : j < ns.length
      · have hx := map_get (f := AVal.str) hjn
        have hxl := n3 _ (List.getElem_mem hjn)
        have hK : txtK k ns j u = ns[j] ++ [58] ++ txtF u := by rw [txtK, if_pos ⟨k12, hjn⟩, List.getD_eq_getElem?_getD, List.getElem?_eq_getElem hjn]; rfl
        generalize ns[j] = x at hx hxl hK
        (rw [show decide ((j : Int) < (ns.length : Int)) = true from decide_eq_true (by omega)])
        (repeat (first | refine st_q rfl rfl rfl ?_ | refine st_gy rfl (st_q rfl rfl rfl ?_) | refine st_gn rfl ?_ | refine st_gu rfl ?_))
        (refine st_nil ?_; (repeat (first | refine kp_cons rfl ?_ | refine kp_skip ?_)); refine kp_nil ?_)
        refine awp_cond (t := true) rfl (fun _ => ?_) (fun e => by cases e)
        refine aw_end (fun _ _ => rfl) ?_
        (repeat (refine st_q rfl rfl rfl ?_))
        refine st_iad rfl (by omega) hx ?_
        (repeat (refine st_q rfl rfl rfl ?_))
        refine st_cat rfl (by simp only [List.length_singleton]; unfold maxLen; omega) ?_
        (repeat (refine st_q rfl rfl rfl ?_))
        refine st_cat rfl (by simp only [List.length_append, List.length_singleton]; unfold maxLen; omega) ?_
        (repeat (refine st_q rfl rfl rfl ?_))
        (refine st_nil ?_; (repeat (first | refine kp_cons rfl ?_ | refine kp_skip ?_)); refine kp_nil ?_)
        exact put _ hK.symm _
      · have hK : txtK k ns j u = txtF u := by rw [txtK, if_neg (fun h => hjn h.2)]
        (rw [show decide ((j : Int) < (ns.length : Int)) = false from decide_eq_false (by omega)])
        (repeat (first | refine st_q rfl rfl rfl ?_ | refine st_gy rfl (st_q rfl rfl rfl ?_) | refine st_gn rfl ?_ | refine st_gu rfl ?_))
        (refine st_nil ?_; (repeat (first | refine kp_cons rfl ?_ | refine kp_skip ?_)); refine kp_nil ?_)
        refine awp_cond (t := false) rfl (fun e => by cases e) (fun _ => ?_)
        refine aw_skipE (fun _ _ => rfl) ?_
        (refine kp_weaken (keep := [1, 3, 6, 9, 10, 11]) ?_; ((repeat (first | refine kp_cons rfl ?_ | refine kp_skip ?_)); refine kp_nil ?_))
        exact put _ hK.symm _
    · have hK : txtK k ns j u = txtF u := by rw [txtK, if_neg (fun h => k12 h.1)]
      (rw [show decide (k = 12) = false from decide_eq_false (by omega)])
      (repeat (first | refine st_q rfl rfl rfl ?_ | refine st_gy rfl (st_q rfl rfl rfl ?_) | refine st_gn rfl ?_ | refine st_gu rfl ?_))
      (refine st_nil ?_; (repeat (first | refine kp_cons rfl ?_ | refine kp_skip ?_)); refine kp_nil ?_)
      refine awp_cond (t := false) rfl (fun e => by cases e) (fun _ => ?_)
      refine aw_skipE (fun _ _ => rfl) ?_
      (refine kp_weaken (keep := [1, 3, 6, 9, 10, 11]) ?_; ((repeat (first | refine kp_cons rfl ?_ | refine kp_skip ?_)); refine kp_nil ?_))
      exact put _ hK.symm _
  have hJ : j = ks.length := by omega
  rw [List.take_of_length_le (by omega)] at ho
  refine aw_exitE (fun _ _ => rfl) ?_
  (refine kp_weaken (keep := [1, 3]) ?_; ((repeat (first | refine kp_cons rfl ?_ | refine kp_skip ?_)); refine kp_nil ?_))
  have go : ∀ f : Bool, AWp Tryd.prog types_Text.n (types_Text.code.snd 3) (ARet types_Text.res fun r σ' => r = .str (txtF (.mk k ns ks l p s)) ∧ σ' = σ)
      (fset 1 (some (.iptr [.int .i64 k, .slc 1 (ns.map .str) false, .slc 6 (encTs ks) false, .int .i64 l, .int .i64 p, .int .i64 s])) (fset 3 (some (.slc 1 (TL.map .str) f)) fnone)) σ := by
    intro f
    have hJn := c_Join TL [44] (by omega) hjoin f
    rw [txtF, hTL]
    (repeat (first | refine st_q rfl rfl rfl ?_ | refine st_gy rfl (st_q rfl rfl rfl ?_) | refine st_gn rfl ?_ | refine st_gu rfl ?_ | (refine st_nil ?_; (repeat (first | refine kp_cons rfl ?_ | refine kp_skip ?_)); refine kp_nil ?_) | refine awp_seq ?_ | refine aw_end (fun _ _ => rfl) ?_ | refine awp_block ?_ | refine aw_skipE (fun _ _ => rfl) ?_ | refine aw_exitE (fun _ _ => rfl) ?_ | refine awp_cond (t := true) rfl (fun _ => ?_) (fun e => by cases e) | refine awp_cond (t := false) rfl (fun e => by cases e) (fun _ => ?_)))
    refine st_callv rfl (hword _) ?_
    (repeat (first | refine st_q rfl rfl rfl ?_ | refine st_gy rfl (st_q rfl rfl rfl ?_) | refine st_gn rfl ?_ | refine st_gu rfl ?_ | (refine st_nil ?_; (repeat (first | refine kp_cons rfl ?_ | refine kp_skip ?_)); refine kp_nil ?_) | refine awp_seq ?_ | refine aw_end (fun _ _ => rfl) ?_ | refine awp_block ?_ | refine aw_skipE (fun _ _ => rfl) ?_ | refine aw_exitE (fun _ _ => rfl) ?_ | refine awp_cond (t := true) rfl (fun _ => ?_) (fun e => by cases e) | refine awp_cond (t := false) rfl (fun e => by cases e) (fun _ => ?_)))
    by_cases k14 : k = 14
    · obtain ⟨a, b, c, d⟩ := n1 k14
      have hp := c_Itoa p (by omega) (by omega)
      have hs := c_Itoa s (by omega) (by omega)
      have lp := itoa_len (n := p) (by omega) (by omega)
      have ls := itoa_len (n := s) (by omega) (by omega)
      rw [if_pos k14]
      (rw [show decide (k = 14) = true from decide_eq_true (by omega)])
      (repeat (first | refine st_q rfl rfl rfl ?_ | refine st_gy rfl (st_q rfl rfl rfl ?_) | refine st_gn rfl ?_ | refine st_gu rfl ?_ | (refine st_nil ?_; (repeat (first | refine kp_cons rfl ?_ | refine kp_skip ?_)); refine kp_nil ?_) | refine awp_seq ?_ | refine aw_end (fun _ _ => rfl) ?_ | refine awp_block ?_ | refine aw_skipE (fun _ _ => rfl) ?_ | refine aw_exitE (fun _ _ => rfl) ?_ | refine awp_cond (t := true) rfl (fun _ => ?_) (fun e => by cases e) | refine awp_cond (t := false) rfl (fun e => by cases e) (fun _ => ?_)))
      refine st_cat rfl (by simp only [List.length_singleton]; unfold maxLen; omega) ?_
      (repeat (refine st_q rfl rfl rfl ?_))
      refine st_callp rfl hp ?_
      refine st_cat rfl (by simp only [List.length_append, List.length_singleton]; unfold maxLen; omega) ?_
      refine st_cat rfl (by simp only [List.length_append, List.length_singleton]; unfold maxLen; omega) ?_
      (repeat (refine st_q rfl rfl rfl ?_))
      refine st_callv rfl (hs _) ?_
      refine st_cat rfl (by simp only [List.length_append, List.length_singleton]; unfold maxLen; omega) ?_
      refine st_cat rfl (by simp only [List.length_append, List.length_singleton]; unfold maxLen; omega) ?_
      (repeat (first | refine st_q rfl rfl rfl ?_ | refine st_gy rfl (st_q rfl rfl rfl ?_) | refine st_gn rfl ?_ | refine st_gu rfl ?_ | (refine st_nil ?_; (repeat (first | refine kp_cons rfl ?_ | refine kp_skip ?_)); refine kp_nil ?_) | refine awp_seq ?_ | refine aw_end (fun _ _ => rfl) ?_ | refine awp_block ?_ | refine aw_skipE (fun _ _ => rfl) ?_ | refine aw_exitE (fun _ _ => rfl) ?_ | refine awp_cond (t := true) rfl (fun _ => ?_) (fun e => by cases e) | refine awp_cond (t := false) rfl (fun e => by cases e) (fun _ => ?_)))
      refine awp_ret ?_
      exact ares rfl (HSub.refl _) ⟨rfl, rfl⟩
    rw [if_neg k14]
    (rw [show decide (k = 14) = false from decide_eq_false (by omega)])
    (repeat (first | refine st_q rfl rfl rfl ?_ | refine st_gy rfl (st_q rfl rfl rfl ?_) | refine st_gn rfl ?_ | refine st_gu rfl ?_ | (refine st_nil ?_; (repeat (first | refine kp_cons rfl ?_ | refine kp_skip ?_)); refine kp_nil ?_) | refine awp_seq ?_ | refine aw_end (fun _ _ => rfl) ?_ | refine awp_block ?_ | refine aw_skipE (fun _ _ => rfl) ?_ | refine aw_exitE (fun _ _ => rfl) ?_ | refine awp_cond (t := true) rfl (fun _ => ?_) (fun e => by cases e) | refine awp_cond (t := false) rfl (fun e => by cases e) (fun _ => ?_)))
    by_cases k16 : k = 16 ∨ k = 17
    · obtain ⟨a, b⟩ := n2 k16
      have hl := c_Itoa l (by omega) (by omega)
      have ll := itoa_len (n := l) (by omega) (by omega)
      rw [if_pos k16]
      by_cases e16 : k = 16
      · (rw [show decide (k = 16) = true from decide_eq_true (by omega)])
        (repeat (first | refine st_q rfl rfl rfl ?_ | refine st_gy rfl (st_q rfl rfl rfl ?_) | refine st_gn rfl ?_ | refine st_gu rfl ?_ | (refine st_nil ?_; (repeat (first | refine kp_cons rfl ?_ | refine kp_skip ?_)); refine kp_nil ?_) | refine awp_seq ?_ | refine aw_end (fun _ _ => rfl) ?_ | refine awp_block ?_ | refine aw_skipE (fun _ _ => rfl) ?_ | refine aw_exitE (fun _ _ => rfl) ?_ | refine awp_cond (t := true) rfl (fun _ => ?_) (fun e => by cases e) | refine awp_cond (t := false) rfl (fun e => by cases e) (fun _ => ?_)))
        refine st_cat rfl (by simp only [List.length_singleton]; unfold maxLen; omega) ?_
        (repeat (refine st_q rfl rfl rfl ?_))
        refine st_callv rfl (hl _) ?_
        refine st_cat rfl (by simp only [List.length_append, List.length_singleton]; unfold maxLen; omega) ?_
        refine st_cat rfl (by simp only [List.length_append, List.length_singleton]; unfold maxLen; omega) ?_
        (repeat (first | refine st_q rfl rfl rfl ?_ | refine st_gy rfl (st_q rfl rfl rfl ?_) | refine st_gn rfl ?_ | refine st_gu rfl ?_ | (refine st_nil ?_; (repeat (first | refine kp_cons rfl ?_ | refine kp_skip ?_)); refine kp_nil ?_) | refine awp_seq ?_ | refine aw_end (fun _ _ => rfl) ?_ | refine awp_block ?_ | refine aw_skipE (fun _ _ => rfl) ?_ | refine aw_exitE (fun _ _ => rfl) ?_ | refine awp_cond (t := true) rfl (fun _ => ?_) (fun e => by cases e) | refine awp_cond (t := false) rfl (fun e => by cases e) (fun _ => ?_)))
        refine awp_ret ?_
        exact ares rfl (HSub.refl _) ⟨rfl, rfl⟩
      · (rw [show decide (k = 16) = false from decide_eq_false (by omega)])
        (repeat (first | refine st_q rfl rfl rfl ?_ | refine st_gy rfl (st_q rfl rfl rfl ?_) | refine st_gn rfl ?_ | refine st_gu rfl ?_ | (refine st_nil ?_; (repeat (first | refine kp_cons rfl ?_ | refine kp_skip ?_)); refine kp_nil ?_) | refine awp_seq ?_ | refine aw_end (fun _ _ => rfl) ?_ | refine awp_block ?_ | refine aw_skipE (fun _ _ => rfl) ?_ | refine aw_exitE (fun _ _ => rfl) ?_ | refine awp_cond (t := true) rfl (fun _ => ?_) (fun e => by cases e) | refine awp_cond (t := false) rfl (fun e => by cases e) (fun _ => ?_)))
        (rw [show decide (k = 17) = true from decide_eq_true (by omega)])
        (repeat (first | refine st_q rfl rfl rfl ?_ | refine st_gy rfl (st_q rfl rfl rfl ?_) | refine st_gn rfl ?_ | refine st_gu rfl ?_ | (refine st_nil ?_; (repeat (first | refine kp_cons rfl ?_ | refine kp_skip ?_)); refine kp_nil ?_) | refine awp_seq ?_ | refine aw_end (fun _ _ => rfl) ?_ | refine awp_block ?_ | refine aw_skipE (fun _ _ => rfl) ?_ | refine aw_exitE (fun _ _ => rfl) ?_ | refine awp_cond (t := true) rfl (fun _ => ?_) (fun e => by cases e) | refine awp_cond (t := false) rfl (fun e => by cases e) (fun _ => ?_)))
        refine st_cat rfl (by simp only [List.length_singleton]; unfold maxLen; omega) ?_
        (repeat (refine st_q rfl rfl rfl ?_))
        refine st_callv rfl (hl _) ?_
        refine st_cat rfl (by simp only [List.length_append, List.length_singleton]; unfold maxLen; omega) ?_
        refine st_cat rfl (by simp only [List.length_append, List.length_singleton]; unfold maxLen; omega) ?_
        (repeat (first | refine st_q rfl rfl rfl ?_ | refine st_gy rfl (st_q rfl rfl rfl ?_) | refine st_gn rfl ?_ | refine st_gu rfl ?_ | (refine st_nil ?_; (repeat (first | refine kp_cons rfl ?_ | refine kp_skip ?_)); refine kp_nil ?_) | refine awp_seq ?_ | refine aw_end (fun _ _ => rfl) ?_ | refine awp_block ?_ | refine aw_skipE (fun _ _ => rfl) ?_ | refine aw_exitE (fun _ _ => rfl) ?_ | refine awp_cond (t := true) rfl (fun _ => ?_) (fun e => by cases e) | refine awp_cond (t := false) rfl (fun e => by cases e) (fun _ => ?_)))
        refine awp_ret ?_
        exact ares rfl (HSub.refl _) ⟨rfl, rfl⟩
    rw [if_neg k16]
    (rw [show decide (k = 16) = false from decide_eq_false (by omega)])
    (repeat (first | refine st_q rfl rfl rfl ?_ | refine st_gy rfl (st_q rfl rfl rfl ?_) | refine st_gn rfl ?_ | refine st_gu rfl ?_ | (refine st_nil ?_; (repeat (first | refine kp_cons rfl ?_ | refine kp_skip ?_)); refine kp_nil ?_) | refine awp_seq ?_ | refine aw_end (fun _ _ => rfl) ?_ | refine awp_block ?_ | refine aw_skipE (fun _ _ => rfl) ?_ | refine aw_exitE (fun _ _ => rfl) ?_ | refine awp_cond (t := true) rfl (fun _ => ?_) (fun e => by cases e) | refine awp_cond (t := false) rfl (fun e => by cases e) (fun _ => ?_)))
    (rw [show decide (k = 17) = false from decide_eq_false (by omega)])
    (repeat (first | refine st_q rfl rfl rfl ?_ | refine st_gy rfl (st_q rfl rfl rfl ?_) | refine st_gn rfl ?_ | refine st_gu rfl ?_ | (refine st_nil ?_; (repeat (first | refine kp_cons rfl ?_ | refine kp_skip ?_)); refine kp_nil ?_) | refine awp_seq ?_ | refine aw_end (fun _ _ => rfl) ?_ | refine awp_block ?_ | refine aw_skipE (fun _ _ => rfl) ?_ | refine aw_exitE (fun _ _ => rfl) ?_ | refine awp_cond (t := true) rfl (fun _ => ?_) (fun e => by cases e) | refine awp_cond (t := false) rfl (fun e => by cases e) (fun _ => ?_)))
    refine st_callv rfl (hleaf _) ?_
    cases hlf : leafF k with
    | true =>
      rw [if_pos rfl]
      (repeat (first | refine st_q rfl rfl rfl ?_ | refine st_gy rfl (st_q rfl rfl rfl ?_) | refine st_gn rfl ?_ | refine st_gu rfl ?_ | (refine st_nil ?_; (repeat (first | refine kp_cons rfl ?_ | refine kp_skip ?_)); refine kp_nil ?_) | refine awp_seq ?_ | refine aw_end (fun _ _ => rfl) ?_ | refine awp_block ?_ | refine aw_skipE (fun _ _ => rfl) ?_ | refine aw_exitE (fun _ _ => rfl) ?_ | refine awp_cond (t := true) rfl (fun _ => ?_) (fun e => by cases e) | refine awp_cond (t := false) rfl (fun e => by cases e) (fun _ => ?_)))
      refine awp_ret ?_
      exact ares rfl (HSub.refl _) ⟨rfl, rfl⟩
    | false =>
      rw [if_neg (by simp)]
      (repeat (first | refine st_q rfl rfl rfl ?_ | refine st_gy rfl (st_q rfl rfl rfl ?_) | refine st_gn rfl ?_ | refine st_gu rfl ?_ | (refine st_nil ?_; (repeat (first | refine kp_cons rfl ?_ | refine kp_skip ?_)); refine kp_nil ?_) | refine awp_seq ?_ | refine aw_end (fun _ _ => rfl) ?_ | refine awp_block ?_ | refine aw_skipE (fun _ _ => rfl) ?_ | refine aw_exitE (fun _ _ => rfl) ?_ | refine awp_cond (t := true) rfl (fun _ => ?_) (fun e => by cases e) | refine awp_cond (t := false) rfl (fun e => by cases e) (fun _ => ?_)))
      refine st_cat rfl (by simp only [List.length_singleton]; unfold maxLen; omega) ?_
      (repeat (refine st_q rfl rfl rfl ?_))
      refine st_callv rfl (hJn _) ?_
      refine st_cat rfl (by simp only [List.length_append, List.length_singleton]; unfold maxLen; omega) ?_
      refine st_cat rfl (by simp only [List.length_append, List.length_singleton]; unfold maxLen; omega) ?_
      (repeat (first | refine st_q rfl rfl rfl ?_ | refine st_gy rfl (st_q rfl rfl rfl ?_) | refine st_gn rfl ?_ | refine st_gu rfl ?_ | (refine st_nil ?_; (repeat (first | refine kp_cons rfl ?_ | refine kp_skip ?_)); refine kp_nil ?_) | refine awp_seq ?_ | refine aw_end (fun _ _ => rfl) ?_ | refine awp_block ?_ | refine aw_skipE (fun _ _ => rfl) ?_ | refine aw_exitE (fun _ _ => rfl) ?_ | refine awp_cond (t := true) rfl (fun _ => ?_) (fun e => by cases e) | refine awp_cond (t := false) rfl (fun e => by cases e) (fun _ => ?_)))
      refine awp_ret ?_
      exact ares rfl (HSub.refl _) ⟨rfl, rfl⟩
  rcases ho with ⟨⟨z, rfl⟩, hxs, rfl⟩ | ⟨b', rfl, rfl⟩
  · refine awp_shift (d := 3) (v := .slc z [] true) (v' := .slc 1 (TL.map .str) false) rfl (VShiftL.le (by rw [hxs]; exact VRle.nilF _ _) (HSub.refl _)) ?_
    (refine kp_weaken (keep := [1, 3]) ?_; ((repeat (first | refine kp_cons rfl ?_ | refine kp_skip ?_)); refine kp_nil ?_))
    exact go false
  · refine awp_freeze (d := 3) (xs := TL.map .str) rfl ?_
    (refine kp_weaken (keep := [1, 3]) ?_; ((repeat (first | refine kp_cons rfl ?_ | refine kp_skip ?_)); refine kp_nil ?_))
    exact go false

theorem c_refText : ∀ t : Ty, t.Ok → cnt t ≤ 1000 → ∀ σ, ACalls Tryd.prog f_ingotref13_Text [encT t] σ fun r σ' => r = .str (txtF t) ∧ σ' = σ := by
  refine Ty.ind fun k ns ks l p s ih hok hc σ => ?_
  obtain ⟨n1, n2, n3⟩ := hok.nums
  simp only [Ty.kind, Ty.prec, Ty.scale, Ty.len, Ty.names] at n1 n2 n3
  have hkids : ∀ t ∈ ks, t.Ok := by cases hok with | mk _ h => exact h
  have hkk := hok.kinds.1
  simp only [Ty.kind, Ty.names, Ty.kids] at hkk
  rw [cnt] at hc
  have hwl := wordF_len k
  have htl := txtL_len k ns ks 0
  have hlen : ks.length ≤ cntL ks := by
    clear ih hc htl hkids hkk hok
    induction ks with
    | nil => simp
    | cons a b ih => have := cntL_pos a; rw [cntL, List.length_cons]; omega
  have hnm : (ns.map AVal.str).length = ns.length := List.length_map ..
  have hall := txt_len _ hok
  rw [cnt] at hall
  have hjl := join_len (txtL k ns 0 ks)
  have hget := fun i t h => txtL_get k ns ks 0 i t h
  have htk : ∀ (t : Ty), t ∈ ks → (txtF t).length ≤ 5400000 := fun t ht => by
    have h1 := txt_len t (hkids t ht)
    obtain ⟨j, hj⟩ := List.getElem?_of_mem ht
    have h2 := cntL_le ks j t hj
    omega
  have hjoin : (Lib.join (txtL k ns 0 ks) [44]).length ≤ 140737488355328 := by
    have hL : ∀ (ks : List Ty) (j : Nat), (∀ t ∈ ks, (txtF t).length ≤ 5400000) → Lib.lens (txtL k ns j ks) ≤ 5400101 * ks.length := by
      intro ks
      induction ks with
      | nil => intro j _; simp [txtL, Lib.lens]
      | cons t ts ih2 =>
        intro j ht
        have h1 := ht t (by simp)
        have h2 := ih2 (j + 1) fun t hm => ht t (by simp [hm])
        have h3 : (txtK k ns j t).length ≤ 101 + (txtF t).length := by
          unfold txtK
          split
          · rename_i hj
            have := n3 (ns.getD j []) (by rw [List.getD_eq_getElem?_getD, List.getElem?_eq_getElem hj.2]; exact List.getElem_mem hj.2)
            simp only [List.length_append, List.length_singleton]; omega
          · omega
        have h4 : Lib.lens (txtL k ns j (t :: ts)) = (txtK k ns j t).length + Lib.lens (txtL k ns (j + 1) ts) := by rw [txtL]; simp [Lib.lens, txtK]
        rw [h4, List.length_cons, Nat.mul_succ]
        omega
    have h1 := hL ks 0 htk
    have h2 : 5400101 * ks.length ≤ 5400101 * 1000 := Nat.mul_le_mul_left _ (by omega)
    omega
  have hword := c_refWord k
  have hleaf := c_refLeaf k
  have hjt : ∀ j, (Lib.join ((txtL k ns 0 ks).take j) [44]).length ≤ 5400102000 := by
    intro j
    have h1 := join_len ((txtL k ns 0 ks).take j)
    have h2 := Lib.lens_take_le (txtL k ns 0 ks) j
    have h3 : ((txtL k ns 0 ks).take j).length ≤ 1000 := by rw [List.length_take]; omega
    have hL : ∀ (ks : List Ty) (j : Nat), (∀ t ∈ ks, (txtF t).length ≤ 5400000) → Lib.lens (txtL k ns j ks) ≤ 5400101 * ks.length := by
      intro ks
      induction ks with
      | nil => intro j _; simp [txtL, Lib.lens]
      | cons t ts ih2 =>
        intro j ht
        have h1 := ht t (by simp)
        have h2 := ih2 (j + 1) fun t hm => ht t (by simp [hm])
        have h3 : (txtK k ns j t).length ≤ 101 + (txtF t).length := by
          unfold txtK
          split
          · rename_i hj
            have := n3 (ns.getD j []) (by rw [List.getD_eq_getElem?_getD, List.getElem?_eq_getElem hj.2]; exact List.getElem_mem hj.2)
            simp only [List.length_append, List.length_singleton]; omega
          · omega
        have h4 : Lib.lens (txtL k ns j (t :: ts)) = (txtK k ns j t).length + Lib.lens (txtL k ns (j + 1) ts) := by rw [txtL]; simp [Lib.lens, txtK]
        rw [h4, List.length_cons, Nat.mul_succ]
        omega
    have h5 := hL ks 0 htk
    have h6 : 5400101 * ks.length ≤ 5400101 * 1000 := Nat.mul_le_mul_left _ (by omega)
    omega
  rw [encT_eq, txtF]
  generalize hTL : txtL k ns 0 ks = TL at *
  refine acalls_enter rfl ingotref13_Text_ok (Nat.le_of_ble_eq_true rfl) ?_
  refine aw_region ?_
  refine st_box rfl (AVal.fit_iff.1 rfl) fun b1 hb1 => ?_
  (repeat (refine st_q rfl rfl rfl ?_))
  (refine st_nil ?_; (repeat (first | refine kp_cons rfl ?_ | refine kp_skip ?_)); refine kp_nil ?_)
  refine awp_freezeP (d := 1) (cs := [.int .i64 k, .slc 1 (ns.map .str) false, .slc 6 (encTs ks) false, .int .i64 l, .int .i64 p, .int .i64 s]) rfl ?_
  (repeat (first | refine st_q rfl rfl rfl ?_ | refine st_gy rfl (st_q rfl rfl rfl ?_) | refine st_gn rfl ?_ | refine st_gu rfl ?_ | (refine st_nil ?_; (repeat (first | refine kp_cons rfl ?_ | refine kp_skip ?_)); refine kp_nil ?_) | refine awp_seq ?_ | refine aw_end (fun _ _ => rfl) ?_ | refine awp_block ?_ | refine aw_skipE (fun _ _ => rfl) ?_ | refine aw_exitE (fun _ _ => rfl) ?_ | refine awp_cond (t := true) rfl (fun _ => ?_) (fun e => by cases e) | refine awp_cond (t := false) rfl (fun e => by cases e) (fun _ => ?_)))
  refine st_callv rfl (hword _) ?_
  (repeat (first | refine st_q rfl rfl rfl ?_ | refine st_gy rfl (st_q rfl rfl rfl ?_) | refine st_gn rfl ?_ | refine st_gu rfl ?_ | (refine st_nil ?_; (repeat (first | refine kp_cons rfl ?_ | refine kp_skip ?_)); refine kp_nil ?_) | refine awp_seq ?_ | refine aw_end (fun _ _ => rfl) ?_ | refine awp_block ?_ | refine aw_skipE (fun _ _ => rfl) ?_ | refine aw_exitE (fun _ _ => rfl) ?_ | refine awp_cond (t := true) rfl (fun _ => ?_) (fun e => by cases e) | refine awp_cond (t := false) rfl (fun e => by cases e) (fun _ => ?_)))
  by_cases k14 : k = 14
  · obtain ⟨a, b, c, d⟩ := n1 k14
    have hp := c_decimal p (by omega) (by omega)
    have hs := c_decimal s (by omega) (by omega)
    have lp := itoa_len (n := p) (by omega) (by omega)
    have ls := itoa_len (n := s) (by omega) (by omega)
    rw [if_pos k14]
    (rw [show decide (k = 14) = true from decide_eq_true (by omega)])
    (repeat (first | refine st_q rfl rfl rfl ?_ | refine st_gy rfl (st_q rfl rfl rfl ?_) | refine st_gn rfl ?_ | refine st_gu rfl ?_ | (refine st_nil ?_; (repeat (first | refine kp_cons rfl ?_ | refine kp_skip ?_)); refine kp_nil ?_) | refine awp_seq ?_ | refine aw_end (fun _ _ => rfl) ?_ | refine awp_block ?_ | refine aw_skipE (fun _ _ => rfl) ?_ | refine aw_exitE (fun _ _ => rfl) ?_ | refine awp_cond (t := true) rfl (fun _ => ?_) (fun e => by cases e) | refine awp_cond (t := false) rfl (fun e => by cases e) (fun _ => ?_)))
    refine st_cat rfl (by simp only [List.length_singleton]; unfold maxLen; omega) ?_
    (repeat (refine st_q rfl rfl rfl ?_))
    refine st_callp rfl hp ?_
    refine st_cat rfl (by simp only [List.length_append, List.length_singleton]; unfold maxLen; omega) ?_
    refine st_cat rfl (by simp only [List.length_append, List.length_singleton]; unfold maxLen; omega) ?_
    (repeat (refine st_q rfl rfl rfl ?_))
    refine st_callv rfl (hs _) ?_
    refine st_cat rfl (by simp only [List.length_append, List.length_singleton]; unfold maxLen; omega) ?_
    refine st_cat rfl (by simp only [List.length_append, List.length_singleton]; unfold maxLen; omega) ?_
    (repeat (first | refine st_q rfl rfl rfl ?_ | refine st_gy rfl (st_q rfl rfl rfl ?_) | refine st_gn rfl ?_ | refine st_gu rfl ?_ | (refine st_nil ?_; (repeat (first | refine kp_cons rfl ?_ | refine kp_skip ?_)); refine kp_nil ?_) | refine awp_seq ?_ | refine aw_end (fun _ _ => rfl) ?_ | refine awp_block ?_ | refine aw_skipE (fun _ _ => rfl) ?_ | refine aw_exitE (fun _ _ => rfl) ?_ | refine awp_cond (t := true) rfl (fun _ => ?_) (fun e => by cases e) | refine awp_cond (t := false) rfl (fun e => by cases e) (fun _ => ?_)))
    refine awp_ret ?_
    exact ares rfl (HSub.refl _) ⟨rfl, rfl⟩
  rw [if_neg k14]
  (rw [show decide (k = 14) = false from decide_eq_false (by omega)])
  (repeat (first | refine st_q rfl rfl rfl ?_ | refine st_gy rfl (st_q rfl rfl rfl ?_) | refine st_gn rfl ?_ | refine st_gu rfl ?_ | (refine st_nil ?_; (repeat (first | refine kp_cons rfl ?_ | refine kp_skip ?_)); refine kp_nil ?_) | refine awp_seq ?_ | refine aw_end (fun _ _ => rfl) ?_ | refine awp_block ?_ | refine aw_skipE (fun _ _ => rfl) ?_ | refine aw_exitE (fun _ _ => rfl) ?_ | refine awp_cond (t := true) rfl (fun _ => ?_) (fun e => by cases e) | refine awp_cond (t := false) rfl (fun e => by cases e) (fun _ => ?_)))
  by_cases k16 : k = 16 ∨ k = 17
  · obtain ⟨a, b⟩ := n2 k16
    have hl := c_decimal l (by omega) (by omega)
    have ll := itoa_len (n := l) (by omega) (by omega)
    rw [if_pos k16]
    by_cases e16 : k = 16
    · (rw [show decide (k = 16) = true from decide_eq_true (by omega)])
      (repeat (first | refine st_q rfl rfl rfl ?_ | refine st_gy rfl (st_q rfl rfl rfl ?_) | refine st_gn rfl ?_ | refine st_gu rfl ?_ | (refine st_nil ?_; (repeat (first | refine kp_cons rfl ?_ | refine kp_skip ?_)); refine kp_nil ?_) | refine awp_seq ?_ | refine aw_end (fun _ _ => rfl) ?_ | refine awp_block ?_ | refine aw_skipE (fun _ _ => rfl) ?_ | refine aw_exitE (fun _ _ => rfl) ?_ | refine awp_cond (t := true) rfl (fun _ => ?_) (fun e => by cases e) | refine awp_cond (t := false) rfl (fun e => by cases e) (fun _ => ?_)))
      refine st_cat rfl (by simp only [List.length_singleton]; unfold maxLen; omega) ?_
      (repeat (refine st_q rfl rfl rfl ?_))
      refine st_callv rfl (hl _) ?_
      refine st_cat rfl (by simp only [List.length_append, List.length_singleton]; unfold maxLen; omega) ?_
      refine st_cat rfl (by simp only [List.length_append, List.length_singleton]; unfold maxLen; omega) ?_
      (repeat (first | refine st_q rfl rfl rfl ?_ | refine st_gy rfl (st_q rfl rfl rfl ?_) | refine st_gn rfl ?_ | refine st_gu rfl ?_ | (refine st_nil ?_; (repeat (first | refine kp_cons rfl ?_ | refine kp_skip ?_)); refine kp_nil ?_) | refine awp_seq ?_ | refine aw_end (fun _ _ => rfl) ?_ | refine awp_block ?_ | refine aw_skipE (fun _ _ => rfl) ?_ | refine aw_exitE (fun _ _ => rfl) ?_ | refine awp_cond (t := true) rfl (fun _ => ?_) (fun e => by cases e) | refine awp_cond (t := false) rfl (fun e => by cases e) (fun _ => ?_)))
      refine awp_ret ?_
      exact ares rfl (HSub.refl _) ⟨rfl, rfl⟩
    · (rw [show decide (k = 16) = false from decide_eq_false (by omega)])
      (repeat (first | refine st_q rfl rfl rfl ?_ | refine st_gy rfl (st_q rfl rfl rfl ?_) | refine st_gn rfl ?_ | refine st_gu rfl ?_ | (refine st_nil ?_; (repeat (first | refine kp_cons rfl ?_ | refine kp_skip ?_)); refine kp_nil ?_) | refine awp_seq ?_ | refine aw_end (fun _ _ => rfl) ?_ | refine awp_block ?_ | refine aw_skipE (fun _ _ => rfl) ?_ | refine aw_exitE (fun _ _ => rfl) ?_ | refine awp_cond (t := true) rfl (fun _ => ?_) (fun e => by cases e) | refine awp_cond (t := false) rfl (fun e => by cases e) (fun _ => ?_)))
      (rw [show decide (k = 17) = true from decide_eq_true (by omega)])
      (repeat (first | refine st_q rfl rfl rfl ?_ | refine st_gy rfl (st_q rfl rfl rfl ?_) | refine st_gn rfl ?_ | refine st_gu rfl ?_ | (refine st_nil ?_; (repeat (first | refine kp_cons rfl ?_ | refine kp_skip ?_)); refine kp_nil ?_) | refine awp_seq ?_ | refine aw_end (fun _ _ => rfl) ?_ | refine awp_block ?_ | refine aw_skipE (fun _ _ => rfl) ?_ | refine aw_exitE (fun _ _ => rfl) ?_ | refine awp_cond (t := true) rfl (fun _ => ?_) (fun e => by cases e) | refine awp_cond (t := false) rfl (fun e => by cases e) (fun _ => ?_)))
      refine st_cat rfl (by simp only [List.length_singleton]; unfold maxLen; omega) ?_
      (repeat (refine st_q rfl rfl rfl ?_))
      refine st_callv rfl (hl _) ?_
      refine st_cat rfl (by simp only [List.length_append, List.length_singleton]; unfold maxLen; omega) ?_
      refine st_cat rfl (by simp only [List.length_append, List.length_singleton]; unfold maxLen; omega) ?_
      (repeat (first | refine st_q rfl rfl rfl ?_ | refine st_gy rfl (st_q rfl rfl rfl ?_) | refine st_gn rfl ?_ | refine st_gu rfl ?_ | (refine st_nil ?_; (repeat (first | refine kp_cons rfl ?_ | refine kp_skip ?_)); refine kp_nil ?_) | refine awp_seq ?_ | refine aw_end (fun _ _ => rfl) ?_ | refine awp_block ?_ | refine aw_skipE (fun _ _ => rfl) ?_ | refine aw_exitE (fun _ _ => rfl) ?_ | refine awp_cond (t := true) rfl (fun _ => ?_) (fun e => by cases e) | refine awp_cond (t := false) rfl (fun e => by cases e) (fun _ => ?_)))
      refine awp_ret ?_
      exact ares rfl (HSub.refl _) ⟨rfl, rfl⟩
  rw [if_neg k16]
  (rw [show decide (k = 16) = false from decide_eq_false (by omega)])
  (repeat (first | refine st_q rfl rfl rfl ?_ | refine st_gy rfl (st_q rfl rfl rfl ?_) | refine st_gn rfl ?_ | refine st_gu rfl ?_ | (refine st_nil ?_; (repeat (first | refine kp_cons rfl ?_ | refine kp_skip ?_)); refine kp_nil ?_) | refine awp_seq ?_ | refine aw_end (fun _ _ => rfl) ?_ | refine awp_block ?_ | refine aw_skipE (fun _ _ => rfl) ?_ | refine aw_exitE (fun _ _ => rfl) ?_ | refine awp_cond (t := true) rfl (fun _ => ?_) (fun e => by cases e) | refine awp_cond (t := false) rfl (fun e => by cases e) (fun _ => ?_)))
  (rw [show decide (k = 17) = false from decide_eq_false (by omega)])
  (repeat (first | refine st_q rfl rfl rfl ?_ | refine st_gy rfl (st_q rfl rfl rfl ?_) | refine st_gn rfl ?_ | refine st_gu rfl ?_ | (refine st_nil ?_; (repeat (first | refine kp_cons rfl ?_ | refine kp_skip ?_)); refine kp_nil ?_) | refine awp_seq ?_ | refine aw_end (fun _ _ => rfl) ?_ | refine awp_block ?_ | refine aw_skipE (fun _ _ => rfl) ?_ | refine aw_exitE (fun _ _ => rfl) ?_ | refine awp_cond (t := true) rfl (fun _ => ?_) (fun e => by cases e) | refine awp_cond (t := false) rfl (fun e => by cases e) (fun _ => ?_)))
  refine st_callv rfl (hleaf _) ?_
  cases hlf : leafF k with
  | true =>
    rw [if_pos rfl]
    (repeat (first | refine st_q rfl rfl rfl ?_ | refine st_gy rfl (st_q rfl rfl rfl ?_) | refine st_gn rfl ?_ | refine st_gu rfl ?_ | (refine st_nil ?_; (repeat (first | refine kp_cons rfl ?_ | refine kp_skip ?_)); refine kp_nil ?_) | refine awp_seq ?_ | refine aw_end (fun _ _ => rfl) ?_ | refine awp_block ?_ | refine aw_skipE (fun _ _ => rfl) ?_ | refine aw_exitE (fun _ _ => rfl) ?_ | refine awp_cond (t := true) rfl (fun _ => ?_) (fun e => by cases e) | refine awp_cond (t := false) rfl (fun e => by cases e) (fun _ => ?_)))
    refine awp_ret ?_
    exact ares rfl (HSub.refl _) ⟨rfl, rfl⟩
  | false =>
  rw [if_neg (by simp)]
  (repeat (first | refine st_q rfl rfl rfl ?_ | refine st_gy rfl (st_q rfl rfl rfl ?_) | refine st_gn rfl ?_ | refine st_gu rfl ?_ | (refine st_nil ?_; (repeat (first | refine kp_cons rfl ?_ | refine kp_skip ?_)); refine kp_nil ?_) | refine awp_seq ?_ | refine aw_end (fun _ _ => rfl) ?_ | refine awp_block ?_ | refine aw_skipE (fun _ _ => rfl) ?_ | refine aw_exitE (fun _ _ => rfl) ?_ | refine awp_cond (t := true) rfl (fun _ => ?_) (fun e => by cases e) | refine awp_cond (t := false) rfl (fun e => by cases e) (fun _ => ?_)))
  refine st_cat rfl (by simp only [List.length_singleton]; unfold maxLen; omega) ?_
  (repeat (first | refine st_q rfl rfl rfl ?_ | refine st_gy rfl (st_q rfl rfl rfl ?_) | refine st_gn rfl ?_ | refine st_gu rfl ?_ | (refine st_nil ?_; (repeat (first | refine kp_cons rfl ?_ | refine kp_skip ?_)); refine kp_nil ?_) | refine awp_seq ?_ | refine aw_end (fun _ _ => rfl) ?_ | refine awp_block ?_ | refine aw_skipE (fun _ _ => rfl) ?_ | refine aw_exitE (fun _ _ => rfl) ?_ | refine awp_cond (t := true) rfl (fun _ => ?_) (fun e => by cases e) | refine awp_cond (t := false) rfl (fun e => by cases e) (fun _ => ?_)))
  refine awp_loopN (fun m F σ' => ∃ (j : Nat), F = fset 1 (some (.iptr [.int .i64 k, .slc 1 (ns.map .str) false, .slc 6 (encTs ks) false, .int .i64 l, .int .i64 p, .int .i64 s])) (fset 3 (some (.str (wordF k ++ [60] ++ Lib.join (TL.take j) [44]))) (fset 4 (some (.int .i64 (j : Nat))) fnone)) ∧
    σ = σ' ∧ j ≤ ks.length ∧ m = ks.length - j) (n := ks.length) ⟨0, by rw [List.take_zero, Lib.join_nil, List.append_nil]; rfl, rfl, by omega, rfl⟩ ?_
  rintro m F σ' ⟨j, rfl, rfl, hj, rfl⟩
  (repeat (first | refine st_q rfl rfl rfl ?_ | refine st_gy rfl (st_q rfl rfl rfl ?_) | refine st_gn rfl ?_ | refine st_gu rfl ?_ | (refine st_nil ?_; (repeat (first | refine kp_cons rfl ?_ | refine kp_skip ?_)); refine kp_nil ?_) | refine awp_seq ?_ | refine aw_end (fun _ _ => rfl) ?_ | refine awp_block ?_ | refine aw_skipE (fun _ _ => rfl) ?_ | refine aw_exitE (fun _ _ => rfl) ?_ | refine awp_cond (t := true) rfl (fun _ => ?_) (fun e => by cases e) | refine awp_cond (t := false) rfl (fun e => by cases e) (fun _ => ?_)))
  rw [encTs_length]
  refine awp_condp (p := (j : Int) < (ks.length : Nat)) rfl (fun h5 => ?_) (fun h5 => ?_)
  · have hjl : j < ks.length := by omega
    have h1 : (encTs ks)[((j : Nat) : Int).toNat]? = some (.agg (cellsT ks[j])) := by rw [← encT_eq]; exact encTs_get (by rw [Int.toNat_natCast, List.getElem?_eq_getElem hjl])
    have hle := cntL_le ks j _ (List.getElem?_eq_getElem hjl)
    have hum := List.getElem_mem hjl
    have hq := ih ks[j] hum (hkids _ hum) (by omega)
    have hgt := hget j _ (List.getElem?_eq_getElem hjl)
    have hul := htk _ hum
    rw [encT_eq] at hq
    rw [Nat.zero_add] at hgt
    have hjs := join_take_succ TL j _ hgt
    have hjj := hjt j
    generalize ks[j] = u at h1 hle hq hgt hul hjs
    -- a kid's text
    have put : ∀ (x y : List UInt8), x ++ y = wordF k ++ [60] ++ ((if j = 0 then [] else Lib.join (TL.take j) [44] ++ [44])) → x.length ≤ 6000000000 → ∀ z : List UInt8, txtK k ns j u = z ++ txtF u → z.length ≤ 101 → y = [] → ∀ Q : APost, AWp Tryd.prog ingotref13_Text.n (.region ingotref13_Text_r17 [1, 3, 4]) (AInBlock 2 (AThen Tryd.prog ingotref13_Text.n (.region ingotref13_Text_r18 [1, 3, 4]) (ALess (fun m F σ' => ∃ (j : Nat), F = fset 1 (some (.iptr [.int .i64 k, .slc 1 (ns.map .str) false, .slc 6 (encTs ks) false, .int .i64 l, .int .i64 p, .int .i64 s])) (fset 3 (some (.str (wordF k ++ [60] ++ Lib.join (TL.take j) [44]))) (fset 4 (some (.int .i64 (j : Nat))) fnone)) ∧
          σ = σ' ∧ j ≤ ks.length ∧ m = ks.length - j) (ks.length - j) Q)))
        (fset 1 (some (.iptr [.int .i64 k, .slc 1 (ns.map .str) false, .slc 6 (encTs ks) false, .int .i64 l, .int .i64 p, .int .i64 s])) (fset 3 (some (.str (x ++ z))) (fset 4 (some (.int .i64 (j : Nat))) fnone))) σ := by
      intro x y hxy hxl z hz hzl hy Q
      subst hy
      rw [List.append_nil] at hxy
      have hfin : x ++ z ++ txtF u = wordF k ++ [60] ++ Lib.join (TL.take (j + 1)) [44] := by
        rw [hjs, hz, hxy]
        simp [List.append_assoc]
      refine aw_end (fun _ _ => rfl) ?_
      (repeat (refine st_q rfl rfl rfl ?_))
      refine st_iad rfl (by omega) h1 ?_
      (repeat (refine st_q rfl rfl rfl ?_))
      refine st_callv rfl (hq _) ?_
      refine st_cat rfl (by simp only [List.length_append]; unfold maxLen; omega) ?_
      rw [hfin]
      (repeat (refine st_q rfl rfl rfl ?_))
      (refine st_nil ?_; (repeat (first | refine kp_cons rfl ?_ | refine kp_skip ?_)); refine kp_nil ?_)
      refine aw_round ?_
      (repeat (refine st_q rfl rfl rfl ?_))
      rw [show IntKind.wrap .i64 ((j : Int) + 1) = ((j + 1 : Nat) : Int) by rw [w64 _ (by omega) (by omega)]; omega]
      (refine st_nil ?_; (repeat (first | refine kp_cons rfl ?_ | refine kp_skip ?_)); refine kp_nil ?_)
      exact ⟨_, ks.length - (j + 1), HSub.refl _, ⟨j + 1, rfl, rfl, by omega, rfl⟩, by omega⟩
    -- the name ahead of it
    have name : ∀ (x : List UInt8), x = wordF k ++ [60] ++ ((if j = 0 then [] else Lib.join (TL.take j) [44] ++ [44])) → x.length ≤ 6000000000 → ∀ Q : APost, AWp Tryd.prog ingotref13_Text.n (.seq (.seq (.region ingotref13_Text_r15 [1, 3, 4, 60]) (.cond (.t 60) (.region ingotref13_Text_r16 [1, 3, 4]) .skip)) (.region ingotref13_Text_r17 [1, 3, 4])) (AInBlock 2 (AThen Tryd.prog ingotref13_Text.n (.region ingotref13_Text_r18 [1, 3, 4]) (ALess (fun m F σ' => ∃ (j : Nat), F = fset 1 (some (.iptr [.int .i64 k, .slc 1 (ns.map .str) false, .slc 6 (encTs ks) false, .int .i64 l, .int .i64 p, .int .i64 s])) (fset 3 (some (.str (wordF k ++ [60] ++ Lib.join (TL.take j) [44]))) (fset 4 (some (.int .i64 (j : Nat))) fnone)) ∧
          σ = σ' ∧ j ≤ ks.length ∧ m = ks.length - j) (ks.length - j) Q)))
        (fset 1 (some (.iptr [.int .i64 k, .slc 1 (ns.map .str) false, .slc 6 (encTs ks) false, .int .i64 l, .int .i64 p, .int .i64 s])) (fset 3 (some (.str x)) (fset 4 (some (.int .i64 (j : Nat))) fnone))) σ := by
      intro x hx hxl Q
      refine awp_seq ?_
      refine awp_seq ?_
      refine aw_end (fun _ _ => rfl) ?_
      (repeat (refine st_q rfl rfl rfl ?_))
      by_cases k12 : k = 12
      · (rw [show decide (k = 12) = true from decide_eq_true (by omega)])
        (repeat (first | refine st_q rfl rfl rfl ?_ | refine st_gy rfl (st_q rfl rfl rfl ?_) | refine st_gn rfl ?_ | refine st_gu rfl ?_))
        rw [hnm]
        by_cases hjn : j < ns.length
        · have hnx := map_get (f := AVal.str) hjn
          have hnl := n3 _ (List.getElem_mem hjn)
          have hK : txtK k ns j u = ns[j] ++ [58] ++ txtF u := by rw [txtK, if_pos ⟨k12, hjn⟩, List.getD_eq_getElem?_getD, List.getElem?_eq_getElem hjn]; rfl
          generalize ns[j] = nm at hnx hnl hK
          (rw [show decide ((j : Int) < (ns.length : Int)) = true from decide_eq_true (by omega)])
          (repeat (first | refine st_q rfl rfl rfl ?_ | refine st_gy rfl (st_q rfl rfl rfl ?_) | refine st_gn rfl ?_ | refine st_gu rfl ?_))
          (refine st_nil ?_; (repeat (first | refine kp_cons rfl ?_ | refine kp_skip ?_)); refine kp_nil ?_)
          refine awp_cond (t := true) rfl (fun _ => ?_) (fun e => by cases e)
          refine aw_end (fun _ _ => rfl) ?_
          (repeat (refine st_q rfl rfl rfl ?_))
          refine st_iad rfl (by omega) hnx ?_
          (repeat (refine st_q rfl rfl rfl ?_))
          refine st_cat rfl (by unfold maxLen; omega) ?_
          refine st_cat rfl (by simp only [List.length_append, List.length_singleton]; unfold maxLen; omega) ?_
          rw [show x ++ nm ++ [58] = x ++ (nm ++ [58]) from List.append_assoc ..]
          (repeat (refine st_q rfl rfl rfl ?_))
          (refine st_nil ?_; (repeat (first | refine kp_cons rfl ?_ | refine kp_skip ?_)); refine kp_nil ?_)
          exact put x [] (by rw [List.append_nil]; exact hx) hxl (nm ++ [58]) hK (by simp only [List.length_append, List.length_singleton]; omega) rfl _
        · have hK : txtK k ns j u = [] ++ txtF u := by rw [txtK, if_neg (fun h => hjn h.2)]; rfl
          (rw [show decide ((j : Int) < (ns.length : Int)) = false from decide_eq_false (by omega)])
          (repeat (first | refine st_q rfl rfl rfl ?_ | refine st_gy rfl (st_q rfl rfl rfl ?_) | refine st_gn rfl ?_ | refine st_gu rfl ?_))
          (refine st_nil ?_; (repeat (first | refine kp_cons rfl ?_ | refine kp_skip ?_)); refine kp_nil ?_)
          refine awp_cond (t := false) rfl (fun e => by cases e) (fun _ => ?_)
          refine aw_skipE (fun _ _ => rfl) ?_
          (refine kp_weaken (keep := [1, 3, 4]) ?_; ((repeat (first | refine kp_cons rfl ?_ | refine kp_skip ?_)); refine kp_nil ?_))
          have := put x [] (by rw [List.append_nil]; exact hx) hxl [] hK (by simp) rfl
          rw [List.append_nil] at this
          exact this _
      · have hK : txtK k ns j u = [] ++ txtF u := by rw [txtK, if_neg (fun h => k12 h.1)]; rfl
        (rw [show decide (k = 12) = false from decide_eq_false (by omega)])
        (repeat (first | refine st_q rfl rfl rfl ?_ | refine st_gy rfl (st_q rfl rfl rfl ?_) | refine st_gn rfl ?_ | refine st_gu rfl ?_))
        (refine st_nil ?_; (repeat (first | refine kp_cons rfl ?_ | refine kp_skip ?_)); refine kp_nil ?_)
        refine awp_cond (t := false) rfl (fun e => by cases e) (fun _ => ?_)
        refine aw_skipE (fun _ _ => rfl) ?_
        (refine kp_weaken (keep := [1, 3, 4]) ?_; ((repeat (first | refine kp_cons rfl ?_ | refine kp_skip ?_)); refine kp_nil ?_))
        have := put x [] (by rw [List.append_nil]; exact hx) hxl [] hK (by simp) rfl
        rw [List.append_nil] at this
        exact this _
    refine aw_skipE (fun _ _ => rfl) ?_
    refine awp_seq ?_
    refine awp_block ?_
    refine awp_seq ?_
    refine awp_seq ?_
    refine aw_end (fun _ _ => rfl) ?_
    (repeat (refine st_q rfl rfl rfl ?_))
    by_cases hj0 : j = 0
    · (rw [show decide ((j : Int) > 0) = false from decide_eq_false (by omega)])
      (refine st_nil ?_; (repeat (first | refine kp_cons rfl ?_ | refine kp_skip ?_)); refine kp_nil ?_)
      refine awp_cond (t := false) rfl (fun e => by cases e) (fun _ => ?_)
      refine aw_skipE (fun _ _ => rfl) ?_
      (refine kp_weaken (keep := [1, 3, 4]) ?_; ((repeat (first | refine kp_cons rfl ?_ | refine kp_skip ?_)); refine kp_nil ?_))
      refine name _ ?_ (by simp only [List.length_append, List.length_singleton]; omega) _
      rw [if_pos hj0, hj0, List.take_zero, Lib.join_nil]
    · (rw [show decide ((j : Int) > 0) = true from decide_eq_true (by omega)])
      (refine st_nil ?_; (repeat (first | refine kp_cons rfl ?_ | refine kp_skip ?_)); refine kp_nil ?_)
      refine awp_cond (t := true) rfl (fun _ => ?_) (fun e => by cases e)
      refine aw_end (fun _ _ => rfl) ?_
      (repeat (refine st_q rfl rfl rfl ?_))
      refine st_cat rfl (by simp only [List.length_append, List.length_singleton]; unfold maxLen; omega) ?_
      (repeat (refine st_q rfl rfl rfl ?_))
      (refine st_nil ?_; (repeat (first | refine kp_cons rfl ?_ | refine kp_skip ?_)); refine kp_nil ?_)
      refine name _ ?_ (by simp only [List.length_append, List.length_singleton]; omega) _
      rw [if_neg hj0, List.append_assoc]
  · have hJ : j = ks.length := by omega
    have hjj := hjt j
    rw [List.take_of_length_le (by omega)] at hjj ⊢
    (repeat (first | refine st_q rfl rfl rfl ?_ | refine st_gy rfl (st_q rfl rfl rfl ?_) | refine st_gn rfl ?_ | refine st_gu rfl ?_ | (refine st_nil ?_; (repeat (first | refine kp_cons rfl ?_ | refine kp_skip ?_)); refine kp_nil ?_) | refine awp_seq ?_ | refine aw_end (fun _ _ => rfl) ?_ | refine awp_block ?_ | refine aw_skipE (fun _ _ => rfl) ?_ | refine aw_exitE (fun _ _ => rfl) ?_ | refine awp_cond (t := true) rfl (fun _ => ?_) (fun e => by cases e) | refine awp_cond (t := false) rfl (fun e => by cases e) (fun _ => ?_)))
    refine st_cat rfl (by simp only [List.length_append, List.length_singleton]; unfold maxLen; omega) ?_
    (repeat (first | refine st_q rfl rfl rfl ?_ | refine st_gy rfl (st_q rfl rfl rfl ?_) | refine st_gn rfl ?_ | refine st_gu rfl ?_ | (refine st_nil ?_; (repeat (first | refine kp_cons rfl ?_ | refine kp_skip ?_)); refine kp_nil ?_) | refine awp_seq ?_ | refine aw_end (fun _ _ => rfl) ?_ | refine awp_block ?_ | refine aw_skipE (fun _ _ => rfl) ?_ | refine aw_exitE (fun _ _ => rfl) ?_ | refine awp_cond (t := true) rfl (fun _ => ?_) (fun e => by cases e) | refine awp_cond (t := false) rfl (fun e => by cases e) (fun _ => ?_)))
    refine awp_ret ?_
    exact ares rfl (HSub.refl _) ⟨rfl, rfl⟩
end Go.Abs
