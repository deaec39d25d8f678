/- A tree that may be is small; its columns, kid by kid: no program in sight. -/
import Derived.Test.YtgmefkhincnajaaDoorT4
import Derived.Test.YtgmefkhincnajaaDoorSl
namespace Go.Abs
open Go Go.Proofs
set_option linter.unusedVariables false
set_option linter.unusedSimpArgs false
set_option maxHeartbeats 4000000
attribute [local irreducible] AWp aops KP

/-- Trees of few names and kids. -/
inductive Ty.Small : Ty → Prop
  | mk {t : Ty} (h1 : t.kids.length ≤ 300) (h2 : t.names.length ≤ 300) (h4 : ∀ s ∈ t.names, s.length ≤ 100) (h : ∀ k ∈ t.kids, Ty.Small k) : Ty.Small t

theorem Ty.Small.fit : ∀ t : Ty, t.Small → t.Fit := by
  refine Ty.ind fun k ns ks l p s ih h => ?_
  cases h with
  | mk h1 h2 h4 h3 => exact .mk (by omega) (by omega) (fun s hs => Nat.le_trans (h4 s hs) (by unfold maxLen; omega)) fun t ht => ih t ht (h3 t ht)

theorem cntL_length : ∀ ks : List Ty, ks.length ≤ cntL ks
  | [] => by simp [cntL]
  | .mk k ns ks l p s :: ts => by have := cntL_length ts; simp only [List.length_cons, cntL, cnt]; omega

/-- A tree that may be is small. -/
theorem chk_ok : ∀ (t : Ty) (deep n : Nat), (chk deep n t).2 = 0 → (chk deep n t).1 = n + cnt t ∧ t.Small ∧ n + cnt t ≤ 100 := by
  refine Ty.ind fun k ns ks l p s ih deep n h => ?_
  have hL : ∀ (ks : List Ty), (∀ t ∈ ks, ∀ (deep n : Nat), (chk deep n t).2 = 0 → (chk deep n t).1 = n + cnt t ∧ t.Small ∧ n + cnt t ≤ 100) → ∀ deep n, n ≤ 100 → (chkL deep n ks).2 = 0 → (chkL deep n ks).1 = n + cntL ks ∧ (∀ t ∈ ks, t.Small) ∧ n + cntL ks ≤ 100 := by
    intro ks
    induction ks with
    | nil => intro _ deep n hn h; simp [chkL, cntL]; exact hn
    | cons t ts ih2 =>
      intro ht deep n hn h
      rw [chkL] at h ⊢
      split at h
      · rename_i hne; exact absurd h hne
      · rename_i hne
        rw [if_neg hne]
        have h1 := ht t (by simp) deep n (by simpa using hne)
        have h2 := ih2 (fun t ht' => ht t (by simp [ht'])) deep (chk deep n t).1 (by omega) h
        refine ⟨by rw [h2.1, h1.1, cntL]; omega, fun u hu => ?_, by rw [cntL]; have := h2.2.2; omega⟩
        rcases List.mem_cons.1 hu with rfl | hu
        · exact h1.2.1
        · exact h2.2.1 u hu
  rw [chk] at h ⊢
  split at h
  · simp at h
  · rename_i hc
    rw [if_neg hc]
    split at h
    · rename_i ho; exact absurd h ho
    · rename_i ho
      rw [if_neg ho]
      have h1 := hL ks ih (deep + 1) (n + 1) (by omega) h
      have hlen := cntL_length ks
      refine ⟨by rw [h1.1, cnt]; omega, .mk ?_ ?_ ?_ ?_, by rw [cnt]; have := h1.2.2; omega⟩
      · show ks.length ≤ 300
        have := h1.2.2; omega
      · show ns.length ≤ 300
        simp only [ne_eq, Decidable.not_not, ownF] at ho
        split at ho
        · cases ho
        · split at ho
          · cases ho
          · rename_i hr
            simp only [not_or, Bool.not_eq_false] at hr
            have hr' := hr.2.2
            simp only [rightF, Bool.and_eq_true, Bool.or_eq_true, decide_eq_true_eq, List.isEmpty_iff] at hr'
            obtain ⟨⟨⟨⟨q1, q2⟩, _⟩, _⟩, _⟩ := hr'
            rcases q2 with q2 | q2
            · subst q2
              simp [kidsOk] at q1
              have := h1.2.2; omega
            · rw [q2]; simp
      · show ∀ s ∈ ns, s.length ≤ 100
        simp only [ne_eq, Decidable.not_not, ownF] at ho
        split at ho
        · cases ho
        · split at ho
          · cases ho
          · rename_i hr
            simp only [not_or, Bool.not_eq_false] at hr
            have hr' := hr.2.2
            simp only [rightF, Bool.and_eq_true, namesOk, List.all_eq_true, decide_eq_true_eq] at hr'
            exact fun s hs => (hr'.1.1.2.1 s hs).2
      · exact h1.2.1

theorem kidIdx_take : ∀ (ks : List Ty) (a i : Nat) (t : Ty), ks[i]? = some t → kidIdx a (ks.take (i + 1)) = kidIdx a (ks.take i) ++ [a + cntL (ks.take i)]
  | [], a, i, t, h => by simp at h
  | u :: ks, a, 0, t, h => by simp [kidIdx, cntL]
  | u :: ks, a, i + 1, t, h => by
    simp only [List.take_succ_cons, kidIdx, cntL, List.cons_append]
    rw [kidIdx_take ks (a + cnt u) i t (by simpa using h), Nat.add_assoc]
theorem flatL_take : ∀ (ks : List Ty) (a i : Nat) (parent : Int) (deep : Nat) (t : Ty), ks[i]? = some t → flatL a parent deep (ks.take (i + 1)) = flatL a parent deep (ks.take i) ++ flatT (a + cntL (ks.take i)) parent deep t
  | [], a, i, _, _, t, h => by simp at h
  | u :: ks, a, 0, _, _, t, h => by simp at h; subst h; simp [flatL, cntL]
  | u :: ks, a, i + 1, parent, deep, t, h => by
    simp only [List.take_succ_cons, flatL, cntL, List.append_assoc]
    rw [flatL_take ks (a + cnt u) i parent deep t (by simpa using h), Nat.add_assoc]
theorem flatL_len : ∀ (ks : List Ty) (a : Nat) (parent : Int) (deep : Nat), (flatL a parent deep ks).length = cntL ks
  | [], _, _, _ => rfl
  | t :: ts, a, parent, deep => by rw [flatL, List.length_append, flat_len, flatL_len ts, cntL]
theorem cntL_take : ∀ (ks : List Ty) (i : Nat) (t : Ty), ks[i]? = some t → cntL (ks.take (i + 1)) = cntL (ks.take i) + cnt t ∧ cntL (ks.take i) + cnt t ≤ cntL ks
  | [], i, t, h => by simp at h
  | u :: ks, 0, t, h => by simp at h; subst h; simp [cntL]
  | u :: ks, i + 1, t, h => by
    have := cntL_take ks i t (by simpa using h)
    simp only [List.take_succ_cons, cntL]
    omega

theorem strs_elem (ns : List (List UInt8)) : ∀ x ∈ ns.map AVal.str, x.elem 1 := fun x hx => by
  obtain ⟨s, _, rfl⟩ := List.mem_map.1 hx
  exact ⟨rfl, fun c hc => by rw [List.mem_singleton.1 hc]; rfl⟩

end Go.Abs
