/-
  A cut block is too short, or a front: no program in sight.
-/
import Derived.Test.YtjlidaopbpefpaaLzQ
set_option linter.unusedVariables false
set_option linter.unusedSimpArgs false
namespace Go.Abs.Lz

/-- What a length reads of a front. -/
theorem lenL_cut : ∀ {l : List UInt8} {n m : Nat} {r : List UInt8} (k : Nat), lenL l n = some (m, r) → lenL (l.take k) n = none ∨ ∃ j, lenL (l.take k) n = some (m, r.take j) ∧ k = (l.length - r.length) + j
  | [], _, _, _, _, h => by simp [lenL] at h
  | c :: l, n, m, r, 0, h => .inl (by simp [lenL])
  | c :: l, n, m, r, k + 1, h => by
    unfold lenL at h
    rw [List.take_succ_cons]
    split at h
    · rename_i h1
      simp only [Option.some.injEq, Prod.mk.injEq] at h
      obtain ⟨rfl, rfl⟩ := h
      exact .inr ⟨k, by rw [lenL, if_pos h1], by simp; omega⟩
    · rename_i h1
      have hs := lenL_short h
      rcases lenL_cut k h with h2 | ⟨j, h2, h3⟩
      · exact .inl (by rw [lenL, if_neg h1, h2])
      · exact .inr ⟨j, by rw [lenL, if_neg h1, h2], by simp only [List.length_cons]; omega⟩
theorem lenN_cut {l : List UInt8} {n m : Nat} {r : List UInt8} (k : Nat) (h : lenN l n = some (m, r)) : lenN (l.take k) n = none ∨ ∃ j, lenN (l.take k) n = some (m, r.take j) := by
  unfold lenN at h ⊢
  split at h
  · rename_i h1
    simp only [Option.some.injEq, Prod.mk.injEq] at h
    obtain ⟨rfl, rfl⟩ := h
    exact .inr ⟨k, by rw [if_pos h1]⟩
  · rename_i h1
    rw [if_neg h1]
    rcases lenL_cut k h with h2 | ⟨j, h2, _⟩
    · exact .inl h2
    · exact .inr ⟨j, h2⟩

theorem seqF_err_ne {most e : Nat} {l out : List UInt8} (h : seqF most l out = .err e) : e ≠ 0 := by
  unfold seqF at h
  split at h
  · cases h; decide
  · split at h
    · cases h; decide
    · split at h
      · cases h; decide
      · split at h
        · cases h; decide
        · split at h
          · cases h
          · cases h; decide
          · split at h
            · cases h; decide
            · split at h
              · cases h; decide
              · split at h <;> cases h
                decide

/-- What a front of a good block says: too short, or a front of what the block says. -/
def Front (full : List UInt8) (y : Nat × List UInt8) : Prop := y = (3, []) ∨ (y.1 = 0 ∧ ∃ k, y.2 = full.take k)

theorem copyB_front (back : Nat) : ∀ (k : Nat) (out : List UInt8), ∃ s, copyB back k out = out ++ s
  | 0, out => ⟨[], by simp [copyB]⟩
  | k + 1, out => by
    obtain ⟨s, h⟩ := copyB_front back k (out ++ [out.getD (out.length - back) 0])
    exact ⟨[out.getD (out.length - back) 0] ++ s, by rw [copyB, h, List.append_assoc]⟩

theorem seqF_cut_last {most : Nat} {l out o : List UInt8} (h : seqF most l out = .last o) : (∃ s, o = out ++ s) ∧ ∀ k, seqF most (l.take k) out = .err 3 ∨ seqF most (l.take k) out = .last o := by
  unfold seqF at h
  split at h
  · cases h
  · rename_i t l1
    split at h
    · cases h
    · rename_i n l2 e2
      split at h
      · cases h
      · rename_i hm
        split at h
        · cases h
        · rename_i hn
          split at h
          · rename_i e4
            cases h
            refine ⟨⟨_, rfl⟩, fun k => ?_⟩
            cases k with
            | zero => exact .inl rfl
            | succ k =>
              rw [List.take_succ_cons]
              unfold seqF
              simp only
              rcases lenN_cut k e2 with h2 | ⟨j, h2⟩
              · rw [h2]; exact .inl rfl
              · rw [h2]
                simp only
                rw [if_neg hm]
                have hl2 : l2.length ≤ n := by simpa using e4
                by_cases hj : (l2.take j).length < n
                · rw [if_pos hj]; exact .inl rfl
                · rw [if_neg hj]
                  have : l2.take j = l2 := List.take_of_length_le (by rw [List.length_take] at hj; omega)
                  rw [this, e4]
                  exact .inr rfl
          · cases h
          · split at h
            · cases h
            · split at h
              · cases h
              · split at h <;> cases h

theorem seqF_cut_go {most : Nat} {l out r o : List UInt8} (h : seqF most l out = .go r o) :
    (∃ s, o = out ++ s) ∧ ∀ k, seqF most (l.take k) out = .err 3 ∨ (∃ s s', o = out ++ s ++ s' ∧ seqF most (l.take k) out = .last (out ++ s)) ∨ ∃ j, seqF most (l.take k) out = .go (r.take j) o := by
  unfold seqF at h
  split at h
  · cases h
  · rename_i t l1
    split at h
    · cases h
    · rename_i n l2 e2
      split at h
      · cases h
      · rename_i hm
        split at h
        · cases h
        · rename_i hn
          split at h
          · cases h
          · cases h
          · rename_i a b l4 e4
            split at h
            · cases h
            · rename_i m l5 e5
              split at h
              · cases h
              · rename_i hbk
                split at h
                · cases h
                · rename_i hmm
                  cases h
                  obtain ⟨s, hs⟩ := copyB_front (a.toNat + 256 * b.toNat) (m + 4) (out ++ l2.take n)
                  refine ⟨⟨l2.take n ++ s, by rw [hs, List.append_assoc]⟩, fun k => ?_⟩
                  cases k with
                  | zero => exact .inl rfl
                  | succ k =>
                    rw [List.take_succ_cons]
                    unfold seqF
                    simp only
                    rcases lenN_cut k e2 with h2 | ⟨j, h2⟩
                    · rw [h2]; exact .inl rfl
                    · rw [h2]
                      simp only
                      rw [if_neg hm]
                      by_cases hj : (l2.take j).length < n
                      · rw [if_pos hj]; exact .inl rfl
                      · rw [if_neg hj]
                        rw [List.length_take] at hj
                        have ht : (l2.take j).take n = l2.take n := by rw [List.take_take]; congr 1; omega
                        have hd : (l2.take j).drop n = (a :: b :: l4).take (j - n) := by rw [List.drop_take, e4]
                        rw [ht, hd]
                        match hjn : j - n with
                        | 0 => exact .inr (.inl ⟨l2.take n, s, hs, rfl⟩)
                        | 1 => exact .inl rfl
                        | q + 2 =>
                          simp only [List.take_succ_cons]
                          rcases lenN_cut q e5 with h5 | ⟨j5, h5⟩
                          · rw [h5]; exact .inl rfl
                          · rw [h5]
                            simp only
                            rw [if_neg hbk, if_neg hmm]
                            exact .inr (.inr ⟨j5, rfl⟩)

theorem unpF_cut {most : Nat} (full : List UInt8) : ∀ (n : Nat) {l out : List UInt8}, l.length ≤ n → unpF most l out = (0, full) → (∃ s, full = out ++ s) ∧ ∀ k, Front full (unpF most (l.take k) out) := by
  intro n
  induction n with
  | zero =>
    intro l out hl h
    have : l = [] := List.length_eq_zero_iff.1 (by omega)
    subst this
    rw [unpF_err (e := 3) (by rfl)] at h
    cases h
  | succ n ih =>
    intro l out hl h
    cases hX : seqF most l out with
    | err e =>
      rw [unpF_err hX] at h
      simp only [Prod.mk.injEq] at h
      obtain ⟨rfl, rfl⟩ := h
      exact absurd rfl (seqF_err_ne hX)
    | last o' =>
      rw [unpF_last hX] at h
      simp only [Prod.mk.injEq, true_and] at h
      subst h
      obtain ⟨h1, h2⟩ := seqF_cut_last hX
      refine ⟨h1, fun k => ?_⟩
      rcases h2 k with h3 | h3
      · rw [unpF_err h3]; exact .inl rfl
      · rw [unpF_last h3]; exact .inr ⟨rfl, _, (List.take_of_length_le (Nat.le_refl _)).symm⟩
    | go r o' =>
      rw [unpF_go hX] at h
      have hsh := seqF_short hX
      obtain ⟨⟨s0, h0⟩, hF⟩ := ih (l := r) (out := o') (by omega) h
      obtain ⟨⟨s1, h1⟩, h2⟩ := seqF_cut_go hX
      refine ⟨⟨s1 ++ s0, by rw [h0, h1, List.append_assoc]⟩, fun k => ?_⟩
      rcases h2 k with h3 | ⟨s, s', h3, h4⟩ | ⟨j, h3⟩
      · rw [unpF_err h3]; exact .inl rfl
      · rw [unpF_last h4]
        refine .inr ⟨rfl, (out ++ s).length, ?_⟩
        rw [h0, h3, List.append_assoc (out ++ s), List.take_left]
      · rw [unpF_go h3]
        exact hF j
end Go.Abs.Lz
