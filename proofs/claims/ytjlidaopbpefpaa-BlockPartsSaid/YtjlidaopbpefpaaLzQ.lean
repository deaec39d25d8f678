/-
  What is written is read again: no program in sight.
-/
import Derived.Test.YtjlidaopbpefpaaLzS
import Derived.Test.YtjlidaopbpefpaaLzP
set_option linter.unusedVariables false
set_option linter.unusedSimpArgs false
namespace Go.Abs.Lz

theorem lenL_restL (k : Nat) (r : List UInt8) : ∀ a, lenL (restL k ++ r) a = some (a + k, r) := by
  fun_induction restL k
  · rename_i k h ih
    intro a
    simp only [List.cons_append]
    rw [lenL, if_neg (by decide), ih]
    simp only [Option.some.injEq, Prod.mk.injEq, and_true]
    show a + 255 + (k - 255) = a + k
    omega
  · rename_i k h
    intro a
    have e : (UInt8.ofNat k).toNat = k := by rw [UInt8.toNat_ofNat']; omega
    simp only [List.cons_append, List.nil_append]
    rw [lenL, e, if_pos (by omega)]

theorem lenN_restF (m : Nat) (r : List UInt8) : lenN (restF m ++ r) (min m 15) = some (m, r) := by
  unfold restF lenN
  by_cases h : m < 15
  · rw [if_pos h, if_pos (by omega)]
    simp only [List.nil_append, Option.some.injEq, Prod.mk.injEq, and_true]
    omega
  · rw [if_neg h, if_neg (by omega), lenL_restL]
    simp only [Option.some.injEq, Prod.mk.injEq, and_true]
    omega

theorem tok (L low : Nat) (hL : L < 16) (hl : low < 16) : (UInt8.ofNat (L * 16 + low)).toNat / 16 = L ∧ (UInt8.ofNat (L * 16 + low)).toNat % 16 = low := by
  have e : (UInt8.ofNat (L * 16 + low)).toNat = L * 16 + low := by rw [UInt8.toNat_ofNat']; omega
  rw [e]; omega

/-- A sequence with a copy. -/
theorem seqF_put {most : Nat} {lits out r : List UInt8} {back n : Nat} (hn : 4 ≤ n) (hb0 : 1 ≤ back) (hb1 : back ≤ 65535) (hb2 : back ≤ out.length + lits.length) :
    seqF most (putF lits back n ++ r) out = if most < out.length + lits.length + n then .err 4 else .go r (copyB back n (out ++ lits)) := by
  have hlow : (if n = 0 then 0 else min (n - 4) 15) = min (n - 4) 15 := if_neg (by omega)
  have ht := tok (min lits.length 15) (min (n - 4) 15) (by omega) (by omega)
  have e1 : putF lits back n ++ r = UInt8.ofNat (min lits.length 15 * 16 + min (n - 4) 15) :: (restF lits.length ++ (lits ++ (UInt8.ofNat back :: UInt8.ofNat (back / 256) :: (restF (n - 4) ++ r)))) := by
    rw [putF, hlow, if_neg (by omega)]
    simp
  rw [e1]
  unfold seqF
  simp only [ht.1, ht.2, lenN_restF]
  by_cases h1 : most < out.length + lits.length
  · rw [if_pos h1, if_pos (by omega)]
  rw [if_neg h1, if_neg (by simp), List.drop_left, List.take_left]
  simp only [lenN_restF]
  have eb : (UInt8.ofNat back).toNat + 256 * (UInt8.ofNat (back / 256)).toNat = back := by
    rw [UInt8.toNat_ofNat', UInt8.toNat_ofNat']; omega
  rw [eb, if_neg (by rw [List.length_append]; omega), List.length_append, show n - 4 + 4 = n by omega]

/-- The last one. -/
theorem seqF_last {most : Nat} {lits out : List UInt8} : seqF most (putF lits 0 0) out = if most < out.length + lits.length then .err 4 else .last (out ++ lits) := by
  have ht := tok (min lits.length 15) 0 (by omega) (by omega)
  have e1 : putF lits 0 0 = UInt8.ofNat (min lits.length 15 * 16 + 0) :: (restF lits.length ++ lits) := by
    rw [putF]; simp
  rw [e1]
  unfold seqF
  simp only [ht.1, lenN_restF]
  by_cases h1 : most < out.length + lits.length
  · rw [if_pos h1, if_pos h1]
  · rw [if_neg h1, if_neg h1, if_neg (by omega)]
    simp only [List.drop_length, List.take_length]

theorem findF_app (bs : List UInt8) (t : List Int) (from_ at_ : Nat) (out : List UInt8) : findF bs t from_ at_ out = out ++ findF bs t from_ at_ [] := by
  suffices h : ∀ out0, findF bs t from_ at_ (out0 ++ out) = out0 ++ findF bs t from_ at_ out by
    have := h out
    have h2 := (show ∀ out1, findF bs t from_ at_ (out1 ++ []) = out1 ++ findF bs t from_ at_ [] from ?_) out
    · rw [List.append_nil] at h2; exact h2
    clear this h
    generalize ([] : List UInt8) = o
    fun_induction findF bs t from_ at_ o
    · rename_i h h2 ih
      intro out1
      rw [findF, dif_pos h, if_pos h2, ih]
    · rename_i h h2 ih
      intro out1
      rw [findF, dif_pos h, if_neg h2, List.append_assoc, ih]
    · rename_i h
      intro out1
      rw [findF, dif_neg h, List.append_assoc]
  fun_induction findF bs t from_ at_ out
  · rename_i h h2 ih
    intro out1
    rw [findF, dif_pos h, if_pos h2, ih]
  · rename_i h h2 ih
    intro out1
    rw [findF, dif_pos h, if_neg h2, List.append_assoc, ih]
  · rename_i h
    intro out1
    rw [findF, dif_neg h, List.append_assoc]

theorem runF_le (bs : List UInt8) (old at_ n : Nat) : at_ + n ≤ bs.length → at_ + runF bs old at_ n ≤ bs.length := by
  fun_induction runF bs old at_ n <;> intro hh <;> first | omega | (rename_i ih; exact ih (by omega))
theorem runF_eq (bs : List UInt8) (old at_ n : Nat) : (∀ i, i < n → bs.getD (old + i) 0 = bs.getD (at_ + i) 0) → ∀ i, i < runF bs old at_ n → bs.getD (old + i) 0 = bs.getD (at_ + i) 0 := by
  fun_induction runF bs old at_ n
  · rename_i n h h2 ih
    intro h3
    refine ih ?_
    intro i hi
    by_cases e : i = n
    · subst e; exact h2
    · exact h3 i (by omega)
  · intro h3; exact h3
  · intro h3; exact h3

theorem take_succ' (bs : List UInt8) (k : Nat) (h : k < bs.length) : bs.take (k + 1) = bs.take k ++ [bs.getD k 0] := by
  rw [List.take_add_one, List.getD_eq_getElem?_getD, List.getElem?_eq_getElem h]; rfl

theorem copyB_run (bs : List UInt8) (old at_ : Nat) (ho : old < at_) : ∀ (n k : Nat), at_ + k + n ≤ bs.length → (∀ i, i < k + n → bs.getD (old + i) 0 = bs.getD (at_ + i) 0) → copyB (at_ - old) n (bs.take (at_ + k)) = bs.take (at_ + k + n)
  | 0, k, _, _ => rfl
  | n + 1, k, hle, h => by
    have e1 : (bs.take (at_ + k)).length = at_ + k := by rw [List.length_take]; omega
    have e2 : (bs.take (at_ + k)).getD ((bs.take (at_ + k)).length - (at_ - old)) 0 = bs.getD (at_ + k) 0 := by
      rw [e1, show at_ + k - (at_ - old) = old + k by omega, ← h k (by omega)]
      rw [List.getD_eq_getElem?_getD, List.getD_eq_getElem?_getD, List.getElem?_take_of_lt (by omega)]
    rw [copyB, e2, ← take_succ' bs (at_ + k) (by omega), show at_ + k + 1 = at_ + (k + 1) by omega, copyB_run bs old at_ ho n (k + 1) (by omega) (fun i hi => h i (by omega))]
    congr 1; omega

theorem take4_eq {bs : List UInt8} {a b : Nat} (h : (bs.drop a).take 4 = (bs.drop b).take 4) : ∀ i, i < 4 → bs.getD (a + i) 0 = bs.getD (b + i) 0 := by
  intro i hi
  have := congrArg (fun l => l[i]?) h
  simp only [List.getElem?_take_of_lt hi, List.getElem?_drop] at this
  rw [List.getD_eq_getElem?_getD, List.getD_eq_getElem?_getD, this]

theorem set_lt {t : List Int} {hs at_ m : Nat} (hm : at_ < m) (h : ∀ (i : Nat) (x : Int), t[i]? = some x → x < at_) : ∀ (i : Nat) (x : Int), (t.set hs (at_ : Int))[i]? = some x → x < m := by
  intro i x hx
  rw [List.getElem?_set] at hx
  split at hx
  · split at hx
    · cases hx; omega
    · cases hx
  · have := h i x hx; omega

/-- THE SEARCH'S WORK, READ. -/
theorem unp_find (bs : List UInt8) : ∀ (k : Nat) (t : List Int) (from_ at_ : Nat), bs.length - at_ = k → t.length = 4096 → from_ ≤ at_ → at_ ≤ bs.length → (∀ (i : Nat) (x : Int), t[i]? = some x → x < at_) →
    ∀ most, unpF most (findF bs t from_ at_ []) (bs.take from_) = if bs.length ≤ most then (0, bs) else (4, []) := by
  intro k
  induction k using Nat.strongRecOn with
  | _ k ih =>
  intro t from_ at_ hk htl h3 h4 h5 most
  rw [findF]
  by_cases h : at_ + 4 ≤ bs.length
  · rw [dif_pos h]
    have hh := hashF_lt (bs.drop at_)
    generalize hashF (bs.drop at_) = hs at *
    obtain ⟨old, hold⟩ : ∃ old, t[hs]? = some old := ⟨t[hs], List.getElem?_eq_getElem (by omega)⟩
    have hgd : t.getD hs 0 = old := by rw [List.getD_eq_getElem?_getD, hold]; rfl
    have hlt := h5 hs old hold
    rw [hgd]
    by_cases h2 : old < 0 ∨ 65535 < (at_ : Int) - old ∨ (bs.drop old.toNat).take 4 ≠ (bs.drop at_).take 4
    · rw [if_pos h2]
      exact ih (bs.length - (at_ + 1)) (by omega) _ _ _ rfl (by rw [List.length_set, htl]) (by omega) (by omega) (set_lt (by omega) h5) most
    · rw [if_neg h2]
      simp only [not_or, ne_eq, Classical.not_not] at h2
      obtain ⟨h6, h7, h8⟩ := h2
      obtain ⟨o, rfl⟩ : ∃ o : Nat, old = o := ⟨old.toNat, by omega⟩
      rw [Int.toNat_natCast] at h8 ⊢
      have hr4 := runF_ge bs o at_ 4
      have hrl := runF_le bs o at_ 4 h
      have hre := runF_eq bs o at_ 4 (take4_eq h8)
      generalize runF bs o at_ 4 = n at *
      rw [findF_app, List.nil_append]
      have hll : ((bs.drop from_).take (at_ - from_)).length = at_ - from_ := by rw [List.length_take, List.length_drop]; omega
      have hfl : (bs.take from_).length = from_ := by rw [List.length_take]; omega
      have hsq := seqF_put (most := most) (lits := (bs.drop from_).take (at_ - from_)) (out := bs.take from_) (r := findF bs (t.set hs at_) (at_ + n) (at_ + n) []) (back := at_ - o) (n := n) hr4 (by omega) (by omega) (by omega)
      rw [hll, hfl] at hsq
      have hcat : bs.take from_ ++ (bs.drop from_).take (at_ - from_) = bs.take at_ := by
        rw [← List.take_add]; congr 1; omega
      have hcp := copyB_run bs o at_ (by omega) n 0 (by omega) (fun i hi => hre i (by omega))
      rw [hcat, show copyB (at_ - o) n (bs.take at_) = bs.take (at_ + n) from hcp] at hsq
      by_cases h9 : most < from_ + (at_ - from_) + n
      · rw [if_pos h9] at hsq
        rw [unpF_err hsq, if_neg (by omega)]
      · rw [if_neg h9] at hsq
        rw [unpF_go hsq]
        exact ih (bs.length - (at_ + n)) (by omega) _ _ _ rfl (by rw [List.length_set, htl]) (by omega) (by omega) (set_lt (by omega) h5) most
  · rw [dif_neg h]
    have e1 : (bs.take from_).length + (bs.drop from_).length = bs.length := by rw [List.length_take, List.length_drop]; omega
    rw [List.nil_append]
    by_cases h6 : bs.length ≤ most
    · rw [if_pos h6, unpF_last (o := bs)]
      rw [seqF_last, e1, if_neg (by omega), List.take_append_drop]
    · rw [if_neg h6, unpF_err (e := 4)]
      rw [seqF_last, e1, if_pos (by omega)]

/-- WHAT IS PACKED TELLS ITSELF. -/
theorem unp_pack {bs : List UInt8} (hb : bs.length ≤ 1048576) (most : Nat) : unpF most (packF bs) [] = if bs.length ≤ most then (0, bs) else (4, []) := by
  have h1 : unpF most (findF bs (List.replicate 4096 (-1)) 0 0 []) [] = if bs.length ≤ most then (0, bs) else (4, []) :=
    unp_find bs _ _ 0 0 rfl List.length_replicate (by omega) (by omega) (fun i x h => by have := List.eq_of_mem_replicate (List.mem_of_getElem? h); omega) most
  have h2 : unpF most (putF bs 0 0) [] = if bs.length ≤ most then (0, bs) else (4, []) := by
    by_cases h6 : bs.length ≤ most
    · rw [if_pos h6, unpF_last (o := bs)]
      rw [seqF_last, if_neg (by simp; omega)]; rfl
    · rw [if_neg h6, unpF_err (e := 4)]
      rw [seqF_last, if_pos (by simp; omega)]
  rw [packF, if_neg (by omega)]
  split
  · exact h2
  · exact h1
theorem unpack_pack {bs : List UInt8} (hb : bs.length ≤ 1048576) {most : Int} (h0 : 0 ≤ most) (h1 : most ≤ 1048576) : unpack most (packF bs) = if (bs.length : Int) ≤ most then (0, bs) else (4, []) := by
  rw [unpack, if_neg (by omega), unp_pack hb]
  by_cases h : (bs.length : Int) ≤ most
  · rw [if_pos (by omega), if_pos h]
  · rw [if_neg (by omega), if_neg h]
theorem packF_length {bs : List UInt8} : (packF bs).length ≤ bs.length + bs.length / 255 + 16 := by
  have := restF_length bs.length
  have h2 : (putF bs 0 0).length ≤ bs.length + bs.length / 255 + 16 := by
    rw [putF]; simp; omega
  rw [packF]
  split
  · simp
  · split
    · exact h2
    · omega

theorem known1 : unpack 10 [17, 97, 1, 0, 0] = (0, [97, 97, 97, 97, 97, 97]) := by
  rw [unpack, if_neg (by decide)]
  rw [unpF_go (r := [0]) (o := [97, 97, 97, 97, 97, 97]) (by decide), unpF_last (o := [97, 97, 97, 97, 97, 97]) (by decide)]
theorem known2 : unpack 10 [16] = (3, []) := by
  rw [unpack, if_neg (by decide), unpF_err (e := 3) (by decide)]
end Go.Abs.Lz
