/-
  One byte many times: no program in sight.
-/
import Derived.Test.YtjlidaopbpefpaaLzQ
set_option linter.unusedVariables false
set_option linter.unusedSimpArgs false
namespace Go.Abs.Lz

theorem rep_getD (c : UInt8) (n i : Nat) (h : i < n) : (List.replicate n c).getD i 0 = c := by
  rw [List.getD_eq_getElem?_getD, List.getElem?_replicate, if_pos h]; rfl

theorem runF_rep (c : UInt8) (n old at_ k : Nat) (ho : old ≤ at_) : at_ + k ≤ n → runF (List.replicate n c) old at_ k = n - at_ := by
  generalize hb : List.replicate n c = bs
  fun_induction runF bs old at_ k
  · rename_i k h h2 ih
    subst hb
    intro _
    rw [List.length_replicate] at h
    exact ih (by omega)
  · rename_i k h h2
    subst hb
    intro _
    rw [List.length_replicate] at h
    exact absurd ((rep_getD c n _ (by omega)).trans (rep_getD c n _ (by omega)).symm) h2
  · rename_i k h
    subst hb
    intro h3
    rw [List.length_replicate] at h
    omega

theorem hashF_rep (c : UInt8) (n i : Nat) (h : i + 4 ≤ n) : hashF ((List.replicate n c).drop i) = hash4 c c c c := by
  rw [List.drop_replicate]
  obtain ⟨m, hm⟩ : ∃ m, n - i = m + 4 := ⟨n - i - 4, by omega⟩
  rw [hm]
  rfl

theorem findF_rep (c : UInt8) (n : Nat) (h : 5 ≤ n) : findF (List.replicate n c) (List.replicate 4096 (-1)) 0 0 [] = putF [c] 1 (n - 1) ++ putF [] 0 0 := by
  have hh := hashF_lt ((List.replicate n c).drop 0)
  rw [hashF_rep c n 0 (by omega)] at hh
  have hl : (List.replicate n c).length = n := List.length_replicate
  have htl : (List.replicate 4096 (-1 : Int)).length = 4096 := List.length_replicate
  have ht : (List.replicate 4096 (-1 : Int)).getD (hash4 c c c c) 0 = -1 := by
    rw [List.getD_eq_getElem?_getD, List.getElem?_replicate, if_pos hh]; rfl
  generalize List.replicate 4096 (-1 : Int) = t at *
  rw [findF, dif_pos (by omega), hashF_rep c n 0 (by omega), ht, if_pos (.inl (by omega))]
  have ht2 : (t.set (hash4 c c c c) ((0 : Nat) : Int)).getD (hash4 c c c c) 0 = 0 := by
    rw [List.getD_eq_getElem?_getD, List.getElem?_set, if_pos rfl, if_pos (by omega)]; rfl
  rw [findF, dif_pos (by omega), show 0 + 1 = 1 from rfl, hashF_rep c n 1 (by omega), ht2, if_neg ?_]
  · rw [show (0 : Int).toNat = 0 from rfl, runF_rep c n 0 1 4 (by omega) (by omega), findF, dif_neg (by omega)]
    have e1 : ((List.replicate n c).drop 0).take (1 - 0) = [c] := by
      rw [List.drop_zero, List.take_replicate, show min (1 - 0) n = 1 by omega]; rfl
    have e2 : (List.replicate n c).drop (1 + (n - 1)) = [] := List.drop_eq_nil_of_le (by omega)
    rw [e1, e2]
    rfl
  · intro h2
    rcases h2 with h2 | h2 | h2
    · omega
    · omega
    · refine h2 ?_
      rw [show (0 : Int).toNat = 0 from rfl, List.drop_replicate, List.drop_replicate, List.take_replicate, List.take_replicate]
      congr 1
      omega

theorem pack_runs (c : UInt8) (n : Nat) (h : 64 ≤ n) (h2 : n ≤ 20000) : (packF (List.replicate n c)).length ≤ n / 4 + 16 := by
  have h1 : (findF (List.replicate n c) (List.replicate 4096 (-1)) 0 0 []).length ≤ n / 4 + 16 := by
    rw [findF_rep c n (by omega), List.length_append]
    have := putF_length [c] 1 (n - 1)
    have h4 : (putF [] 0 0).length = 1 := by rw [putF, restF]; rfl
    rw [h4]
    simp only [List.length_cons, List.length_nil] at this
    omega
  rw [packF, if_neg (by rw [List.length_replicate]; omega)]
  split
  · omega
  · exact h1
end Go.Abs.Lz
