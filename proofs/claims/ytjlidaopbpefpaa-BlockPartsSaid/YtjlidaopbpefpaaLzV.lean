/-
  Sequences laid by hand, read: no program in sight.
-/
import Derived.Test.YtjlidaopbpefpaaLzQ
set_option linter.unusedVariables false
set_option linter.unusedSimpArgs false
namespace Go.Abs.Lz

/-- What is laid so far says what is wanted so far. -/
def Says (b want : List UInt8) : Prop := ∀ (most : Nat) (r : List UInt8), want.length ≤ most → unpF most (b ++ r) [] = unpF most r want

theorem Says.nil : Says [] [] := fun most r h => rfl
theorem Says.put {b want lit : List UInt8} {off n : Nat} (h : Says b want) (hn : 4 ≤ n) (h1 : 1 ≤ off) (h2 : off ≤ 65535) (h3 : off ≤ want.length + lit.length) : Says (b ++ putF lit off n) (copyB off n (want ++ lit)) := by
  intro most r hm
  rw [copyB_length, List.length_append] at hm
  rw [List.append_assoc, h most _ (by omega)]
  have := seqF_put (most := most) (lits := lit) (out := want) (r := r) hn h1 h2 h3
  rw [if_neg (by omega)] at this
  exact unpF_go this
theorem Says.last {b want tail : List UInt8} (h : Says b want) : unpF (want ++ tail).length (b ++ putF tail 0 0) [] = (0, want ++ tail) := by
  rw [h _ _ (by rw [List.length_append]; omega)]
  refine unpF_last ?_
  rw [seqF_last, if_neg (by rw [List.length_append]; omega)]
end Go.Abs.Lz
