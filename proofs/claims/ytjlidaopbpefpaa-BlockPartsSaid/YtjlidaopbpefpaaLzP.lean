/-
  Blocks written, as plain functions of rows of bytes: no program in sight.
-/
set_option linter.unusedVariables false
set_option linter.unusedSimpArgs false
namespace Go.Abs.Lz

def restL (n : Nat) : List UInt8 := if _h : 255 ≤ n then 255 :: restL (n - 255) else [UInt8.ofNat n]
termination_by n
decreasing_by exact Nat.sub_lt (Nat.lt_of_lt_of_le (Nat.succ_pos 254) _h) (Nat.succ_pos 254)
def restF (n : Nat) : List UInt8 := if n < 15 then [] else restL (n - 15)

def putF (lits : List UInt8) (back n : Nat) : List UInt8 :=
  UInt8.ofNat (min lits.length 15 * 16 + (if n = 0 then 0 else min (n - 4) 15)) ::
    (restF lits.length ++ lits ++ (if n = 0 then [] else [UInt8.ofNat back, UInt8.ofNat (back / 256)] ++ restF (n - 4)))

def hash4 (a b c d : UInt8) : Nat := ((a.toNat + b.toNat * 256 + c.toNat * 65536 + d.toNat * 16777216) * 2654435761 % 4294967296) / 1048576
def hashF : List UInt8 → Nat
  | a :: b :: c :: d :: _ => hash4 a b c d
  | _ => 0
theorem hashF_lt (l : List UInt8) : hashF l < 4096 := by
  unfold hashF hash4
  split
  · omega
  · omega

/-- How far two places agree. -/
def runF (bs : List UInt8) (old at_ n : Nat) : Nat :=
  if _h : at_ + n < bs.length then if bs.getD (old + n) 0 = bs.getD (at_ + n) 0 then runF bs old at_ (n + 1) else n else n
termination_by bs.length - (at_ + n)

theorem runF_ge (bs : List UInt8) (old at_ n : Nat) : n ≤ runF bs old at_ n := by
  fun_induction runF bs old at_ n <;> omega

/-- The search. -/
def findF (bs : List UInt8) (t : List Int) (from_ at_ : Nat) (out : List UInt8) : List UInt8 :=
  if _h : at_ + 4 ≤ bs.length then
    if t.getD (hashF (bs.drop at_)) 0 < 0 ∨ 65535 < (at_ : Int) - t.getD (hashF (bs.drop at_)) 0 ∨ (bs.drop (t.getD (hashF (bs.drop at_)) 0).toNat).take 4 ≠ (bs.drop at_).take 4 then
      findF bs (t.set (hashF (bs.drop at_)) at_) from_ (at_ + 1) out
    else
      findF bs (t.set (hashF (bs.drop at_)) at_) (at_ + runF bs (t.getD (hashF (bs.drop at_)) 0).toNat at_ 4) (at_ + runF bs (t.getD (hashF (bs.drop at_)) 0).toNat at_ 4)
        (out ++ putF ((bs.drop from_).take (at_ - from_)) (at_ - (t.getD (hashF (bs.drop at_)) 0).toNat) (runF bs (t.getD (hashF (bs.drop at_)) 0).toNat at_ 4))
  else out ++ putF (bs.drop from_) 0 0
termination_by bs.length - at_
decreasing_by
  · omega
  · have := runF_ge bs (t.getD (hashF (bs.drop at_)) 0).toNat at_ 4
    omega

def packF (bs : List UInt8) : List UInt8 :=
  if 1048576 < bs.length then []
  else if (putF bs 0 0).length < (findF bs (List.replicate 4096 (-1)) 0 0 []).length then putF bs 0 0 else findF bs (List.replicate 4096 (-1)) 0 0 []

theorem restL_length (n : Nat) : (restL n).length = n / 255 + 1 := by
  fun_induction restL n
  · rename_i n h ih
    simp only [List.length_cons, ih]
    omega
  · simp only [List.length_cons, List.length_nil]
    omega
theorem restF_length (n : Nat) : (restF n).length ≤ n / 255 + 1 := by
  unfold restF
  split
  · simp
  · rw [restL_length]; omega
theorem putF_length (lits : List UInt8) (back n : Nat) : (putF lits back n).length ≤ 5 + lits.length + lits.length / 255 + n / 255 := by
  have h1 := restF_length lits.length
  have h2 := restF_length (n - 4)
  unfold putF
  split <;> simp only [List.length_cons, List.length_append, List.length_nil] <;> omega

end Go.Abs.Lz
