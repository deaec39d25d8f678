/-
  Blocks, as plain functions of rows of bytes: no program in sight.
-/
set_option linter.unusedVariables false
set_option linter.unusedSimpArgs false
namespace Go.Abs.Lz

/-- A length's further bytes: how much, and what stands behind them. -/
def lenL : List UInt8 → Nat → Option (Nat × List UInt8)
  | [], _ => none
  | c :: l, n => if c.toNat < 255 then some (n + c.toNat, l) else lenL l (n + c.toNat)
def lenN (l : List UInt8) (n : Nat) : Option (Nat × List UInt8) := if n < 15 then some (n, l) else lenL l n

def copyB (back : Nat) : Nat → List UInt8 → List UInt8
  | 0, out => out
  | k + 1, out => copyB back k (out ++ [out.getD (out.length - back) 0])

inductive SeqR where
  | err (e : Nat)
  | last (out : List UInt8)
  | go (rest out : List UInt8)
  deriving DecidableEq

/-- One sequence. -/
def seqF (most : Nat) (l out : List UInt8) : SeqR :=
  match l with
  | [] => .err 3
  | t :: l1 =>
    match lenN l1 (t.toNat / 16) with
    | none => .err 3
    | some (n, l2) =>
      if most < out.length + n then .err 4
      else if l2.length < n then .err 3
      else
        match l2.drop n with
        | [] => .last (out ++ l2.take n)
        | [_] => .err 3
        | a :: b :: l4 =>
          match lenN l4 (t.toNat % 16) with
          | none => .err 3
          | some (m, l5) =>
            if a.toNat + 256 * b.toNat = 0 ∨ (out ++ l2.take n).length < a.toNat + 256 * b.toNat then .err 2
            else if most < (out ++ l2.take n).length + (m + 4) then .err 4
            else .go l5 (copyB (a.toNat + 256 * b.toNat) (m + 4) (out ++ l2.take n))

theorem lenL_short : ∀ {l : List UInt8} {n m : Nat} {r : List UInt8}, lenL l n = some (m, r) → r.length < l.length
  | [], _, _, _, h => by simp [lenL] at h
  | c :: l, n, m, r, h => by
    unfold lenL at h
    split at h
    · simp only [Option.some.injEq, Prod.mk.injEq] at h
      obtain ⟨_, rfl⟩ := h
      simp
    · have := lenL_short h
      simp only [List.length_cons]; omega
theorem lenN_short {l : List UInt8} {n m : Nat} {r : List UInt8} (h : lenN l n = some (m, r)) : r.length ≤ l.length := by
  unfold lenN at h
  split at h
  · simp only [Option.some.injEq, Prod.mk.injEq] at h
    rw [h.2]; exact Nat.le_refl _
  · exact Nat.le_of_lt (lenL_short h)

theorem seqF_short {most : Nat} {l out r out' : List UInt8} (h : seqF most l out = .go r out') : r.length < l.length := by
  unfold seqF at h
  split at h
  · cases h
  · rename_i t l1
    split at h
    · cases h
    · rename_i n l2 e2
      have h2 := lenN_short e2
      split at h
      · cases h
      · split at h
        · cases h
        · split at h
          · cases h
          · cases h
          · rename_i a b l4 e4
            split at h
            · cases h
            · rename_i m l5 e5
              have h5 := lenN_short e5
              split at h
              · cases h
              · split at h
                · cases h
                · cases h
                  have := congrArg List.length e4
                  simp only [List.length_drop, List.length_cons] at this
                  simp only [List.length_cons]
                  omega

/-- A block: the error, and the bytes. -/
def unpF (most : Nat) (l out : List UInt8) : Nat × List UInt8 :=
  match h : seqF most l out with
  | .err e => (e, [])
  | .last o => (0, o)
  | .go r o => unpF most r o
termination_by l.length
decreasing_by exact seqF_short h

theorem unpF_err {most e : Nat} {l out : List UInt8} (h : seqF most l out = .err e) : unpF most l out = (e, []) := by
  rw [unpF]; split <;> simp_all
theorem unpF_last {most : Nat} {l out o : List UInt8} (h : seqF most l out = .last o) : unpF most l out = (0, o) := by
  rw [unpF]; split <;> simp_all
theorem unpF_go {most : Nat} {l out r o : List UInt8} (h : seqF most l out = .go r o) : unpF most l out = unpF most r o := by
  rw [unpF]; split <;> simp_all
/-- A block, and any bound. -/
def unpack (most : Int) (l : List UInt8) : Nat × List UInt8 :=
  if most < 0 ∨ 1048576 < most then (1, []) else unpF most.toNat l []

theorem copyB_length (back : Nat) : ∀ (k : Nat) (out : List UInt8), (copyB back k out).length = out.length + k
  | 0, out => rfl
  | k + 1, out => by rw [copyB, copyB_length back k]; simp only [List.length_append, List.length_cons, List.length_nil]; omega

theorem seqF_most_last {most : Nat} {l out o : List UInt8} (h : seqF most l out = .last o) : o.length ≤ most := by
  unfold seqF at h
  split at h
  · cases h
  · split at h
    · cases h
    · split at h
      · cases h
      · split at h
        · cases h
        · split at h
          · cases h; simp only [List.length_append, List.length_take]; omega
          · cases h
          · split at h
            · cases h
            · split at h
              · cases h
              · split at h <;> cases h
theorem seqF_most_go {most : Nat} {l out r o : List UInt8} (h : seqF most l out = .go r o) : o.length ≤ most := by
  unfold seqF at h
  split at h
  · cases h
  · split at h
    · cases h
    · split at h
      · cases h
      · split at h
        · cases h
        · split at h
          · cases h
          · cases h
          · split at h
            · cases h
            · split at h
              · cases h
              · split at h
                · cases h
                · cases h
                  rw [copyB_length]; omega

end Go.Abs.Lz
