/-
  A program logic over abstract states, part T: loops counted down, heaps in pieces, rows of bytes that grow, small sums.
-/
import Derived.Test.YtgmefkhincnajaaDoorAbsS
namespace Go.Abs
open Go Go.RowKit

set_option linter.unusedVariables false
set_option linter.unusedSimpArgs false
variable {P : Program} {N : Nat} {l : List AOper} {F : AFrame} {σ : AHeap} {Q : AFrame → AHeap → Prop}

/-- What stands behind the first part. -/
def ACode.snd : ACode → Nat → ACode
  | c, 0 => c
  | .seq _ b, n + 1 => b.snd n
  | c, _ + 1 => c

def ACode.body : ACode → ACode
  | .block _ a => a
  | .loop a => a
  | c => c

/-! ### Loops -/

theorem least_ex {p : Nat → Prop} : ∀ n, p n → ∃ m, p m ∧ ∀ k, p k → m ≤ k := by
  intro n
  induction n using Nat.strongRecOn with
  | _ n ih =>
    intro hn
    by_cases h : ∃ k, p k ∧ k < n
    · obtain ⟨k, h1, h2⟩ := h
      exact ih k h2 h1
    · exact ⟨n, hn, fun k hk => Nat.le_of_not_lt fun h' => h ⟨k, hk, h'⟩⟩

/-- What a round leaves: the invariant at a lower number. -/
def ALess (I : Nat → AFrame → AHeap → Prop) (n : Nat) (Q : APost) : APost
  | .normal, F, σ => ∃ G τ m, FSub G F ∧ HSub τ σ ∧ I m G τ ∧ m < n
  | e, F, σ => Q e F σ

theorem awp_loopN {a : ACode} {Q : APost} {F : AFrame} {σ : AHeap} (I : Nat → AFrame → AHeap → Prop) {n : Nat} (h0 : I n F σ) (round : ∀ n F σ, I n F σ → AWp P N a (ALess I n Q) F σ) : AWp P N (.loop a) Q F σ := by
  classical
  let J : AFrame → AHeap → Prop := fun F σ => ∃ n, I n F σ
  let μ : AFrame → AHeap → Nat := fun F σ => if h : J F σ then Classical.choose (least_ex (p := fun n => I n F σ) h.choose h.choose_spec) else 0
  have hμ : ∀ F σ, J F σ → I (μ F σ) F σ ∧ ∀ k, I k F σ → μ F σ ≤ k := fun F σ h => by
    have := Classical.choose_spec (least_ex (p := fun n => I n F σ) h.choose h.choose_spec)
    simp only [μ, dif_pos h]
    exact this
  refine awp_loop J μ ⟨n, h0⟩ fun F σ hJ => awp_conseq (round (μ F σ) F σ (hμ F σ hJ).1) ?_
  intro e G τ h
  cases e with
  | normal =>
    obtain ⟨G', τ', m, h1, h2, h3, h4⟩ := h
    exact ⟨G', τ', h1, h2, ⟨m, h3⟩, Nat.lt_of_le_of_lt ((hμ G' τ' ⟨m, h3⟩).2 m h3) h4⟩
  | exit id => exact h
  | ret => exact h

theorem aw_loopN {a c : ACode} {R : APost} {F : AFrame} {σ : AHeap} (I : Nat → AFrame → AHeap → Prop) {n : Nat} (h0 : I n F σ) (round : ∀ n F σ, I n F σ → AWp P N a (ALess I n (AThen P N c R)) F σ) : AWp P N (.seq (.loop a) c) R F σ := awp_seq (awp_loopN I h0 round)

/-- The last region of a round. -/
theorem kp_less {keep : List Nat} {I : Nat → AFrame → AHeap → Prop} {n : Nat} {F : AFrame} {σ : AHeap} (h : KP keep F fun G => ∃ τ m, HSub τ σ ∧ I m G τ ∧ m < n) : ∃ G τ m, FSub G F ∧ HSub τ σ ∧ I m G τ ∧ m < n := by
  obtain ⟨G, h1, τ, m, h2, h3, h4⟩ := h
  exact ⟨G, τ, m, h1, h2, h3, h4⟩

theorem aw_reg {ops : List AOper} {keep : List Nat} {b : ACode} {R : APost} {F : AFrame} {σ : AHeap} (h : aops P ops F σ fun F' σ' => KP keep F' fun G => AWp P N b R G σ') : AWp P N (.region ops keep) (AThen P N b R) F σ :=
  awp_region (aops_mono (fun _ _ h => kp_weaken h) h)
/-- A region with a claim of its own about what it leaves. -/
theorem aw_cut {ops : List AOper} {keep : List Nat} {b : ACode} {R : APost} {F : AFrame} {σ : AHeap} (M : AFrame → AHeap → Prop) (h : aops P ops F σ M) (h' : ∀ F σ, M F σ → AWp P N b R F σ) : AWp P N (.region ops keep) (AThen P N b R) F σ :=
  awp_region (aops_mono h' h)
theorem aw_seq {a b c : ACode} {R : APost} {F : AFrame} {σ : AHeap} (h : AWp P N a (AThen P N b (AThen P N c R)) F σ) : AWp P N (.seq a b) (AThen P N c R) F σ := awp_seq h

/-! ### Heaps in pieces -/

theorem hget_none {σ : AHeap} {b : Nat} (h : b ∉ keys σ) : hget σ b = none := by
  induction σ with
  | nil => rfl
  | cons p σ ih =>
    obtain ⟨a, x⟩ := p
    simp only [keys_cons, List.mem_cons, not_or] at h
    simp only [hget, if_neg (fun e : a = b => h.1 e.symm)]
    exact ih h.2
theorem hget_app {σ τ : AHeap} {b : Nat} (h : b ∉ keys σ) : hget (σ ++ τ) b = hget τ b := by
  induction σ with
  | nil => rfl
  | cons p σ ih =>
    obtain ⟨a, x⟩ := p
    simp only [keys_cons, List.mem_cons, not_or] at h
    simp only [List.cons_append, hget, if_neg (fun e : a = b => h.1 e.symm)]
    exact ih h.2
theorem hset_app {σ τ : AHeap} {b : Nat} {y : ABlk} (h : b ∉ keys σ) : hset (σ ++ τ) b y = σ ++ hset τ b y := by
  induction σ with
  | nil => rfl
  | cons p σ ih =>
    obtain ⟨a, x⟩ := p
    simp only [keys_cons, List.mem_cons, not_or] at h
    simp only [List.cons_append, hset, if_neg (fun e : a = b => h.1 e.symm)]
    rw [ih h.2]
theorem hset_hset (σ : AHeap) (b : Nat) (x y : ABlk) : hset (hset σ b x) b y = hset σ b y := by
  induction σ with
  | nil => rfl
  | cons p σ ih =>
    obtain ⟨a, z⟩ := p
    by_cases h : a = b <;> simp [hset, h, ih]
theorem hset_self {σ : AHeap} {b : Nat} {x : ABlk} (h : hget σ b = some x) : hset σ b x = σ := by
  induction σ with
  | nil => rfl
  | cons p σ ih =>
    obtain ⟨a, z⟩ := p
    by_cases e : a = b
    · simp [hget, e] at h; simp [hset, e, h]
    · simp [hget, e] at h; simp [hset, e, ih h]
theorem keys_app (σ τ : AHeap) : keys (σ ++ τ) = keys σ ++ keys τ := by simp [keys]

theorem ACalls.sub {f : FuncId} {args : List AVal} {σ τ : AHeap} {R : AVal → AHeap → Prop} (hs : HSub τ σ) (h : ACalls P f args τ R) : ACalls P f args σ R :=
  fun K w vs hr hv => h K w vs (hs K w hr) hv

/-! ### Rows of bytes that grow -/

theorem bytes_length (l : List UInt8) : (bytes l).length = l.length := by simp [bytes]
theorem bytes_app (a b : List UInt8) : bytes (a ++ b) = bytes a ++ bytes b := by simp [bytes]
theorem bytes_get (l : List UInt8) (i : Nat) : (bytes l)[i]? = (l[i]?).map byte := by simp [bytes]
theorem bytes_drop (l : List UInt8) (i : Nat) : (bytes l).drop i = bytes (l.drop i) := by simp [bytes]
theorem bytes_take (l : List UInt8) (i : Nat) : (bytes l).take i = bytes (l.take i) := by simp [bytes]
theorem toBytes_bytes (l : List UInt8) : toBytes (bytes l) = some l := by
  induction l with
  | nil => rfl
  | cons a l ih =>
    have : toBytes (bytes (a :: l)) = (toByte (byte a)).bind fun x => (toBytes (bytes l)).bind fun y => some (x :: y) := by simp [toBytes, bytes, List.mapM_cons]
    rw [this, ih]
    simp [toByte, byte]

/-- A row of bytes of the call's own, or nothing yet: its value and its piece of the heap. -/
def Grow (v : AVal) (xs : List UInt8) (β : AHeap) : Prop := ((∃ z, v = .slc z [] true) ∧ xs = [] ∧ β = []) ∨ ∃ b, v = .arr 1 b 0 xs.length ∧ β = [(b, .cells 1 (bytes xs))]

theorem Grow.nil (z : Nat) : Grow (.slc z [] true) [] [] := .inl ⟨⟨z, rfl⟩, rfl, rfl⟩
theorem Grow.lens {v : AVal} {xs : List UInt8} {β : AHeap} (h : Grow v xs β) : alens [v] = some (.int .i64 xs.length) := by
  rcases h with ⟨⟨z, rfl⟩, rfl, rfl⟩ | ⟨b, rfl, rfl⟩ <;> rfl
theorem Grow.elems {v : AVal} {xs : List UInt8} {β τ : AHeap} (h : Grow v xs β) : elemsOf (β ++ τ) 1 v = some (bytes xs) := by
  rcases h with ⟨⟨z, rfl⟩, rfl, rfl⟩ | ⟨b, rfl, rfl⟩
  · simp [elemsOf, bytes]
  · have e : (bytes xs).take xs.length = bytes xs := List.take_of_length_le (by simp [bytes_length])
    simp [elemsOf, hget, bytes_length, e]

theorem st_lens {d : Nat} {args : List AOpd} {v x : AVal} (h1 : evs F args = some [v]) (h2 : alens [v] = some x) (h : aops P l (fset d (some x) F) σ Q) : aops P (⟨some d, .lens, args, none⟩ :: l) F σ Q :=
  st_q h1 h2 rfl h

/-- append to such a row. -/
theorem st_appO {d : Nat} {args : List AOpd} {v x : AVal} {xs ys : List UInt8} {β τ : AHeap} (ho : Grow v xs β) (h1 : evs F args = some [v, x]) (hy : elemsOf (β ++ τ) 1 x = some (bytes ys)) (hb : xs.length + ys.length ≤ 140737488355328)
    (h : ∀ b', b' ∉ keys (β ++ τ) → aops P l (fset d (some (.arr 1 b' 0 (xs ++ ys).length)) F) ((b', .cells 1 (bytes (xs ++ ys))) :: τ) Q) : aops P (⟨some d, .app 1 1, args, none⟩ :: l) F (β ++ τ) Q := by
  rcases ho with ⟨⟨z, rfl⟩, rfl, rfl⟩ | ⟨b, rfl, rfl⟩
  · refine st_app0 h1 hy (by simpa [bytes_length] using hb) fun b' hb' => ?_
    have := h b' hb'
    simpa [bytes_length] using this
  · refine st_app h1 (xs := bytes xs) (ys := bytes ys) (sz := 1) (by simp) (by simp [bytes_length]) hy (by simpa [bytes_length] using hb) fun b' hb' => ?_
    have := h b' hb'
    simpa [bytes_length, bytes_app, hren] using this

/-! ### The same value, seen otherwise -/

def VRle (l l' : List AVal) : Prop := ∀ K vs, VRel K l vs → VRel K l' vs
theorem VRle.refl (l : List AVal) : VRle l l := fun _ _ h => h
theorem VRle.cons {a a' : AVal} {l l' : List AVal} (h1 : VRle [a] [a']) (h2 : VRle l l') : VRle (a :: l) (a' :: l') := fun K vs h => by
  cases vs with
  | nil => exact absurd h.length (by simp)
  | cons v vs' => exact VRel.cons (h1 K _ h.inv.1) (h2 K _ h.inv.2)
theorem VRle.same {a : AVal} {l l' : List AVal} (h2 : VRle l l') : VRle (a :: l) (a :: l') := VRle.cons (VRle.refl _) h2
theorem VRle.tup {l l' : List AVal} (h : VRle l l') : VRle [.tup l] [.tup l'] := fun K vs hv => by
  cases hv with
  | tup hv r => exact .tup (h K _ hv) r
theorem VRle.nil_slc (z z' : Nat) (f : Bool) : VRle [.slc z [] f] [.slc z' [] f] := fun K vs hv => by
  cases hv with
  | slc0 hf r => exact .slc0 hf r
  | slc hn he hs hm hv hc hf r =>
    simp only [List.length_nil] at hn
    subst hn
    exact .slc0 hf r
theorem VShift.of_le {r r' : AVal} {σ τ : AHeap} (h : VRle [r] [r']) (hs : HSub τ σ) : VShift r σ r' τ := fun K w v h1 h2 => ⟨K, Kr.le.refl K, hs K w h1, h K _ h2⟩
theorem ACalls.args {f : FuncId} {as9 as9' : List AVal} {σ : AHeap} {R : AVal → AHeap → Prop} (h : VRle as9 as9') (hc : ACalls P f as9' σ R) : ACalls P f as9 σ R :=
  fun K w vs hr hv => hc K w vs hr (h K _ hv)
theorem ares_v {res : List ARes} {R : AVal → AHeap → Prop} {F : AFrame} {σ : AHeap} {vs : List AVal} (h : resVals F σ res = some vs) {r : AVal} {τ : AHeap} (hv : VRle [tupOf vs] [r]) (hs : HSub τ σ) (hR : R r τ) : ARet res R .ret F σ :=
  ⟨vs, h, r, τ, VShift.of_le hv hs, hR⟩

/-! ### Sums -/

theorem w64 (n : Int) (h : -9223372036854775808 ≤ n) (h' : n ≤ 9223372036854775807) : IntKind.wrap .i64 n = n := by
  simp [IntKind.wrap, IntKind.bits, IntKind.signed]; omega
theorem w8 (n : Int) : IntKind.wrap .u8 n = n % 256 := by simp [IntKind.wrap, IntKind.bits, IntKind.signed]
theorem w32 (n : Int) : IntKind.wrap .u32 n = n % 4294967296 := by simp [IntKind.wrap, IntKind.bits, IntKind.signed]

end Go.Abs
