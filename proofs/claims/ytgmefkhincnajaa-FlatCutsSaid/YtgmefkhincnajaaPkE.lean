/- Part E of a proof: merged by program. -/
import Derived.Test.YtgmefkhincnajaaPkD
namespace Go.Abs
open Go Go.Proofs
set_option linter.unusedVariables false
set_option linter.unusedSimpArgs false
set_option maxHeartbeats 4000000
attribute [local irreducible] AWp aops KP
structure Col.Fit (c : Col) : Prop where
  here : c.here.length ≤ 140737488355328
  ints : c.ints.length ≤ 140737488355328
  ns : c.ns.length ≤ 140737488355328
  texts : c.texts.length ≤ 140737488355328
  lens : c.lens.length ≤ 140737488355328
  int : ∀ i ∈ c.ints, -9223372036854775808 ≤ i ∧ i ≤ 9223372036854775807
  text : ∀ t ∈ c.texts, t.length ≤ 140737488355328
def getV (c : Col) (i : Nat) : Vl := .mk false (if i < c.texts.length then 0 else c.ints.getD i 0) (c.ns.getD i 0) (c.texts.getD i []) []
def getA (c : Col) (i : Nat) : Int := if i < c.texts.length then ((c.texts.getD i []).length : Int) else c.ints.getD i 0
def Zy1 (k : Int) (v : Vl) (add : Int) (s : Stt) : Stt := Zxq (if Zxk k = true then Zxr k s v v else s) add
def Zy2 (k : Int) (c : Col) : Nat → Nat → Stt → Stt
  | 0, _, s => s
  | m + 1, i, s => Zy2 k c m (i + 1) (Zy1 k (getV c i) (getA c i) s)
def of0 (k : Int) (c : Col) (n : Nat) : Stt := ⟨n, hasF c, false, vl0, vl0, Zxj k, 0⟩
def ofF (k : Int) (c : Col) : Stt := Zy2 k c (max c.ints.length c.texts.length) 0 (of0 k c (c.here.count true))
theorem Zbx.content {b sz : Nat} {xs ys : List Z0} {σ : Zc} (hl : ys.length = xs.length) (he : ∀ y ∈ ys, y.elem sz) (hv : VRle (flat xs) (flat ys)) : Zbx ((b, .cells sz xs) :: σ) ((b, .cells sz ys) :: σ) :=
  fun K w r => ⟨K, Kr.le.refl K, r.content hl he (hv K)⟩
theorem VRle.nilF (z z' : Nat) : VRle [.slc z [] true] [.slc z' [] false] := (VRle.nil_slc z z' true).trans VRle.full
theorem Zy4 {F : Z26} {σ : Zc} {b s i sz : Nat} {cs xs : List Z0} (hF : F i = some (.ptr b 0 0)) (hg : Zd σ b = some (.cells s (.agg cs :: xs))) (hl : cs.length = sz) : Z8l F σ [.cell i true sz] = some [.agg cs] := by
  subst hl
  simp [Z8l, Z8k, hF, Z1l, hg, Z19, Z0.cells]
end Go.Abs
namespace Go.Abs
open Go Go.Proofs
set_option linter.unusedVariables false
set_option linter.unusedSimpArgs false
set_option maxHeartbeats 4000000
attribute [local irreducible] AWp aops KP
structure Col.Sm (c : Col) : Prop where
  here : c.here.length ≤ 16384
  ints : c.ints.length ≤ c.here.length
  ns : c.ns.length ≤ c.here.length
  texts : c.texts.length ≤ c.here.length
  lens : c.lens.length ≤ c.here.length
theorem Zyo {b : Nat} {x : Zb} {a m r : Zc} : HSub (m ++ ((b, x) :: (a ++ r))) ((b, x) :: (a ++ (m ++ r))) := HSub.of_perm (Zyb (b, x) a m r)
theorem Zyp {b : Nat} {x : Zb} {a m r : Zc} : HSub ((b, x) :: (a ++ (m ++ r))) (m ++ ((b, x) :: (a ++ r))) := HSub.of_perm (Zyb (b, x) a m r).symm
theorem quo2 (n : Nat) (h : n ≤ 9223372036854775807) : IntKind.wrap .i64 ((n : Int).tdiv 2) = ((n / 2 : Nat) : Int) := by
  have e : (n : Int).tdiv 2 = ((n / 2 : Nat) : Int) := by rw [Int.tdiv_eq_ediv_of_nonneg (by omega)]; omega
  rw [e, w64 _ (by omega) (by omega)]
end Go.Abs
namespace Go.Abs
open Go Go.Proofs
set_option linter.unusedVariables false
set_option linter.unusedSimpArgs false
set_option maxHeartbeats 4000000
attribute [local irreducible] AWp aops KP
theorem Z1i0 {c : Col} (b : Bool) (h : c.Sm) (hl : c.here.length < 16384) : (Zyg b c).Sm := by
  obtain ⟨h1, h2, h3, h4, h5⟩ := h
  constructor <;> simp only [Zyg, List.length_append, List.length_singleton] <;> omega
theorem Z1i1 {c : Col} (k : Int) (v : Vl) (h : c.Sm) (hl : c.here.length < 16384) : (addC k v c).Sm := by
  obtain ⟨h1, h2, h3, h4, h5⟩ := h
  unfold addC Zyf Zye Zyg
  (repeat' split) <;> constructor <;> simp only [List.length_append, List.length_singleton] <;> omega
theorem Z1i2 {cs : List Col} {i : Nat} {c : Col} (h : ∀ c ∈ cs, c.Sm) (hc : c.Sm) : ∀ x ∈ cs.set i c, x.Sm := fun x hx => by
  rcases List.mem_or_eq_of_mem_set hx with h' | h'
  · exact h x h'
  · rw [h']; exact hc
theorem Z1i3 (l : List Nd) : ∀ (v : Vl) (at_ : Nat) (cs : List Col), (putF l at_ v cs).1.length = cs.length := by
  refine Vl.ind fun nu i n bs vks ih at_ cs => ?_
  have hL : ∀ (vks : List Vl), (∀ v ∈ vks, ∀ (at_ : Nat) (cs : List Col), (putF l at_ v cs).1.length = cs.length) → ∀ (j : Nat) (cs : List Col), (putL l at_ i j vks cs).1.length = cs.length := by
    intro vks
    induction vks with
    | nil => intro _ j cs; rfl
    | cons v vs ih2 =>
      intro hv j cs
      rw [putL]
      split
      · rw [ih2 (fun v h => hv v (List.mem_cons_of_mem _ h)), hv v (by simp)]
      · exact hv v (by simp) _ _
  rw [putF]
  split
  · rfl
  · split
    · rw [List.length_set]
    · rw [hL vks (fun v h at_ cs => ih v h at_ cs), List.length_set]
theorem Z1i4 (l : List Nd) : ∀ (v : Vl) (at_ : Nat) (cs : List Col), (∀ c ∈ cs, c.Sm) → ∀ c ∈ (putF l at_ v cs).1, c.Sm := by
  refine Vl.ind fun nu i n bs vks ih at_ cs h => ?_
  have hL : ∀ (vks : List Vl), (∀ v ∈ vks, ∀ (at_ : Nat) (cs : List Col), (∀ c ∈ cs, c.Sm) → ∀ c ∈ (putF l at_ v cs).1, c.Sm) → ∀ (j : Nat) (cs : List Col), (∀ c ∈ cs, c.Sm) → ∀ c ∈ (putL l at_ i j vks cs).1, c.Sm := by
    intro vks
    induction vks with
    | nil => intro _ j cs h; exact h
    | cons v vs ih2 =>
      intro hv j cs h
      rw [putL]
      split
      · exact ih2 (fun v h => hv v (List.mem_cons_of_mem _ h)) _ _ (hv v (by simp) _ _ h)
      · exact hv v (by simp) _ _ h
  have hD : (cs.getD at_ col0).Sm := by
    rw [List.getD_eq_getElem?_getD]
    cases e : cs[at_]? with
    | none => exact ⟨by simp [col0], by simp [col0], by simp [col0], by simp [col0], by simp [col0]⟩
    | some c => exact h c (List.mem_of_getElem? e)
  rw [putF]
  split
  · exact h
  · rename_i hlt
    split
    · exact Z1i2 h (Z1i0 _ hD (by omega))
    · exact hL vks (fun v hv => ih v hv) _ _ (Z1i2 h (Z1i1 _ _ hD (by omega)))
theorem Zy9.ex : ∀ cs : List Col, ∃ ws β, Zy9 ws cs β
  | [] => ⟨[], [], rfl⟩
  | c :: cs => by
    obtain ⟨ws, γ, h⟩ := Zy9.ex cs
    obtain ⟨v1, β1, h1⟩ := Zbr.ex 1 (c.here.map .bool)
    obtain ⟨v2, β2, h2⟩ := Zbr.ex 1 (c.ints.map (.int .i64))
    obtain ⟨v3, β3, h3⟩ := Zbr.ex 1 (c.ns.map (.int .i64))
    obtain ⟨v4, β4, h4⟩ := Zbr.ex 1 (Zy8 c.texts)
    obtain ⟨v5, β5, h5⟩ := Zbr.ex 1 (c.lens.map (.int .i64))
    exact ⟨_ :: ws, _, _, γ, ⟨v1, v2, v3, v4, v5, β1, β2, β3, β4, β5, rfl, h1, h2, h3, h4, h5, rfl⟩, h, rfl⟩
end Go.Abs
namespace Go.Abs
open Go Go.Proofs
set_option linter.unusedVariables false
set_option linter.unusedSimpArgs false
theorem Zbr.one {sz : Nat} {v : Z0} {xs : List Z0} {β : Zc} (h : Zbr sz v xs β) : v.one = true := by
  rcases h with ⟨⟨z, rfl⟩, _, _⟩ | ⟨b, rfl, _⟩ <;> rfl
theorem oneS {z : Nat} {xs : List Z0} {f : Bool} : (Z0.slc z xs f).one = true := rfl
theorem Zbx.cell {b sz : Nat} {A B p q : List Z0} {v : Z0} {ks : List Z0} {β σ : Zc} (hg : Zbr 1 v ks β) (he : ∀ y ∈ A ++ .agg (p ++ .slc 1 ks false :: q) :: B, y.elem sz) :
    Zbx ((b, .cells sz (A ++ .agg (p ++ v :: q) :: B)) :: (β ++ σ)) ((b, .cells sz (A ++ .agg (p ++ .slc 1 ks false :: q) :: B)) :: σ) := by
  rcases hg with ⟨⟨z, rfl⟩, rfl, rfl⟩ | ⟨bk, rfl, rfl⟩
  · refine Zbx.content (by simp) he ?_
    simp only [Z4, Z3, Z0.cells]
    exact VRle.app (VRle.refl _) (VRle.app (VRle.app (VRle.refl _) (VRle.cons (VRle.nilF _ _) (VRle.refl _))) (VRle.refl _))
  · refine Zbx.inner (bk := bk) (s := 1) (ks := ks) (by simp) he fun K hK vs hv => ?_
    simp only [Z4, Z3, Z0.cells] at hv ⊢
    obtain ⟨m1, m2, rfl, g1, g2⟩ := hv.split
    obtain ⟨m3, m4, rfl, g3, g4⟩ := g2.split
    obtain ⟨m5, m6, rfl, g5, g6⟩ := g3.split
    refine g1.append ((g5.append ?_).append g4)
    have h2 : (Z0.arr 1 bk 0 ks.length :: q) = [Z0.arr 1 bk 0 ks.length] ++ q := rfl
    rw [h2] at g6
    obtain ⟨m7, m8, rfl, g7, g8⟩ := g6.split
    have h3 : (Z0.slc 1 ks false :: q) = [Z0.slc 1 ks false] ++ q := rfl
    rw [h3]
    refine Z1.append ?_ g8
    have hl := g7.length
    match m7, g7, hl with
    | [x], g7, _ => exact hK x g7
theorem ColG.elem {w : Z0} {c : Col} {β : Zc} (h : ColG w c β) : w.elem 5 := by
  obtain ⟨v1, v2, v3, v4, v5, β1, β2, β3, β4, β5, rfl, g1, g2, g3, g4, g5, rfl⟩ := h
  exact ⟨rfl, by simp [Z0.cells, g1.one, g2.one, g3.one, g4.one, g5.one]⟩
theorem Zy9.elem : ∀ {ws : List Z0} {cs : List Col} {β : Zc}, Zy9 ws cs β → ∀ w ∈ ws, w.elem 5
  | [], [], _, _, w, h => by cases h
  | _ :: _, _ :: _, _, ⟨_, _, h1, h2, _⟩, w, hm => by
    rcases List.mem_cons.1 hm with h | h
    · rw [h]; exact h1.elem
    · exact h2.elem w h
  | [], _ :: _, _, h, _, _ => h.elim
  | _ :: _, [], _, h, _, _ => h.elim
theorem Zy9.freeze : ∀ {ws : List Z0} {cs : List Col} {β : Zc}, Zy9 ws cs β → ∀ (A : List Z0), (∀ y ∈ A, y.elem 5) → ∀ (b : Nat) (σ : Zc), Zbx ((b, .cells 5 (A ++ ws)) :: (β ++ σ)) ((b, .cells 5 (A ++ cs.map encC)) :: σ)
  | [], [], _, h, A, hA, b, σ => by
    have h : _ = [] := h
    subst h
    exact Zbx.sub (HSub.refl _)
  | [], _ :: _, _, h, _, _, _, _ => h.elim
  | _ :: _, [], _, h, _, _, _, _ => h.elim
  | w :: ws, c :: cs, β, ⟨β0, γ, h1, h2, h3⟩, A, hA, b, σ => by
    subst h3
    obtain ⟨v1, v2, v3, v4, v5, β1, β2, β3, β4, β5, rfl, g1, g2, g3, g4, g5, rfl⟩ := h1
    have hws := h2.elem
    have el : ∀ l : List Z0, l.length = 5 → (∀ x ∈ l, x.one = true) → ∀ y ∈ A ++ .agg l :: ws, y.elem 5 := by
      intro l hl ho y hy
      rcases List.mem_append.1 hy with h | h
      · exact hA y h
      · rcases List.mem_cons.1 h with h | h
        · rw [h]; exact ⟨hl, ho⟩
        · exact hws y h
    have hA' : ∀ y ∈ A ++ [encC c], y.elem 5 := by
      intro y hy
      rcases List.mem_append.1 hy with h | h
      · exact hA y h
      · simp only [List.mem_singleton] at h
        rw [h]; exact Z0.fit_iff.1 rfl
    have hr := h2.freeze (A ++ [encC c]) hA' b σ
    simp only [List.append_assoc, List.cons_append, List.nil_append, List.map_cons] at hr ⊢
    refine (Zbx.cell (p := []) (q := [v2, v3, v4, v5]) g1 (el _ rfl (by simp [g2.one, g3.one, g4.one, g5.one, oneS]))).trans ?_
    refine (Zbx.cell (p := [.slc 1 (c.here.map .bool) false]) (q := [v3, v4, v5]) g2 (el _ rfl (by simp [g3.one, g4.one, g5.one, oneS]))).trans ?_
    refine (Zbx.cell (p := [.slc 1 (c.here.map .bool) false, .slc 1 (c.ints.map (.int .i64)) false]) (q := [v4, v5]) g3 (el _ rfl (by simp [g4.one, g5.one, oneS]))).trans ?_
    refine (Zbx.cell (p := [.slc 1 (c.here.map .bool) false, .slc 1 (c.ints.map (.int .i64)) false, .slc 1 (c.ns.map (.int .i64)) false]) (q := [v5]) g4 (el _ rfl (by simp [g5.one, oneS]))).trans ?_
    refine (Zbx.cell (p := [.slc 1 (c.here.map .bool) false, .slc 1 (c.ints.map (.int .i64)) false, .slc 1 (c.ns.map (.int .i64)) false, .slc 1 (Zy8 c.texts) false]) (q := []) g5 (el _ rfl (by simp [oneS]))).trans ?_
    exact hr
end Go.Abs
namespace Go.Abs
open Go Go.Proofs
set_option linter.unusedVariables false
set_option linter.unusedSimpArgs false
set_option maxHeartbeats 4000000
attribute [local irreducible] AWp aops KP
def rowR (k : Int) (ns : List (List UInt8)) (ks : List Ty) (l p s : Int) (vk : Z0) (parent : Int) (deep : Nat) : Z0 :=
  .agg [.int .i64 k, .slc 1 (ns.map .str) false, .slc 6 (Zln ks) false, .int .i64 l, .int .i64 p, .int .i64 s, vk, .int .i64 parent, .int .i64 (deep : Int)]
end Go.Abs
namespace Go.Abs
open Go Go.Proofs
end Go.Abs
namespace Go.Abs
open Go Go.Proofs
set_option linter.unusedVariables false
set_option linter.unusedSimpArgs false
set_option maxHeartbeats 4000000
attribute [local irreducible] AWp aops KP
def rowE (t : Ty) (v : Vl) : Nat := if vchk t v = 0 ∧ v.null = true then 1 else vchk t v
def rowsE (t : Ty) : List Vl → Nat
  | [] => 0
  | v :: vs => if rowE t v ≠ 0 then rowE t v else rowsE t vs
def Z1i5 (l : List Nd) : List Vl → List Col → List Col × Bool
  | [], cols => (cols, true)
  | v :: vs, cols => if (putF l 0 v cols).2 = true then Z1i5 l vs (putF l 0 v cols).1 else ((putF l 0 v cols).1, false)
def Z1i6 (t : Ty) (rows : List Vl) : List Col × Nat :=
  if Zlx t ≠ 0 then ([], Zlx t)
  else if rowsE t rows ≠ 0 then ([], rowsE t rows)
  else if (Z1i5 (Zm4 t) rows (List.replicate (Zm4 t).length col0)).2 = true then ((Z1i5 (Zm4 t) rows (List.replicate (Zm4 t).length col0)).1, 0)
  else ([], 4)
theorem Z1i7 (t : Ty) {rows : List Vl} {j : Nat} (h : j < rows.length) : rowsE t (rows.drop j) = if rowE t rows[j] ≠ 0 then rowE t rows[j] else rowsE t (rows.drop (j + 1)) := by
  rw [List.drop_eq_getElem_cons h, rowsE]
theorem Z1i8 {t : Ty} : ∀ {rows : List Vl}, rowsE t rows = 0 → ∀ v ∈ rows, vchk t v = 0 ∧ v.null = false
  | [], _, v, hv => by cases hv
  | r :: rows, h, v, hv => by
    rw [rowsE] at h
    split at h
    · omega
    · rename_i h0
      rcases List.mem_cons.1 hv with e | e
      · rw [e]
        unfold rowE at h0
        split at h0
        · omega
        · rename_i h1
          have h2 : vchk t r = 0 := by omega
          refine ⟨h2, ?_⟩
          cases e2 : r.null with
          | false => rfl
          | true => exact absurd ⟨h2, e2⟩ h1
      · exact Z1i8 h v e
end Go.Abs
namespace Go.Abs
open Go Go.Proofs
set_option linter.unusedVariables false
set_option linter.unusedSimpArgs false
set_option maxHeartbeats 4000000
attribute [local irreducible] AWp aops KP
structure Stt.Fit (s : Stt) : Prop where
  min : s.min.Cl
  max : s.max.Cl
  sum : -9223372036854775808 ≤ s.sum ∧ s.sum ≤ 9223372036854775807
def Z1hw (a b : Stt) : Stt := ⟨IntKind.wrap .i64 (a.count + b.count), a.null || b.null, false, vl0, vl0, a.sums && b.sums, 0⟩
def Z1hx (a b : Stt) : Stt := if (Z1hw a b).sums = true then Zxq (Zxq (Z1hw a b) a.sum) b.sum else Z1hw a b
def Z1hy (k : Int) : List Stt → Stt → Stt
  | [], s => s
  | x :: xs, s => Z1hy k xs (if x.has = true then Zxr k s x.min x.max else s)
def Z1hz (k : Int) (a b : Stt) : Stt := Z1hy k [a, b] (Z1hx a b)
end Go.Abs
namespace Go.Abs
open Go Go.Proofs
set_option linter.unusedVariables false
set_option linter.unusedSimpArgs false
set_option maxHeartbeats 4000000
attribute [local irreducible] AWp aops KP
def sameV (a b : Vl) : Bool := (a.null == b.null) && (decide (a.i = b.i) && (decide (a.n = b.n) && (decide (a.b = b.b) && decide ((a.kids.length : Int) = (b.kids.length : Int)))))
def sameS (a b : Stt) : Bool := decide (a.count = b.count) && ((a.null == b.null) && ((a.has == b.has) && (sameV a.min b.min && (sameV a.max b.max && ((a.sums == b.sums) && decide (a.sum = b.sum))))))
end Go.Abs
namespace Go.Abs
open Go Go.Proofs
set_option linter.unusedVariables false
set_option linter.unusedSimpArgs false
theorem Z1jr (l : List Nd) (p : Nat → Col → Prop) (q : Vl → Prop) (hq : ∀ v, q v → ∀ k ∈ v.kids, q k) (h0 : ∀ j c, p j c → p j (Zyg false c))
    (h1 : ∀ j c v, p j c → q v → v.null = false → p j (addC (Zyh l j) v c)) : ∀ (v : Vl) (at_ : Nat) (cs : List Col), q v → (∀ j c, cs[j]? = some c → p j c) → ∀ j c, (putF l at_ v cs).1[j]? = some c → p j c := by
  refine Vl.ind fun nu i n bs vks ih at_ cs hv h => ?_
  have hL : ∀ (vks : List Vl), (∀ v ∈ vks, q v) → (∀ v ∈ vks, ∀ (at_ : Nat) (cs : List Col), q v → (∀ j c, cs[j]? = some c → p j c) → ∀ j c, (putF l at_ v cs).1[j]? = some c → p j c) →
      ∀ (j : Nat) (cs : List Col), (∀ j c, cs[j]? = some c → p j c) → ∀ j' c, (putL l at_ i j vks cs).1[j']? = some c → p j' c := by
    intro vks
    induction vks with
    | nil => intro _ _ j cs h; exact h
    | cons v vs ih2 =>
      intro hqs hv j cs h
      rw [putL]
      split
      · exact ih2 (fun v h => hqs v (List.mem_cons_of_mem _ h)) (fun v h => hv v (List.mem_cons_of_mem _ h)) _ _ (hv v (by simp) _ _ (hqs v (by simp)) h)
      · exact hv v (by simp) _ _ (hqs v (by simp)) h
  have Ze : ∀ f : Col → Col, (∀ c, p at_ c → p at_ (f c)) → ∀ j c, (cs.set at_ (f (cs.getD at_ col0)))[j]? = some c → p j c := by
    intro f hf j c e
    rw [List.getElem?_set] at e
    split at e
    · rename_i hj
      subst hj
      split at e
      · rename_i hlt
        simp only [Option.some.injEq] at e
        subst e
        rw [List.getD_eq_getElem?_getD, List.getElem?_eq_getElem hlt, Option.getD_some]
        exact hf _ (h _ _ (List.getElem?_eq_getElem hlt))
      · cases e
    · exact h j c e
  rw [putF]
  split
  · exact h
  · split
    · exact Ze (Zyg false) (fun c hc => h0 _ c hc)
    · rename_i hnu
      exact hL vks (fun k hk => hq _ hv k hk) (fun v hm at_ cs => ih v hm at_ cs) _ _ (Ze (fun c => addC (Zyh l at_) (.mk nu i n bs vks) c) (fun c hc => h1 _ c _ hc hv (by simpa [Vl.null] using hnu)))
theorem Z1js (l : List Nd) (p : Nat → Col → Prop) (q : Vl → Prop) (hq : ∀ v, q v → ∀ k ∈ v.kids, q k) (h0 : ∀ j c, p j c → p j (Zyg false c))
    (h1 : ∀ j c v, p j c → q v → v.null = false → p j (addC (Zyh l j) v c)) : ∀ (rows : List Vl) (cs : List Col), (∀ v ∈ rows, q v) → (∀ j c, cs[j]? = some c → p j c) → ∀ j c, (Z1i5 l rows cs).1[j]? = some c → p j c
  | [], cs, _, h => h
  | v :: vs, cs, hv, h => by
    rw [Z1i5]
    split
    · exact Z1js l p q hq h0 h1 vs _ (fun v hm => hv v (List.mem_cons_of_mem _ hm)) (Z1jr l p q hq h0 h1 v 0 cs (hv v (by simp)) h)
    · exact Z1jr l p q hq h0 h1 v 0 cs (hv v (by simp)) h
theorem Z1jt (l : List Nd) : ∀ (rows : List Vl) (cs : List Col), (Z1i5 l rows cs).1.length = cs.length
  | [], cs => rfl
  | v :: vs, cs => by
    rw [Z1i5]
    split
    · rw [Z1jt l vs, Z1i3]
    · exact Z1i3 l v 0 cs
theorem Z1ju (l : List Nd) : ∀ (rows : List Vl) (cs : List Col), (∀ c ∈ cs, c.Sm) → ∀ c ∈ (Z1i5 l rows cs).1, c.Sm
  | [], cs, h => h
  | v :: vs, cs, h => by
    rw [Z1i5]
    split
    · exact Z1ju l vs _ (Z1i4 l v 0 cs h)
    · exact Z1i4 l v 0 cs h
inductive Vl.Sht : Vl → Prop
  | mk {v : Vl} (h1 : v.b.length ≤ 4096) (h2 : -9223372036854775808 ≤ v.i ∧ v.i ≤ 9223372036854775807) (h : ∀ k ∈ v.kids, Vl.Sht k) : Vl.Sht v
theorem Z1jv (t : Ty) (i : Int) : ∀ (ks : List Vl) (j : Nat), Zmg t i j ks = 0 → ∀ k ∈ ks, ∃ u, vchk u k = 0
  | [], _, _, k, hk => by cases hk
  | v :: vs, j, h, k, hk => by
    rw [Zmg] at h
    split at h
    · omega
    · split at h
      · rename_i h1; exact absurd h h1
      · rename_i h1
        rcases List.mem_cons.1 hk with e | e
        · rw [e]; exact ⟨_, by simpa using h1⟩
        · exact Z1jv t i vs _ h k e
theorem Z1jw : ∀ (v : Vl) (t : Ty), v.Fit → vchk t v = 0 → v.Sht := by
  refine Vl.ind fun nu i n bs vks ih t hf h => ?_
  cases hf with
  | mk hi hbl hkl hks =>
  rw [vchk] at h
  split at h
  · split at h
    · omega
    · rename_i h1
      simp only [not_or, Decidable.not_not] at h1
      obtain ⟨_, _, hb, hk⟩ := h1
      have hk' : vks = [] := List.length_eq_zero_iff.1 hk
      subst hb hk'
      exact .mk (by simp [Vl.b]) hi (by simp [Vl.kids])
  · split at h
    · rename_i h1; exact absurd h h1
    · rename_i h1
      have h1' : ownV t i n bs vks.length = 0 := by simpa using h1
      refine .mk ?_ hi fun k hk => ?_
      · show bs.length ≤ 4096
        unfold ownV at h1'
        split at h1'
        · omega
        · split at h1'
          · omega
          · rename_i h2
            omega
      · obtain ⟨u, hu⟩ := Z1jv t i vks _ h k hk
        exact ih k hk u (hks k hk) hu
structure Col.Rng (c : Col) : Prop where
  int : ∀ i ∈ c.ints, -9223372036854775808 ≤ i ∧ i ≤ 9223372036854775807
  text : ∀ t ∈ c.texts, t.length ≤ 4096
theorem Z1jx {α : Type} {p : α → Prop} {l : List α} {a : α} (h : ∀ x ∈ l, p x) (ha : p a) : ∀ x ∈ l ++ [a], p x := fun x hx => by
  rcases List.mem_append.1 hx with e | e
  · exact h x e
  · rw [List.mem_singleton.1 e]; exact ha
theorem Z1jy {c : Col} {k : Int} {v : Vl} (h : c.Rng) (hv : v.Sht) : (addC k v c).Rng := by
  cases hv with
  | mk h1 h2 _ =>
  obtain ⟨g1, g2⟩ := h
  have h3 : (Zye k v (Zyg true c)).Rng := by
    unfold Zye Zyg
    split
    · exact ⟨g1, Z1jx g2 h1⟩
    · split
      · exact ⟨g1, g2⟩
      · split
        · exact ⟨g1, g2⟩
        · split
          · exact ⟨Z1jx g1 h2, g2⟩
          · exact ⟨g1, g2⟩
  unfold addC Zyf
  split
  · exact ⟨h3.1, h3.2⟩
  · exact h3
structure Col.Good (k : Int) (c : Col) : Prop where
  texts : c.texts.length = if Zmb k = true then c.here.count true else 0
  ints : c.ints.length = if Zmb k = true ∨ k = 10 ∨ k = 11 ∨ k = 12 then 0 else c.here.count true
  ns : c.ns.length = if k = 9 then c.here.count true else 0
  lens : c.lens.length = if k = 10 ∨ k = 11 then c.here.count true else 0
theorem Z1jz {k : Int} (h : Zmb k = true) : k = 7 ∨ k = 16 ∨ k = 17 ∨ k = 8 := by
  simp only [Zmb, Bool.or_eq_true, decide_eq_true_eq] at h
  omega
theorem Z1k0 {k : Int} {c : Col} (h : c.Good k) : (Zyg false c).Good k := by
  obtain ⟨h1, h2, h3, h4⟩ := h
  constructor <;> simp only [Zyg, List.count_append, List.count_singleton] <;> simpa
theorem Z1k1 {k : Int} {c : Col} {v : Vl} (h : c.Good k) : (addC k v c).Good k := by
  obtain ⟨h1, h2, h3, h4⟩ := h
  have hc : (c.here ++ [true]).count true = c.here.count true + 1 := by simp
  cases ht : Zmb k with
  | true =>
    have hk := Z1jz ht
    rw [if_pos ht] at h1
    rw [if_pos (.inl ht)] at h2
    rw [if_neg (by omega)] at h3 h4
    have e : addC k v c = ⟨c.here ++ [true], c.ints, c.ns, c.texts ++ [v.b], c.lens⟩ := by rw [addC, Zyf, if_neg (by omega), Zye, if_pos ht]; rfl
    rw [e]
    exact ⟨by rw [if_pos ht, hc]; simp [h1], by rw [if_pos (.inl ht)]; exact h2, by rw [if_neg (by omega)]; exact h3, by rw [if_neg (by omega)]; exact h4⟩
  | false =>
    have hf : ¬ Zmb k = true := by simp [ht]
    rw [if_neg hf] at h1
    by_cases h10 : k = 10
    · rw [if_pos (.inr (.inl h10))] at h2
      rw [if_neg (by omega)] at h3
      rw [if_pos (.inl h10)] at h4
      have e : addC k v c = ⟨c.here ++ [true], c.ints, c.ns, c.texts, c.lens ++ [(v.kids.length : Int)]⟩ := by rw [addC, Zyf, if_neg (by omega), Zye, if_neg hf, if_pos h10]; rfl
      rw [e]
      exact ⟨by rw [if_neg hf]; exact h1, by rw [if_pos (.inr (.inl h10))]; exact h2, by rw [if_neg (by omega)]; exact h3, by rw [if_pos (.inl h10), hc]; simp [h4]⟩
    · by_cases h11 : k = 11
      · rw [if_pos (.inr (.inr (.inl h11)))] at h2
        rw [if_neg (by omega)] at h3
        rw [if_pos (.inr h11)] at h4
        have e : addC k v c = ⟨c.here ++ [true], c.ints, c.ns, c.texts, c.lens ++ [((v.kids.length / 2 : Nat) : Int)]⟩ := by rw [addC, Zyf, if_neg (by omega), Zye, if_neg hf, if_neg h10, if_pos h11]; rfl
        rw [e]
        exact ⟨by rw [if_neg hf]; exact h1, by rw [if_pos (.inr (.inr (.inl h11)))]; exact h2, by rw [if_neg (by omega)]; exact h3, by rw [if_pos (.inr h11), hc]; simp [h4]⟩
      · rw [if_neg (by omega)] at h4
        by_cases h12 : k = 12
        · rw [if_pos (.inr (.inr (.inr h12)))] at h2
          rw [if_neg (by omega)] at h3
          have e : addC k v c = ⟨c.here ++ [true], c.ints, c.ns, c.texts, c.lens⟩ := by rw [addC, Zyf, if_neg (by omega), Zye, if_neg hf, if_neg h10, if_neg h11, if_neg (by omega)]; rfl
          rw [e]
          exact ⟨by rw [if_neg hf]; exact h1, by rw [if_pos (.inr (.inr (.inr h12)))]; exact h2, by rw [if_neg (by omega)]; exact h3, by rw [if_neg (by omega)]; exact h4⟩
        · have hn : ¬ (Zmb k = true ∨ k = 10 ∨ k = 11 ∨ k = 12) := by rintro (h | h | h | h) <;> simp_all
          rw [if_neg hn] at h2
          by_cases h9 : k = 9
          · rw [if_pos h9] at h3
            have e : addC k v c = ⟨c.here ++ [true], c.ints ++ [v.i], c.ns ++ [v.n], c.texts, c.lens⟩ := by rw [addC, Zyf, if_pos h9, Zye, if_neg hf, if_neg h10, if_neg h11, if_pos h12]; rfl
            rw [e]
            exact ⟨by rw [if_neg hf]; exact h1, by rw [if_neg hn, hc]; simp [h2], by rw [if_pos h9, hc]; simp [h3], by rw [if_neg (by omega)]; exact h4⟩
          · rw [if_neg h9] at h3
            have e : addC k v c = ⟨c.here ++ [true], c.ints ++ [v.i], c.ns, c.texts, c.lens⟩ := by rw [addC, Zyf, if_neg h9, Zye, if_neg hf, if_neg h10, if_neg h11, if_pos h12]; rfl
            rw [e]
            exact ⟨by rw [if_neg hf]; exact h1, by rw [if_neg hn, hc]; simp [h2], by rw [if_neg h9]; exact h3, by rw [if_neg (by omega)]; exact h4⟩
theorem Z1k2 (k : Int) : col0.Good k := by constructor <;> simp [col0]
def getR (k : Int) (c : Col) (j : Nat) : Vl :=
  if Zmb k = true then .mk false 0 0 (c.texts.getD j []) []
  else if Zlt k = true then .mk false (c.ints.getD j 0) (if k = 9 then c.ns.getD j 0 else 0) [] []
  else vl0
def getRA (k : Int) (c : Col) (j : Nat) : Int :=
  if Zmb k = true then ((c.texts.getD j []).length : Int) else if Zlt k = true then c.ints.getD j 0 else 0
def stepR (k : Int) (v : Vl) (add : Int) (s : Stt) : Stt := Zy1 k v add { s with count := s.count + 1 }
def Z1k3 (k : Int) (c : Col) : List Bool → Nat → Stt → Stt
  | [], _, s => s
  | true :: bs, j, s => Z1k3 k c bs (j + 1) (stepR k (getR k c j) (getRA k c j) s)
  | false :: bs, j, s => Z1k3 k c bs j s
def refOf (k : Int) (c : Col) : Stt := Z1k3 k c c.here 0 (of0 k c 0)
theorem Z1pp {k : Int} (h : Zmb k = true) : Zlt k = true := by
  rcases Z1jz h with rfl | rfl | rfl | rfl <;> rfl
end Go.Abs

