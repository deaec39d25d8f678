/- Part E of a proof: merged by program. -/
import Derived.Test.YtgmefkhincnajaaPkD
import Derived.Test.YtgmefkhincnajaaProg
import Derived.KernelRfl
set_option linter.unusedVariables false
set_option linter.unusedSimpArgs false
set_option maxHeartbeats 4000000
namespace Go.Abs
open Go
def Zs5 : List Z2b := [
 ⟨some 2,(.box 5),[.t 0],none⟩,⟨some 3,(.box 5),[.t 1],none⟩,⟨some 4,.mov,[.c (.bool false)],none⟩]
def Zs6 : List Z2b := [
 ⟨some 6,(.fad 0),[.t 2],none⟩,⟨some 7,(.load false 1),[.t 6],none⟩,⟨some 8,(.fad 0),[.t 3],none⟩,⟨some 9,(.load false 1),[.t 8],none⟩,⟨some 10,(.binb .neq),[.t 7,.t 9],none⟩,⟨some 11,.mov,[.t 10],none⟩,⟨some 12,(.fad 1),[.t 2],some (11,false)⟩,⟨some 13,(.load false 1),[.t 12],some (11,false)⟩,⟨some 14,(.fad 1),[.t 3],some (11,false)⟩,⟨some 15,(.load false 1),[.t 14],some (11,false)⟩,⟨some 16,(.bin .neq),[.t 13,.t 15],some (11,false)⟩,⟨some 17,.pick,[.t 11,.c (.bool true),.t 16],none⟩,⟨some 18,.mov,[.t 17],none⟩,⟨some 19,(.fad 2),[.t 2],some (18,false)⟩,⟨some 20,(.load false 1),[.t 19],some (18,false)⟩,⟨some 21,(.fad 2),[.t 3],some (18,false)⟩,⟨some 22,(.load false 1),[.t 21],some (18,false)⟩,⟨some 23,(.bin .neq),[.t 20,.t 22],some (18,false)⟩,⟨some 24,.pick,[.t 18,.c (.bool true),.t 23],none⟩,⟨some 25,.mov,[.t 24],none⟩,⟨some 26,(.fad 3),[.t 2],some (25,false)⟩,⟨some 27,(.load false 1),[.t 26],some (25,false)⟩,⟨some 28,.b2s,[.t 27],some (25,false)⟩,⟨some 29,(.fad 3),[.t 3],some (25,false)⟩,⟨some 30,(.load false 1),[.t 29],some (25,false)⟩,⟨some 31,.b2s,[.t 30],some (25,false)⟩,⟨some 32,(.bin .neq),[.t 28,.t 31],some (25,false)⟩,⟨some 33,.pick,[.t 25,.c (.bool true),.t 32],none⟩,⟨some 34,.mov,[.t 33],none⟩,⟨some 35,(.fad 4),[.t 2],some (34,false)⟩,⟨some 36,(.load false 1),[.t 35],some (34,false)⟩,⟨some 37,.lens,[.t 36],some (34,false)⟩,⟨some 38,(.fad 4),[.t 3],some (34,false)⟩,⟨some 39,(.load false 1),[.t 38],some (34,false)⟩,⟨some 40,.lens,[.t 39],some (34,false)⟩,⟨some 41,(.bin .neq),[.t 37,.t 40],some (34,false)⟩,⟨some 42,.pick,[.t 34,.c (.bool true),.t 41],none⟩]
def Zs7 : List Z2b := [
 ⟨some 4,.mov,[.c (.bool false)],none⟩]
def Zs8 : List Z2b := [
 ⟨some 5,.mov,[.c (.int .i64 0)],none⟩]
def Zs9 : List Z2b := [
 ⟨some 43,.mov,[.t 5],none⟩,⟨some 44,(.fad 4),[.t 2],none⟩,⟨some 45,(.load false 1),[.t 44],none⟩,⟨some 46,.lens,[.t 45],none⟩,⟨some 47,(.bin .lss),[.t 43,.t 46],none⟩]
def Zsa : List Z2b := [
 ⟨some 50,(.fad 4),[.t 2],none⟩,⟨some 51,(.load false 1),[.t 50],none⟩,⟨some 52,.mov,[.t 5],none⟩,⟨some 53,(.iad 5),[.t 51,.t 52],none⟩,⟨some 54,(.load true 5),[.t 53],none⟩,⟨some 55,(.fad 4),[.t 3],none⟩,⟨some 56,(.load false 1),[.t 55],none⟩,⟨some 57,.mov,[.t 5],none⟩,⟨some 58,(.iad 5),[.t 56,.t 57],none⟩,⟨some 59,(.load true 5),[.t 58],none⟩,⟨some 60,(.call Zcc),[.t 54,.t 59],none⟩,⟨some 61,.unot,[.t 60],none⟩]
def Zsb : List Z2b := [
 ⟨some 4,.mov,[.c (.bool false)],none⟩]
def Zsc : List Z2b := [
 ⟨some 48,.mov,[.t 5],none⟩,⟨some 49,(.bin .add),[.t 48,.c (.int .i64 1)],none⟩,⟨some 5,.mov,[.t 49],none⟩]
def Zsd : Z2c := (.seq (.seq (.region Zs9 [2,3,5,47]) (.cond (.t 47) .skip (.exit 0))) (.seq (.block 1 (.seq (.region Zsa [2,3,5,61]) (.cond (.t 61) (.seq (.region Zsb [4]) .ret) .skip))) (.region Zsc [2,3,5])))
def Zse : List Z2b := [
 ⟨some 4,.mov,[.c (.bool true)],none⟩]
def Zsf : Z2z := ⟨62,(.seq (.region Zs5 [2,3,12,13,14,15,16,19,20,21,22,23,26,27,28,29,30,31,32,35,36,37,38,39,40,41]) (.seq (.seq (.region Zs6 [2,3,42]) (.cond (.t 42) (.seq (.region Zs7 [4]) .ret) .skip)) (.seq (.seq (.region Zs8 [2,3,5]) (.block 0 (.loop Zsd))) (.seq (.region Zse [4]) .ret)))),[.t 4]⟩
end Go.Abs
namespace Go.Abs
open Go Go.Proofs
theorem Zsg : Z30 Try.prog [] Zcc = some Zsf.erase := by kernel_rfl
end Go.Abs
namespace Go.Abs
open Go Go.Proofs
attribute [local irreducible] AWp aops KP
structure Col.Fit (c : Col) : Prop where
 here : c.here.length ≤ 140737488355328
 ints : c.ints.length ≤ 140737488355328
 ns : c.ns.length ≤ 140737488355328
 texts : c.texts.length ≤ 140737488355328
 lens : c.lens.length ≤ 140737488355328
 int : ∀ i ∈ c.ints, -9223372036854775808 ≤ i ∧ i ≤ 9223372036854775807
 text : ∀ t ∈ c.texts, t.length ≤ 140737488355328
def getV (c : Col) (i : Nat) : Vl := .mk false (if i < c.texts.length then 0 else c.ints.getD i 0) (c.ns.getD i 0) (c.texts.getD i []) []
def getA (c : Col) (i : Nat) : Int := if i < c.texts.length then ((c.texts.getD i []).length : Int) else c.ints.getD i 0
def Zsh (k : Int) (v : Vl) (add : Int) (s : Stt) : Stt := Zrj (if Zrh k = true then Zrk k s v v else s) add
def Zsi (k : Int) (c : Col) : Nat → Nat → Stt → Stt
 | 0, _, s => s
 | m + 1, i, s => Zsi k c m (i + 1) (Zsh k (getV c i) (getA c i) s)
def of0 (k : Int) (c : Col) (n : Nat) : Stt := ⟨n, hasF c, false, vl0, vl0, Zrg k, 0⟩
def ofF (k : Int) (c : Col) : Stt := Zsi k c (max c.ints.length c.texts.length) 0 (of0 k c (c.here.count true))
theorem HShift.content {b sz : Nat} {xs ys : List Z0} {σ : Zc} (hl : ys.length = xs.length) (he : ∀ y ∈ ys, y.elem sz) (hv : VRle (flat xs) (flat ys)) : HShift ((b, .cells sz xs) :: σ) ((b, .cells sz ys) :: σ) :=
 fun K w r => ⟨K, Kr.le.refl K, r.content hl he (hv K)⟩
theorem VRle.nilF (z z' : Nat) : VRle [.slc z [] true] [.slc z' [] false] := (VRle.nil_slc z z' true).trans VRle.full
theorem Zsj {F : Z27} {σ : Zc} {b s i sz : Nat} {cs xs : List Z0} (hF : F i = some (.ptr b 0 0)) (hg : Zd σ b = some (.cells s (.agg cs :: xs))) (hl : cs.length = sz) : Z8w F σ [.cell i true sz] = some [.agg cs] := by
 subst hl
 simp [Z8w, Z8v, hF, Z1l, hg, Z19, Z0.cells]
end Go.Abs
namespace Go.Abs
open Go Go.Proofs
attribute [local irreducible] AWp aops KP
structure Col.Sm (c : Col) : Prop where
 here : c.here.length ≤ 16384
 ints : c.ints.length ≤ c.here.length
 ns : c.ns.length ≤ c.here.length
 texts : c.texts.length ≤ c.here.length
 lens : c.lens.length ≤ c.here.length
theorem Zsk {b : Nat} {x : Zb} {a m r : Zc} : HSub (m ++ ((b, x) :: (a ++ r))) ((b, x) :: (a ++ (m ++ r))) := HSub.of_perm (Zru (b, x) a m r)
theorem Zsl {b : Nat} {x : Zb} {a m r : Zc} : HSub ((b, x) :: (a ++ (m ++ r))) (m ++ ((b, x) :: (a ++ r))) := HSub.of_perm (Zru (b, x) a m r).symm
theorem quo2 (n : Nat) (h : n ≤ 9223372036854775807) : IntKind.wrap .i64 ((n : Int).tdiv 2) = ((n / 2 : Nat) : Int) := by
 have e : (n : Int).tdiv 2 = ((n / 2 : Nat) : Int) := by rw [Int.tdiv_eq_ediv_of_nonneg (by omega)]; omega
 rw [e, w64 _ (by omega) (by omega)]
end Go.Abs
namespace Go.Abs
open Go Go.Proofs
attribute [local irreducible] AWp aops KP
theorem Zsm {c : Col} (b : Bool) (h : c.Sm) (hl : c.here.length < 16384) : (Zry b c).Sm := by
 obtain ⟨h1, h2, h3, h4, h5⟩ := h
 constructor <;> simp only [Zry, List.length_append, List.length_singleton] <;> omega
theorem Zsn {c : Col} (k : Int) (v : Vl) (h : c.Sm) (hl : c.here.length < 16384) : (addC k v c).Sm := by
 obtain ⟨h1, h2, h3, h4, h5⟩ := h
 unfold addC Zrx Zrw Zry
 (repeat' split) <;> constructor <;> simp only [List.length_append, List.length_singleton] <;> omega
theorem Zso {cs : List Col} {i : Nat} {c : Col} (h : ∀ c ∈ cs, c.Sm) (hc : c.Sm) : ∀ x ∈ cs.set i c, x.Sm := fun x hx => by
 rcases List.mem_or_eq_of_mem_set hx with h' | h'
 ·exact h x h'
 ·rw [h']; exact hc
theorem Zsp (l : List Nd) : ∀ (v : Vl) (at_ : Nat) (cs : List Col), (putF l at_ v cs).1.length = cs.length := by
 refine Vl.ind fun nu i n bs vks ih at_ cs => ?_
 have hL : ∀ (vks : List Vl), (∀ v ∈ vks, ∀ (at_ : Nat) (cs : List Col), (putF l at_ v cs).1.length = cs.length) → ∀ (j : Nat) (cs : List Col), (putL l at_ i j vks cs).1.length = cs.length := by
  intro vks
  induction vks with
  | nil => intro _ j cs; rfl
  | cons v vs ih2 =>
   intro hv j cs
   rw [putL]
   split
   ·rw [ih2 (fun v h => hv v (List.mem_cons_of_mem _ h)), hv v (by simp)]
   ·exact hv v (by simp) _ _
 rw [putF]
 split
 ·rfl
 ·split
  ·rw [List.length_set]
  ·rw [hL vks (fun v h at_ cs => ih v h at_ cs), List.length_set]
theorem Zsq (l : List Nd) : ∀ (v : Vl) (at_ : Nat) (cs : List Col), (∀ c ∈ cs, c.Sm) → ∀ c ∈ (putF l at_ v cs).1, c.Sm := by
 refine Vl.ind fun nu i n bs vks ih at_ cs h => ?_
 have hL : ∀ (vks : List Vl), (∀ v ∈ vks, ∀ (at_ : Nat) (cs : List Col), (∀ c ∈ cs, c.Sm) → ∀ c ∈ (putF l at_ v cs).1, c.Sm) → ∀ (j : Nat) (cs : List Col), (∀ c ∈ cs, c.Sm) → ∀ c ∈ (putL l at_ i j vks cs).1, c.Sm := by
  intro vks
  induction vks with
  | nil => intro _ j cs h; exact h
  | cons v vs ih2 =>
   intro hv j cs h
   rw [putL]
   split
   ·exact ih2 (fun v h => hv v (List.mem_cons_of_mem _ h)) _ _ (hv v (by simp) _ _ h)
   ·exact hv v (by simp) _ _ h
 have hD : (cs.getD at_ col0).Sm := by
  rw [List.getD_eq_getElem?_getD]
  cases e : cs[at_]? with
  | none => exact ⟨by simp [col0], by simp [col0], by simp [col0], by simp [col0], by simp [col0]⟩
  | some c => exact h c (List.mem_of_getElem? e)
 rw [putF]
 split
 ·exact h
 ·rename_i hlt
  split
  ·exact Zso h (Zsm _ hD (by omega))
  ·exact hL vks (fun v hv => ih v hv) _ _ (Zso h (Zsn _ _ hD (by omega)))
theorem Zrs.ex : ∀ cs : List Col, ∃ ws β, Zrs ws cs β
 | [] => ⟨[], [], rfl⟩
 | c :: cs => by
  obtain ⟨ws, γ, h⟩ := Zrs.ex cs
  obtain ⟨v1, β1, h1⟩ := Zb5.ex 1 (c.here.map .bool)
  obtain ⟨v2, β2, h2⟩ := Zb5.ex 1 (c.ints.map (.int .i64))
  obtain ⟨v3, β3, h3⟩ := Zb5.ex 1 (c.ns.map (.int .i64))
  obtain ⟨v4, β4, h4⟩ := Zb5.ex 1 (Zrr c.texts)
  obtain ⟨v5, β5, h5⟩ := Zb5.ex 1 (c.lens.map (.int .i64))
  exact ⟨_ :: ws, _, _, γ, ⟨v1, v2, v3, v4, v5, β1, β2, β3, β4, β5, rfl, h1, h2, h3, h4, h5, rfl⟩, h, rfl⟩
end Go.Abs
namespace Go.Abs
open Go Go.Proofs
theorem Zb5.one {sz : Nat} {v : Z0} {xs : List Z0} {β : Zc} (h : Zb5 sz v xs β) : v.one = true := by
 rcases h with ⟨⟨z, rfl⟩, _, _⟩ | ⟨b, rfl, _⟩ <;> rfl
theorem oneS {z : Nat} {xs : List Z0} {f : Bool} : (Z0.slc z xs f).one = true := rfl
theorem HShift.cell {b sz : Nat} {A B p q : List Z0} {v : Z0} {ks : List Z0} {β σ : Zc} (hg : Zb5 1 v ks β) (he : ∀ y ∈ A ++ .agg (p ++ .slc 1 ks false :: q) :: B, y.elem sz) :
  HShift ((b, .cells sz (A ++ .agg (p ++ v :: q) :: B)) :: (β ++ σ)) ((b, .cells sz (A ++ .agg (p ++ .slc 1 ks false :: q) :: B)) :: σ) := by
 rcases hg with ⟨⟨z, rfl⟩, rfl, rfl⟩ | ⟨bk, rfl, rfl⟩
 ·refine HShift.content (by simp) he ?_
  simp only [Z4, Z3, Z0.cells]
  exact VRle.app (VRle.refl _) (VRle.app (VRle.app (VRle.refl _) (VRle.cons (VRle.nilF _ _) (VRle.refl _))) (VRle.refl _))
 ·refine HShift.inner (bk := bk) (s := 1) (ks := ks) (by simp) he fun K hK vs hv => ?_
  simp only [Z4, Z3, Z0.cells] at hv ⊢
  obtain ⟨m1, m2, rfl, g1, g2⟩ := hv.split
  obtain ⟨m3, m4, rfl, g3, g4⟩ := g2.split
  obtain ⟨m5, m6, rfl, g5, g6⟩ := g3.split
  refine g1.append ((g5.append ?_).append g4)
  have h2 : (Z0.arr 1 bk 0 ks.length :: q) = [Z0.arr 1 bk 0 ks.length] ++ q := rfl
  rw [h2] at g6
  obtain ⟨m7, m8, rfl, g7, g8⟩ := g6.split
  have h3 : (Z0.slc 1 ks false :: q) = [Z0.slc 1 ks false] ++ q := rfl
  rw [h3]
  refine Z1.append ?_ g8
  have hl := g7.length
  match m7, g7, hl with
  | [x], g7, _ => exact hK x g7
theorem ColG.elem {w : Z0} {c : Col} {β : Zc} (h : ColG w c β) : w.elem 5 := by
 obtain ⟨v1, v2, v3, v4, v5, β1, β2, β3, β4, β5, rfl, g1, g2, g3, g4, g5, rfl⟩ := h
 exact ⟨rfl, by simp [Z0.cells, g1.one, g2.one, g3.one, g4.one, g5.one]⟩
theorem Zrs.elem : ∀ {ws : List Z0} {cs : List Col} {β : Zc}, Zrs ws cs β → ∀ w ∈ ws, w.elem 5
 | [], [], _, _, w, h => by cases h
 | _ :: _, _ :: _, _, ⟨_, _, h1, h2, _⟩, w, hm => by
  rcases List.mem_cons.1 hm with h | h
  ·rw [h]; exact h1.elem
  ·exact h2.elem w h
 | [], _ :: _, _, h, _, _ => h.elim
 | _ :: _, [], _, h, _, _ => h.elim
theorem Zrs.freeze : ∀ {ws : List Z0} {cs : List Col} {β : Zc}, Zrs ws cs β → ∀ (A : List Z0), (∀ y ∈ A, y.elem 5) → ∀ (b : Nat) (σ : Zc), HShift ((b, .cells 5 (A ++ ws)) :: (β ++ σ)) ((b, .cells 5 (A ++ cs.map Kc)) :: σ)
 | [], [], _, h, A, hA, b, σ => by
  have h : _ = [] := h
  subst h
  exact HShift.sub (HSub.refl _)
 | [], _ :: _, _, h, _, _, _, _ => h.elim
 | _ :: _, [], _, h, _, _, _, _ => h.elim
 | w :: ws, c :: cs, β, ⟨β0, γ, h1, h2, h3⟩, A, hA, b, σ => by
  subst h3
  obtain ⟨v1, v2, v3, v4, v5, β1, β2, β3, β4, β5, rfl, g1, g2, g3, g4, g5, rfl⟩ := h1
  have hws := h2.elem
  have el : ∀ l : List Z0, l.length = 5 → (∀ x ∈ l, x.one = true) → ∀ y ∈ A ++ .agg l :: ws, y.elem 5 := by
   intro l hl ho y hy
   rcases List.mem_append.1 hy with h | h
   ·exact hA y h
   ·rcases List.mem_cons.1 h with h | h
    ·rw [h]; exact ⟨hl, ho⟩
    ·exact hws y h
  have hA' : ∀ y ∈ A ++ [Kc c], y.elem 5 := by
   intro y hy
   rcases List.mem_append.1 hy with h | h
   ·exact hA y h
   ·simp only [List.mem_singleton] at h
    rw [h]; exact Z0.fit_iff.1 rfl
  have hr := h2.freeze (A ++ [Kc c]) hA' b σ
  simp only [List.append_assoc, List.cons_append, List.nil_append, List.map_cons] at hr ⊢
  refine (HShift.cell (p := []) (q := [v2, v3, v4, v5]) g1 (el _ rfl (by simp [g2.one, g3.one, g4.one, g5.one, oneS]))).trans ?_
  refine (HShift.cell (p := [.slc 1 (c.here.map .bool) false]) (q := [v3, v4, v5]) g2 (el _ rfl (by simp [g3.one, g4.one, g5.one, oneS]))).trans ?_
  refine (HShift.cell (p := [.slc 1 (c.here.map .bool) false, .slc 1 (c.ints.map (.int .i64)) false]) (q := [v4, v5]) g3 (el _ rfl (by simp [g4.one, g5.one, oneS]))).trans ?_
  refine (HShift.cell (p := [.slc 1 (c.here.map .bool) false, .slc 1 (c.ints.map (.int .i64)) false, .slc 1 (c.ns.map (.int .i64)) false]) (q := [v5]) g4 (el _ rfl (by simp [g5.one, oneS]))).trans ?_
  refine (HShift.cell (p := [.slc 1 (c.here.map .bool) false, .slc 1 (c.ints.map (.int .i64)) false, .slc 1 (c.ns.map (.int .i64)) false, .slc 1 (Zrr c.texts) false]) (q := []) g5 (el _ rfl (by simp [oneS]))).trans ?_
  exact hr
end Go.Abs
namespace Go.Abs
open Go Go.Proofs
attribute [local irreducible] AWp aops KP
def rowE (t : Ty) (v : Vl) : Nat := if vchk t v = 0 ∧ v.null = true then 1 else vchk t v
def Zsr (t : Ty) : List Vl → Nat
 | [] => 0
 | v :: vs => if rowE t v ≠ 0 then rowE t v else Zsr t vs
def Zss (l : List Nd) : List Vl → List Col → List Col × Bool
 | [], cols => (cols, true)
 | v :: vs, cols => if (putF l 0 v cols).2 = true then Zss l vs (putF l 0 v cols).1 else ((putF l 0 v cols).1, false)
def Zst (t : Ty) (rows : List Vl) : List Col × Nat :=
 if Zm8 t ≠ 0 then ([], Zm8 t)
 else if Zsr t rows ≠ 0 then ([], Zsr t rows)
 else if (Zss (Zmf t) rows (List.replicate (Zmf t).length col0)).2 = true then ((Zss (Zmf t) rows (List.replicate (Zmf t).length col0)).1, 0)
 else ([], 4)
theorem Zsu (t : Ty) {rows : List Vl} {j : Nat} (h : j < rows.length) : Zsr t (rows.drop j) = if rowE t rows[j] ≠ 0 then rowE t rows[j] else Zsr t (rows.drop (j + 1)) := by
 rw [List.drop_eq_getElem_cons h, Zsr]
theorem Zsv {t : Ty} : ∀ {rows : List Vl}, Zsr t rows = 0 → ∀ v ∈ rows, vchk t v = 0 ∧ v.null = false
 | [], _, v, hv => by cases hv
 | r :: rows, h, v, hv => by
  rw [Zsr] at h
  split at h
  ·omega
  ·rename_i h0
   rcases List.mem_cons.1 hv with e | e
   ·rw [e]
    unfold rowE at h0
    split at h0
    ·omega
    ·rename_i h1
     have h2 : vchk t r = 0 := by omega
     refine ⟨h2, ?_⟩
     cases e2 : r.null with
     | false => rfl
     | true => exact absurd ⟨h2, e2⟩ h1
   ·exact Zsv h v e
end Go.Abs
namespace Go.Abs
open Go Go.Proofs
attribute [local irreducible] AWp aops KP
structure Stt.Fit (s : Stt) : Prop where
 min : s.min.Cl
 max : s.max.Cl
 sum : -9223372036854775808 ≤ s.sum ∧ s.sum ≤ 9223372036854775807
def Zsw (a b : Stt) : Stt := ⟨IntKind.wrap .i64 (a.count + b.count), a.null || b.null, false, vl0, vl0, a.sums && b.sums, 0⟩
def Zsx (a b : Stt) : Stt := if (Zsw a b).sums = true then Zrj (Zrj (Zsw a b) a.sum) b.sum else Zsw a b
def Zsy (k : Int) : List Stt → Stt → Stt
 | [], s => s
 | x :: xs, s => Zsy k xs (if x.has = true then Zrk k s x.min x.max else s)
def Zsz (k : Int) (a b : Stt) : Stt := Zsy k [a, b] (Zsx a b)
end Go.Abs
namespace Go.Abs
open Go Go.Proofs
attribute [local irreducible] AWp aops KP
def Zt0 (a b : Vl) : Bool := (a.null == b.null) && (decide (a.i = b.i) && (decide (a.n = b.n) && (decide (a.b = b.b) && decide ((a.kids.length : Int) = (b.kids.length : Int)))))
def Zt1 (a b : Stt) : Bool := decide (a.count = b.count) && ((a.null == b.null) && ((a.has == b.has) && (Zt0 a.min b.min && (Zt0 a.max b.max && ((a.sums == b.sums) && decide (a.sum = b.sum))))))
end Go.Abs
namespace Go.Abs
open Go Go.Proofs
inductive Vl.Sht : Vl → Prop
 | mk {v : Vl} (h1 : v.b.length ≤ 4096) (h2 : -9223372036854775808 ≤ v.i ∧ v.i ≤ 9223372036854775807) (h : ∀ k ∈ v.kids, Vl.Sht k) : Vl.Sht v
structure Col.Rng (c : Col) : Prop where
 int : ∀ i ∈ c.ints, -9223372036854775808 ≤ i ∧ i ≤ 9223372036854775807
 text : ∀ t ∈ c.texts, t.length ≤ 4096
structure Col.Good (k : Int) (c : Col) : Prop where
 texts : c.texts.length = if Zmm k = true then c.here.count true else 0
 ints : c.ints.length = if Zmm k = true ∨ k = 10 ∨ k = 11 ∨ k = 12 then 0 else c.here.count true
 ns : c.ns.length = if k = 9 then c.here.count true else 0
 lens : c.lens.length = if k = 10 ∨ k = 11 then c.here.count true else 0
theorem Zt2 {k : Int} (h : Zmm k = true) : k = 7 ∨ k = 16 ∨ k = 17 ∨ k = 8 := by
 simp only [Zmm, Bool.or_eq_true, decide_eq_true_eq] at h
 omega
theorem Zt3 {k : Int} {c : Col} (h : c.Good k) : (Zry false c).Good k := by
 obtain ⟨h1, h2, h3, h4⟩ := h
 constructor <;> simp only [Zry, List.count_append, List.count_singleton] <;> simpa
theorem Zt4 {k : Int} {c : Col} {v : Vl} (h : c.Good k) : (addC k v c).Good k := by
 obtain ⟨h1, h2, h3, h4⟩ := h
 have hc : (c.here ++ [true]).count true = c.here.count true + 1 := by simp
 cases ht : Zmm k with
 | true =>
  have hk := Zt2 ht
  rw [if_pos ht] at h1
  rw [if_pos (.inl ht)] at h2
  rw [if_neg (by omega)] at h3 h4
  have e : addC k v c = ⟨c.here ++ [true], c.ints, c.ns, c.texts ++ [v.b], c.lens⟩ := by rw [addC, Zrx, if_neg (by omega), Zrw, if_pos ht]; rfl
  rw [e]
  exact ⟨by rw [if_pos ht, hc]; simp [h1], by rw [if_pos (.inl ht)]; exact h2, by rw [if_neg (by omega)]; exact h3, by rw [if_neg (by omega)]; exact h4⟩
 | false =>
  have hf : ¬ Zmm k = true := by simp [ht]
  rw [if_neg hf] at h1
  by_cases h10 : k = 10
  ·rw [if_pos (.inr (.inl h10))] at h2
   rw [if_neg (by omega)] at h3
   rw [if_pos (.inl h10)] at h4
   have e : addC k v c = ⟨c.here ++ [true], c.ints, c.ns, c.texts, c.lens ++ [(v.kids.length : Int)]⟩ := by rw [addC, Zrx, if_neg (by omega), Zrw, if_neg hf, if_pos h10]; rfl
   rw [e]
   exact ⟨by rw [if_neg hf]; exact h1, by rw [if_pos (.inr (.inl h10))]; exact h2, by rw [if_neg (by omega)]; exact h3, by rw [if_pos (.inl h10), hc]; simp [h4]⟩
  ·by_cases h11 : k = 11
   ·rw [if_pos (.inr (.inr (.inl h11)))] at h2
    rw [if_neg (by omega)] at h3
    rw [if_pos (.inr h11)] at h4
    have e : addC k v c = ⟨c.here ++ [true], c.ints, c.ns, c.texts, c.lens ++ [((v.kids.length / 2 : Nat) : Int)]⟩ := by rw [addC, Zrx, if_neg (by omega), Zrw, if_neg hf, if_neg h10, if_pos h11]; rfl
    rw [e]
    exact ⟨by rw [if_neg hf]; exact h1, by rw [if_pos (.inr (.inr (.inl h11)))]; exact h2, by rw [if_neg (by omega)]; exact h3, by rw [if_pos (.inr h11), hc]; simp [h4]⟩
   ·rw [if_neg (by omega)] at h4
    by_cases h12 : k = 12
    ·rw [if_pos (.inr (.inr (.inr h12)))] at h2
     rw [if_neg (by omega)] at h3
     have e : addC k v c = ⟨c.here ++ [true], c.ints, c.ns, c.texts, c.lens⟩ := by rw [addC, Zrx, if_neg (by omega), Zrw, if_neg hf, if_neg h10, if_neg h11, if_neg (by omega)]; rfl
     rw [e]
     exact ⟨by rw [if_neg hf]; exact h1, by rw [if_pos (.inr (.inr (.inr h12)))]; exact h2, by rw [if_neg (by omega)]; exact h3, by rw [if_neg (by omega)]; exact h4⟩
    ·have hn : ¬ (Zmm k = true ∨ k = 10 ∨ k = 11 ∨ k = 12) := by rintro (h | h | h | h) <;> simp_all
     rw [if_neg hn] at h2
     by_cases h9 : k = 9
     ·rw [if_pos h9] at h3
      have e : addC k v c = ⟨c.here ++ [true], c.ints ++ [v.i], c.ns ++ [v.n], c.texts, c.lens⟩ := by rw [addC, Zrx, if_pos h9, Zrw, if_neg hf, if_neg h10, if_neg h11, if_pos h12]; rfl
      rw [e]
      exact ⟨by rw [if_neg hf]; exact h1, by rw [if_neg hn, hc]; simp [h2], by rw [if_pos h9, hc]; simp [h3], by rw [if_neg (by omega)]; exact h4⟩
     ·rw [if_neg h9] at h3
      have e : addC k v c = ⟨c.here ++ [true], c.ints ++ [v.i], c.ns, c.texts, c.lens⟩ := by rw [addC, Zrx, if_neg h9, Zrw, if_neg hf, if_neg h10, if_neg h11, if_pos h12]; rfl
      rw [e]
      exact ⟨by rw [if_neg hf]; exact h1, by rw [if_neg hn, hc]; simp [h2], by rw [if_neg h9]; exact h3, by rw [if_neg (by omega)]; exact h4⟩
theorem Zt5 (k : Int) : col0.Good k := by constructor <;> simp [col0]
def getR (k : Int) (c : Col) (j : Nat) : Vl :=
 if Zmm k = true then .mk false 0 0 (c.texts.getD j []) []
 else if Zm4 k = true then .mk false (c.ints.getD j 0) (if k = 9 then c.ns.getD j 0 else 0) [] []
 else vl0
def Zt6 (k : Int) (c : Col) (j : Nat) : Int :=
 if Zmm k = true then ((c.texts.getD j []).length : Int) else if Zm4 k = true then c.ints.getD j 0 else 0
def Zt7 (k : Int) (v : Vl) (add : Int) (s : Stt) : Stt := Zsh k v add { s with count := s.count + 1 }
def Zt8 (k : Int) (c : Col) : List Bool → Nat → Stt → Stt
 | [], _, s => s
 | true :: bs, j, s => Zt8 k c bs (j + 1) (Zt7 k (getR k c j) (Zt6 k c j) s)
 | false :: bs, j, s => Zt8 k c bs j s
def Zt9 (k : Int) (c : Col) : Stt := Zt8 k c c.here 0 (of0 k c 0)
theorem Zta {k : Int} (h : Zmm k = true) : Zm4 k = true := by
 rcases Zt2 h with rfl | rfl | rfl | rfl <;> rfl
end Go.Abs
namespace Go.Abs
open Go Go.Proofs
theorem Ztb (a b : UInt8) : (a < b) ↔ a.toNat < b.toNat := UInt8.lt_iff_toNat_lt
theorem Ztc : ∀ a b : List UInt8, Lib.compareBytes b a = - Lib.compareBytes a b
 | [], [] => rfl
 | [], _ :: _ => rfl
 | _ :: _, [] => rfl
 | a :: xs, b :: bs => by
  simp only [Lib.compareBytes]
  simp only [Ztb]
  (repeat' split) <;> first | omega | exact Ztc xs bs | rfl
theorem Ztd : ∀ a b c : List UInt8, Lib.compareBytes a b < 0 → Lib.compareBytes b c ≤ 0 → Lib.compareBytes a c < 0
 | [], [], _, h, _ => by simp [Lib.compareBytes] at h
 | [], _ :: _, [], _, h => by simp [Lib.compareBytes] at h
 | [], _ :: _, _ :: _, _, _ => by simp [Lib.compareBytes]
 | _ :: _, [], _, h, _ => by simp [Lib.compareBytes] at h
 | _ :: _, _ :: _, [], _, h => by simp [Lib.compareBytes] at h
 | a :: xs, b :: bs, c :: cs, h1, h2 => by
  simp only [Lib.compareBytes, Ztb] at h1 h2 ⊢
  split at h1
  ·split at h2
   ·rw [if_pos (by omega)]; omega
   ·split at h2
    ·omega
    ·rw [if_pos (by omega)]; omega
  ·split at h1
   ·omega
   ·split at h2
    ·rw [if_pos (by omega)]; omega
    ·split at h2
     ·omega
     ·rw [if_neg (by omega), if_neg (by omega)]
      exact Ztd xs bs cs h1 h2
theorem Zte {k : Int} (hk : Zm4 k = true) (a b : Vl) (ha : a.null = false) (hb : b.null = false) : (cmpV k a b).1 = if Zmm k = true then Lib.compareBytes a.b b.b else if cmpI a.i b.i ≠ 0 then cmpI a.i b.i else cmpI a.n b.n := by
 have h : ¬ (Zm4 k = false ∨ a.null = true ∨ b.null = true) := by simp [hk, ha, hb]
 unfold cmpV
 rw [if_neg h]
 split <;> rfl
theorem Ztf {k : Int} (hk : Zm4 k = true) (a b : Vl) (ha : a.null = false) (hb : b.null = false) : (cmpV k b a).1 = - (cmpV k a b).1 := by
 rw [Zte hk b a hb ha, Zte hk a b ha hb]
 cases Zmm k with
 | true => exact Ztc _ _
 | false =>
  simp only [Bool.false_eq_true, if_false, cmpI]
  (repeat' split) <;> omega
theorem Ztg (x y u v : Int) : (if cmpI x y ≠ 0 then cmpI x y else cmpI u v) < 0 ↔ x < y ∨ (x = y ∧ u < v) := by
 unfold cmpI
 rcases Int.lt_trichotomy x y with h | h | h
 ·simp [h]
 ·subst h
  simp only [Int.lt_irrefl, if_false, ne_eq, not_true_eq_false, false_or, true_and]
  (repeat' split) <;> omega
 ·rw [if_neg (show ¬ x < y by omega), if_pos h]
  simp
  omega
theorem Zth (x y u v : Int) : (if cmpI x y ≠ 0 then cmpI x y else cmpI u v) ≤ 0 ↔ x < y ∨ (x = y ∧ u ≤ v) := by
 unfold cmpI
 rcases Int.lt_trichotomy x y with h | h | h
 ·simp [h]
 ·subst h
  simp only [Int.lt_irrefl, if_false, ne_eq, not_true_eq_false, false_or, true_and]
  (repeat' split) <;> omega
 ·rw [if_neg (show ¬ x < y by omega), if_pos h]
  simp
  omega
theorem Zti {k : Int} (hk : Zm4 k = true) (a b c : Vl) (ha : a.null = false) (hb : b.null = false) (hc : c.null = false) (h1 : (cmpV k a b).1 < 0) (h2 : (cmpV k b c).1 ≤ 0) : (cmpV k a c).1 < 0 := by
 rw [Zte hk a b ha hb] at h1
 rw [Zte hk b c hb hc] at h2
 rw [Zte hk a c ha hc]
 cases ht : Zmm k with
 | true =>
  rw [ht] at h1 h2
  exact Ztd _ _ _ h1 h2
 | false =>
  rw [ht] at h1 h2
  simp only [Bool.false_eq_true, if_false] at h1 h2 ⊢
  rw [Ztg] at h1 ⊢
  rw [Zth] at h2
  omega
theorem Ztj {k : Int} (hk : Zm4 k = true) (a b c : Vl) (ha : a.null = false) (hb : b.null = false) (hc : c.null = false) (h1 : (cmpV k a b).1 ≤ 0) (h2 : (cmpV k b c).1 < 0) : (cmpV k a c).1 < 0 := by
 have e1 := Ztf hk a c ha hc
 have e2 := Ztf hk a b ha hb
 by_cases h : (cmpV k a c).1 < 0
 ·exact h
 ·have := Zti hk b c a hb hc ha h2 (by omega)
  omega
theorem Ztk {k : Int} (hk : Zm4 k = true) (a : Vl) (ha : a.null = false) : (cmpV k a a).1 = 0 := by
 have := Ztf hk a a ha ha
 omega
structure Sp where
 has : Bool
 min : Vl
 max : Vl
def spOf (s : Stt) : Sp := ⟨s.has, s.min, s.max⟩
def sp0 : Sp := ⟨false, vl0, vl0⟩
def Ztl (k : Int) (s : Sp) (v : Vl) : Sp :=
 if Zrh k = true then ⟨true, if s.has = false ∨ (cmpV k v s.min).1 < 0 then v else s.min, if s.has = false ∨ 0 < (cmpV k v s.max).1 then v else s.max⟩ else s
def Ztm (p : Int × Bool) (a : Int) : Int × Bool := if p.2 = true then addF p.1 a else p
def Ztn (c : Col) (n : Nat) : List (Vl × Int) := (List.range n).map fun i => (getV c i, getA c i)
def colN (c : Col) : Nat := max c.ints.length c.texts.length
def Zto (c : Col) : List (Vl × Int) := Ztn c (colN c)
def ofL (k : Int) (l : List (Vl × Int)) (s : Stt) : Stt :=
 ⟨s.count, s.null, ((l.map (·.1)).foldl (Ztl k) (spOf s)).has, ((l.map (·.1)).foldl (Ztl k) (spOf s)).min, ((l.map (·.1)).foldl (Ztl k) (spOf s)).max, ((l.map (·.2)).foldl Ztm (s.sum, s.sums)).2, ((l.map (·.2)).foldl Ztm (s.sum, s.sums)).1⟩
def spC (k : Int) (c : Col) : Sp := ((Zto c).map (·.1)).foldl (Ztl k) sp0
def smC (k : Int) (c : Col) : Int × Bool := ((Zto c).map (·.2)).foldl Ztm (0, Zrg k)
structure Bnd (k : Int) (vs : List Vl) (s : Sp) : Prop where
 nmin : s.min.null = false
 nmax : s.max.null = false
 all : s.has = true → ∀ v ∈ vs, 0 ≤ (cmpV k v s.min).1 ∧ (cmpV k v s.max).1 ≤ 0
 min : s.has = true → s.min ∈ vs
 max : s.has = true → s.max ∈ vs
 none : s.has = false → Zrh k = true → vs = []
 zero : s.has = false → s = sp0
theorem Ztp {k : Int} (h : Zrh k = true) : Zm4 k = true := by
 simp only [Zrh, Bool.and_eq_true] at h
 exact h.1
theorem Bnd.step {k : Int} {vs : List Vl} {s : Sp} (h : Bnd k vs s) (hnr : Zrh k = false → s.has = false) {v : Vl} (hv : v.null = false) : Bnd k (vs ++ [v]) (Ztl k s v) := by
 obtain ⟨n1, n2, ha, hmi, hma, hno, hz⟩ := h
 unfold Ztl
 cases hr : Zrh k with
 | false =>
  have hh := hnr hr
  rw [if_neg (by simp)]
  exact ⟨n1, n2, fun e => (by rw [hh] at e; cases e), fun e => (by rw [hh] at e; cases e), fun e => (by rw [hh] at e; cases e), fun _ e => by simp [hr] at e, hz⟩
 | true =>
  rw [if_pos rfl]
  have hk := Ztp hr
  have hvv := Ztk hk v hv
  cases hh : s.has with
  | false =>
   rw [if_pos (.inl rfl), if_pos (.inl rfl), hno hh hr]
   refine ⟨hv, hv, fun _ x hx => ?_, fun _ => by simp, fun _ => by simp, fun e => (by cases e), fun e => (by cases e)⟩
   rw [List.mem_singleton.1 hx]
   show 0 ≤ (cmpV k v v).1 ∧ (cmpV k v v).1 ≤ 0
   omega
  | true =>
   have ha' := ha hh
   have a1 := Ztf hk v s.min hv n1
   have a2 := Ztf hk v s.max hv n2
   refine ⟨?_, ?_, fun _ x hx => ⟨?_, ?_⟩, fun _ => ?_, fun _ => ?_, fun e => (by cases e), fun e => (by cases e)⟩
   ·simp only []; split <;> assumption
   ·simp only []; split <;> assumption
   ·simp only [Bool.true_eq_false, false_or]
    split
    ·rename_i h1
     rcases List.mem_append.1 hx with e | e
     ·have h2 := ha' x e
      by_cases hxn : x.null = true
      ·have : (cmpV k x v).1 = 0 := by unfold cmpV; rw [if_pos (.inr (.inl hxn))]
       omega
      ·have hxn : x.null = false := by simpa using hxn
       have h3 := Zti hk v s.min x hv n1 hxn h1 (by have := Ztf hk x s.min hxn n1; omega)
       have := Ztf hk x v hxn hv
       omega
     ·rw [List.mem_singleton.1 e]; omega
    ·rename_i h1
     rcases List.mem_append.1 hx with e | e
     ·exact (ha' x e).1
     ·rw [List.mem_singleton.1 e]; omega
   ·simp only [Bool.true_eq_false, false_or]
    split
    ·rename_i h1
     rcases List.mem_append.1 hx with e | e
     ·have h2 := ha' x e
      by_cases hxn : x.null = true
      ·have : (cmpV k x v).1 = 0 := by unfold cmpV; rw [if_pos (.inr (.inl hxn))]
       omega
      ·have hxn : x.null = false := by simpa using hxn
       have h3 := Ztj hk x s.max v hxn n2 hv h2.2 (by omega)
       omega
     ·rw [List.mem_singleton.1 e]; omega
    ·rename_i h1
     rcases List.mem_append.1 hx with e | e
     ·exact (ha' x e).2
     ·rw [List.mem_singleton.1 e]; omega
   ·simp only [Bool.true_eq_false, false_or]
    split
    ·simp
    ·exact List.mem_append_left _ (hmi hh)
   ·simp only [Bool.true_eq_false, false_or]
    split
    ·simp
    ·exact List.mem_append_left _ (hma hh)
def Ztq (k : Int) (a b : Sp) : Sp :=
 if a.has = false then b else if b.has = false then a
 else ⟨true, if (cmpV k b.min a.min).1 < 0 then b.min else a.min, if 0 < (cmpV k b.max a.max).1 then b.max else a.max⟩
def appC (a b : Col) : Col := ⟨a.here ++ b.here, a.ints ++ b.ints, a.ns ++ b.ns, a.texts ++ b.texts, a.lens ++ b.lens⟩
def Ztr (xs cs : List Col) : List Col := List.zipWith appC xs cs
structure Zts (k : Int) (c : Col) : Prop where
 good : c.Good k
 rng : c.Rng
 sm : c.Sm
theorem Zts.fit {k : Int} {c : Col} (h : Zts k c) : c.Fit := by
 obtain ⟨_, ⟨h1, h2⟩, ⟨s1, s2, s3, s4, s5⟩⟩ := h
 exact ⟨by omega, by omega, by omega, by omega, by omega, h1, fun t ht => by have := h2 t ht; omega⟩
theorem Good.n {k : Int} {c : Col} (h : c.Good k) : (Zmm k = true ∧ c.ints = [] ∧ c.ns = [] ∧ colN c = c.texts.length) ∨ (c.texts = [] ∧ colN c = c.ints.length ∧ (c.ns = [] ∨ c.ns.length = c.ints.length) ∧ (c.ns = [] ↔ (k ≠ 9 ∨ c.ints = []))) := by
 obtain ⟨h1, h2, h3, h4⟩ := h
 unfold colN
 cases ht : Zmm k with
 | true =>
  have := Zt2 ht
  rw [if_pos (.inl ht)] at h2
  rw [if_neg (by omega)] at h3
  exact .inl ⟨rfl, List.length_eq_zero_iff.1 h2, List.length_eq_zero_iff.1 h3, by omega⟩
 | false =>
  rw [if_neg (by simp [ht])] at h1
  refine .inr ⟨List.length_eq_zero_iff.1 h1, by omega, ?_, ?_⟩
  ·by_cases h9 : k = 9
   ·rw [if_pos h9] at h3
    rw [if_neg (by rw [ht]; simp; omega)] at h2
    exact .inr (by omega)
   ·rw [if_neg h9] at h3
    exact .inl (List.length_eq_zero_iff.1 h3)
  ·by_cases h9 : k = 9
   ·rw [if_pos h9] at h3
    rw [if_neg (by rw [ht]; simp; omega)] at h2
    rw [← List.length_eq_zero_iff, ← List.length_eq_zero_iff, h3, h2]
    simp [h9]
   ·rw [if_neg h9] at h3
    simp [List.length_eq_zero_iff.1 h3, h9]
def Ztt (k : Int) (a b : Stt) : Stt :=
  ⟨IntKind.wrap .i64 (a.count + b.count), a.null || b.null, a.has || b.has,
   if a.has = false then b.min else if b.has = true ∧ (cmpV k b.min a.min).1 < 0 then b.min else a.min,
   if a.has = false then b.max else if b.has = true ∧ 0 < (cmpV k b.max a.max).1 then b.max else a.max,
   if a.sums = true ∧ b.sums = true then (addF a.sum b.sum).2 else false,
   if a.sums = true ∧ b.sums = true then (addF a.sum b.sum).1 else 0⟩
end Go.Abs
namespace Go.Abs
open Go Go.Proofs
attribute [local irreducible] AWp aops KP
mutual
def Ztu : Vl → Vl → Bool
 | .mk nu i n b ks, w => (nu == w.null) && (decide (i = w.i) && (decide (n = w.n) && (decide (b = w.b) && (decide (ks.length = w.kids.length) && Ztv ks w.kids))))
def Ztv : List Vl → List Vl → Bool
 | [], _ => true
 | v :: vs, ws => Ztu v (ws.getD 0 default) && Ztv vs (ws.drop 1)
end
theorem Ztw : ∀ v : Vl, Ztu v v = true := by
 refine Vl.ind fun nu i n b ks ih => ?_
 have hL : ∀ (ks : List Vl), (∀ v ∈ ks, Ztu v v = true) → Ztv ks ks = true := by
  intro ks
  induction ks with
  | nil => intro _; rfl
  | cons v vs ih2 => intro h; rw [Ztv]; simp [h v (by simp), ih2 (fun v hv => h v (by simp [hv]))]
 rw [Ztu]
 simp [Vl.null, Vl.i, Vl.n, Vl.b, Vl.kids, hL ks ih]
theorem Ztx : ∀ (ks ws : List Vl) (j : Nat) (v w : Vl), ks[j]? = some v → ws[j]? = some w → Ztv (ks.drop j) (ws.drop j) = (Ztu v w && Ztv (ks.drop (j + 1)) (ws.drop (j + 1))) := by
 intro ks ws j v w h1 h2
 obtain ⟨h1', rfl⟩ := List.getElem?_eq_some_iff.1 h1
 obtain ⟨h2', rfl⟩ := List.getElem?_eq_some_iff.1 h2
 rw [List.drop_eq_getElem_cons h1', Ztv, List.drop_eq_getElem_cons h2']
 simp [h2']
theorem Zty : ∀ (a : Vl), a.Fit → ∀ (b : Vl) (σ : Zc), Z1s Try.prog Zcc [encV a, encV b] σ fun r σ' => r = .bool (Ztu a b) ∧ σ' = σ := by
 refine Vl.ind fun nu i n bs ks ih hf b σ => ?_
 cases hf with
 | mk _ hb hk hks =>
 have hk : ks.length ≤ 9223372036854775807 := hk
 rw [Zmi, Zmi]
 obtain ⟨bn, bi, b_n, bb, bk⟩ := b
 refine Z94 rfl Zsg (Nat.le_of_ble_eq_true rfl) ?_
 refine Za1 ?_
 refine Z9n rfl (Kfi rfl) fun b2 hb2 => ?_
 refine Z9n rfl (Kfi rfl) fun b3 hb3 => ?_
 repeat refine Kq rfl rfl rfl ?_
 (refine Z99 ?_; (repeat(first|refine Z9x rfl ?_|refine Z9y ?_)); refine Z9w ?_)
 refine Zaj (d := 3) (cs := [.bool bn, .int .i64 bi, .int .i64 b_n, .slc 1 (bytes bb) false, .slc 5 (Zmg bk) false]) rfl ?_
 refine Zaj (d := 2) (cs := [.bool nu, .int .i64 i, .int .i64 n, .slc 1 (bytes bs) false, .slc 5 (Zmg ks) false]) rfl ?_
 generalize hX : Ztu (.mk nu i n bs ks) (.mk bn bi b_n bb bk) = X
 simp only [Ztu, Vl.null, Vl.i, Vl.n, Vl.b, Vl.kids] at hX
 have eL : ∀ l : List Vl, (Zmg l).length = l.length := Zmk
 cases q0 : (nu == bn) with
 | false =>
  have q0' : (!(nu == bn)) = true := by rw [q0]; rfl
  (repeat(first|refine Kq rfl rfl rfl ?_|refine Ks ?_|refine Zb1 (fun _ _ => rfl) ?_))
  rw [q0']
  (repeat(first|refine Kq rfl rfl rfl ?_|refine Z97 rfl ?_|(refine Z99 ?_; (repeat(first|refine Z9x rfl ?_|refine Z9y ?_)); refine Z9w ?_)|refine Ks ?_|refine Zb1 (fun _ _ => rfl) ?_|refine Kc1 rfl ?_))
  (refine Z8o ?_; exact Kar rfl ⟨(by rw [← hX, q0]; rfl), rfl⟩)
 | true =>
 have q0' : (!(nu == bn)) = false := by rw [q0]; rfl
 (repeat(first|refine Kq rfl rfl rfl ?_|refine Ks ?_|refine Zb1 (fun _ _ => rfl) ?_))
 rw [q0']
 (repeat(first|refine Kq rfl rfl rfl ?_|refine Z96 rfl (Kq rfl rfl rfl ?_)))
 by_cases q1 : i = bi
 rotate_left
 ·(rw [decide_eq_true (p := i ≠ bi) (by omega)])
  (repeat(first|refine Kq rfl rfl rfl ?_|refine Z97 rfl ?_|(refine Z99 ?_; (repeat(first|refine Z9x rfl ?_|refine Z9y ?_)); refine Z9w ?_)|refine Ks ?_|refine Zb1 (fun _ _ => rfl) ?_|refine Kc1 rfl ?_))
  (refine Z8o ?_; exact Kar rfl ⟨(by rw [← hX]; simp [q1, Z8x]), rfl⟩)
 (rw [decide_eq_false (p := i ≠ bi) (by omega)])
 (repeat(first|refine Kq rfl rfl rfl ?_|refine Z96 rfl (Kq rfl rfl rfl ?_)))
 by_cases q2 : n = b_n
 rotate_left
 ·(rw [decide_eq_true (p := n ≠ b_n) (by omega)])
  (repeat(first|refine Kq rfl rfl rfl ?_|refine Z97 rfl ?_|(refine Z99 ?_; (repeat(first|refine Z9x rfl ?_|refine Z9y ?_)); refine Z9w ?_)|refine Ks ?_|refine Zb1 (fun _ _ => rfl) ?_|refine Kc1 rfl ?_))
  (refine Z8o ?_; exact Kar rfl ⟨(by rw [← hX]; simp [q2, Z8x]), rfl⟩)
 (rw [decide_eq_false (p := n ≠ b_n) (by omega)])
 (repeat(first|refine Kq rfl rfl rfl ?_|refine Z96 rfl (Kq rfl rfl rfl ?_)|refine Z96 rfl (Zbb rfl rfl ?_)))
 by_cases q3 : bs = bb
 rotate_left
 ·rw [show decide (bs ≠ bb) = true from decide_eq_true q3]
  (repeat(first|refine Kq rfl rfl rfl ?_|refine Z97 rfl ?_|(refine Z99 ?_; (repeat(first|refine Z9x rfl ?_|refine Z9y ?_)); refine Z9w ?_)|refine Ks ?_|refine Zb1 (fun _ _ => rfl) ?_|refine Kc1 rfl ?_))
  (refine Z8o ?_; exact Kar rfl ⟨(by rw [← hX]; simp [q3, Z8x]), rfl⟩)
 rw [show decide (bs ≠ bb) = false from decide_eq_false (fun h => h q3)]
 (repeat(first|refine Kq rfl rfl rfl ?_|refine Z96 rfl (Kq rfl rfl rfl ?_)|(refine Z99 ?_; (repeat(first|refine Z9x rfl ?_|refine Z9y ?_)); refine Z9w ?_)))
 rw [eL, eL]
 by_cases q4 : ks.length = bk.length
 rotate_left
 ·(rw [decide_eq_true (p := (ks.length : Int) ≠ (bk.length : Int)) (by omega)])
  (repeat(first|refine Kq rfl rfl rfl ?_|(refine Z99 ?_; (repeat(first|refine Z9x rfl ?_|refine Z9y ?_)); refine Z9w ?_)|refine Ks ?_|refine Zb1 (fun _ _ => rfl) ?_|refine Kc1 rfl ?_))
  (refine Z8o ?_; exact Kar rfl ⟨(by rw [← hX]; simp [q4, Z8x]), rfl⟩)
 (rw [decide_eq_false (p := (ks.length : Int) ≠ (bk.length : Int)) (by omega)])
 (repeat(first|refine Kq rfl rfl rfl ?_|(refine Z99 ?_; (repeat(first|refine Z9x rfl ?_|refine Z9y ?_)); refine Z9w ?_)|refine Ks ?_|refine Zb1 (fun _ _ => rfl) ?_|refine Z8s ?_|refine Zb2 (fun _ _ => rfl) ?_|refine Kc2 rfl ?_))
 have hX : Ztv ks bk = X := by rw [← hX]; simp [q0, q1, q2, q3, q4]
 refine Za6 (fun m F σ' => ∃ (j : Nat), F = fset 2 (some (.iptr [.bool nu, .int .i64 i, .int .i64 n, .slc 1 (bytes bs) false, .slc 5 (Zmg ks) false])) (fset 3 (some (.iptr [.bool bn, .int .i64 bi, .int .i64 b_n, .slc 1 (bytes bb) false, .slc 5 (Zmg bk) false])) (fset 5 (some (.int .i64 (j : Int))) Z28)) ∧
  σ = σ' ∧ j ≤ ks.length ∧ Ztv (ks.drop j) (bk.drop j) = X ∧ m = ks.length - j) (n := ks.length) ⟨0, rfl, rfl, by omega, hX, rfl⟩ ?_
 rintro m F σ' ⟨j, rfl, rfl, hj, hXj, rfl⟩
 (repeat(first|refine Kq rfl rfl rfl ?_|(refine Z99 ?_; (repeat(first|refine Z9x rfl ?_|refine Z9y ?_)); refine Z9w ?_)|refine Ks ?_|refine Zb1 (fun _ _ => rfl) ?_))
 rw [eL]
 refine Za2 (p := (j : Int) < (ks.length : Int)) rfl (fun h5 => ?_) (fun h5 => ?_)
 ·have hjl : j < ks.length := by omega
  have hjl2 : j < bk.length := by omega
  have h1 : (Zmg ks)[((j : Nat) : Int).toNat]? = some (.agg (Zmh ks[j])) := by rw [← Zmi]; exact Zml (by rw [Int.toNat_natCast, List.getElem?_eq_getElem hjl])
  have h2 : (Zmg bk)[((j : Nat) : Int).toNat]? = some (.agg (Zmh bk[j])) := by rw [← Zmi]; exact Zml (by rw [Int.toNat_natCast, List.getElem?_eq_getElem hjl2])
  rw [Ztx ks bk j ks[j] bk[j] (List.getElem?_eq_getElem hjl) (List.getElem?_eq_getElem hjl2)] at hXj
  have hc := ih ks[j] (List.getElem_mem hjl) (hks _ (List.getElem_mem hjl)) bk[j]
  rw [Zmi, Zmi] at hc
  (repeat(first|refine Kq rfl rfl rfl ?_|refine Ks ?_|refine Zb1 (fun _ _ => rfl) ?_|refine Z8s ?_|refine Zb2 (fun _ _ => rfl) ?_))
  refine Z9d rfl (by omega) h1 ?_
  (repeat refine Kq rfl rfl rfl ?_)
  refine Z9d rfl (by omega) h2 ?_
  (repeat refine Kq rfl rfl rfl ?_)
  (first|refine Z9v rfl (hc _) ?_|refine Z96 rfl (Z9v rfl (hc _) ?_)|refine Zb9 rfl hc ?_|refine Z96 rfl (Zb9 rfl hc ?_))
  cases hs : Ztu ks[j] bk[j] with
  | false =>
   rw [hs, Bool.false_and] at hXj
   (repeat(first|refine Kq rfl rfl rfl ?_|(refine Z99 ?_; (repeat(first|refine Z9x rfl ?_|refine Z9y ?_)); refine Z9w ?_)|refine Ks ?_|refine Zb1 (fun _ _ => rfl) ?_|refine Kc1 rfl ?_))
   (refine Z8o ?_; exact Kar rfl ⟨(by rw [← hXj]; rfl), rfl⟩)
  | true =>
   rw [hs, Bool.true_and] at hXj
   (repeat(first|refine Kq rfl rfl rfl ?_|(refine Z99 ?_; (repeat(first|refine Z9x rfl ?_|refine Z9y ?_)); refine Z9w ?_)|refine Zb2 (fun _ _ => rfl) ?_|refine Kc2 rfl ?_))
   refine Zb4 ?_
   repeat refine Kq rfl rfl rfl ?_
   rw [Kwr j (by omega)]
   (refine Z99 ?_; (repeat(first|refine Z9x rfl ?_|refine Z9y ?_)); refine Z9w ?_)
   exact ⟨_, ks.length - (j + 1), HSub.refl _, ⟨j + 1, rfl, rfl, by omega, hXj, rfl⟩, by omega⟩
 ·(repeat(first|refine Kq rfl rfl rfl ?_|(refine Z99 ?_; (repeat(first|refine Z9x rfl ?_|refine Z9y ?_)); refine Z9w ?_)|refine Ks ?_|refine Zb1 (fun _ _ => rfl) ?_|refine Zb3 (fun _ _ => rfl) ?_))
  rw [List.drop_of_length_le (by omega), Ztv] at hXj
  (refine Z8o ?_; exact Kar rfl ⟨(by rw [← hXj]; rfl), rfl⟩)
end Go.Abs
namespace Go.Abs
open Go Go.Proofs
attribute [local irreducible] AWp aops KP
end Go.Abs

