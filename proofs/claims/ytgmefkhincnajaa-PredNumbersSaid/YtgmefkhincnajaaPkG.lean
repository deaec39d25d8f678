/- Part G of a proof: merged by program. -/
import Derived.Test.YtgmefkhincnajaaPkE
namespace Go.Abs
open Go Go.Proofs
set_option linter.unusedVariables false
set_option linter.unusedSimpArgs false
def Zy8 (l : List (List UInt8)) : List Z0 := l.map fun b => .slc 1 (bytes b) false
def ColG (w : Z0) (c : Col) (β : Zc) : Prop := ∃ v1 v2 v3 v4 v5 β1 β2 β3 β4 β5, w = .agg [v1, v2, v3, v4, v5] ∧ Zbr 1 v1 (c.here.map .bool) β1 ∧ Zbr 1 v2 (c.ints.map (.int .i64)) β2 ∧
  Zbr 1 v3 (c.ns.map (.int .i64)) β3 ∧ Zbr 1 v4 (Zy8 c.texts) β4 ∧ Zbr 1 v5 (c.lens.map (.int .i64)) β5 ∧ β = β1 ++ (β2 ++ (β3 ++ (β4 ++ β5)))
def Zy9 : List Z0 → List Col → Zc → Prop
  | [], [], β => β = []
  | w :: ws, c :: cs, β => ∃ β1 γ, ColG w c β1 ∧ Zy9 ws cs γ ∧ β = β1 ++ γ
  | _, _, _ => False
theorem Zy9.len : ∀ {ws : List Z0} {cs : List Col} {β : Zc}, Zy9 ws cs β → ws.length = cs.length
  | [], [], _, _ => rfl
  | _ :: _, _ :: _, _, ⟨_, _, _, h, _⟩ => by rw [List.length_cons, List.length_cons, h.len]
  | [], _ :: _, _, h => h.elim
  | _ :: _, [], _, h => h.elim
theorem Zya {α : Type} (a b c : List α) : (a ++ (b ++ c)).Perm (b ++ (a ++ c)) := by
  rw [← List.append_assoc, ← List.append_assoc]
  exact List.Perm.append_right c List.perm_append_comm
theorem Zy9.pick : ∀ {ws : List Z0} {cs : List Col} {β : Zc} (i : Nat) (w : Z0) (c : Col), Zy9 ws cs β → ws[i]? = some w → cs[i]? = some c →
    ∃ β1 γ, ColG w c β1 ∧ β.Perm (β1 ++ γ) ∧ ∀ w' c' β', ColG w' c' β' → ∃ δ, Zy9 (ws.set i w') (cs.set i c') δ ∧ δ.Perm (β' ++ γ)
  | [], [], _, i, w, c, _, h1, _ => by simp at h1
  | [], _ :: _, _, _, _, _, h, _, _ => h.elim
  | _ :: _, [], _, _, _, _, h, _, _ => h.elim
  | x :: ws, y :: cs, β, 0, w, c, ⟨β1, γ, h1, h2, h3⟩, e1, e2 => by
    simp only [List.getElem?_cons_zero, Option.some.injEq] at e1 e2
    subst e1 e2 h3
    exact ⟨β1, γ, h1, List.Perm.refl _, fun w' c' β' h' => ⟨β' ++ γ, ⟨β', γ, h', h2, rfl⟩, List.Perm.refl _⟩⟩
  | x :: ws, y :: cs, β, i + 1, w, c, ⟨β1, γ, h1, h2, h3⟩, e1, e2 => by
    simp only [List.getElem?_cons_succ] at e1 e2
    obtain ⟨η, γ', g1, g2, g3⟩ := Zy9.pick i w c h2 e1 e2
    subst h3
    refine ⟨η, β1 ++ γ', g1, (List.Perm.append_left β1 g2).trans (Zya _ _ _), fun w' c' β' h' => ?_⟩
    obtain ⟨δ, k1, k2⟩ := g3 w' c' β' h'
    exact ⟨β1 ++ δ, ⟨β1, δ, h1, k1, rfl⟩, (List.Perm.append_left β1 k2).trans (Zya _ _ _)⟩
theorem ColG.nil : ColG (.agg [.slc 0 [] true, .slc 0 [] true, .slc 0 [] true, .slc 0 [] true, .slc 0 [] true]) ⟨[], [], [], [], []⟩ [] :=
  ⟨_, _, _, _, _, [], [], [], [], [], rfl, Zbr.nil 1 0, Zbr.nil 1 0, Zbr.nil 1 0, Zbr.nil 1 0, Zbr.nil 1 0, rfl⟩
theorem Zy9.nil : ∀ n, Zy9 (List.replicate n (.agg [.slc 0 [] true, .slc 0 [] true, .slc 0 [] true, .slc 0 [] true, .slc 0 [] true])) (List.replicate n ⟨[], [], [], [], []⟩) []
  | 0 => rfl
  | n + 1 => ⟨[], [], ColG.nil, Zy9.nil n, rfl⟩
theorem Zyb {α : Type} (x : α) (a m r : List α) : (m ++ (x :: (a ++ r))).Perm (x :: (a ++ (m ++ r))) :=
  (Zya m [x] (a ++ r)).trans (List.Perm.cons x (Zya m a r))
theorem Zyc {α : Type} (x : α) (a m r : List α) : (x :: (a ++ (m ++ r))).Perm (m ++ (x :: (a ++ r))) := (Zyb x a m r).symm
theorem Zyd {β τ : Zc} {b : Nat} {x : Zb} (h : (Zh (β ++ (b, x) :: τ)).Nodup) : Zd (β ++ (b, x) :: τ) b = some x := by
  have hb : b ∉ Zh β := by
    intro hb
    rw [Zh, List.map_append, List.nodup_append] at h
    exact h.2.2 b hb b (by simp) rfl
  rw [Zah hb]
  exact Z8z
end Go.Abs
namespace Go.Abs
open Go Go.Proofs
set_option linter.unusedVariables false
set_option linter.unusedSimpArgs false
instance : Inhabited Col := ⟨⟨[], [], [], [], []⟩⟩
def col0 : Col := ⟨[], [], [], [], []⟩
def Zye (k : Int) (v : Vl) (c : Col) : Col :=
  if Zmb k = true then { c with texts := c.texts ++ [v.b] }
  else if k = 10 then { c with lens := c.lens ++ [(v.kids.length : Int)] }
  else if k = 11 then { c with lens := c.lens ++ [((v.kids.length / 2 : Nat) : Int)] }
  else if k ≠ 12 then { c with ints := c.ints ++ [v.i] }
  else c
def Zyf (k : Int) (v : Vl) (c : Col) : Col := if k = 9 then { c with ns := c.ns ++ [v.n] } else c
def Zyg (b : Bool) (c : Col) : Col := { c with here := c.here ++ [b] }
def addC (k : Int) (v : Vl) (c : Col) : Col := Zyf k v (Zye k v (Zyg true c))
def kidC (l : List Nd) (at_ : Nat) (k i : Int) (j : Nat) : Nat :=
  match l[at_]? with
  | some nd => nd.kids.getD (Zmf k i j) 0
  | none => 0
def Zyh (l : List Nd) (at_ : Nat) : Int :=
  match l[at_]? with
  | some nd => nd.t.kind
  | none => 0
mutual
def putF (l : List Nd) (at_ : Nat) : Vl → List Col → List Col × Bool
  | .mk nu i n b ks, cols =>
    if 16384 ≤ (cols.getD at_ col0).here.length then (cols, false)
    else if nu = true then (cols.set at_ (Zyg false (cols.getD at_ col0)), true)
    else putL l at_ i 0 ks (cols.set at_ (addC (Zyh l at_) (.mk nu i n b ks) (cols.getD at_ col0)))
def putL (l : List Nd) (at_ : Nat) (i : Int) (j : Nat) : List Vl → List Col → List Col × Bool
  | [], cols => (cols, true)
  | v :: vs, cols =>
    let r := putF l (kidC l at_ (Zyh l at_) i j) v cols
    if r.2 = true then putL l at_ i (j + 1) vs r.1 else (r.1, false)
end
inductive At (l : List Nd) : Nat → Ty → Prop
  | mk {at_ : Nat} {t : Ty} {nd : Nd} (h : l[at_]? = some nd) (ht : nd.t = t) (hk : nd.kids.length = t.kids.length)
      (hkids : ∀ (j x : Nat) (u : Ty), nd.kids[j]? = some x → t.kids[j]? = some u → At l x u) : At l at_ t
theorem Zyi : ∀ (ks : List Ty) (a : Nat), (Zly a ks).length = ks.length
  | [], _ => rfl
  | t :: ks, a => by rw [Zly, List.length_cons, List.length_cons, Zyi ks]
theorem Zyj : ∀ (ks : List Ty) (a j x : Nat), (Zly a ks)[j]? = some x → x = a + cntL (ks.take j)
  | [], a, j, x, h => by simp [Zly] at h
  | t :: ks, a, 0, x, h => by simp [Zly] at h; simp [cntL, h]
  | t :: ks, a, j + 1, x, h => by
    simp only [Zly, List.getElem?_cons_succ] at h
    rw [Zyj ks _ j x h, List.take_succ_cons, cntL]
    omega
theorem Zyk : ∀ (ks : List Ty) (a j : Nat) (p : Int) (d : Nat) (u : Ty), ks[j]? = some u → ∃ post, Zm0 a p d ks = Zm0 a p d (ks.take j) ++ (Zlz (a + cntL (ks.take j)) p d u ++ post)
  | [], a, j, p, d, u, h => by simp at h
  | t :: ks, a, 0, p, d, u, h => by
    simp only [List.getElem?_cons_zero, Option.some.injEq] at h
    subst h
    exact ⟨Zm0 (a + cnt t) p d ks, by simp only [List.take_zero, cntL, Zm0, List.nil_append, Nat.add_zero]⟩
  | t :: ks, a, j + 1, p, d, u, h => by
    simp only [List.getElem?_cons_succ] at h
    obtain ⟨post, hp⟩ := Zyk ks (a + cnt t) j p d u h
    refine ⟨post, ?_⟩
    rw [Zm0, hp, List.take_succ_cons, Zm0, cntL, List.append_assoc, Nat.add_assoc]
theorem Zyl : ∀ (t : Ty) (pre post : List Nd) (p : Int) (d : Nat), At (pre ++ (Zlz pre.length p d t ++ post)) pre.length t := by
  refine Ty.ind fun k ns ks le pr sc ih pre post p d => ?_
  rw [Zlz]
  refine At.mk (nd := ⟨.mk k ns ks le pr sc, Zly (pre.length + 1) ks, p, d⟩) (by rw [List.getElem?_append_right (Nat.le_refl _), Nat.sub_self]; rfl) rfl (Zyi ks _) fun j x u hx hu => ?_
  have hx' := Zyj _ _ _ _ hx
  have hu' : ks[j]? = some u := hu
  obtain ⟨post', hp⟩ := Zyk ks (pre.length + 1) j (pre.length : Int) (d + 1) u hu'
  have hlen : (Zm0 (pre.length + 1) (pre.length : Int) (d + 1) (ks.take j)).length = cntL (ks.take j) := Zng _ _ _ _
  have := ih u (List.mem_of_getElem? hu') (pre ++ (⟨.mk k ns ks le pr sc, Zly (pre.length + 1) ks, p, d⟩ :: Zm0 (pre.length + 1) (pre.length : Int) (d + 1) (ks.take j))) (post' ++ post) (pre.length : Int) (d + 1)
  have hl2 : (pre ++ ((⟨.mk k ns ks le pr sc, Zly (pre.length + 1) ks, p, d⟩ : Nd) :: Zm0 (pre.length + 1) (pre.length : Int) (d + 1) (ks.take j))).length = x := by
    rw [List.length_append, List.length_cons, hlen, hx']; omega
  rw [hl2] at this
  rw [hp, ← hx']
  simpa [List.append_assoc] using this
theorem At.lt {l : List Nd} {at_ : Nat} {t : Ty} (h : At l at_ t) : at_ < l.length := by
  cases h with
  | mk h _ _ _ => exact (List.getElem?_eq_some_iff.1 h).1
theorem Zym (t : Ty) (h : Zlx t = 0) : At (Zm4 t) 0 t := by
  have := Zyl t [] [] (-1) 1
  rw [Zm4, if_pos h]
  simpa using this
end Go.Abs
namespace Go.Abs
open Go Go.Proofs
set_option linter.unusedVariables false
set_option linter.unusedSimpArgs false
set_option maxHeartbeats 4000000
attribute [local irreducible] AWp aops KP
structure Col.Sm (c : Col) : Prop where
  here : c.here.length ≤ 16384
  ints : c.ints.length ≤ c.here.length
  ns : c.ns.length ≤ c.here.length
  texts : c.texts.length ≤ c.here.length
  lens : c.lens.length ≤ c.here.length
theorem Zyn {b : Nat} {x : Zb} {m r : Zc} : HSub (m ++ ((b, x) :: r)) ((b, x) :: (m ++ r)) := HSub.of_perm (Zyb (b, x) [] m r)
theorem Zyo {b : Nat} {x : Zb} {a m r : Zc} : HSub (m ++ ((b, x) :: (a ++ r))) ((b, x) :: (a ++ (m ++ r))) := HSub.of_perm (Zyb (b, x) a m r)
theorem Zyp {b : Nat} {x : Zb} {a m r : Zc} : HSub ((b, x) :: (a ++ (m ++ r))) (m ++ ((b, x) :: (a ++ r))) := HSub.of_perm (Zyb (b, x) a m r).symm
theorem Zyq {c : Z2b} {R R' : Z87} (hR : ∀ F σ, R .normal F σ = AWp Try.prog ingotref15_put.n c R' F σ) (b at_ : Nat) (ws : List Z0) (w : Z0) (hw : ws[at_]? = some w) (C : Col) (β : Zc) (hG : ColG w C β) (hl : C.here.length ≤ 16384)
    (v : Vl) (L A I : Z0) (ρ : Zc)
    (h : ∀ w' β', ColG w' (Zyg (!v.null) C) β' → AWp Try.prog ingotref15_put.n c R' (fset 0 (some L) (fset 1 (some A) (fset 2 (some I) (fset 7 (some (.iptr (Zm6 v))) (fset 9 (some (.ptr b at_ 0)) Z27))))) ((b, .cells 5 (ws.set at_ w')) :: (β' ++ ρ))) :
    AWp Try.prog ingotref15_put.n (.region ingotref15_put_r4 [0, 1, 2, 7, 9]) R (fset 0 (some L) (fset 1 (some A) (fset 2 (some I) (fset 7 (some (.iptr (Zm6 v))) (fset 9 (some (.ptr b at_ 0)) Z27))))) ((b, .cells 5 ws) :: (β ++ ρ)) := by
  obtain ⟨v1, v2, v3, v4, v5, β1, β2, β3, β4, β5, rfl, g1, g2, g3, g4, g5, rfl⟩ := hG
  rw [List.append_assoc]
  refine Z8a (FSub.refl _) Zyn ?_
  refine Z89 fun nd => ?_
  refine Zbm hR ?_
  (repeat (refine st_q rfl rfl rfl ?_))
  refine Z92 rfl (Zyd nd) hw rfl ?_
  (repeat (refine st_q rfl rfl rfl ?_))
  refine Zbs g1 rfl (ys := [.bool (!v.null)]) rfl (by rw [List.length_map, List.length_singleton]; omega) fun b' hb' => ?_
  have hne : b' ≠ b := fun e => hb' (by rw [e]; simp [Zh])
  (repeat (refine st_q rfl rfl rfl ?_))
  refine Z9a rfl (Z90 hne Z8z) hw (by decide) (Z0.fit_iff.1 rfl) (fun h => by cases h) (Z9c hne Z9b) ?_
  (refine Z8y ?_; (repeat (first | refine Z9v rfl ?_ | refine Z9w ?_)); refine Z9u ?_)
  refine Z8a (FSub.refl _) (HSub.swap _ _ _) ?_
  have e : C.here.map Z0.bool ++ [.bool (!v.null)] = (Zyg (!v.null) C).here.map Z0.bool := by simp [Zyg]
  rw [e]
  have := h (.agg [.arr 1 b' 0 ((Zyg (!v.null) C).here.map Z0.bool).length, v2, v3, v4, v5]) ((b', .cells 1 ((Zyg (!v.null) C).here.map Z0.bool)) :: (β2 ++ (β3 ++ (β4 ++ β5))))
    ⟨_, _, _, _, _, [(b', _)], β2, β3, β4, β5, rfl, Zbr.mk, g2, g3, g4, g5, rfl⟩
  exact this
-- APPENDS (printed by putgen.py)
theorem quo2 (n : Nat) (h : n ≤ 9223372036854775807) : IntKind.wrap .i64 ((n : Int).tdiv 2) = ((n / 2 : Nat) : Int) := by
  have e : (n : Int).tdiv 2 = ((n / 2 : Nat) : Int) := by rw [Int.tdiv_eq_ediv_of_nonneg (by omega)]; omega
  rw [e, w64 _ (by omega) (by omega)]
theorem Zyr {c : Z2b} {R R' : Z87} (hR : ∀ F σ, R .normal F σ = AWp Try.prog ingotref15_put.n c R' F σ) (b at_ : Nat) (ws : List Z0) (w : Z0) (hw : ws[at_]? = some w) (C : Col) (β : Zc) (hG : ColG w C β) (hl : C.texts.length ≤ 16384)
    (v : Vl) (L A I T : Z0) (ρ : Zc)
    (h : ∀ w' β', ColG w' ({ C with texts := C.texts ++ [v.b] }) β' → AWp Try.prog ingotref15_put.n c R' (fset 0 (some L) (fset 1 (some A) (fset 2 (some I) (fset 7 (some (.iptr (Zm6 v))) (fset 9 (some (.ptr b at_ 0)) (fset 10 (some T) Z27)))))) ((b, .cells 5 (ws.set at_ w')) :: (β' ++ ρ))) :
    AWp Try.prog ingotref15_put.n (.region ingotref15_put_r9 [0, 1, 2, 7, 9, 10]) R (fset 0 (some L) (fset 1 (some A) (fset 2 (some I) (fset 7 (some (.iptr (Zm6 v))) (fset 9 (some (.ptr b at_ 0)) (fset 10 (some T) Z27)))))) ((b, .cells 5 ws) :: (β ++ ρ)) := by
  obtain ⟨v1, v2, v3, v4, v5, β1, β2, β3, β4, β5, rfl, g1, g2, g3, g4, g5, rfl⟩ := hG
  refine Z8a (FSub.refl _) (show HSub (β4 ++ ((b, .cells 5 ws) :: ((β1 ++ β2 ++ β3) ++ (β5 ++ (ρ))))) ((b, .cells 5 ws) :: ((β1 ++ (β2 ++ (β3 ++ (β4 ++ β5)))) ++ ρ)) from by
    have := @Zyo b (.cells 5 ws) (β1 ++ β2 ++ β3) β4 (β5 ++ (ρ))
    simpa [List.append_assoc] using this) ?_
  refine Z89 fun nd => ?_
  refine Zbm hR ?_
  (repeat (refine st_q rfl rfl rfl ?_))
  refine Z92 rfl (Zyd nd) hw rfl ?_
  (repeat (refine st_q rfl rfl rfl ?_))
  refine Zbs g4 rfl (ys := [.slc 1 (bytes v.b) false]) rfl (by rw [List.length_singleton]; simp only [Zy8, List.length_map]; omega) fun b' hb' => ?_
  have hne : b' ≠ b := fun e => hb' (by rw [e]; simp [Zh])
  (repeat (refine st_q rfl rfl rfl ?_))
  refine Z9a rfl (Z90 hne Z8z) hw (by decide) (Z0.fit_iff.1 rfl) (fun h => by cases h) (Z9c hne Z9b) ?_
  (refine Z8y ?_; (repeat (first | refine Z9v rfl ?_ | refine Z9w ?_)); refine Z9u ?_)
  have e : Zy8 (C.texts) ++ [.slc 1 (bytes v.b) false] = Zy8 ({ C with texts := C.texts ++ [v.b] }.texts) := by simp [Zy8]
  rw [e]
  refine Z8a (FSub.refl _) (show HSub ((b, .cells 5 (ws.set at_ (.agg [v1, v2, v3, (.arr 1 b' 0 (Zy8 ({ C with texts := C.texts ++ [v.b] }.texts)).length), v5]))) :: ((β1 ++ (β2 ++ (β3 ++ ([(b', .cells 1 (Zy8 ({ C with texts := C.texts ++ [v.b] }.texts)))] ++ β5)))) ++ ρ)) ((b', .cells 1 (Zy8 ({ C with texts := C.texts ++ [v.b] }.texts))) :: (b, .cells 5 (ws.set at_ (.agg [v1, v2, v3, (.arr 1 b' 0 (Zy8 ({ C with texts := C.texts ++ [v.b] }.texts)).length), v5]))) :: ((β1 ++ β2 ++ β3) ++ (β5 ++ (ρ)))) from by
    have := @Zyp b (.cells 5 (ws.set at_ (.agg [v1, v2, v3, (.arr 1 b' 0 (Zy8 ({ C with texts := C.texts ++ [v.b] }.texts)).length), v5]))) (β1 ++ β2 ++ β3) [(b', .cells 1 (Zy8 ({ C with texts := C.texts ++ [v.b] }.texts)))] (β5 ++ (ρ))
    simpa [List.append_assoc] using this) ?_
  exact h _ _ ⟨_, _, _, _, _, β1, β2, β3, [(b', .cells 1 (Zy8 ({ C with texts := C.texts ++ [v.b] }.texts)))], β5, rfl, g1, g2, g3, Zbr.mk, g5, rfl⟩
theorem Zys {c : Z2b} {R R' : Z87} (hR : ∀ F σ, R .normal F σ = AWp Try.prog ingotref15_put.n c R' F σ) (b at_ : Nat) (ws : List Z0) (w : Z0) (hw : ws[at_]? = some w) (C : Col) (β : Zc) (hG : ColG w C β) (hl : C.lens.length ≤ 16384)
    (v : Vl) (L A I T : Z0) (ρ : Zc)
    (h : ∀ w' β', ColG w' ({ C with lens := C.lens ++ [(v.kids.length : Int)] }) β' → AWp Try.prog ingotref15_put.n c R' (fset 0 (some L) (fset 1 (some A) (fset 2 (some I) (fset 7 (some (.iptr (Zm6 v))) (fset 9 (some (.ptr b at_ 0)) (fset 10 (some T) Z27)))))) ((b, .cells 5 (ws.set at_ w')) :: (β' ++ ρ))) :
    AWp Try.prog ingotref15_put.n (.region ingotref15_put_r11 [0, 1, 2, 7, 9, 10]) R (fset 0 (some L) (fset 1 (some A) (fset 2 (some I) (fset 7 (some (.iptr (Zm6 v))) (fset 9 (some (.ptr b at_ 0)) (fset 10 (some T) Z27)))))) ((b, .cells 5 ws) :: (β ++ ρ)) := by
  obtain ⟨v1, v2, v3, v4, v5, β1, β2, β3, β4, β5, rfl, g1, g2, g3, g4, g5, rfl⟩ := hG
  refine Z8a (FSub.refl _) (show HSub (β5 ++ ((b, .cells 5 ws) :: ((β1 ++ β2 ++ β3 ++ β4) ++ (ρ)))) ((b, .cells 5 ws) :: ((β1 ++ (β2 ++ (β3 ++ (β4 ++ β5)))) ++ ρ)) from by
    have := @Zyo b (.cells 5 ws) (β1 ++ β2 ++ β3 ++ β4) β5 (ρ)
    simpa [List.append_assoc] using this) ?_
  refine Z89 fun nd => ?_
  refine Zbm hR ?_
  (repeat (refine st_q rfl rfl rfl ?_))
  refine Z92 rfl (Zyd nd) hw rfl ?_
  (repeat (refine st_q rfl rfl rfl ?_))
  refine Zbs g5 rfl (ys := [.int .i64 ((Zm5 v.kids).length : Int)]) rfl (by rw [List.length_singleton]; simp only [Zy8, List.length_map]; omega) fun b' hb' => ?_
  have hne : b' ≠ b := fun e => hb' (by rw [e]; simp [Zh])
  (repeat (refine st_q rfl rfl rfl ?_))
  refine Z9a rfl (Z90 hne Z8z) hw (by decide) (Z0.fit_iff.1 rfl) (fun h => by cases h) (Z9c hne Z9b) ?_
  (refine Z8y ?_; (repeat (first | refine Z9v rfl ?_ | refine Z9w ?_)); refine Z9u ?_)
  have e : List.map (Z0.int .i64) (C.lens) ++ [.int .i64 ((Zm5 v.kids).length : Int)] = List.map (Z0.int .i64) ({ C with lens := C.lens ++ [(v.kids.length : Int)] }.lens) := by simp [Zm9]
  rw [e]
  refine Z8a (FSub.refl _) (show HSub ((b, .cells 5 (ws.set at_ (.agg [v1, v2, v3, v4, (.arr 1 b' 0 (List.map (Z0.int .i64) ({ C with lens := C.lens ++ [(v.kids.length : Int)] }.lens)).length)]))) :: ((β1 ++ (β2 ++ (β3 ++ (β4 ++ [(b', .cells 1 (List.map (Z0.int .i64) ({ C with lens := C.lens ++ [(v.kids.length : Int)] }.lens)))])))) ++ ρ)) ((b', .cells 1 (List.map (Z0.int .i64) ({ C with lens := C.lens ++ [(v.kids.length : Int)] }.lens))) :: (b, .cells 5 (ws.set at_ (.agg [v1, v2, v3, v4, (.arr 1 b' 0 (List.map (Z0.int .i64) ({ C with lens := C.lens ++ [(v.kids.length : Int)] }.lens)).length)]))) :: ((β1 ++ β2 ++ β3 ++ β4) ++ (ρ))) from by
    have := @Zyp b (.cells 5 (ws.set at_ (.agg [v1, v2, v3, v4, (.arr 1 b' 0 (List.map (Z0.int .i64) ({ C with lens := C.lens ++ [(v.kids.length : Int)] }.lens)).length)]))) (β1 ++ β2 ++ β3 ++ β4) [(b', .cells 1 (List.map (Z0.int .i64) ({ C with lens := C.lens ++ [(v.kids.length : Int)] }.lens)))] (ρ)
    simpa [List.append_assoc] using this) ?_
  exact h _ _ ⟨_, _, _, _, _, β1, β2, β3, β4, [(b', .cells 1 (List.map (Z0.int .i64) ({ C with lens := C.lens ++ [(v.kids.length : Int)] }.lens)))], rfl, g1, g2, g3, g4, Zbr.mk, rfl⟩
theorem Zyt {c : Z2b} {R R' : Z87} (hR : ∀ F σ, R .normal F σ = AWp Try.prog ingotref15_put.n c R' F σ) (b at_ : Nat) (ws : List Z0) (w : Z0) (hw : ws[at_]? = some w) (C : Col) (β : Zc) (hG : ColG w C β) (hl : C.lens.length ≤ 16384)
    (v : Vl) (hk : v.kids.length ≤ 9223372036854775807) (L A I T : Z0) (ρ : Zc)
    (h : ∀ w' β', ColG w' ({ C with lens := C.lens ++ [((v.kids.length / 2 : Nat) : Int)] }) β' → AWp Try.prog ingotref15_put.n c R' (fset 0 (some L) (fset 1 (some A) (fset 2 (some I) (fset 7 (some (.iptr (Zm6 v))) (fset 9 (some (.ptr b at_ 0)) (fset 10 (some T) Z27)))))) ((b, .cells 5 (ws.set at_ w')) :: (β' ++ ρ))) :
    AWp Try.prog ingotref15_put.n (.region ingotref15_put_r13 [0, 1, 2, 7, 9, 10]) R (fset 0 (some L) (fset 1 (some A) (fset 2 (some I) (fset 7 (some (.iptr (Zm6 v))) (fset 9 (some (.ptr b at_ 0)) (fset 10 (some T) Z27)))))) ((b, .cells 5 ws) :: (β ++ ρ)) := by
  obtain ⟨v1, v2, v3, v4, v5, β1, β2, β3, β4, β5, rfl, g1, g2, g3, g4, g5, rfl⟩ := hG
  refine Z8a (FSub.refl _) (show HSub (β5 ++ ((b, .cells 5 ws) :: ((β1 ++ β2 ++ β3 ++ β4) ++ (ρ)))) ((b, .cells 5 ws) :: ((β1 ++ (β2 ++ (β3 ++ (β4 ++ β5)))) ++ ρ)) from by
    have := @Zyo b (.cells 5 ws) (β1 ++ β2 ++ β3 ++ β4) β5 (ρ)
    simpa [List.append_assoc] using this) ?_
  refine Z89 fun nd => ?_
  refine Zbm hR ?_
  (repeat (refine st_q rfl rfl rfl ?_))
  refine Z92 rfl (Zyd nd) hw rfl ?_
  (repeat (refine st_q rfl rfl rfl ?_))
  refine Zbs g5 rfl (ys := [.int .i64 (IntKind.wrap .i64 (((Zm5 v.kids).length : Int).tdiv 2))]) rfl (by rw [List.length_singleton]; simp only [Zy8, List.length_map]; omega) fun b' hb' => ?_
  have hne : b' ≠ b := fun e => hb' (by rw [e]; simp [Zh])
  (repeat (refine st_q rfl rfl rfl ?_))
  refine Z9a rfl (Z90 hne Z8z) hw (by decide) (Z0.fit_iff.1 rfl) (fun h => by cases h) (Z9c hne Z9b) ?_
  (refine Z8y ?_; (repeat (first | refine Z9v rfl ?_ | refine Z9w ?_)); refine Z9u ?_)
  have e : List.map (Z0.int .i64) (C.lens) ++ [.int .i64 (IntKind.wrap .i64 (((Zm5 v.kids).length : Int).tdiv 2))] = List.map (Z0.int .i64) ({ C with lens := C.lens ++ [((v.kids.length / 2 : Nat) : Int)] }.lens) := by rw [Zm9, quo2 _ hk]; simp
  rw [e]
  refine Z8a (FSub.refl _) (show HSub ((b, .cells 5 (ws.set at_ (.agg [v1, v2, v3, v4, (.arr 1 b' 0 (List.map (Z0.int .i64) ({ C with lens := C.lens ++ [((v.kids.length / 2 : Nat) : Int)] }.lens)).length)]))) :: ((β1 ++ (β2 ++ (β3 ++ (β4 ++ [(b', .cells 1 (List.map (Z0.int .i64) ({ C with lens := C.lens ++ [((v.kids.length / 2 : Nat) : Int)] }.lens)))])))) ++ ρ)) ((b', .cells 1 (List.map (Z0.int .i64) ({ C with lens := C.lens ++ [((v.kids.length / 2 : Nat) : Int)] }.lens))) :: (b, .cells 5 (ws.set at_ (.agg [v1, v2, v3, v4, (.arr 1 b' 0 (List.map (Z0.int .i64) ({ C with lens := C.lens ++ [((v.kids.length / 2 : Nat) : Int)] }.lens)).length)]))) :: ((β1 ++ β2 ++ β3 ++ β4) ++ (ρ))) from by
    have := @Zyp b (.cells 5 (ws.set at_ (.agg [v1, v2, v3, v4, (.arr 1 b' 0 (List.map (Z0.int .i64) ({ C with lens := C.lens ++ [((v.kids.length / 2 : Nat) : Int)] }.lens)).length)]))) (β1 ++ β2 ++ β3 ++ β4) [(b', .cells 1 (List.map (Z0.int .i64) ({ C with lens := C.lens ++ [((v.kids.length / 2 : Nat) : Int)] }.lens)))] (ρ)
    simpa [List.append_assoc] using this) ?_
  exact h _ _ ⟨_, _, _, _, _, β1, β2, β3, β4, [(b', .cells 1 (List.map (Z0.int .i64) ({ C with lens := C.lens ++ [((v.kids.length / 2 : Nat) : Int)] }.lens)))], rfl, g1, g2, g3, g4, Zbr.mk, rfl⟩
theorem Zyu {c : Z2b} {R R' : Z87} (hR : ∀ F σ, R .normal F σ = AWp Try.prog ingotref15_put.n c R' F σ) (b at_ : Nat) (ws : List Z0) (w : Z0) (hw : ws[at_]? = some w) (C : Col) (β : Zc) (hG : ColG w C β) (hl : C.ints.length ≤ 16384)
    (v : Vl) (L A I T : Z0) (ρ : Zc)
    (h : ∀ w' β', ColG w' ({ C with ints := C.ints ++ [v.i] }) β' → AWp Try.prog ingotref15_put.n c R' (fset 0 (some L) (fset 1 (some A) (fset 2 (some I) (fset 7 (some (.iptr (Zm6 v))) (fset 9 (some (.ptr b at_ 0)) (fset 10 (some T) Z27)))))) ((b, .cells 5 (ws.set at_ w')) :: (β' ++ ρ))) :
    AWp Try.prog ingotref15_put.n (.region ingotref15_put_r15 [0, 1, 2, 7, 9, 10]) R (fset 0 (some L) (fset 1 (some A) (fset 2 (some I) (fset 7 (some (.iptr (Zm6 v))) (fset 9 (some (.ptr b at_ 0)) (fset 10 (some T) Z27)))))) ((b, .cells 5 ws) :: (β ++ ρ)) := by
  obtain ⟨v1, v2, v3, v4, v5, β1, β2, β3, β4, β5, rfl, g1, g2, g3, g4, g5, rfl⟩ := hG
  refine Z8a (FSub.refl _) (show HSub (β2 ++ ((b, .cells 5 ws) :: ((β1) ++ (β3 ++ (β4 ++ (β5 ++ (ρ))))))) ((b, .cells 5 ws) :: ((β1 ++ (β2 ++ (β3 ++ (β4 ++ β5)))) ++ ρ)) from by
    have := @Zyo b (.cells 5 ws) (β1) β2 (β3 ++ (β4 ++ (β5 ++ (ρ))))
    simpa [List.append_assoc] using this) ?_
  refine Z89 fun nd => ?_
  refine Zbm hR ?_
  (repeat (refine st_q rfl rfl rfl ?_))
  refine Z92 rfl (Zyd nd) hw rfl ?_
  (repeat (refine st_q rfl rfl rfl ?_))
  refine Zbs g2 rfl (ys := [.int .i64 v.i]) rfl (by rw [List.length_singleton]; simp only [Zy8, List.length_map]; omega) fun b' hb' => ?_
  have hne : b' ≠ b := fun e => hb' (by rw [e]; simp [Zh])
  (repeat (refine st_q rfl rfl rfl ?_))
  refine Z9a rfl (Z90 hne Z8z) hw (by decide) (Z0.fit_iff.1 rfl) (fun h => by cases h) (Z9c hne Z9b) ?_
  (refine Z8y ?_; (repeat (first | refine Z9v rfl ?_ | refine Z9w ?_)); refine Z9u ?_)
  have e : List.map (Z0.int .i64) (C.ints) ++ [.int .i64 v.i] = List.map (Z0.int .i64) ({ C with ints := C.ints ++ [v.i] }.ints) := by simp
  rw [e]
  refine Z8a (FSub.refl _) (show HSub ((b, .cells 5 (ws.set at_ (.agg [v1, (.arr 1 b' 0 (List.map (Z0.int .i64) ({ C with ints := C.ints ++ [v.i] }.ints)).length), v3, v4, v5]))) :: ((β1 ++ ([(b', .cells 1 (List.map (Z0.int .i64) ({ C with ints := C.ints ++ [v.i] }.ints)))] ++ (β3 ++ (β4 ++ β5)))) ++ ρ)) ((b', .cells 1 (List.map (Z0.int .i64) ({ C with ints := C.ints ++ [v.i] }.ints))) :: (b, .cells 5 (ws.set at_ (.agg [v1, (.arr 1 b' 0 (List.map (Z0.int .i64) ({ C with ints := C.ints ++ [v.i] }.ints)).length), v3, v4, v5]))) :: ((β1) ++ (β3 ++ (β4 ++ (β5 ++ (ρ)))))) from by
    have := @Zyp b (.cells 5 (ws.set at_ (.agg [v1, (.arr 1 b' 0 (List.map (Z0.int .i64) ({ C with ints := C.ints ++ [v.i] }.ints)).length), v3, v4, v5]))) (β1) [(b', .cells 1 (List.map (Z0.int .i64) ({ C with ints := C.ints ++ [v.i] }.ints)))] (β3 ++ (β4 ++ (β5 ++ (ρ))))
    simpa [List.append_assoc] using this) ?_
  exact h _ _ ⟨_, _, _, _, _, β1, [(b', .cells 1 (List.map (Z0.int .i64) ({ C with ints := C.ints ++ [v.i] }.ints)))], β3, β4, β5, rfl, g1, Zbr.mk, g3, g4, g5, rfl⟩
theorem Zyv {c : Z2b} {R R' : Z87} (hR : ∀ F σ, R .normal F σ = AWp Try.prog ingotref15_put.n c R' F σ) (b at_ : Nat) (ws : List Z0) (w : Z0) (hw : ws[at_]? = some w) (C : Col) (β : Zc) (hG : ColG w C β) (hl : C.ns.length ≤ 16384)
    (v : Vl) (L A I T : Z0) (ρ : Zc)
    (h : ∀ w' β', ColG w' ({ C with ns := C.ns ++ [v.n] }) β' → AWp Try.prog ingotref15_put.n c R' (fset 0 (some L) (fset 1 (some A) (fset 2 (some I) (fset 7 (some (.iptr (Zm6 v))) (fset 10 (some T) Z27))))) ((b, .cells 5 (ws.set at_ w')) :: (β' ++ ρ))) :
    AWp Try.prog ingotref15_put.n (.region ingotref15_put_r17 [0, 1, 2, 7, 10]) R (fset 0 (some L) (fset 1 (some A) (fset 2 (some I) (fset 7 (some (.iptr (Zm6 v))) (fset 9 (some (.ptr b at_ 0)) (fset 10 (some T) Z27)))))) ((b, .cells 5 ws) :: (β ++ ρ)) := by
  obtain ⟨v1, v2, v3, v4, v5, β1, β2, β3, β4, β5, rfl, g1, g2, g3, g4, g5, rfl⟩ := hG
  refine Z8a (FSub.refl _) (show HSub (β3 ++ ((b, .cells 5 ws) :: ((β1 ++ β2) ++ (β4 ++ (β5 ++ (ρ)))))) ((b, .cells 5 ws) :: ((β1 ++ (β2 ++ (β3 ++ (β4 ++ β5)))) ++ ρ)) from by
    have := @Zyo b (.cells 5 ws) (β1 ++ β2) β3 (β4 ++ (β5 ++ (ρ)))
    simpa [List.append_assoc] using this) ?_
  refine Z89 fun nd => ?_
  refine Zbm hR ?_
  (repeat (refine st_q rfl rfl rfl ?_))
  refine Z92 rfl (Zyd nd) hw rfl ?_
  (repeat (refine st_q rfl rfl rfl ?_))
  refine Zbs g3 rfl (ys := [.int .i64 v.n]) rfl (by rw [List.length_singleton]; simp only [Zy8, List.length_map]; omega) fun b' hb' => ?_
  have hne : b' ≠ b := fun e => hb' (by rw [e]; simp [Zh])
  (repeat (refine st_q rfl rfl rfl ?_))
  refine Z9a rfl (Z90 hne Z8z) hw (by decide) (Z0.fit_iff.1 rfl) (fun h => by cases h) (Z9c hne Z9b) ?_
  (refine Z8y ?_; (repeat (first | refine Z9v rfl ?_ | refine Z9w ?_)); refine Z9u ?_)
  have e : List.map (Z0.int .i64) (C.ns) ++ [.int .i64 v.n] = List.map (Z0.int .i64) ({ C with ns := C.ns ++ [v.n] }.ns) := by simp
  rw [e]
  refine Z8a (FSub.refl _) (show HSub ((b, .cells 5 (ws.set at_ (.agg [v1, v2, (.arr 1 b' 0 (List.map (Z0.int .i64) ({ C with ns := C.ns ++ [v.n] }.ns)).length), v4, v5]))) :: ((β1 ++ (β2 ++ ([(b', .cells 1 (List.map (Z0.int .i64) ({ C with ns := C.ns ++ [v.n] }.ns)))] ++ (β4 ++ β5)))) ++ ρ)) ((b', .cells 1 (List.map (Z0.int .i64) ({ C with ns := C.ns ++ [v.n] }.ns))) :: (b, .cells 5 (ws.set at_ (.agg [v1, v2, (.arr 1 b' 0 (List.map (Z0.int .i64) ({ C with ns := C.ns ++ [v.n] }.ns)).length), v4, v5]))) :: ((β1 ++ β2) ++ (β4 ++ (β5 ++ (ρ))))) from by
    have := @Zyp b (.cells 5 (ws.set at_ (.agg [v1, v2, (.arr 1 b' 0 (List.map (Z0.int .i64) ({ C with ns := C.ns ++ [v.n] }.ns)).length), v4, v5]))) (β1 ++ β2) [(b', .cells 1 (List.map (Z0.int .i64) ({ C with ns := C.ns ++ [v.n] }.ns)))] (β4 ++ (β5 ++ (ρ)))
    simpa [List.append_assoc] using this) ?_
  exact h _ _ ⟨_, _, _, _, _, β1, β2, [(b', .cells 1 (List.map (Z0.int .i64) ({ C with ns := C.ns ++ [v.n] }.ns)))], β4, β5, rfl, g1, g2, Zbr.mk, g4, g5, rfl⟩
end Go.Abs

