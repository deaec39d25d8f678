/- Plain: trees and their columns. -/
import Derived.Test.YtgmefkhincnajaaDoorT4
import Derived.Test.YtgmefkhincnajaaDoorT6
import Derived.Test.YtgmefkhincnajaaDoorAbsY
namespace Go.Abs
open Go Go.Proofs
set_option linter.unusedVariables false
set_option linter.unusedSimpArgs false
set_option maxHeartbeats 4000000
/-- Trees that may be, each type by itself. -/
inductive Ty.Ok : Ty → Prop
  | mk {t : Ty} (h1 : ownF t.kind t.names t.kids.length t.len t.prec t.scale = 0) (h : ∀ k ∈ t.kids, Ty.Ok k) : Ty.Ok t
theorem chk_Ok : ∀ (t : Ty) (deep n : Nat), (chk deep n t).2 = 0 → t.Ok := by
  refine Ty.ind fun k ns ks l p s ih deep n h => ?_
  have hL : ∀ (ks : List Ty), (∀ t ∈ ks, ∀ (deep n : Nat), (chk deep n t).2 = 0 → t.Ok) → ∀ deep n, (chkL deep n ks).2 = 0 → ∀ t ∈ ks, t.Ok := by
    intro ks
    induction ks with
    | nil => intro _ deep n h t ht; cases ht
    | cons t ts ih2 =>
      intro ht deep n h u hu
      rw [chkL] at h
      split at h
      · rename_i hne; exact absurd h hne
      · rename_i hne
        rcases List.mem_cons.1 hu with rfl | hu
        · exact ht u (by simp) deep n (by simpa using hne)
        · exact ih2 (fun t ht' => ht t (by simp [ht'])) deep _ h u hu
  rw [chk] at h
  split at h
  · simp at h
  · split at h
    · rename_i ho; exact absurd h ho
    · rename_i ho
      refine .mk ?_ (hL ks ih (deep + 1) (n + 1) h)
      show ownF k ns ks.length l p s = 0
      simpa using ho

theorem Ty.Ok.kinds {t : Ty} (h : t.Ok) : kidsOk t.kind t.names.length t.kids.length = true ∧ 0 ≤ t.kind ∧ t.kind ≤ 17 := by
  cases h with
  | mk h1 _ =>
    rw [ownF] at h1
    split at h1
    · cases h1
    · split at h1
      · cases h1
      · rename_i hr
        simp only [not_or, Bool.not_eq_false] at hr
        have := hr.2.2
        simp only [rightF, Bool.and_eq_true] at this
        exact ⟨this.1.1.1.1, by omega, by omega⟩

def kindC (l : List Nd) (at_ : Nat) : Int :=
  match l[at_]? with
  | some nd => nd.t.kind
  | none => 0

theorem kidIdx_lenP : ∀ (ks : List Ty) (a : Nat), (kidIdx a ks).length = ks.length
  | [], _ => rfl
  | t :: ks, a => by rw [kidIdx, List.length_cons, List.length_cons, kidIdx_lenP ks]

theorem kidIdx_getP : ∀ (ks : List Ty) (a j x : Nat), (kidIdx a ks)[j]? = some x → x = a + cntL (ks.take j)
  | [], a, j, x, h => by simp [kidIdx] at h
  | t :: ks, a, 0, x, h => by simp [kidIdx] at h; simp [cntL, h]
  | t :: ks, a, j + 1, x, h => by
    simp only [kidIdx, List.getElem?_cons_succ] at h
    rw [kidIdx_getP ks _ j x h, List.take_succ_cons, cntL]
    omega

theorem flatL_split : ∀ (ks : List Ty) (a j : Nat) (p : Int) (d : Nat) (u : Ty), ks[j]? = some u → ∃ post, flatL a p d ks = flatL a p d (ks.take j) ++ (flatT (a + cntL (ks.take j)) p d u ++ post)
  | [], a, j, p, d, u, h => by simp at h
  | t :: ks, a, 0, p, d, u, h => by
    simp only [List.getElem?_cons_zero, Option.some.injEq] at h
    subst h
    exact ⟨flatL (a + cnt t) p d ks, by simp only [List.take_zero, cntL, flatL, List.nil_append, Nat.add_zero]⟩
  | t :: ks, a, j + 1, p, d, u, h => by
    simp only [List.getElem?_cons_succ] at h
    obtain ⟨post, hp⟩ := flatL_split ks (a + cnt t) j p d u h
    refine ⟨post, ?_⟩
    rw [flatL, hp, List.take_succ_cons, flatL, cntL, List.append_assoc, Nat.add_assoc]

structure Nok (l : List Nd) (i : Nat) (n : Nd) : Prop where
  len : n.kids.length = n.t.kids.length
  kids : ∀ j x, n.kids[j]? = some x → ∃ u m, n.t.kids[j]? = some u ∧ x = i + 1 + cntL (n.t.kids.take j) ∧ l[x]? = some m ∧ m.t = u ∧ m.parent = (i : Int) ∧ m.deep = n.deep + 1
structure Par (l : List Nd) (i : Nat) (n : Nd) : Prop where
  par : ∃ (p : Nat) (q : Nd) (j : Nat), n.parent = (p : Int) ∧ p < i ∧ l[p]? = some q ∧ q.kids[j]? = some i ∧ n.deep = q.deep + 1
structure TreeN (l : List Nd) : Prop where
  nok : ∀ i n, l[i]? = some n → Nok l i n
  par : ∀ i n, l[i]? = some n → 0 < i → Par l i n
  root : ∀ n, l[0]? = some n → n.parent = -1 ∧ n.deep = 1

theorem flatT_head (t : Ty) (a : Nat) (p : Int) (d : Nat) (rest : List Nd) : (flatT a p d t ++ rest)[0]? = some ⟨t, kidIdx (a + 1) t.kids, p, d⟩ := by
  obtain ⟨k, ns, ks, l, pr, s⟩ := t
  rw [flatT]; rfl

theorem sub_at (k : Int) (ns : List (List UInt8)) (ks : List Ty) (le pr sc : Int) (pre post : List Nd) (p : Int) (d j : Nat) (u : Ty) (hu : ks[j]? = some u) :
    ∃ pre' post', pre ++ (flatT pre.length p d (.mk k ns ks le pr sc) ++ post) = pre' ++ (flatT pre'.length (pre.length : Int) (d + 1) u ++ post') ∧ pre'.length = pre.length + 1 + cntL (ks.take j) := by
  obtain ⟨post', hp⟩ := flatL_split ks (pre.length + 1) j (pre.length : Int) (d + 1) u hu
  have hlen : (flatL (pre.length + 1) (pre.length : Int) (d + 1) (ks.take j)).length = cntL (ks.take j) := flatL_len _ _ _ _
  refine ⟨pre ++ (⟨.mk k ns ks le pr sc, kidIdx (pre.length + 1) ks, p, d⟩ :: flatL (pre.length + 1) (pre.length : Int) (d + 1) (ks.take j)), post' ++ post, ?_, ?_⟩
  · have hl2 : (pre ++ ((⟨.mk k ns ks le pr sc, kidIdx (pre.length + 1) ks, p, d⟩ : Nd) :: flatL (pre.length + 1) (pre.length : Int) (d + 1) (ks.take j))).length = pre.length + 1 + cntL (ks.take j) := by
      rw [List.length_append, List.length_cons, hlen]; omega
    rw [hl2, flatT, hp]
    simp [List.append_assoc]
  · rw [List.length_append, List.length_cons, hlen]; omega

theorem cntL_pos : ∀ (t : Ty), 1 ≤ cnt t := fun t => by
  obtain ⟨k, ns, ks, l, pr, s⟩ := t
  rw [cnt]; omega
/-- In which kid a column stands. -/
theorem in_kid : ∀ (ks : List Ty) (a i : Nat), a ≤ i → i < a + cntL ks → ∃ j u, ks[j]? = some u ∧ a + cntL (ks.take j) ≤ i ∧ i < a + cntL (ks.take j) + cnt u
  | [], a, i, h1, h2 => by rw [cntL] at h2; omega
  | t :: ts, a, i, h1, h2 => by
    rw [cntL] at h2
    by_cases h : i < a + cnt t
    · exact ⟨0, t, rfl, by simp [cntL]; exact h1, by simpa [cntL] using h⟩
    · obtain ⟨j, u, e1, e2, e3⟩ := in_kid ts (a + cnt t) i (by omega) (by omega)
      exact ⟨j + 1, u, by simpa using e1, by rw [List.take_succ_cons, cntL]; omega, by rw [List.take_succ_cons, cntL]; omega⟩

theorem flat_tree : ∀ (t : Ty) (pre post : List Nd) (p : Int) (d i : Nat) (n : Nd), pre.length ≤ i → i < pre.length + cnt t → (pre ++ (flatT pre.length p d t ++ post))[i]? = some n →
    Nok (pre ++ (flatT pre.length p d t ++ post)) i n ∧ (i = pre.length → n.parent = p ∧ n.deep = d) ∧ (pre.length < i → Par (pre ++ (flatT pre.length p d t ++ post)) i n) := by
  refine Ty.ind fun k ns ks le pr sc ih pre post p d i n h1 h2 hn => ?_
  have hroot : (pre ++ (flatT pre.length p d (.mk k ns ks le pr sc) ++ post))[pre.length]? = some ⟨.mk k ns ks le pr sc, kidIdx (pre.length + 1) ks, p, d⟩ := by
    rw [List.getElem?_append_right (Nat.le_refl _), Nat.sub_self, flatT_head]; rfl
  have hkid : ∀ j x u, (kidIdx (pre.length + 1) ks)[j]? = some x → ks[j]? = some u → x = pre.length + 1 + cntL (ks.take j) ∧ (pre ++ (flatT pre.length p d (.mk k ns ks le pr sc) ++ post))[x]? = some ⟨u, kidIdx (x + 1) u.kids, (pre.length : Int), d + 1⟩ := by
    intro j x u hx hu
    have hx' := kidIdx_getP _ _ _ _ hx
    obtain ⟨pre', post', e, el⟩ := sub_at k ns ks le pr sc pre post p d j u hu
    refine ⟨hx', ?_⟩
    have e2 : x = pre'.length := by omega
    rw [e, e2, List.getElem?_append_right (Nat.le_refl _), Nat.sub_self, flatT_head]
  by_cases hi : i = pre.length
  · subst hi
    rw [hroot] at hn
    cases hn
    refine ⟨⟨kidIdx_lenP ks _, fun j x hx => ?_⟩, fun _ => ⟨rfl, rfl⟩, fun h => absurd h (by omega)⟩
    have hj : j < ks.length := by
      have := (List.getElem?_eq_some_iff.1 hx).1
      rw [kidIdx_lenP] at this; exact this
    have hu := List.getElem?_eq_getElem hj
    obtain ⟨a1, a2⟩ := hkid j x _ hx hu
    exact ⟨_, _, hu, a1, a2, rfl, rfl, rfl⟩
  · rw [cnt] at h2
    obtain ⟨j, u, e1, e2, e3⟩ := in_kid ks (pre.length + 1) i (by omega) (by omega)
    obtain ⟨pre', post', e, el⟩ := sub_at k ns ks le pr sc pre post p d j u e1
    have hx : (kidIdx (pre.length + 1) ks)[j]? = some pre'.length := by
      have hj : j < (kidIdx (pre.length + 1) ks).length := by
        rw [kidIdx_lenP]; exact (List.getElem?_eq_some_iff.1 e1).1
      rw [List.getElem?_eq_getElem hj]
      have := kidIdx_getP _ _ _ _ (List.getElem?_eq_getElem hj)
      rw [this, el]
    rw [e] at hn hroot ⊢
    obtain ⟨b1, b2, b3⟩ := ih u (List.mem_of_getElem? e1) pre' post' (pre.length : Int) (d + 1) i n (by omega) (by omega) hn
    refine ⟨b1, fun h => absurd h hi, fun _ => ?_⟩
    by_cases h4 : i = pre'.length
    · obtain ⟨c1, c2⟩ := b2 h4
      exact ⟨⟨pre.length, _, j, c1, by omega, hroot, by rw [h4]; exact hx, c2⟩⟩
    · exact b3 (by omega)

theorem flatten_tree (t : Ty) : TreeN (flattenF t) := by
  rw [flattenF]
  split
  · have h := flat_tree t [] [] (-1) 1
    simp only [List.length_nil, List.nil_append, List.append_nil, Nat.zero_add] at h
    have hlt : ∀ {i n}, (flatT 0 (-1) 1 t)[i]? = some n → i < cnt t := fun {i n} hn => by
      have := (List.getElem?_eq_some_iff.1 hn).1
      rw [flat_len] at this; exact this
    exact ⟨fun i n hn => (h i n (by omega) (hlt hn) hn).1, fun i n hn hi => (h i n (by omega) (hlt hn) hn).2.2 hi, fun n hn => (h 0 n (by omega) (hlt hn) hn).2.1 rfl⟩
  · exact ⟨fun i n hn => by simp at hn, fun i n hn => by simp at hn, fun n hn => by simp at hn⟩

inductive Anc (l : List Nd) (a : Nat) : Nat → Prop
  | refl : Anc l a a
  | step {c p : Nat} {n : Nd} (hc : l[c]? = some n) (hp : n.parent = (p : Int)) (h : Anc l a p) : Anc l a c

theorem TreeN.up {l : List Nd} (h : TreeN l) {i p : Nat} {n : Nd} (hn : l[i]? = some n) (hp : n.parent = (p : Int)) : p < i := by
  by_cases h0 : i = 0
  · subst h0
    have := (h.root n hn).1
    omega
  · obtain ⟨⟨p', q, j, e1, e2, _⟩⟩ := h.par i n hn (by omega)
    omega
theorem Anc.le {l : List Nd} (h : TreeN l) {a c : Nat} (ha : Anc l a c) : a ≤ c := by
  induction ha with
  | refl => exact Nat.le_refl _
  | step hc hp _ ih => have := h.up hc hp; omega
theorem Anc.chain {l : List Nd} {x c : Nat} (h1 : Anc l x c) : ∀ {y : Nat}, Anc l y c → Anc l x y ∨ Anc l y x := by
  induction h1 with
  | refl => intro y hy; exact .inr hy
  | step hc hp h ih =>
    intro y hy
    cases hy with
    | refl => exact .inl (.step hc hp h)
    | step hc' hp' h' =>
      rw [hc] at hc'
      cases hc'
      rw [hp] at hp'
      rw [← Int.ofNat.inj hp'] at h'
      exact ih h'
theorem Anc.over {l : List Nd} {a x c : Nat} {m : Nd} (hx : l[x]? = some m) (hp : m.parent = (a : Int)) (h : Anc l x c) : Anc l a c := by
  induction h with
  | refl => exact .step hx hp .refl
  | step hc hp' _ ih => exact .step hc hp' ih
theorem Anc.sib {l : List Nd} (h : TreeN l) {a x y c : Nat} {m n : Nd} (hx : l[x]? = some m) (hp : m.parent = (a : Int)) (hy : l[y]? = some n) (hq : n.parent = (a : Int)) (h1 : Anc l x c) (h2 : Anc l y c) : x = y := by
  have key : ∀ {x y : Nat} {m n : Nd}, l[x]? = some m → m.parent = (a : Int) → l[y]? = some n → n.parent = (a : Int) → Anc l x y → x = y := by
    intro x y m n hx hp hy hq hh
    cases hh with
    | refl => rfl
    | step hc hp' h' =>
      rw [hy] at hc
      cases hc
      rw [hq] at hp'
      rw [← Int.ofNat.inj hp'] at h'
      have := h'.le h
      have := h.up hx hp
      omega
  rcases h1.chain h2 with e | e
  · exact key hx hp hy hq e
  · exact (key hy hq hx hp e).symm

theorem flatten_head {t : Ty} (h : checkF t = 0) : ∃ n, (flattenF t)[0]? = some n ∧ n.t = t := by
  have := flatT_head t 0 (-1) 1 []
  rw [List.append_nil] at this
  rw [flattenF, if_pos h]
  exact ⟨_, this, rfl⟩

theorem flat_all {P : Ty → Prop} {Q : Nd → Prop} (hP : ∀ t, P t → ∀ k ∈ t.kids, P k) (hQ : ∀ (t : Ty) (a : Nat) (p : Int) (d : Nat), P t → Q ⟨t, kidIdx a t.kids, p, d⟩) : ∀ (t : Ty), P t → ∀ (a : Nat) (p : Int) (d : Nat), ∀ n ∈ flatT a p d t, Q n := by
  refine Ty.ind fun k ns ks l pr s ih ht a p d n hn => ?_
  have hL : ∀ (ts : List Ty), (∀ t ∈ ts, P t ∧ (P t → ∀ (a : Nat) (p : Int) (d : Nat), ∀ n ∈ flatT a p d t, Q n)) → ∀ (a : Nat) (p : Int) (d : Nat), ∀ n ∈ flatL a p d ts, Q n := by
    intro ts
    induction ts with
    | nil => intro _ a p d n hn; rw [flatL] at hn; cases hn
    | cons t ts ih2 =>
      intro h a p d n hn
      rw [flatL, List.mem_append] at hn
      rcases hn with hn | hn
      · obtain ⟨h1, h2⟩ := h t (by simp)
        exact h2 h1 a p d n hn
      · exact ih2 (fun t ht => h t (by simp [ht])) _ p d n hn
  rw [flatT, List.mem_cons] at hn
  rcases hn with rfl | hn
  · exact hQ _ (a + 1) p d ht
  · exact hL ks (fun t hk => ⟨hP _ ht t hk, ih t hk⟩) _ _ _ n hn

theorem flatten_ok (t : Ty) : ∀ n ∈ flattenF t, n.t.Ok := by
  intro n hn
  rw [flattenF] at hn
  split at hn
  · rename_i hc
    refine flat_all (P := Ty.Ok) (Q := fun n => n.t.Ok) (fun t ht k hk => ?_) (fun t a p d ht => ht) t (chk_Ok t 1 0 hc) 0 (-1) 1 n hn
    cases ht with
    | mk _ h => exact h k hk
  · cases hn
theorem flattenF_le (t : Ty) : (flattenF t).length ≤ 100 := by
  unfold flattenF
  split
  · rename_i h
    have := (chk_ok t 1 0 h).2.2
    rw [flat_len]; omega
  · simp
structure KidsIn (l : List Nd) : Prop where
  len : l.length ≤ 1000
  num : ∀ n ∈ l, n.kids.length ≤ 1000
  lt : ∀ n ∈ l, ∀ x ∈ n.kids, x < l.length

theorem flatten_kids (t : Ty) : KidsIn (flattenF t) := by
  have hT := flatten_tree t
  refine ⟨Nat.le_trans (flattenF_le t) (by decide), fun n hn => ?_, fun n hn x hx => ?_⟩
  · obtain ⟨i, hi⟩ := List.getElem?_of_mem hn
    have hN := hT.nok i n hi
    have h100 := flattenF_le t
    rcases Nat.lt_or_ge n.kids.length 1001 with h | h
    · omega
    · obtain ⟨u, m, e1, e2, e3, _⟩ := hN.kids 1000 _ (List.getElem?_eq_getElem (by omega))
      have hlt := (List.getElem?_eq_some_iff.1 e3).1
      have hc : ∀ (ks : List Ty), ks.length ≤ cntL ks := by
        intro ks
        induction ks with
        | nil => simp [cntL]
        | cons a b ih => have := cntL_pos a; rw [cntL, List.length_cons]; omega
      have h1 := hc (n.t.kids.take 1000)
      rw [List.length_take, ← hN.len] at h1
      omega
  · obtain ⟨i, hi⟩ := List.getElem?_of_mem hn
    obtain ⟨j, hj⟩ := List.getElem?_of_mem hx
    obtain ⟨u, m, e1, e2, e3, _⟩ := (hT.nok i n hi).kids j x hj
    exact (List.getElem?_eq_some_iff.1 e3).1

theorem cntL_succ : ∀ (ks : List Ty) (j : Nat) (u : Ty), ks[j]? = some u → cntL (ks.take (j + 1)) = cntL (ks.take j) + cnt u
  | [], j, u, h => by simp at h
  | t :: ts, 0, u, h => by
    simp only [List.getElem?_cons_zero, Option.some.injEq] at h
    subst h
    simp [cntL]
  | t :: ts, j + 1, u, h => by
    rw [List.take_succ_cons, cntL, cntL_succ ts j u (by simpa using h), List.take_succ_cons, cntL]; omega

theorem HShift.content {b sz : Nat} {xs ys : List AVal} {σ : AHeap} (hl : ys.length = xs.length) (he : ∀ y ∈ ys, y.elem sz) (hv : VRle (flat xs) (flat ys)) : HShift ((b, .cells sz xs) :: σ) ((b, .cells sz ys) :: σ) :=
  fun K w r => ⟨K, Kr.le.refl K, r.content hl he (hv K)⟩

theorem VRle.nilF (z z' : Nat) : VRle [.slc z [] true] [.slc z' [] false] := (VRle.nil_slc z z' true).trans VRle.full

theorem resCell {F : AFrame} {σ : AHeap} {b s i sz : Nat} {cs xs : List AVal} (hF : F i = some (.ptr b 0 0)) (hg : hget σ b = some (.cells s (.agg cs :: xs))) (hl : cs.length = sz) : resVals F σ [.cell i true sz] = some [.agg cs] := by
  subst hl
  simp [resVals, resVal, hF, aload, hg, part_, AVal.cells]

theorem st_cval {P : Program} {l : List AOper} {F : AFrame} {σ τ : AHeap} {Q : AFrame → AHeap → Prop} {d : Nat} {args : List AOpd} {f : FuncId} {first caps ws : List AVal} {v : AVal} (h1 : evs F args = some (.fn f first caps :: ws)) (hg : goodFn P f = true)
    (hc : ACalls P f (first ++ ws ++ caps) σ fun r σ' => r = v ∧ σ' = τ) (h : aops P l (fset d (some v) F) τ Q) : aops P (⟨some d, .callv, args, none⟩ :: l) F σ Q := by
  refine ⟨_, h1, hg, ⟨v, τ, h⟩, hc.mono fun r σ' ⟨e1, e2⟩ => ?_⟩
  subst e1 e2
  exact h

theorem awp_freezeV {P : Program} {N : Nat} {a : ACode} {Q : APost} {F : AFrame} {b sz d : Nat} {x : AVal} {τ : AHeap} (hF : F d = some (.ptr b 0 0)) (h : AWp P N a Q (fset d (some (.iptr x.cells)) F) τ) : AWp P N a Q F ((b, .cells sz [x]) :: τ) := by
  refine awp_vs (fun K w tmps hr hfr => ?_) h
  have h1 := hfr.at_ d _ hF
  have hmem : (b, ABlk.cells sz [x]) ∈ (b, ABlk.cells sz [x]) :: τ := by simp
  have hown := hr.own b _ hmem
  unfold VR at h1
  generalize hv : tmps.getD d undef = v at h1
  cases h1 with
  | @ptr _ _ _ cb sz' pcap _ _ hl r =>
    obtain rfl : sz' = sz := by
      rcases hown.2 with ⟨p, k1, _⟩ | ⟨cb', p, cs', ty, k1, _⟩ <;> rw [hl] at k1 <;> simp at k1
      exact k1.2.1
    obtain ⟨vs0, g1, g2, g3⟩ := hr.freeze hmem hl
    rw [hdel_head] at g3
    refine ⟨K.addImm cb vs0, g2, g3, hfr.size, fun i y e => ?_⟩
    simp only [fset] at e
    split at e
    · rename_i hi
      subst hi
      simp only [Option.some.injEq] at e
      subst e
      rw [hv]
      refine VRel.iptr (vs := vs0) rfl ?_ ?_ ?_ .nil
      · exact (hown.1 x (by simp)).2
      · intro j v hj
        simp only [Kr.addImm, Nat.zero_mul, Nat.zero_add, if_true]
        exact hj
      · have := VRel.mono g2 g1
        simpa [AVal.cells] using this
    · exact (hfr.at_ i y e).mono g2
theorem HShift.cellS {b sz s : Nat} {A B p q : List AVal} {v : AVal} {ks : List AVal} {β σ : AHeap} (hg : GrowG s v ks β) (he : ∀ y ∈ A ++ .agg (p ++ .slc s ks false :: q) :: B, y.elem sz) :
    HShift ((b, .cells sz (A ++ .agg (p ++ v :: q) :: B)) :: (β ++ σ)) ((b, .cells sz (A ++ .agg (p ++ .slc s ks false :: q) :: B)) :: σ) := by
  rcases hg with ⟨⟨z, rfl⟩, rfl, rfl⟩ | ⟨bk, rfl, rfl⟩
  · refine HShift.content (by simp) he ?_
    simp only [flat_append, flat_cons, AVal.cells]
    exact VRle.app (VRle.refl _) (VRle.app (VRle.app (VRle.refl _) (VRle.cons (VRle.nilF _ _) (VRle.refl _))) (VRle.refl _))
  · refine HShift.inner (bk := bk) (s := s) (ks := ks) (by simp) he fun K hK vs hv => ?_
    simp only [flat_append, flat_cons, AVal.cells] at hv ⊢
    obtain ⟨m1, m2, rfl, g1, g2⟩ := hv.split
    obtain ⟨m3, m4, rfl, g3, g4⟩ := g2.split
    obtain ⟨m5, m6, rfl, g5, g6⟩ := g3.split
    refine g1.append ((g5.append ?_).append g4)
    have h2 : (AVal.arr s bk 0 ks.length :: q) = [AVal.arr s bk 0 ks.length] ++ q := rfl
    rw [h2] at g6
    obtain ⟨m7, m8, rfl, g7, g8⟩ := g6.split
    have h3 : (AVal.slc s ks false :: q) = [AVal.slc s ks false] ++ q := rfl
    rw [h3]
    refine VRel.append ?_ g8
    have hl := g7.length
    match m7, g7, hl with
    | [x], g7, _ => exact hK x g7

theorem cellsT_one (t : Ty) : ∀ c ∈ cellsT t, c.one = true := by simp [cellsT, AVal.one]

theorem map_get {α : Type} {f : α → AVal} {l : List α} {j : Nat} (h : j < l.length) : (l.map f)[((j : Nat) : Int).toNat]? = some (f l[j]) := by
  rw [Int.toNat_natCast, List.getElem?_map, List.getElem?_eq_getElem h]; rfl

attribute [local irreducible] AWp aops KP
theorem c_refLeaf (k : Int) (σ : AHeap) : ACalls Tryd.prog f_ingotref13_Leaf [.int .i64 k] σ fun r σ' => r = .bool (leafF k) ∧ σ' = σ := by
  refine acalls_enter rfl ingotref13_Leaf_ok (Nat.le_of_ble_eq_true rfl) ?_
  by_cases h1 : k = 10
  · subst h1; (repeat (first | refine st_q rfl rfl rfl ?_ | refine st_gy rfl (st_q rfl rfl rfl ?_) | refine st_gn rfl ?_ | refine st_gu rfl ?_ | (refine st_nil ?_; (repeat (first | refine kp_cons rfl ?_ | refine kp_skip ?_)); refine kp_nil ?_) | refine awp_seq ?_ | refine aw_end (fun _ _ => rfl) ?_ | refine awp_block ?_ | refine aw_skipE (fun _ _ => rfl) ?_ | refine aw_exitE (fun _ _ => rfl) ?_ | refine awp_cond (t := true) rfl (fun _ => ?_) (fun e => by cases e) | refine awp_cond (t := false) rfl (fun e => by cases e) (fun _ => ?_))); refine awp_ret ?_; exact ares rfl (HSub.refl _) ⟨rfl, rfl⟩
  by_cases h2 : k = 11
  · subst h2; (repeat (first | refine st_q rfl rfl rfl ?_ | refine st_gy rfl (st_q rfl rfl rfl ?_) | refine st_gn rfl ?_ | refine st_gu rfl ?_ | (refine st_nil ?_; (repeat (first | refine kp_cons rfl ?_ | refine kp_skip ?_)); refine kp_nil ?_) | refine awp_seq ?_ | refine aw_end (fun _ _ => rfl) ?_ | refine awp_block ?_ | refine aw_skipE (fun _ _ => rfl) ?_ | refine aw_exitE (fun _ _ => rfl) ?_ | refine awp_cond (t := true) rfl (fun _ => ?_) (fun e => by cases e) | refine awp_cond (t := false) rfl (fun e => by cases e) (fun _ => ?_))); refine awp_ret ?_; exact ares rfl (HSub.refl _) ⟨rfl, rfl⟩
  by_cases h3 : k = 12
  · subst h3; (repeat (first | refine st_q rfl rfl rfl ?_ | refine st_gy rfl (st_q rfl rfl rfl ?_) | refine st_gn rfl ?_ | refine st_gu rfl ?_ | (refine st_nil ?_; (repeat (first | refine kp_cons rfl ?_ | refine kp_skip ?_)); refine kp_nil ?_) | refine awp_seq ?_ | refine aw_end (fun _ _ => rfl) ?_ | refine awp_block ?_ | refine aw_skipE (fun _ _ => rfl) ?_ | refine aw_exitE (fun _ _ => rfl) ?_ | refine awp_cond (t := true) rfl (fun _ => ?_) (fun e => by cases e) | refine awp_cond (t := false) rfl (fun e => by cases e) (fun _ => ?_))); refine awp_ret ?_; exact ares rfl (HSub.refl _) ⟨rfl, rfl⟩
  (repeat (first | refine st_q rfl rfl rfl ?_ | refine st_gy rfl (st_q rfl rfl rfl ?_) | refine st_gn rfl ?_ | refine st_gu rfl ?_ | (refine st_nil ?_; (repeat (first | refine kp_cons rfl ?_ | refine kp_skip ?_)); refine kp_nil ?_) | refine awp_seq ?_ | refine aw_end (fun _ _ => rfl) ?_ | refine awp_block ?_ | refine aw_skipE (fun _ _ => rfl) ?_ | refine aw_exitE (fun _ _ => rfl) ?_ | refine awp_cond (t := true) rfl (fun _ => ?_) (fun e => by cases e) | refine awp_cond (t := false) rfl (fun e => by cases e) (fun _ => ?_)))
  (rw [show decide (k ≠ 10) = true from decide_eq_true (by omega)])
  (repeat (first | refine st_q rfl rfl rfl ?_ | refine st_gy rfl (st_q rfl rfl rfl ?_) | refine st_gn rfl ?_ | refine st_gu rfl ?_ | (refine st_nil ?_; (repeat (first | refine kp_cons rfl ?_ | refine kp_skip ?_)); refine kp_nil ?_) | refine awp_seq ?_ | refine aw_end (fun _ _ => rfl) ?_ | refine awp_block ?_ | refine aw_skipE (fun _ _ => rfl) ?_ | refine aw_exitE (fun _ _ => rfl) ?_ | refine awp_cond (t := true) rfl (fun _ => ?_) (fun e => by cases e) | refine awp_cond (t := false) rfl (fun e => by cases e) (fun _ => ?_)))
  (rw [show decide (k ≠ 11) = true from decide_eq_true (by omega)])
  (repeat (first | refine st_q rfl rfl rfl ?_ | refine st_gy rfl (st_q rfl rfl rfl ?_) | refine st_gn rfl ?_ | refine st_gu rfl ?_ | (refine st_nil ?_; (repeat (first | refine kp_cons rfl ?_ | refine kp_skip ?_)); refine kp_nil ?_) | refine awp_seq ?_ | refine aw_end (fun _ _ => rfl) ?_ | refine awp_block ?_ | refine aw_skipE (fun _ _ => rfl) ?_ | refine aw_exitE (fun _ _ => rfl) ?_ | refine awp_cond (t := true) rfl (fun _ => ?_) (fun e => by cases e) | refine awp_cond (t := false) rfl (fun e => by cases e) (fun _ => ?_)))
  (rw [show decide (k ≠ 12) = true from decide_eq_true (by omega)])
  (repeat (first | refine st_q rfl rfl rfl ?_ | refine st_gy rfl (st_q rfl rfl rfl ?_) | refine st_gn rfl ?_ | refine st_gu rfl ?_ | (refine st_nil ?_; (repeat (first | refine kp_cons rfl ?_ | refine kp_skip ?_)); refine kp_nil ?_) | refine awp_seq ?_ | refine aw_end (fun _ _ => rfl) ?_ | refine awp_block ?_ | refine aw_skipE (fun _ _ => rfl) ?_ | refine aw_exitE (fun _ _ => rfl) ?_ | refine awp_cond (t := true) rfl (fun _ => ?_) (fun e => by cases e) | refine awp_cond (t := false) rfl (fun e => by cases e) (fun _ => ?_)))
  refine awp_ret ?_
  exact ares rfl (HSub.refl _) ⟨by simp [leafF, h1, h2, h3, tupOf], rfl⟩

end Go.Abs
