/-
  A program logic over abstract states, part N: regions whose order is drawn.
-/
import Derived.Test.YtgmefkhincnajaaDoorAbsM
namespace Go.Abs
open Go Go.RowKit

set_option linter.unusedVariables false
set_option linter.unusedSimpArgs false
variable {P : Program} {N : Nat}

theorem astep_mono {k : AK} {vs : List AVal} {σ : AHeap} {R R' : AVal → AHeap → Prop} (hR : ∀ r σ', R r σ' → R' r σ') (h : astep P k vs σ R) : astep P k vs σ R' := by
  have hnew : ∀ {sz : Nat} {xs : List AVal} {f : Nat → AVal}, enew sz xs σ (fun b σ' => R (f b) σ') → enew sz xs σ (fun b σ' => R' (f b) σ') := fun h b hb => hR _ _ (h b hb)
  have happ : ∀ {sz byt : Nat} {s : AVal} {ys : List AVal}, eapp sz byt s ys σ R → eapp sz byt s ys σ R' := by
    intro sz byt s ys h
    unfold eapp at h ⊢
    split at h
    · rename_i z xs
      obtain ⟨h1, h2, h3⟩ := h
      refine ⟨h1, h2, ?_⟩
      cases xs with
      | nil => exact hnew h3
      | cons x xs => exact ⟨fun e => hR _ _ (h3.1 e), fun e => hnew (h3.2 e)⟩
    · obtain ⟨xs, h1, h2, h3, h4⟩ := h
      exact ⟨xs, h1, h2, h3, fun b' hb' => hR _ _ (h4 b' hb')⟩
    · exact h.elim
  cases k <;> simp only [astep] at h ⊢
  case store sz =>
    unfold estore at h ⊢
    split at h
    · obtain ⟨s, xs, x, h1, h2, h3, h4, h5, h6⟩ := h
      exact ⟨s, xs, x, h1, h2, h3, h4, h5, hR _ _ h6⟩
    · exact h.elim
  case alloc z => exact ⟨h.1, h.2.1, hnew h.2.2⟩
  case box sz =>
    unfold ebox at h ⊢
    split at h
    · exact ⟨h.1, hnew h.2⟩
    · exact h.elim
  case bslo sz => exact ⟨h.1, hnew h.2⟩
  case strish sz =>
    unfold estrish at h ⊢
    split at h
    · obtain ⟨xs, h1, h2, h3, h4⟩ := h
      exact ⟨xs, h1, h2, h3, hR _ _ h4⟩
    · exact h.elim
  case isnil neg =>
    unfold eisnil at h ⊢
    split at h
    · exact ⟨fun e => hR _ _ (h.1 e), fun e t => hR _ _ (h.2 e t)⟩
    · exact ⟨fun e => hR _ _ (h.1 e), fun e t => hR _ _ (h.2 e t)⟩
    · exact h.elim
  case mks sz byt z =>
    unfold emks at h ⊢
    split at h
    · obtain ⟨h1, h2, h3, h4, h5, h6⟩ := h
      exact ⟨h1, h2, h3, h4, h5, hnew h6⟩
    · exact h.elim
  case app sz byt =>
    unfold eappv at h ⊢
    split at h
    · obtain ⟨ys, h1, h2⟩ := h
      exact ⟨ys, h1, happ h2⟩
    · exact h.elim
  case apps =>
    unfold eapps at h ⊢
    split at h
    · exact happ h
    · exact h.elim
  case cpy sz =>
    unfold ecpy at h ⊢
    split at h
    · obtain ⟨xs, ys, h1, h2, h3, h4⟩ := h
      exact ⟨xs, ys, h1, h2, h3, hR _ _ h4⟩
    · exact h.elim
  case clip sz =>
    unfold eclip at h ⊢
    split at h
    · obtain ⟨xs, h1, h2, h3, h4, h5, h6⟩ := h
      exact ⟨xs, h1, h2, h3, h4, h5, hR _ _ h6⟩
    · obtain ⟨v, h1, h2⟩ := h
      exact ⟨v, h1, hR _ _ h2⟩
  case call f =>
    obtain ⟨⟨r, σ', h1⟩, h2⟩ := h
    exact ⟨⟨r, σ', hR _ _ h1⟩, h2.mono hR⟩
  case callv =>
    unfold ecallv at h ⊢
    split at h
    · obtain ⟨h0, ⟨r, σ', h1⟩, h2⟩ := h
      exact ⟨h0, ⟨r, σ', hR _ _ h1⟩, h2.mono hR⟩
    · exact h.elim
  case callk f n =>
    obtain ⟨⟨r, σ', h0, h1⟩, h2⟩ := h
    exact ⟨⟨r, σ', h0, hR _ _ h1⟩, h2.mono fun r σ' h => ⟨h.1, hR _ _ h.2⟩⟩
  all_goals (obtain ⟨v, h1, h2⟩ := h; exact ⟨v, h1, hR _ _ h2⟩)

theorem exists_fresh (σ : AHeap) (n : Nat) : ∃ b, fresh σ b ∧ b ≠ n := by
  have h : ∀ l : List Nat, ∃ m, ∀ x ∈ l, x < m := by
    intro l
    induction l with
    | nil => exact ⟨0, by simp⟩
    | cons a l ih =>
      obtain ⟨m, hm⟩ := ih
      refine ⟨max m (a + 1), fun x hx => ?_⟩
      rcases List.mem_cons.1 hx with rfl | hx
      · omega
      · have := hm x hx; omega
  obtain ⟨m, hm⟩ := h (n :: keys σ)
  exact ⟨m, fun hk => Nat.lt_irrefl _ (hm m (List.mem_cons_of_mem _ hk)), fun e => by have := hm n (by simp); omega⟩

/-- Something comes of it. -/
theorem astep_nonvac {k : AK} {vs : List AVal} {σ : AHeap} {R : AVal → AHeap → Prop} (h : astep P k vs σ R) : ∃ r σ', R r σ' := by
  have hnew : ∀ {sz : Nat} {xs : List AVal} {f : Nat → AVal}, enew sz xs σ (fun b σ' => R (f b) σ') → ∃ r σ', R r σ' := fun h => by
    obtain ⟨b, hb, _⟩ := exists_fresh σ 0
    exact ⟨_, _, h b hb⟩
  have happ : ∀ {sz byt : Nat} {s : AVal} {ys : List AVal}, eapp sz byt s ys σ R → ∃ r σ', R r σ' := by
    intro sz byt s ys h
    unfold eapp at h
    split at h
    · rename_i z xs
      obtain ⟨h1, h2, h3⟩ := h
      cases xs with
      | nil => exact hnew h3
      | cons x xs =>
        by_cases e : ys = []
        · exact ⟨_, _, h3.1 e⟩
        · exact hnew (h3.2 e)
    · obtain ⟨xs, h1, h2, h3, h4⟩ := h
      obtain ⟨b, hb, _⟩ := exists_fresh σ 0
      exact ⟨_, _, h4 b hb⟩
    · exact h.elim
  cases k <;> simp only [astep] at h
  case store sz =>
    unfold estore at h
    split at h
    · obtain ⟨s, xs, x, h1, h2, h3, h4, h5, h6⟩ := h
      exact ⟨_, _, h6⟩
    · exact h.elim
  case alloc z => exact hnew h.2.2
  case box sz =>
    unfold ebox at h
    split at h
    · exact hnew h.2
    · exact h.elim
  case bslo sz => exact hnew h.2
  case strish sz =>
    unfold estrish at h
    split at h
    · obtain ⟨xs, h1, h2, h3, h4⟩ := h
      exact ⟨_, _, h4⟩
    · exact h.elim
  case isnil neg =>
    unfold eisnil at h
    split at h
    · rename_i s xs f s'
      by_cases e : xs = []
      · exact ⟨_, _, h.2 e true⟩
      · exact ⟨_, _, h.1 e⟩
    · rename_i s b o n s'
      by_cases e : n = 0
      · exact ⟨_, _, h.2 e true⟩
      · exact ⟨_, _, h.1 (by omega)⟩
    · exact h.elim
  case mks sz byt z =>
    unfold emks at h
    split at h
    · obtain ⟨h1, h2, h3, h4, h5, h6⟩ := h
      exact hnew h6
    · exact h.elim
  case app sz byt =>
    unfold eappv at h
    split at h
    · obtain ⟨ys, h1, h2⟩ := h
      exact happ h2
    · exact h.elim
  case apps =>
    unfold eapps at h
    split at h
    · exact happ h
    · exact h.elim
  case cpy sz =>
    unfold ecpy at h
    split at h
    · obtain ⟨xs, ys, h1, h2, h3, h4⟩ := h
      exact ⟨_, _, h4⟩
    · exact h.elim
  case clip sz =>
    unfold eclip at h
    split at h
    · obtain ⟨xs, h1, h2, h3, h4, h5, h6⟩ := h
      exact ⟨_, _, h6⟩
    · obtain ⟨v, h1, h2⟩ := h
      exact ⟨_, _, h2⟩
  case call f => exact h.1
  case callv =>
    unfold ecallv at h
    split at h
    · exact h.2.1
    · exact h.elim
  case callk f n =>
    obtain ⟨⟨r, σ', h0, h1⟩, h2⟩ := h
    exact ⟨r, σ', h1⟩
  all_goals (obtain ⟨v, h1, h2⟩ := h; exact ⟨_, _, h2⟩)

/-- The one block that a reading asks of. -/
def rname : List AVal → Option Nat
  | [.ptr b _ _] => some b
  | [.arr _ b _ _] => some b
  | [.ptr b _ _, _] => some b
  | _ => none

theorem aquiet_congr {k : AK} {vs : List AVal} {σ σ' : AHeap} (h : ∀ b, rname vs = some b → hget σ b = hget σ' b) : aquiet k σ vs = aquiet k σ' vs := by
  cases k <;> try rfl
  case load ag sz =>
    simp only [aquiet]
    unfold aload
    split <;> try rfl
    rename_i b i o
    rw [h b rfl]
  case loadg ag sz =>
    simp only [aquiet]
    unfold aloadg
    split <;> try rfl
    rename_i b i o w
    unfold aload
    simp only
    rw [h b rfl]
  case b2s =>
    simp only [aquiet]
    unfold ab2s
    split <;> try rfl
    rename_i x
    have : elemsOf σ 1 x = elemsOf σ' 1 x := by
      unfold elemsOf
      split <;> try rfl
      rename_i s b o n
      rw [h b rfl]
    rw [this]

theorem aquiet_noread {k : AK} (h : k.reads = false) {vs : List AVal} {σ σ' : AHeap} : aquiet k σ vs = aquiet k σ' vs := by
  cases k <;> first | rfl | (simp [AK.reads] at h)

/-- What a reading has found is there. -/
theorem aquiet_found {k : AK} {vs : List AVal} {σ : AHeap} {x : AVal} (hr : k.reads = true) (h : aquiet k σ vs = some x) : ∀ b, rname vs = some b → ∃ y, hget σ b = some y := by
  intro b hb
  unfold rname at hb
  split at hb <;> simp only [Option.some.injEq, reduceCtorEq] at hb <;> subst hb
  · cases k <;> simp only [AK.reads, Bool.false_eq_true] at hr
    · simp only [aquiet, aload] at h
      split at h
      · exact ⟨_, by assumption⟩
      · cases h
    · simp [aquiet, aloadg] at h
    · simp [aquiet, ab2s, elemsOf] at h
  · cases k <;> simp only [AK.reads, Bool.false_eq_true] at hr
    · simp [aquiet, aload] at h
    · simp [aquiet, aloadg] at h
    · simp only [aquiet, ab2s, elemsOf] at h
      split at h
      · exact ⟨_, by assumption⟩
      · simp at h
  · cases k <;> simp only [AK.reads, Bool.false_eq_true] at hr
    · simp [aquiet, aload] at h
    · simp only [aquiet, aloadg] at h
      split at h
      · simp only [aload] at h
        split at h
        · exact ⟨_, by assumption⟩
        · cases h
      · cases h
    · simp [aquiet, ab2s] at h

theorem hget_hren_old {σ : AHeap} (nd : (keys σ).Nodup) {b b' : Nat} {y : ABlk} {n : Nat} (hb' : n ≠ b') (hn : n ≠ b) : hget (hren σ b b' y) n = hget σ n := by
  induction σ with
  | nil => rfl
  | cons p σ ih =>
    obtain ⟨a, x⟩ := p
    simp only [keys_cons, List.nodup_cons] at nd
    simp only [hren]
    split
    · rename_i e
      subst e
      simp only [hget]
      rw [if_neg (fun e => hb' e.symm), if_neg (fun e => hn e.symm)]
    · simp only [hget, ih nd.2]

theorem hget_hren_gone {σ : AHeap} (nd : (keys σ).Nodup) {b b' : Nat} {y z : ABlk} {n : Nat} (hb' : n ≠ b') (h : hget (hren σ b b' y) n = some z) : n ≠ b := by
  rintro rfl
  rcases mem_hren nd (hget_mem h) with h | h
  · exact hb' h.1
  · exact h.1 rfl

end Go.Abs
