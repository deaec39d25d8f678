/-
  A program logic over abstract states, part O: two operations change places; regions whose order is drawn.
-/
import Derived.Test.YtgmefkhincnajaaDoorAbsN
namespace Go.Abs
open Go Go.RowKit

set_option linter.unusedVariables false
set_option linter.unusedSimpArgs false
variable {P : Program} {N : Nat} {rd : Option Nat}

theorem astep_quiet {k : AK} (hq : k.quiet = true) {vs : List AVal} {σ : AHeap} {R : AVal → AHeap → Prop} : astep P k vs σ R ↔ ∃ v, aquiet k σ vs = some v ∧ R v σ := by
  cases k <;> first | exact Iff.rfl | (simp [AK.quiet] at hq)

theorem newread {ky : AK} (hky : ky.quiet = true) {us : List AVal} {σ : AHeap} {blk : ABlk} {T : Nat → AVal → Prop} (H : ∀ b, fresh σ b → ∃ s, aquiet ky ((b, blk) :: σ) us = some s ∧ T b s) :
    ∃ s0, aquiet ky σ us = some s0 ∧ ∀ b, fresh σ b → T b s0 := by
  have hsame : ∀ b, fresh σ b → aquiet ky ((b, blk) :: σ) us = aquiet ky σ us := by
    by_cases hr : ky.reads = true
    · intro b hb
      refine aquiet_congr fun n hn => ?_
      obtain ⟨b1, hb1, hne⟩ := exists_fresh σ n
      obtain ⟨s, hs, _⟩ := H b1 hb1
      obtain ⟨y, hy⟩ := aquiet_found hr hs n hn
      simp only [hget, if_neg hne] at hy
      have hbn : b ≠ n := by
        rintro rfl
        exact hb (mem_keys (hget_mem hy))
      simp only [hget, if_neg hbn]
    · intro b hb
      exact aquiet_noread (by simpa using hr)
  obtain ⟨b, hb, _⟩ := exists_fresh σ 0
  obtain ⟨s, hs, _⟩ := H b hb
  rw [hsame b hb] at hs
  refine ⟨s, hs, fun b' hb' => ?_⟩
  obtain ⟨s', hs', ht⟩ := H b' hb'
  rw [hsame b' hb', hs] at hs'
  simp only [Option.some.injEq] at hs'
  rw [hs']
  exact ht

theorem renread {ky : AK} (hky : ky.quiet = true) {us : List AVal} {σ : AHeap} (nd : (keys σ).Nodup) {b0 : Nat} {blk : ABlk} {T : Nat → AVal → Prop} (H : ∀ b, fresh σ b → ∃ s, aquiet ky (hren σ b0 b blk) us = some s ∧ T b s) :
    ∃ s0, aquiet ky σ us = some s0 ∧ ∀ b, fresh σ b → T b s0 := by
  have hsame : ∀ b, fresh σ b → aquiet ky (hren σ b0 b blk) us = aquiet ky σ us := by
    by_cases hr : ky.reads = true
    · intro b hb
      refine aquiet_congr fun n hn => ?_
      obtain ⟨b1, hb1, hne⟩ := exists_fresh σ n
      obtain ⟨s, hs, _⟩ := H b1 hb1
      obtain ⟨y, hy⟩ := aquiet_found hr hs n hn
      have hn0 := hget_hren_gone nd (fun e => hne e.symm) hy
      rw [hget_hren_old nd (fun e => hne e.symm) hn0] at hy
      have hbn : n ≠ b := by
        rintro rfl
        exact hb (mem_keys (hget_mem hy))
      exact hget_hren_old nd hbn hn0
    · intro b hb
      exact aquiet_noread (by simpa using hr)
  obtain ⟨b, hb, _⟩ := exists_fresh σ 0
  obtain ⟨s, hs, _⟩ := H b hb
  rw [hsame b hb] at hs
  refine ⟨s, hs, fun b' hb' => ?_⟩
  obtain ⟨s', hs', ht⟩ := H b' hb'
  rw [hsame b' hb', hs] at hs'
  simp only [Option.some.injEq] at hs'
  rw [hs']
  exact ht

/-- A reading that has found something finds it beside a new block, too. -/
theorem read_beside {k : AK} {vs : List AVal} {σ : AHeap} {r : AVal} (h : aquiet k σ vs = some r) {b : Nat} (hb : fresh σ b) (blk : ABlk) : aquiet k ((b, blk) :: σ) vs = some r := by
  rw [← h]
  by_cases hr : k.reads = true
  · refine aquiet_congr fun n hn => ?_
    obtain ⟨y, hy⟩ := aquiet_found hr h n hn
    have hbn : b ≠ n := by
      rintro rfl
      exact hb (mem_keys (hget_mem hy))
    simp only [hget, if_neg hbn]
  · exact aquiet_noread (by simpa using hr)

theorem swap_app {ky : AK} (hq : ky.quiet = true) {us : List AVal} {σ : AHeap} (nd : (keys σ).Nodup) {sz byt : Nat} {s : AVal} {ys : List AVal} {Q : AVal → AVal → AHeap → Prop}
    (H : eapp sz byt s ys σ fun r σ1 => ∃ v, aquiet ky σ1 us = some v ∧ Q r v σ1) : ∃ v, aquiet ky σ us = some v ∧ eapp sz byt s ys σ fun r σ1 => Q r v σ1 := by
  unfold eapp at H ⊢
  split at H
  · rename_i z xs
    obtain ⟨h1, h2, h3⟩ := H
    cases xs with
    | nil =>
      obtain ⟨s0, e0, h⟩ := newread hq h3
      exact ⟨s0, e0, h1, h2, h⟩
    | cons x xs =>
      by_cases e : ys = []
      · obtain ⟨v, hv, hQ⟩ := h3.1 e
        exact ⟨v, hv, h1, h2, fun _ => hQ, fun he => absurd e he⟩
      · obtain ⟨s0, e0, h⟩ := newread hq (h3.2 e)
        exact ⟨s0, e0, h1, h2, fun he => absurd he e, fun _ => h⟩
  · obtain ⟨xs, h1, h2, h3, h4⟩ := H
    obtain ⟨s0, e0, h⟩ := renread hq nd h4
    exact ⟨s0, e0, xs, h1, h2, h3, h⟩
  · exact H.elim

/-! ### A heap in another order -/

theorem hget_iff {σ : AHeap} (nd : (keys σ).Nodup) {b : Nat} {x : ABlk} : hget σ b = some x ↔ (b, x) ∈ σ := ⟨hget_mem, mem_hget nd⟩
theorem perm_nodup {σ τ : AHeap} (p : σ.Perm τ) (nd : (keys σ).Nodup) : (keys τ).Nodup := (p.map Prod.fst).nodup_iff.1 nd
theorem hget_perm {σ τ : AHeap} (nd : (keys σ).Nodup) (p : σ.Perm τ) (b : Nat) : hget τ b = hget σ b := by
  cases h : hget σ b with
  | some x => exact (hget_iff (perm_nodup p nd)).2 (p.subset ((hget_iff nd).1 h))
  | none =>
    cases h' : hget τ b with
    | none => rfl
    | some x =>
      have := (hget_iff nd).2 (p.symm.subset ((hget_iff (perm_nodup p nd)).1 h'))
      rw [h] at this; cases this
theorem hset_perm {σ τ : AHeap} (p : σ.Perm τ) (b : Nat) (y : ABlk) : (keys σ).Nodup → (hset σ b y).Perm (hset τ b y) := by
  induction p with
  | nil => intro _; exact List.Perm.refl _
  | cons x p ih =>
    intro nd
    obtain ⟨a, z⟩ := x
    simp only [keys_cons, List.nodup_cons] at nd
    simp only [hset]
    split
    · exact p.cons _
    · exact (ih nd.2).cons _
  | swap x z l =>
    intro nd
    obtain ⟨a, u⟩ := x
    obtain ⟨c, v⟩ := z
    simp only [keys_cons, List.nodup_cons, List.mem_cons, not_or] at nd
    have hne := nd.1.1
    simp only [hset]
    by_cases h1 : c = b
    · subst h1
      rw [if_pos rfl, if_neg (fun e => hne e.symm), if_pos rfl]
      exact List.Perm.swap _ _ _
    · rw [if_neg h1, if_neg h1]
      split <;> exact List.Perm.swap _ _ _
  | trans p1 p2 ih1 ih2 => intro nd; exact (ih1 nd).trans (ih2 (perm_nodup p1 nd))
theorem hren_perm {σ τ : AHeap} (p : σ.Perm τ) (b b' : Nat) (y : ABlk) : (keys σ).Nodup → (hren σ b b' y).Perm (hren τ b b' y) := by
  induction p with
  | nil => intro _; exact List.Perm.refl _
  | cons x p ih =>
    intro nd
    obtain ⟨a, z⟩ := x
    simp only [keys_cons, List.nodup_cons] at nd
    simp only [hren]
    split
    · exact p.cons _
    · exact (ih nd.2).cons _
  | swap x z l =>
    intro nd
    obtain ⟨a, u⟩ := x
    obtain ⟨c, v⟩ := z
    simp only [keys_cons, List.nodup_cons, List.mem_cons, not_or] at nd
    have hne := nd.1.1
    simp only [hren]
    by_cases h1 : c = b
    · subst h1
      rw [if_pos rfl, if_neg (fun e => hne e.symm), if_pos rfl]
      exact List.Perm.swap _ _ _
    · rw [if_neg h1, if_neg h1]
      split <;> exact List.Perm.swap _ _ _
  | trans p1 p2 ih1 ih2 => intro nd; exact (ih1 nd).trans (ih2 (perm_nodup p1 nd))
theorem hdel_perm {σ τ : AHeap} (p : σ.Perm τ) (b : Nat) : (keys σ).Nodup → (hdel σ b).Perm (hdel τ b) := by
  induction p with
  | nil => intro _; exact List.Perm.refl _
  | cons x p ih =>
    intro nd
    obtain ⟨a, z⟩ := x
    simp only [keys_cons, List.nodup_cons] at nd
    simp only [hdel]
    split
    · exact p
    · exact (ih nd.2).cons _
  | swap x z l =>
    intro nd
    obtain ⟨a, u⟩ := x
    obtain ⟨c, v⟩ := z
    simp only [keys_cons, List.nodup_cons, List.mem_cons, not_or] at nd
    have hne := nd.1.1
    simp only [hdel]
    by_cases h1 : c = b
    · subst h1
      rw [if_pos rfl, if_neg (fun e => hne e.symm), if_pos rfl]
    · rw [if_neg h1, if_neg h1]
      split
      · exact List.Perm.refl _
      · exact List.Perm.swap _ _ _
  | trans p1 p2 ih1 ih2 => intro nd; exact (ih1 nd).trans (ih2 (perm_nodup p1 nd))

def clo (R : AVal → AHeap → Prop) : AVal → AHeap → Prop := fun r σ => ∃ τ, τ.Perm σ ∧ R r τ
theorem elems_perm {σ τ : AHeap} (nd : (keys σ).Nodup) (p : σ.Perm τ) (sz : Nat) (x : AVal) : elemsOf τ sz x = elemsOf σ sz x := by
  unfold elemsOf
  split <;> try rfl
  rw [hget_perm nd p]
theorem astep_perm {k : AK} (hc : k.calls = false) {vs : List AVal} {σ τ : AHeap} (nd : (keys σ).Nodup) (p : σ.Perm τ) {R : AVal → AHeap → Prop} (h : astep P k vs σ R) : astep P k vs τ (clo R) := by
  have hfr : ∀ {b : Nat}, fresh τ b → fresh σ b := fun hb hm => hb ((p.map Prod.fst).subset hm)
  have hnew : ∀ {sz : Nat} {xs : List AVal} {f : Nat → AVal}, enew sz xs σ (fun b σ' => R (f b) σ') → enew sz xs τ (fun b σ' => clo R (f b) σ') := fun h b hb => ⟨_, p.cons _, h b (hfr hb)⟩
  have happ : ∀ {sz byt : Nat} {s : AVal} {ys : List AVal}, eapp sz byt s ys σ R → eapp sz byt s ys τ (clo R) := by
    intro sz byt s ys h
    unfold eapp at h ⊢
    split at h
    · rename_i z xs
      obtain ⟨h1, h2, h3⟩ := h
      refine ⟨h1, h2, ?_⟩
      cases xs with
      | nil => exact hnew h3
      | cons x xs => exact ⟨fun e => ⟨_, p, h3.1 e⟩, fun e => hnew (h3.2 e)⟩
    · obtain ⟨xs, h1, h2, h3, h4⟩ := h
      exact ⟨xs, by rw [hget_perm nd p]; exact h1, h2, h3, fun b' hb' => ⟨_, hren_perm p _ _ _ nd, h4 b' (hfr hb')⟩⟩
    · exact h.elim
  cases k <;> simp only [AK.calls, Bool.true_eq_false] at hc <;> simp only [astep] at h ⊢
  case store sz =>
    unfold estore at h ⊢
    split at h
    · obtain ⟨s, xs, x, h1, h2, h3, h4, h5, h6⟩ := h
      exact ⟨s, xs, x, by rw [hget_perm nd p]; exact h1, h2, h3, h4, h5, ⟨_, hset_perm p _ _ nd, h6⟩⟩
    · exact h.elim
  case alloc z => exact ⟨h.1, h.2.1, hnew h.2.2⟩
  case box sz =>
    unfold ebox at h ⊢
    split at h
    · exact ⟨h.1, hnew h.2⟩
    · exact h.elim
  case bslo sz => exact ⟨h.1, hnew h.2⟩
  case strish sz =>
    unfold estrish at h ⊢
    split at h
    · obtain ⟨xs, h1, h2, h3, h4⟩ := h
      exact ⟨xs, by rw [hget_perm nd p]; exact h1, h2, h3, ⟨_, hdel_perm p _ nd, h4⟩⟩
    · exact h.elim
  case isnil neg =>
    unfold eisnil at h ⊢
    split at h
    · exact ⟨fun e => ⟨_, p, h.1 e⟩, fun e t => ⟨_, p, h.2 e t⟩⟩
    · exact ⟨fun e => ⟨_, p, h.1 e⟩, fun e t => ⟨_, p, h.2 e t⟩⟩
    · exact h.elim
  case mks sz byt z =>
    unfold emks at h ⊢
    split at h
    · obtain ⟨h1, h2, h3, h4, h5, h6⟩ := h
      exact ⟨h1, h2, h3, h4, h5, hnew h6⟩
    · exact h.elim
  case app sz byt =>
    unfold eappv at h ⊢
    split at h
    · obtain ⟨ys, h1, h2⟩ := h
      exact ⟨ys, by rw [elems_perm nd p]; exact h1, happ h2⟩
    · exact h.elim
  case apps =>
    unfold eapps at h ⊢
    split at h
    · exact happ h
    · exact h.elim
  case cpy sz =>
    unfold ecpy at h ⊢
    split at h
    · obtain ⟨xs, ys, h1, h2, h3, h4⟩ := h
      exact ⟨xs, ys, by rw [hget_perm nd p]; exact h1, by rw [elems_perm nd p]; exact h2, h3, ⟨_, hset_perm p _ _ nd, h4⟩⟩
    · exact h.elim
  case clip sz =>
    unfold eclip at h ⊢
    split at h
    · obtain ⟨xs, h1, h2, h3, h4, h5, h6⟩ := h
      exact ⟨xs, by rw [hget_perm nd p]; exact h1, h2, h3, h4, h5, ⟨_, hdel_perm p _ nd, h6⟩⟩
    · obtain ⟨v, h1, h2⟩ := h
      exact ⟨v, h1, ⟨_, p, h2⟩⟩
  case callp f =>
    obtain ⟨v, h1, h2⟩ := h
    exact ⟨v, h1, ⟨_, p, h2⟩⟩
  all_goals (
    obtain ⟨v, h1, h2⟩ := h
    exact ⟨v, by rw [← h1]; exact (aquiet_congr fun b _ => (hget_perm nd p b).symm).symm, ⟨_, p, h2⟩⟩)

/-- Two that make new blocks. -/
theorem swap_makes {kx ky : AK} (hx : kx.makes = true) (hy : ky.makes = true) {vs us : List AVal} {σ : AHeap} {Q : AVal → AVal → AHeap → Prop} (H : astep P kx vs σ fun r σ1 => astep P ky us σ1 fun s σ2 => Q r s σ2) :
    astep P ky us σ fun s σ1 => astep P kx vs σ1 fun r σ2 => ∃ τ, τ.Perm σ2 ∧ Q r s τ := by
  have form : ∀ {k : AK}, k.makes = true → ∀ (vs : List AVal) , (∃ (C : Prop) (sz : Nat) (xs : List AVal) (f : Nat → AVal), ∀ (σ : AHeap) (R : AVal → AHeap → Prop), astep P k vs σ R ↔ C ∧ enew sz xs σ fun b σ' => R (f b) σ') := by
    intro k hk vs
    cases k <;> simp only [AK.makes, Bool.false_eq_true] at hk
    case alloc z => exact ⟨vs = [] ∧ ∀ c ∈ z.cells, c.one = true, _, _, _, fun σ R => by simp only [astep, and_assoc]; exact Iff.rfl⟩
    case box sz =>
      match vs with
      | [v] => exact ⟨v.elem sz, _, _, _, fun σ R => Iff.rfl⟩
      | [] => exact ⟨False, 0, [], fun _ => .nilp, fun σ R => by simp [astep, ebox]⟩
      | _ :: _ :: _ => exact ⟨False, 0, [], fun _ => .nilp, fun σ R => by simp [astep, ebox]⟩
    case bslo sz => exact ⟨∀ v ∈ vs, v.elem sz, _, _, _, fun σ R => Iff.rfl⟩
    case mks sz byt z =>
      by_cases h : ∃ l c, vs = [.int .i64 l, .int .i64 c]
      · obtain ⟨l, c, rfl⟩ := h
        exact ⟨z.elem sz ∧ 0 ≤ l ∧ l ≤ c ∧ c ≤ 9223372036854775807 ∧ byt * c ≤ 281474976710656, sz, List.replicate l.toNat z, fun b => .arr sz b 0 l.toNat, fun σ R => by simp only [astep, emks, and_assoc]⟩
      · refine ⟨False, 0, [], fun _ => .nilp, fun σ R => ?_⟩
        simp only [astep, false_and, iff_false]
        unfold emks
        split
        · exact absurd ⟨_, _, rfl⟩ h
        · exact fun h => h
  obtain ⟨Cx, sx, xs, fx, hfx⟩ := form hx vs
  obtain ⟨Cy, sy, ys, fy, hfy⟩ := form hy us
  rw [hfx] at H
  obtain ⟨h1, H⟩ := H
  rw [hfy]
  have h2 : Cy := by
    obtain ⟨b, hb, _⟩ := exists_fresh σ 0
    exact ((hfy _ _).1 (H b hb)).1
  refine ⟨h2, fun b2 hb2 => ?_⟩
  refine (hfx _ _).2 ⟨h1, fun b1 hb1 => ?_⟩
  have hb1' : fresh σ b1 ∧ b1 ≠ b2 := by
    unfold fresh at hb1 ⊢
    simp only [keys_cons, List.mem_cons, not_or] at hb1
    exact ⟨hb1.2, hb1.1⟩
  have := (hfy _ _).1 (H b1 hb1'.1)
  have hb2' : fresh ((b1, ABlk.cells sx xs) :: σ) b2 := by
    unfold fresh at hb2 ⊢
    simp only [keys_cons, List.mem_cons, not_or]
    exact ⟨fun e => hb1'.2 e.symm, hb2⟩
  exact ⟨_, List.Perm.swap _ _ _, this.2 b2 hb2'⟩

theorem makes_form {k : AK} (hk : k.makes = true) (vs : List AVal) : ∃ (C : Prop) (sz : Nat) (xs : List AVal) (f : Nat → AVal), ∀ (σ : AHeap) (R : AVal → AHeap → Prop), astep P k vs σ R ↔ C ∧ enew sz xs σ fun b σ' => R (f b) σ' := by
  cases k <;> simp only [AK.makes, Bool.false_eq_true] at hk
  case alloc z => exact ⟨vs = [] ∧ ∀ c ∈ z.cells, c.one = true, _, _, _, fun σ R => by simp only [astep, and_assoc]; exact Iff.rfl⟩
  case box sz =>
    match vs with
    | [v] => exact ⟨v.elem sz, _, _, _, fun σ R => Iff.rfl⟩
    | [] => exact ⟨False, 0, [], fun _ => .nilp, fun σ R => by simp [astep, ebox]⟩
    | _ :: _ :: _ => exact ⟨False, 0, [], fun _ => .nilp, fun σ R => by simp [astep, ebox]⟩
  case bslo sz => exact ⟨∀ v ∈ vs, v.elem sz, _, _, _, fun σ R => Iff.rfl⟩
  case mks sz byt z =>
    by_cases h : ∃ l c, vs = [.int .i64 l, .int .i64 c]
    · obtain ⟨l, c, rfl⟩ := h
      exact ⟨z.elem sz ∧ 0 ≤ l ∧ l ≤ c ∧ c ≤ 9223372036854775807 ∧ byt * c ≤ 281474976710656, sz, List.replicate l.toNat z, fun b => .arr sz b 0 l.toNat, fun σ R => by simp only [astep, emks, and_assoc]⟩
    · refine ⟨False, 0, [], fun _ => .nilp, fun σ R => ?_⟩
      simp only [astep, false_and, iff_false]
      unfold emks
      split
      · exact absurd ⟨_, _, rfl⟩ h
      · exact fun h => h

theorem hget_fresh {σ : AHeap} {b n : Nat} {blk y : ABlk} (hb : fresh σ b) (h : hget σ n = some y) : hget ((b, blk) :: σ) n = some y := by
  have : b ≠ n := fun e => hb (by rw [e]; exact mem_keys (hget_mem h))
  simp only [hget, if_neg this]
  exact h
theorem elems_beside {σ : AHeap} {sz : Nat} {x : AVal} {zs : List AVal} (h : elemsOf σ sz x = some zs) {b : Nat} (hb : fresh σ b) (blk : ABlk) : elemsOf ((b, blk) :: σ) sz x = some zs := by
  unfold elemsOf at h ⊢
  split <;> simp only at h <;> try exact h
  rename_i s n o m
  split at h
  · rename_i y e
    rw [hget_fresh hb e]
    exact h
  · cases h
theorem hren_cons_ne {σ : AHeap} {b c b' : Nat} {blk y : ABlk} (h : b ≠ c) : hren ((b, blk) :: σ) c b' y = (b, blk) :: hren σ c b' y := by
  simp only [hren, if_neg h]
theorem fresh_hren {σ : AHeap} (nd : (keys σ).Nodup) {b c b' : Nat} {y : ABlk} (hb : fresh σ b) (h : b ≠ b') : fresh (hren σ c b' y) b := by
  intro hm
  obtain ⟨z, hz⟩ : ∃ z, (b, z) ∈ hren σ c b' y := by
    obtain ⟨⟨a, z⟩, h1, h2⟩ := List.mem_map.1 hm
    exact ⟨z, by simp only at h2; rw [← h2]; exact h1⟩
  rcases mem_hren nd hz with h | h
  · exact absurd h.1 (by intro e; exact absurd e ‹b ≠ b'›)
  · exact hb (mem_keys h.2)

/-- One that grows a row ahead of one that makes a block. -/
theorem swap_am {sz byt : Nat} {ky : AK} (hy : ky.makes = true) {vs us : List AVal} {σ : AHeap} (nd : (keys σ).Nodup) {Q : AVal → AVal → AHeap → Prop} (H : astep P (.app sz byt) vs σ fun r σ1 => astep P ky us σ1 fun s σ2 => Q r s σ2) :
    astep P ky us σ fun s σ1 => astep P (.app sz byt) vs σ1 fun r σ2 => ∃ τ, τ.Perm σ2 ∧ Q r s τ := by
  obtain ⟨C, sy, ys, fy, hfy⟩ := makes_form (P := P) hy us
  obtain ⟨r0, σ0, h0⟩ := astep_nonvac H
  have hC : C := ((hfy _ _).1 h0).1
  have H' : eappv sz byt vs σ fun r σ1 => enew sy ys σ1 fun b σ2 => Q r (fy b) σ2 := astep_mono (k := .app sz byt) (P := P) (fun r σ1 h => ((hfy _ _).1 h).2) H
  clear H h0
  rw [hfy]
  refine ⟨hC, fun b hb => ?_⟩
  show eappv sz byt vs ((b, .cells sy ys) :: σ) _
  unfold eappv at H' ⊢
  split at H'
  · obtain ⟨zs, h1, h2⟩ := H'
    refine ⟨zs, elems_beside h1 hb _, ?_⟩
    have new : ∀ {sz : Nat} {xs : List AVal} {r : Nat → AVal}, (enew sz xs σ fun b' σ' => enew sy ys σ' fun b σ2 => Q (r b') (fy b) σ2) → enew sz xs ((b, .cells sy ys) :: σ) fun b' σ2 => ∃ τ, τ.Perm σ2 ∧ Q (r b') (fy b) τ := by
      intro sz xs r h b' hb'
      have hb1 : fresh σ b' ∧ b' ≠ b := by
        unfold fresh at hb' ⊢
        simp only [keys_cons, List.mem_cons, not_or] at hb'
        exact ⟨hb'.2, hb'.1⟩
      have hb2 : fresh ((b', ABlk.cells sz xs) :: σ) b := by
        unfold fresh at hb ⊢
        simp only [keys_cons, List.mem_cons, not_or]
        exact ⟨fun e => hb1.2 e.symm, hb⟩
      exact ⟨_, List.Perm.swap _ _ _, h b' hb1.1 b hb2⟩
    unfold eapp at h2 ⊢
    split at h2
    · rename_i z xs
      obtain ⟨g1, g2, g3⟩ := h2
      cases xs with
      | nil => exact ⟨g1, g2, new g3⟩
      | cons x xs => exact ⟨g1, g2, fun e => ⟨_, List.Perm.refl _, g3.1 e b hb⟩, fun e => new (g3.2 e)⟩
    · rename_i s' c n
      obtain ⟨xs, g1, g2, g3, g4⟩ := h2
      have hbc : b ≠ c := fun e => hb (by rw [e]; exact mem_keys (hget_mem g1))
      refine ⟨xs, hget_fresh hb g1, g2, g3, fun b' hb' => ?_⟩
      have hb1 : fresh σ b' ∧ b' ≠ b := by
        unfold fresh at hb' ⊢
        simp only [keys_cons, List.mem_cons, not_or] at hb'
        exact ⟨hb'.2, hb'.1⟩
      refine ⟨_, ?_, g4 b' hb1.1 b (fresh_hren nd hb fun e => hb1.2 e.symm)⟩
      rw [hren_cons_ne hbc]
    · exact h2.elim
  · exact H'.elim

theorem swap_step {nc : Bool} {kx ky : AK} (hc : ((kx.quiet && ky.quiet) || (kx.quiet && !kx.reads) || (ky.quiet && !ky.reads) || (ky.quiet && (kx.makes || (nc && kx.apps?))) || (kx.quiet && ky.makes)) = true) {vs us : List AVal} {σ : AHeap} (nd : nc = true → (keys σ).Nodup)
    {Q : AVal → AVal → AHeap → Prop} (H : astep P kx vs σ fun r σ1 => astep P ky us σ1 fun s σ2 => Q r s σ2) :
    astep P ky us σ fun s σ1 => astep P kx vs σ1 fun r σ2 => Q r s σ2 := by
  simp only [Bool.or_eq_true, Bool.and_eq_true, Bool.not_eq_true'] at hc
  rcases hc with (((⟨hx, hy⟩ | ⟨hx, hxr⟩) | ⟨hy, hyr⟩) | ⟨hy, hxm⟩) | ⟨hx, hym⟩
  · rw [astep_quiet hx] at H
    obtain ⟨r, hr, H⟩ := H
    rw [astep_quiet hy] at H
    obtain ⟨s, hs, H⟩ := H
    rw [astep_quiet hy]
    exact ⟨s, hs, by rw [astep_quiet hx]; exact ⟨r, hr, H⟩⟩
  · rw [astep_quiet hx] at H
    obtain ⟨r, hr, H⟩ := H
    refine astep_mono (fun s σ1 hQ => ?_) H
    rw [astep_quiet hx]
    exact ⟨r, by rw [← hr]; exact aquiet_noread hxr, hQ⟩
  · have H' : astep P kx vs σ fun r σ1 => ∃ s, aquiet ky σ us = some s ∧ Q r s σ1 := astep_mono (fun r σ1 h => by
      rw [astep_quiet hy] at h
      obtain ⟨s, hs, hQ⟩ := h
      exact ⟨s, by rw [← hs]; exact aquiet_noread hyr, hQ⟩) H
    obtain ⟨r0, σ0, s0, hs0, _⟩ := astep_nonvac H'
    rw [astep_quiet hy]
    refine ⟨s0, hs0, astep_mono (fun r σ1 h => ?_) H'⟩
    obtain ⟨s, hs, hQ⟩ := h
    rw [hs0] at hs
    simp only [Option.some.injEq] at hs
    rw [hs]
    exact hQ
  · have H' : astep P kx vs σ fun r σ1 => ∃ s, aquiet ky σ1 us = some s ∧ Q r s σ1 := astep_mono (fun r σ1 h => by rwa [astep_quiet hy] at h) H
    rw [astep_quiet hy]
    cases kx <;> simp only [AK.makes, AK.apps?, Bool.false_eq_true, or_self, or_false, false_or, and_false, and_true] at hxm <;> simp only [astep] at H' ⊢
    case alloc z =>
      obtain ⟨h1, h2, h3⟩ := H'
      obtain ⟨s0, e0, h⟩ := newread hy h3
      exact ⟨s0, e0, h1, h2, h⟩
    case box sz =>
      unfold ebox at H' ⊢
      split at H'
      · obtain ⟨h1, h3⟩ := H'
        obtain ⟨s0, e0, h⟩ := newread hy h3
        exact ⟨s0, e0, h1, h⟩
      · exact H'.elim
    case bslo sz =>
      obtain ⟨h1, h3⟩ := H'
      obtain ⟨s0, e0, h⟩ := newread hy h3
      exact ⟨s0, e0, h1, h⟩
    case mks sz byt z =>
      unfold emks at H' ⊢
      split at H'
      · obtain ⟨h1, h2, h3, h4, h5, h6⟩ := H'
        obtain ⟨s0, e0, h⟩ := newread hy h6
        exact ⟨s0, e0, h1, h2, h3, h4, h5, h⟩
      · exact H'.elim
    case app sz byt =>
      unfold eappv at H' ⊢
      split at H'
      · obtain ⟨ys, h1, h2⟩ := H'
        obtain ⟨s0, e0, h⟩ := swap_app hy (nd hxm) h2
        exact ⟨s0, e0, ys, h1, h⟩
      · exact H'.elim
    case apps =>
      unfold eapps at H' ⊢
      split at H'
      · obtain ⟨s0, e0, h⟩ := swap_app hy (nd hxm) H'
        exact ⟨s0, e0, h⟩
      · exact H'.elim
  · rw [astep_quiet hx] at H
    obtain ⟨r, hr, H⟩ := H
    have key : ∀ {sz : Nat} {xs : List AVal} {f : Nat → AVal}, enew sz xs σ (fun b σ' => Q r (f b) σ') → enew sz xs σ (fun b σ' => astep P kx vs σ' fun r σ2 => Q r (f b) σ2) := by
      intro sz xs f h b hb
      rw [astep_quiet hx]
      exact ⟨r, read_beside hr hb _, h b hb⟩
    cases ky <;> simp only [AK.makes, Bool.false_eq_true] at hym <;> simp only [astep] at H ⊢
    case alloc z => exact ⟨H.1, H.2.1, key H.2.2⟩
    case box sz =>
      unfold ebox at H ⊢
      split at H
      · exact ⟨H.1, key H.2⟩
      · exact H.elim
    case bslo sz => exact ⟨H.1, key H.2⟩
    case mks sz byt z =>
      unfold emks at H ⊢
      split at H
      · obtain ⟨h1, h2, h3, h4, h5, h6⟩ := H
        exact ⟨h1, h2, h3, h4, h5, key h6⟩
      · exact H.elim

/-! ### With the frame -/

theorem evs_congr {F F' : AFrame} : ∀ {l : List AOpd}, (∀ i, .t i ∈ l → F i = F' i) → evs F l = evs F' l
  | [], _ => rfl
  | x :: l, h => by
    have h1 : ev F x = ev F' x := by
      cases x with
      | t i => exact h i (by simp)
      | c v => rfl
    simp only [evs, h1, evs_congr (l := l) (fun i hi => h i (by simp [hi]))]

theorem fput_other {dst : Option Nat} {v : Option AVal} {F : AFrame} {i : Nat} (h : dst ≠ some i) : fput dst v F i = F i := by
  cases dst with
  | none => rfl
  | some d =>
    simp only [fput, fset]
    rw [if_neg (fun e => h (by rw [e]))]

theorem fput_comm {d1 d2 : Option Nat} (h : ∀ d, d1 = some d → d2 ≠ some d) (v1 v2 : Option AVal) (F : AFrame) : fput d1 v1 (fput d2 v2 F) = fput d2 v2 (fput d1 v1 F) := by
  cases d1 <;> cases d2 <;> try rfl
  rename_i a b
  have hab : a ≠ b := fun e => h a rfl (by rw [e])
  funext i
  simp only [fput, fset]
  by_cases h1 : i = a
  · subst h1
    rw [if_pos rfl, if_neg hab, if_pos rfl]
  · rw [if_neg h1, if_neg h1]

theorem mem_looks_arg {o : AOper} {i : Nat} (h : AOpd.t i ∈ o.args) : i ∈ o.looks := by
  unfold AOper.looks
  refine List.mem_append.2 (.inl (List.mem_filterMap.2 ⟨_, h, rfl⟩))
theorem mem_looks_guard {o : AOper} {g : Nat} {b : Bool} (h : o.guard = some (g, b)) : g ∈ o.looks := by
  unfold AOper.looks
  rw [h]
  simp

theorem evs_put {o : AOper} {dst : Option Nat} (h : ∀ d, dst = some d → d ∉ o.looks) (v : Option AVal) (F : AFrame) : evs (fput dst v F) o.args = evs F o.args :=
  evs_congr fun i hi => fput_other (fun e => h i e (mem_looks_arg hi))

theorem arun_put {o : AOper} {dst : Option Nat} (h : ∀ d, dst = some d → d ∉ o.looks) (hd : ∀ d, dst = some d → o.dst ≠ some d) (v : Option AVal) {F : AFrame} {σ : AHeap} {Q : AFrame → AHeap → Prop} :
    arun P o (fput dst v F) σ Q ↔ arun P o F σ fun F' σ' => Q (fput dst v F') σ' := by
  unfold arun
  rw [evs_put h]
  have e : ∀ r : AVal, fput o.dst (some r) (fput dst v F) = fput dst v (fput o.dst (some r) F) := fun r => (fput_comm hd v (some r) F).symm
  simp only [e]

theorem aop_put {o : AOper} {dst : Option Nat} (h : ∀ d, dst = some d → d ∉ o.looks) (hd : ∀ d, dst = some d → o.dst ≠ some d) (v : Option AVal) {F : AFrame} {σ : AHeap} {Q : AFrame → AHeap → Prop} :
    aop P o (fput dst v F) σ Q ↔ aop P o F σ fun F' σ' => Q (fput dst v F') σ' := by
  unfold aop
  split
  · exact arun_put h hd v
  · rename_i g want hg
    have e1 : fput dst v F g = F g := fput_other (fun e => h g e (mem_looks_guard hg))
    rw [e1, fput_comm (fun d e => hd d e) v (some (.tup [])) F |>.symm]
    simp only [arun_put h hd v]

theorem apartA_spec {x y : AOper} (h : apartA x y = true) : (∀ d, x.dst = some d → d ∉ y.looks) ∧ (∀ d, x.dst = some d → y.dst ≠ some d) ∧ (∀ d, y.dst = some d → d ∉ x.looks) := by
  unfold apartA at h
  rw [Bool.and_eq_true] at h
  obtain ⟨h1, h2⟩ := h
  refine ⟨fun d e => ?_, fun d e => ?_, fun d e => ?_⟩
  · rw [e] at h1
    simp at h1
    exact h1.1
  · rw [e] at h1
    simp at h1
    exact h1.2
  · rw [e] at h2
    simpa using h2

theorem arun_mono {o : AOper} {F : AFrame} {σ : AHeap} {Q Q' : AFrame → AHeap → Prop} (hQ : ∀ F σ, Q F σ → Q' F σ) (h : arun P o F σ Q) : arun P o F σ Q' := by
  obtain ⟨vs, hvs, h⟩ := h
  exact ⟨vs, hvs, astep_mono (fun r σ' h => hQ _ _ h) h⟩
theorem aop_mono {o : AOper} {F : AFrame} {σ : AHeap} {Q Q' : AFrame → AHeap → Prop} (hQ : ∀ F σ, Q F σ → Q' F σ) (h : aop P o F σ Q) : aop P o F σ Q' := by
  unfold aop at h ⊢
  split at h
  · exact arun_mono hQ h
  · obtain ⟨b, h1, h2, h3⟩ := h
    exact ⟨b, h1, fun e => arun_mono hQ (h2 e), fun e => hQ _ _ (h3 e)⟩

/-- Does the guard let the operation by? -/
def gate (o : AOper) (F : AFrame) : Option Bool :=
  match o.guard with
  | none => some true
  | some (g, want) => (gval (F g)).map fun b => b == some want

theorem aop_gate {o : AOper} {F : AFrame} {σ : AHeap} {Q : AFrame → AHeap → Prop} : aop P o F σ Q ↔ (gate o F = some true ∧ arun P o F σ Q) ∨ (gate o F = some false ∧ Q (fput o.dst (some (.tup [])) F) σ) := by
  unfold aop gate
  cases o.guard with
  | none => simp
  | some gw =>
    obtain ⟨g, want⟩ := gw
    simp only
    constructor
    · rintro ⟨b, hb, h1, h2⟩
      rw [hb]
      by_cases h : b = some want
      · exact .inl ⟨by simp [h], h1 h⟩
      · exact .inr ⟨by simp [h], h2 h⟩
    · intro h
      cases hb : gval (F g) with
      | none => rw [hb] at h; simp at h
      | some b =>
        rw [hb] at h
        simp only [Option.map_some, Option.some.injEq, beq_iff_eq, beq_eq_false_iff_ne] at h
        rcases h with ⟨h1, h2⟩ | ⟨h1, h2⟩
        · exact ⟨b, rfl, fun _ => h2, fun e => absurd h1 e⟩
        · exact ⟨b, rfl, fun e => absurd e h1, fun _ => h2⟩

theorem gate_put {o : AOper} {dst : Option Nat} (h : ∀ d, dst = some d → d ∉ o.looks) (v : Option AVal) (F : AFrame) : gate o (fput dst v F) = gate o F := by
  unfold gate
  cases hg : o.guard with
  | none => rfl
  | some gw =>
    obtain ⟨g, want⟩ := gw
    simp only
    rw [fput_other (fun e => h g e (mem_looks_guard hg))]

theorem swap_callp {kx ky : AK} (hx : kx.callp? = true) {vs us : List AVal} {σ : AHeap} {Q : AVal → AVal → AHeap → Prop} (H : astep P kx vs σ fun r σ1 => astep P ky us σ1 fun s σ2 => Q r s σ2) :
    astep P ky us σ fun s σ1 => astep P kx vs σ1 fun r σ2 => Q r s σ2 := by
  cases kx <;> simp only [AK.callp?, Bool.false_eq_true] at hx
  obtain ⟨v, h1, h2⟩ := H
  exact astep_mono (fun s σ1 h => ⟨v, h1, h⟩) h2
theorem swap_callp2 {kx ky : AK} (hx : kx.quiet = true) (hy : ky.callp? = true) {vs us : List AVal} {σ : AHeap} {Q : AVal → AVal → AHeap → Prop} (H : astep P kx vs σ fun r σ1 => astep P ky us σ1 fun s σ2 => Q r s σ2) :
    astep P ky us σ fun s σ1 => astep P kx vs σ1 fun r σ2 => Q r s σ2 := by
  cases ky <;> simp only [AK.callp?, Bool.false_eq_true] at hy
  rw [astep_quiet hx] at H
  obtain ⟨r, h1, v, h2, h3⟩ := H
  exact ⟨v, h2, (astep_quiet hx).2 ⟨r, h1, h3⟩⟩
theorem evs_mem {F : AFrame} {a : Nat} {v : AVal} (ha : F a = some v) : ∀ {l : List AOpd} {vs : List AVal} {n : Nat}, evs F l = some vs → .t a ∈ l.drop n → v ∈ vs.drop n
  | [], vs, n, _, h => by simp at h
  | x :: l, vs, n, hl, h => by
    simp only [evs] at hl
    cases hx : ev F x with
    | none => rw [hx] at hl; simp at hl
    | some u =>
      rw [hx] at hl
      cases hr : evs F l with
      | none => rw [hr] at hl; simp at hl
      | some us =>
        rw [hr] at hl
        simp only [Option.some.injEq] at hl
        subst hl
        cases n with
        | succ n => simp only [List.drop_succ_cons] at h ⊢; exact evs_mem ha hr h
        | zero =>
          simp only [List.drop_zero] at h ⊢
          rcases List.mem_cons.1 h with e | h
          · subst e
            simp only [ev, ha, Option.some.injEq] at hx
            subst hx; simp
          · have := evs_mem (n := 0) ha hr (by simpa using h)
            simp only [List.drop_zero] at this
            exact List.mem_cons_of_mem _ this
theorem swap_ghost {x y : AOper} (hc : ghostOk x y = true) {F : AFrame} {vs us : List AVal} (hvs : evs F x.args = some vs) (hus : evs F y.args = some us) {σ : AHeap} {Q : AVal → AVal → AHeap → Prop}
    (H : astep P x.k vs σ fun r σ1 => astep P y.k us σ1 fun s σ2 => Q r s σ2) : astep P y.k us σ fun s σ1 => astep P x.k vs σ1 fun r σ2 => Q r s σ2 := by
  unfold ghostOk at hc
  split at hc
  · rename_i ag sz a f n ex ea ey
    rw [ex] at H ⊢
    rw [ey] at H ⊢
    rw [ea] at hvs
    obtain ⟨r, h1, ⟨s, σ', g1, g2⟩, h2⟩ := H
    have hF : ∃ v, F a = some v ∧ vs = [v] := by
      simp only [evs, ev] at hvs
      cases hF : F a with
      | none => rw [hF] at hvs; simp at hvs
      | some v => rw [hF] at hvs; simp at hvs; exact ⟨v, rfl, hvs.symm⟩
    obtain ⟨v, hF, rfl⟩ := hF
    have hmem : v ∈ us.drop n := by
      refine evs_mem hF hus ?_
      rw [List.any_eq_true] at hc
      obtain ⟨z, hz, hc⟩ := hc
      cases z with
      | t b => simp only [beq_iff_eq] at hc; subst hc; exact hz
      | c v => simp at hc
    have key : ∀ σ1, keptG (us.drop n) σ σ1 → aquiet (.load ag sz) σ1 [v] = some r := by
      intro σ1 hk
      rw [← h1]
      refine aquiet_congr fun b hb => ?_
      unfold rname at hb
      split at hb <;> simp only [Option.some.injEq, reduceCtorEq] at hb
      · rename_i e; simp only [List.cons.injEq, and_true] at e; subst e hb; exact hk _ hmem _ rfl
      · rename_i e; simp only [List.cons.injEq, and_true] at e; subst e hb; exact hk _ hmem _ rfl
      · rename_i e; simp at e
    exact ⟨⟨s, σ', g1, r, key σ' g1, g2⟩, h2.mono fun s σ1 h => ⟨h.1, r, key σ1 h.1, h.2⟩⟩
  · rename_i ag sz z0 a f n ex ea ey
    rw [ex] at H ⊢
    rw [ey] at H ⊢
    rw [ea] at hvs
    obtain ⟨r, h1, ⟨s, σ', g1, g2⟩, h2⟩ := H
    have hF : ∃ v w, F a = some w ∧ vs = [v, w] := by
      simp only [evs] at hvs
      cases h0 : ev F z0 with
      | none => rw [h0] at hvs; simp at hvs
      | some v =>
        rw [h0] at hvs
        simp only [ev] at hvs
        cases hF : F a with
        | none => rw [hF] at hvs; simp at hvs
        | some w => rw [hF] at hvs; simp at hvs; exact ⟨v, w, rfl, hvs.symm⟩
    obtain ⟨v, w, hF, rfl⟩ := hF
    have hmem : w ∈ us.drop n := by
      refine evs_mem hF hus ?_
      rw [List.any_eq_true] at hc
      obtain ⟨z, hz, hc⟩ := hc
      cases z with
      | t b => simp only [beq_iff_eq] at hc; subst hc; exact hz
      | c v => simp at hc
    have key : ∀ σ1, keptG (us.drop n) σ σ1 → aquiet (.loadg ag sz) σ1 [v, w] = some r := by
      intro σ1 hk
      have h1' := h1
      simp only [aquiet, aloadg] at h1'
      split at h1'
      · rename_i b i o w' e
        simp only [List.cons.injEq, and_true] at e
        obtain ⟨rfl, rfl⟩ := e
        split at h1'
        · rename_i hg
          rw [← h1]
          refine aquiet_congr fun b' hb => ?_
          simp only [rname, Option.some.injEq] at hb
          subst hb
          exact hk _ hmem _ hg
        · cases h1'
      · cases h1'
    exact ⟨⟨s, σ', g1, r, key σ' g1, g2⟩, h2.mono fun s σ1 h => ⟨h.1, r, key σ1 h.1, h.2⟩⟩
  · cases hc

theorem swap_op {nc : Bool} {x y : AOper} (hc : commuteA nc x y = true) {F : AFrame} {σ : AHeap} (nd : nc = true → (keys σ).Nodup) {Q : AFrame → AHeap → Prop} (H : aop P x F σ fun F1 σ1 => aop P y F1 σ1 Q) :
    aop P y F σ fun F1 σ1 => aop P x F1 σ1 fun F2 σ2 => Q F2 σ2 ∨ (nc = true ∧ ∃ τ, τ.Perm σ2 ∧ Q F2 τ) := by
  unfold commuteA at hc
  rw [Bool.and_eq_true] at hc
  obtain ⟨hap, hk⟩ := hc
  obtain ⟨a1, a2, a3⟩ := apartA_spec hap
  have a2' : ∀ d, y.dst = some d → x.dst ≠ some d := fun d e e' => a2 d e' e
  rw [aop_gate] at H
  rcases H with ⟨gx, vs, hvs, H⟩ | ⟨gx, H⟩
  · have H' : astep P x.k vs σ fun r σ1 => (gate y F = some true ∧ ∃ us, evs F y.args = some us ∧ astep P y.k us σ1 fun s σ2 => Q (fput x.dst (some r) (fput y.dst (some s) F)) σ2) ∨ (gate y F = some false ∧ Q (fput x.dst (some r) (fput y.dst (some (.tup [])) F)) σ1) := by
      refine astep_mono (fun r σ1 h => ?_) H
      replace h : aop P y (fput x.dst (some r) F) σ1 Q := h
      rw [aop_put a1 a2, aop_gate] at h
      rcases h with ⟨h1, h2⟩ | ⟨h1, h2⟩
      · exact .inl ⟨h1, h2⟩
      · exact .inr ⟨h1, h2⟩
    obtain ⟨r0, σ0, h0⟩ := astep_nonvac H'
    rw [aop_gate]
    rcases h0 with ⟨gy, us, hus, _⟩ | ⟨gy, _⟩
    · refine .inl ⟨gy, us, hus, ?_⟩
      have h2 : astep P x.k vs σ fun r σ1 => astep P y.k us σ1 fun s σ2 => Q (fput x.dst (some r) (fput y.dst (some s) F)) σ2 := astep_mono (fun r σ1 h => by
        rcases h with ⟨_, us', hus', h⟩ | ⟨h1, _⟩
        · rw [hus] at hus'
          simp only [Option.some.injEq] at hus'
          rw [hus']
          exact h
        · rw [gy] at h1; simp at h1) H'
      have h3 : astep P y.k us σ fun s σ1 => astep P x.k vs σ1 fun r σ2 => Q (fput x.dst (some r) (fput y.dst (some s) F)) σ2 ∨ (nc = true ∧ ∃ τ, τ.Perm σ2 ∧ Q (fput x.dst (some r) (fput y.dst (some s) F)) τ) := by
        have inl : (astep P y.k us σ fun s σ1 => astep P x.k vs σ1 fun r σ2 => Q (fput x.dst (some r) (fput y.dst (some s) F)) σ2) → astep P y.k us σ fun s σ1 => astep P x.k vs σ1 fun r σ2 => Q (fput x.dst (some r) (fput y.dst (some s) F)) σ2 ∨ (nc = true ∧ ∃ τ, τ.Perm σ2 ∧ Q (fput x.dst (some r) (fput y.dst (some s) F)) τ) :=
          fun h => astep_mono (fun s σ1 h => astep_mono (fun r σ2 h => .inl h) h) h
        rw [Bool.or_eq_true, Bool.or_eq_true, Bool.or_eq_true, Bool.or_eq_true] at hk
        rcases hk with (((hk | hk) | hk) | hk) | hk
        · exact inl (swap_ghost hk hvs hus h2)
        · exact inl (swap_callp hk h2)
        · rw [Bool.and_eq_true] at hk
          exact inl (swap_callp2 hk.1 hk.2 h2)
        · simp only [Bool.and_eq_true] at hk
          obtain ⟨⟨hnc, hkx⟩, hky⟩ := hk
          rw [Bool.or_eq_true] at hkx
          rcases hkx with hkx | hkx
          · exact astep_mono (fun s σ1 h => astep_mono (fun r σ2 h => .inr ⟨hnc, h⟩) h) (swap_makes hkx hky h2)
          · have : ∃ sz byt, x.k = .app sz byt := by
              cases e : x.k <;> rw [e] at hkx <;> simp only [AK.app1?, Bool.false_eq_true] at hkx
              exact ⟨_, _, rfl⟩
            obtain ⟨sz, byt, e⟩ := this
            rw [e] at h2 ⊢
            exact astep_mono (fun s σ1 h => astep_mono (fun r σ2 h => .inr ⟨hnc, h⟩) h) (swap_am hky (nd hnc) h2)
        · exact inl (swap_step hk nd (Q := fun r s σ2 => Q (fput x.dst (some r) (fput y.dst (some s) F)) σ2) h2)
      refine astep_mono (fun s σ1 h => ?_) h3
      show aop P x (fput y.dst (some s) F) σ1 _
      rw [aop_gate, gate_put a3]
      exact .inl ⟨gx, vs, by rw [evs_put a3]; exact hvs, h⟩
    · refine .inr ⟨gy, ?_⟩
      rw [aop_gate, gate_put a3]
      refine .inl ⟨gx, vs, by rw [evs_put a3]; exact hvs, astep_mono (fun r σ1 h => ?_) H'⟩
      rcases h with ⟨h1, _⟩ | ⟨_, h⟩
      · rw [gy] at h1; simp at h1
      · exact .inl h
  · rw [aop_put a1 a2, aop_gate] at H
    rw [aop_gate]
    rcases H with ⟨gy, us, hus, H⟩ | ⟨gy, H⟩
    · refine .inl ⟨gy, us, hus, astep_mono (fun s σ1 h => ?_) H⟩
      show aop P x (fput y.dst (some s) F) σ1 _
      rw [aop_gate, gate_put a3]
      exact .inr ⟨gx, .inl h⟩
    · refine .inr ⟨gy, ?_⟩
      rw [aop_gate, gate_put a3]
      exact .inr ⟨gx, .inl H⟩

theorem aop_nd {o : AOper} (hc : o.k.calls = false) {F : AFrame} {σ : AHeap} (nd : (keys σ).Nodup) {Q : AFrame → AHeap → Prop} (h : aop P o F σ Q) : aop P o F σ fun F' σ' => (keys σ').Nodup ∧ Q F' σ' := by
  have hrun : arun P o F σ Q → arun P o F σ fun F' σ' => (keys σ').Nodup ∧ Q F' σ' := by
    rintro ⟨vs, hvs, h⟩
    refine ⟨vs, hvs, ?_⟩
    generalize hR : (fun r σ' => Q (fput o.dst (some r) F) σ') = R at h
    have hgoal : (fun (r : AVal) (σ' : AHeap) => (keys σ').Nodup ∧ Q (fput o.dst (some r) F) σ') = fun r σ' => (keys σ').Nodup ∧ R r σ' := by
      funext r σ'; rw [← hR]
    rw [hgoal]
    clear hgoal hR
    have hnew : ∀ {sz : Nat} {xs : List AVal} {f : Nat → AVal}, enew sz xs σ (fun b σ' => R (f b) σ') → enew sz xs σ (fun b σ' => (keys σ').Nodup ∧ R (f b) σ') := fun h b hb => ⟨by simp only [keys_cons, List.nodup_cons]; exact ⟨hb, nd⟩, h b hb⟩
    have happ : ∀ {sz byt : Nat} {s : AVal} {ys : List AVal}, eapp sz byt s ys σ R → eapp sz byt s ys σ fun r σ' => (keys σ').Nodup ∧ R r σ' := by
      intro sz byt s ys h
      unfold eapp at h ⊢
      split at h
      · rename_i z xs
        obtain ⟨h1, h2, h3⟩ := h
        refine ⟨h1, h2, ?_⟩
        cases xs with
        | nil => exact hnew h3
        | cons x xs => exact ⟨fun e => ⟨nd, h3.1 e⟩, fun e => hnew (h3.2 e)⟩
      · obtain ⟨xs, h1, h2, h3, h4⟩ := h
        exact ⟨xs, h1, h2, h3, fun b' hb' => ⟨nodup_hren nd hb', h4 b' hb'⟩⟩
      · exact h.elim
    generalize o.k = k at h hc
    cases k <;> simp only [AK.calls, Bool.true_eq_false] at hc <;> simp only [astep] at h ⊢
    case store sz =>
      unfold estore at h ⊢
      split at h
      · obtain ⟨s, xs, x, h1, h2, h3, h4, h5, h6⟩ := h
        exact ⟨s, xs, x, h1, h2, h3, h4, h5, by rw [keys_hset]; exact nd, h6⟩
      · exact h.elim
    case alloc z => exact ⟨h.1, h.2.1, hnew h.2.2⟩
    case box sz =>
      unfold ebox at h ⊢
      split at h
      · exact ⟨h.1, hnew h.2⟩
      · exact h.elim
    case bslo sz => exact ⟨h.1, hnew h.2⟩
    case strish sz =>
      unfold estrish at h ⊢
      split at h
      · obtain ⟨xs, h1, h2, h3, h4⟩ := h
        exact ⟨xs, h1, h2, h3, (keys_hdel_sub σ _).nodup nd, h4⟩
      · exact h.elim
    case isnil neg =>
      unfold eisnil at h ⊢
      split at h
      · exact ⟨fun e => ⟨nd, h.1 e⟩, fun e t => ⟨nd, h.2 e t⟩⟩
      · exact ⟨fun e => ⟨nd, h.1 e⟩, fun e t => ⟨nd, h.2 e t⟩⟩
      · exact h.elim
    case mks sz byt z =>
      unfold emks at h ⊢
      split at h
      · obtain ⟨h1, h2, h3, h4, h5, h6⟩ := h
        exact ⟨h1, h2, h3, h4, h5, hnew h6⟩
      · exact h.elim
    case app sz byt =>
      unfold eappv at h ⊢
      split at h
      · obtain ⟨ys, h1, h2⟩ := h
        exact ⟨ys, h1, happ h2⟩
      · exact h.elim
    case apps =>
      unfold eapps at h ⊢
      split at h
      · exact happ h
      · exact h.elim
    case cpy sz =>
      unfold ecpy at h ⊢
      split at h
      · obtain ⟨xs, ys, h1, h2, h3, h4⟩ := h
        exact ⟨xs, ys, h1, h2, h3, by rw [keys_hset]; exact nd, h4⟩
      · exact h.elim
    case clip sz =>
      unfold eclip at h ⊢
      split at h
      · obtain ⟨xs, h1, h2, h3, h4, h5, h6⟩ := h
        exact ⟨xs, h1, h2, h3, h4, h5, (keys_hdel_sub σ _).nodup nd, h6⟩
      · obtain ⟨v, h1, h2⟩ := h
        exact ⟨v, h1, nd, h2⟩
    all_goals (obtain ⟨v, h1, h2⟩ := h; exact ⟨v, h1, nd, h2⟩)
  unfold aop at h ⊢
  split at h
  · exact hrun h
  · obtain ⟨b, h1, h2, h3⟩ := h
    exact ⟨b, h1, fun e => hrun (h2 e), fun e => ⟨nd, h3 e⟩⟩

/-! ### In whatever order -/

def aAny (P : Program) (ops : Array Oper) (l : List AOper) (Q : AFrame → AHeap → Prop) : Nat → Array Bool → AFrame → AHeap → Prop
  | 0, listed, F, σ => Region.ready .any ops listed = [] ∧ Q F σ
  | fuel + 1, listed, F, σ => (Region.ready .any ops listed = [] → Q F σ) ∧ ∀ i ∈ Region.ready .any ops listed, ∀ o, l[i]? = some o → aop P o F σ (aAny P ops l Q fuel (listed.setIfInBounds i true))

theorem aop_perm {o : AOper} (hc : o.k.calls = false) {F : AFrame} {σ τ : AHeap} (nd : (keys σ).Nodup) (p : σ.Perm τ) {Q : AFrame → AHeap → Prop} (h : aop P o F σ Q) : aop P o F τ fun F' σ' => ∃ ρ, ρ.Perm σ' ∧ Q F' ρ := by
  have hrun : arun P o F σ Q → arun P o F τ fun F' σ' => ∃ ρ, ρ.Perm σ' ∧ Q F' ρ := by
    rintro ⟨vs, hvs, h⟩
    exact ⟨vs, hvs, astep_mono (fun r σ' h => h) (astep_perm hc nd p h)⟩
  unfold aop at h ⊢
  split at h
  · exact hrun h
  · obtain ⟨b, h1, h2, h3⟩ := h
    exact ⟨b, h1, fun e => hrun (h2 e), fun e => ⟨_, p, h3 e⟩⟩

/-- What does not ask for the heap's order. -/
def Closed (Q : AFrame → AHeap → Prop) : Prop := ∀ F σ τ, (keys σ).Nodup → σ.Perm τ → Q F σ → Q F τ

theorem aAny_perm {ops : Array Oper} {l : List AOper} (hnc : ∀ o ∈ l, o.k.calls = false) {Q : AFrame → AHeap → Prop} (hQ : Closed Q) : ∀ (fuel : Nat) (listed : Array Bool), Closed (aAny P ops l Q fuel listed)
  | 0, listed => fun F σ τ nd p h => ⟨h.1, hQ F σ τ nd p h.2⟩
  | fuel + 1, listed => fun F σ τ nd p h => by
    refine ⟨fun e => hQ F σ τ nd p (h.1 e), fun i hi o ho => ?_⟩
    have hc := hnc o (List.mem_of_getElem? ho)
    refine aop_mono (fun F' σ' h' => ?_) (aop_perm hc nd p (aop_nd hc nd (h.2 i hi o ho)))
    obtain ⟨ρ, h1, h2, h3⟩ := h'
    exact aAny_perm hnc hQ fuel _ F' ρ σ' h2 h1 h3

theorem any_sound {ops : Array Oper} {fl : Nat → Bool} {l : List AOper} {gs : Nat → List Nat} (hl : ∀ (i : Nat) o, ops[i]? = some o → ∃ ao, l[i]? = some (modA (fl i) (gs i) ao) ∧ operA P N ops (fl i) o = some ao) {K0 : Kr} {Q : AFrame → AHeap → Prop} {Qc : Exit → Act → World → Prop} (hQ : ∀ a w, St K0 N Q a w → Qc .normal a w) :
    ∀ (fuel : Nat) (listed : Array Bool) (a : Act) (w : World), St K0 N (fun F σ => aAny P ops l Q fuel listed F σ) a w → wpAnyIn (fen rd) 0 P .any ops Qc fuel listed a w
  | 0, listed, a, w, h => by
    obtain ⟨K, F, σ, h1, h2, h3, h4, h5⟩ := h
    exact ⟨h5.1, hQ _ _ ⟨K, F, σ, h1, h2, h3, h4, h5.2⟩⟩
  | fuel + 1, listed, a, w, h => by
    obtain ⟨K, F, σ, h1, h2, h3, h4, h5⟩ := h
    have h6 := h5.1
    have h7 := h5.2
    refine ⟨fun e => hQ _ _ ⟨K, F, σ, h1, h2, h3, h4, h6 e⟩, fun i hi => ?_⟩
    obtain ⟨_, o, ho, _⟩ := mem_ready.1 hi
    obtain ⟨ao, hao, hop⟩ := hl i o ho
    have hstep := aop_sound (rd := rd) (Qc := Qc) hop (K0 := K0) (Q := fun F σ => aAny P ops l Q fuel (listed.setIfInBounds i true) F σ) ⟨K, F, σ, h1, h2, h3, h4, aop_modA (h7 i hi _ hao)⟩
    unfold wpOpIn
    rw [ho]
    simp only
    split
    · rename_i hw
      rw [if_pos hw] at hstep
      exact Oper.wpIn_mono (fun a' w' h' => any_sound hl hQ fuel _ a' w' h') hstep
    · rename_i hw
      rw [if_neg hw] at hstep
      exact ⟨fun _ _ => trivial, any_sound hl hQ fuel _ _ _ hstep⟩

/-- 'i' must be ahead of 'j'. -/
inductive Ahead (ops : Array Oper) : Nat → Nat → Prop
  | edge {i j : Nat} {o : Oper} (h : ops[j]? = some o) (he : i ∈ edgesOf o) : Ahead ops i j
  | trans {i m j : Nat} {o : Oper} (h : ops[j]? = some o) (he : m ∈ edgesOf o) (ha : Ahead ops i m) : Ahead ops i j

theorem mem_edges {o : Oper} {i : Nat} : i ∈ edgesOf o ↔ ∃ e ∈ o.after, Region.binds .any e = true ∧ e.on = i := by
  unfold edgesOf
  simp only [List.mem_map, List.mem_filter, Array.mem_toList_iff]
  constructor
  · rintro ⟨e, ⟨h1, h2⟩, h3⟩; exact ⟨e, h1, h2, h3⟩
  · rintro ⟨e, h1, h2, h3⟩; exact ⟨e, ⟨h1, h2⟩, h3⟩

/-- What is listed has all listed that must be ahead of it. -/
def ListOk (ops : Array Oper) (listed : Array Bool) : Prop := ∀ j, listed.getD j false = true → ∀ o, ops[j]? = some o → ∀ i ∈ edgesOf o, listed.getD i false = true

theorem ready_edges {ops : Array Oper} {listed : Array Bool} {j : Nat} (h : j ∈ Region.ready .any ops listed) {o : Oper} (ho : ops[j]? = some o) : ∀ i ∈ edgesOf o, listed.getD i false = true := by
  obtain ⟨_, o', ho', hall⟩ := mem_ready.1 h
  rw [ho] at ho'
  simp only [Option.some.injEq] at ho'; subst ho'
  intro i hi
  obtain ⟨e, he, hb, rfl⟩ := mem_edges.1 hi
  exact hall e he hb

theorem ListOk.ahead {ops : Array Oper} {listed : Array Bool} (hok : ListOk ops listed) {i j : Nat} (h : Ahead ops i j) : listed.getD j false = true → listed.getD i false = true := by
  induction h with
  | edge h he => exact fun hj => hok _ hj _ h _ he
  | trans h he _ ih => exact fun hj => ih (hok _ hj _ h _ he)

theorem not_ready_of_ahead {ops : Array Oper} {listed : Array Bool} (hok : ListOk ops listed) {i j : Nat} (h : Ahead ops i j) (hi : listed.getD i false = false) : j ∉ Region.ready .any ops listed := by
  intro hj
  cases h with
  | edge h he =>
    have := ready_edges hj h _ he
    rw [hi] at this; cases this
  | trans h he ha =>
    have := hok.ahead ha (ready_edges hj h _ he)
    rw [hi] at this; cases this

theorem ListOk.set {ops : Array Oper} {listed : Array Bool} (hok : ListOk ops listed) {i : Nat} (hi : i ∈ Region.ready .any ops listed) : ListOk ops (listed.setIfInBounds i true) := by
  intro j hj o ho m hm
  by_cases e : j = i
  · subst e
    exact getD_set_true (ready_edges hi ho m hm)
  · rw [getD_set_ne false (fun h => e h.symm)] at hj
    exact getD_set_true (hok j hj o ho m hm)

theorem getD_bool {listed : Array Bool} {i : Nat} (h : listed.getD i true = false) : listed.getD i false = false := by
  by_cases hlt : i < listed.size
  · simp [hlt] at h ⊢; exact h
  · simp [hlt] at h

theorem set_comm (listed : Array Bool) (i j : Nat) : (listed.setIfInBounds i true).setIfInBounds j true = (listed.setIfInBounds j true).setIfInBounds i true := by
  by_cases h : i = j
  · subst h; rfl
  · exact Array.setIfInBounds_comm _ _ h

/-- How many are not listed. -/
def unlisted (ops : Array Oper) (listed : Array Bool) : Nat := ((List.range ops.size).filter fun i => !listed.getD i true).length

theorem filter_less {p : Nat → Bool} {j : Nat} : ∀ {L : List Nat}, L.Nodup → j ∈ L → p j = true → (L.filter fun i => p i && !(i == j)).length + 1 = (L.filter p).length
  | [], _, hj, _ => by cases hj
  | a :: L, nd, hj, hp => by
    simp only [List.nodup_cons] at nd
    by_cases e : a = j
    · subst e
      have : (L.filter fun i => p i && !(i == a)) = L.filter p := by
        apply List.filter_congr
        intro i hi
        have : i ≠ a := fun e => nd.1 (e ▸ hi)
        simp [this]
      simp [List.filter_cons, hp, this]
    · have hj' : j ∈ L := by
        rcases List.mem_cons.1 hj with h | h
        · exact absurd h.symm e
        · exact h
      have := filter_less nd.2 hj' hp
      simp only [List.filter_cons]
      have e' : (a == j) = false := by simpa using e
      rw [e']
      cases p a <;> simp <;> omega

theorem unlisted_set {ops : Array Oper} {listed : Array Bool} {j : Nat} (hj : j ∈ Region.ready .any ops listed) : unlisted ops (listed.setIfInBounds j true) + 1 = unlisted ops listed := by
  obtain ⟨h1, o, ho, _⟩ := mem_ready.1 hj
  have hlt : j < ops.size := (Array.getElem?_eq_some_iff.1 ho).1
  have hls : j < listed.size := by
    by_cases h : j < listed.size
    · exact h
    · simp [h] at h1
  unfold unlisted
  rw [← filter_less (p := fun i => !listed.getD i true) (j := j) List.nodup_range (List.mem_range.2 hlt) (by simp only [h1, Bool.not_false])]
  congr 2
  apply List.filter_congr
  intro i _
  by_cases e : i = j
  · subst e
    simp [hls]
  · have e' : (i == j) = false := by simpa using e
    rw [getD_set_ne true (fun h => e h.symm), e']
    simp

theorem ready_unlisted {ops : Array Oper} {listed : Array Bool} {i j : Nat} (hi : i ∈ Region.ready .any ops listed) (hj : j ∈ Region.ready .any ops listed) (h1 : unlisted ops listed = 1) : i = j := by
  have hm : ∀ {m}, m ∈ Region.ready .any ops listed → m ∈ (List.range ops.size).filter fun i => !listed.getD i true := by
    intro m hm
    obtain ⟨h1, o, ho, _⟩ := mem_ready.1 hm
    exact List.mem_filter.2 ⟨List.mem_range.2 (Array.getElem?_eq_some_iff.1 ho).1, by simp only [h1, Bool.not_false]⟩
  obtain ⟨a, ha⟩ := list_of_len1 h1
  have h2 := hm hi
  have h3 := hm hj
  rw [ha] at h2 h3
  simp at h2 h3
  rw [h2, h3]

/-- An operation that is ready, and with which all that may come ahead of it can change places, is taken first. -/
theorem aAny_first {ops : Array Oper} {l : List AOper} {nc : Bool} (hnc : nc = true → ∀ o ∈ l, o.k.calls = false) {Q : AFrame → AHeap → Prop} (hQ : Closed Q) {k : Nat} {x : AOper} (hk : l[k]? = some x)
    (hcom : ∀ j y, l[j]? = some y → j ≠ k → Ahead ops k j ∨ j < k ∨ commuteA nc x y = true) :
    ∀ (fuel : Nat) (listed : Array Bool) (F : AFrame) (σ : AHeap), (nc = true → (keys σ).Nodup) → ListOk ops listed → (∀ j, j < k → listed.getD j false = true) → k ∈ Region.ready .any ops listed →
      unlisted ops listed = fuel + 1 → aop P x F σ (aAny P ops l Q fuel (listed.setIfInBounds k true)) → aAny P ops l Q (fuel + 1) listed F σ := by
  intro fuel
  induction fuel with
  | zero =>
    intro listed F σ nd hok hlow hr hz H
    refine ⟨fun e => (by rw [e] at hr; cases hr), fun j hj o ho => ?_⟩
    have hjk := ready_unlisted hj hr hz
    subst hjk
    rw [hk] at ho; simp only [Option.some.injEq] at ho; subst ho
    exact H
  | succ fuel ih =>
    intro listed F σ nd hok hlow hr hz H
    refine ⟨fun e => (by rw [e] at hr; cases hr), fun j hj o ho => ?_⟩
    by_cases hjk : j = k
    · subst hjk
      rw [hk] at ho; simp only [Option.some.injEq] at ho; subst ho
      exact H
    · have hknot := getD_bool (mem_ready.1 hr).1
      have hcomm : commuteA nc x o = true := by
        rcases hcom j o ho hjk with h | h | h
        · exact absurd hj (not_ready_of_ahead hok h hknot)
        · have h1 := hlow j h
          have h2 := getD_bool (mem_ready.1 hj).1
          rw [h1] at h2; cases h2
        · exact h
      have H1 : aop P x F σ fun F1 σ1 => aop P o F1 σ1 (aAny P ops l Q fuel ((listed.setIfInBounds k true).setIfInBounds j true)) := aop_mono (fun F1 σ1 h => h.2 j (ready_mono hj hjk) o ho) H
      have H2' := swap_op hcomm nd H1
      have H2 : aop P o F σ fun F1 σ1 => aop P x F1 σ1 (aAny P ops l Q fuel ((listed.setIfInBounds k true).setIfInBounds j true)) := by
        cases hnc' : nc with
        | false => exact aop_mono (fun F1 σ1 h => aop_mono (fun F2 σ2 h => h.elim id fun h => by rw [hnc'] at h; cases h.1) h) H2'
        | true =>
          have ho' := hnc hnc' o (List.mem_of_getElem? ho)
          have hx' := hnc hnc' x (List.mem_of_getElem? hk)
          refine aop_mono (fun F1 σ1 h => ?_) (aop_nd ho' (nd hnc') H2')
          refine aop_mono (fun F2 σ2 h => ?_) (aop_nd hx' h.1 h.2)
          rcases h with ⟨h1, h2 | ⟨_, ρ, h3, h4⟩⟩
          · exact h2
          · exact aAny_perm (hnc hnc') hQ _ _ F2 ρ σ2 (perm_nodup h3.symm h1) h3 h4
      rw [set_comm] at H2
      have step : ∀ F1 σ1, (nc = true → (keys σ1).Nodup) → aop P x F1 σ1 (aAny P ops l Q fuel ((listed.setIfInBounds j true).setIfInBounds k true)) → aAny P ops l Q (fuel + 1) (listed.setIfInBounds j true) F1 σ1 := by
        intro F1 σ1 nd1 h
        refine ih (listed.setIfInBounds j true) F1 σ1 nd1 (hok.set hj) (fun m hm => getD_set_true (hlow m hm)) (ready_mono hr (fun e => hjk e.symm)) (by have := unlisted_set hj; omega) h
      cases hnc' : nc with
      | false => exact aop_mono (fun F1 σ1 h => step F1 σ1 (fun e => by rw [hnc'] at e; cases e) h) H2
      | true =>
        have H3 := aop_nd (hnc hnc' o (List.mem_of_getElem? ho)) (nd hnc') H2
        exact aop_mono (fun F1 σ1 h => step F1 σ1 (fun _ => h.1) h.2) H3

/-- The operations from the k-th on, in the order of the text: in whatever order. -/
theorem aAny_of_aops {ops : Array Oper} {l : List AOper} (hlen : l.length = ops.size) (hlow : ∀ (j : Nat) o, ops[j]? = some o → ∀ i ∈ edgesOf o, i < j) {nc : Bool} (hnc : nc = true → ∀ o ∈ l, o.k.calls = false)
    (hcom : ∀ i j x y, i < j → l[i]? = some x → l[j]? = some y → Ahead ops i j ∨ commuteA nc x y = true) {Q : AFrame → AHeap → Prop} (hQ : Closed Q) :
    ∀ (n k : Nat) (listed : Array Bool) (F : AFrame) (σ : AHeap), k + n = ops.size → (nc = true → (keys σ).Nodup) → listed.size = ops.size → (∀ j, j < k → listed.getD j false = true) → (∀ j, k ≤ j → j < ops.size → listed.getD j true = false) →
      aops P (l.drop k) F σ Q → aAny P ops l Q n listed F σ := by
  intro n
  induction n with
  | zero =>
    intro k listed F σ hk nd hs h1 h2 h
    have hd : l.drop k = [] := List.drop_of_length_le (by omega)
    rw [hd] at h
    refine ⟨?_, h⟩
    apply List.eq_nil_iff_forall_not_mem.2
    intro j hj
    obtain ⟨h3, o, ho, _⟩ := mem_ready.1 hj
    have hlt : j < ops.size := (Array.getElem?_eq_some_iff.1 ho).1
    have h4 := h1 j (by omega)
    have h5 := getD_bool h3
    rw [h4] at h5; cases h5
  | succ n ih =>
    intro k listed F σ hk nd hs h1 h2 h
    have hkl : k < l.length := by omega
    have hx : l[k]? = some l[k] := List.getElem?_eq_getElem hkl
    rw [List.drop_eq_getElem_cons hkl] at h
    simp only [aops] at h
    have hok : ListOk ops listed := by
      intro j hj o ho i hi
      have hjk : j < k := by
        by_cases hh : j < k
        · exact hh
        · have hlt : j < ops.size := (Array.getElem?_eq_some_iff.1 ho).1
          have := getD_bool (h2 j (by omega) hlt)
          rw [this] at hj; cases hj
      exact h1 i (by have := hlow j o ho i hi; omega)
    have hkr : k ∈ Region.ready .any ops listed := by
      rw [mem_ready]
      have hlt : k < ops.size := by omega
      refine ⟨h2 k (Nat.le_refl _) hlt, ops[k], Array.getElem?_eq_getElem hlt, fun e he hb => ?_⟩
      exact h1 e.on (hlow k ops[k] (Array.getElem?_eq_getElem hlt) e.on (mem_edges.2 ⟨e, he, hb, rfl⟩))
    have hun : unlisted ops listed = n + 1 := by
      unfold unlisted
      have e : (List.range ops.size).filter (fun i => !listed.getD i true) = (List.range' k (n + 1)) := by
        have e1 : List.range ops.size = List.range k ++ List.range' k (n + 1) := by
          rw [← hk, List.range_eq_range', List.range_eq_range', ← List.range'_append_1]
          simp
        rw [e1, List.filter_append]
        have e2 : (List.range k).filter (fun i => !listed.getD i true) = [] := by
          apply List.filter_eq_nil_iff.2
          intro i hi
          have h3 := h1 i (List.mem_range.1 hi)
          have hlt : i < listed.size := by
            by_cases hh : i < listed.size
            · exact hh
            · simp [hh] at h3
          simp [hlt] at h3 ⊢
          exact h3
        have e3 : (List.range' k (n + 1)).filter (fun i => !listed.getD i true) = List.range' k (n + 1) := by
          apply List.filter_eq_self.2
          intro i hi
          simp only [List.mem_range'_1] at hi
          rw [h2 i hi.1 (by omega)]
          rfl
        rw [e2, e3]
        rfl
      rw [e]
      simp
    refine aAny_first hnc hQ hx (fun j y hy hjk => ?_) n listed F σ nd hok h1 hkr hun ?_
    · by_cases hlt : j < k
      · exact .inr (.inl hlt)
      · rcases hcom k j _ y (by omega) hx hy with h | h
        · exact .inl h
        · exact .inr (.inr h)
    · have step : ∀ F1 σ1, (nc = true → (keys σ1).Nodup) → aops P (l.drop (k + 1)) F1 σ1 Q → aAny P ops l Q n (listed.setIfInBounds k true) F1 σ1 := by
        intro F1 σ1 nd1 h'
        refine ih (k + 1) _ F1 σ1 (by omega) nd1 (by simp [hs]) (fun j hj => ?_) (fun j hj hlt => ?_) h'
        · by_cases e : j = k
          · subst e
            have : j < listed.size := by omega
            simp [this]
          · exact getD_set_true (h1 j (by omega))
        · rw [getD_set_ne true (by omega)]
          exact h2 j (by omega) hlt
      cases hnc' : nc with
      | false => exact aop_mono (fun F1 σ1 h => step F1 σ1 (fun e => by rw [hnc'] at e; cases e) h) h
      | true =>
        have h3 := aop_nd (hnc hnc' l[k] (List.getElem_mem hkl)) (nd hnc') h
        exact aop_mono (fun F1 σ1 h => step F1 σ1 (fun _ => h.1) h.2) h3

theorem ancOf_len (ops : Array Oper) : ∀ n, (ancOf ops n).length = n
  | 0 => rfl
  | n + 1 => by simp [ancOf, ancOf_len ops n]

theorem anc_bits {l : List Nat} {i : Nat} : ∀ {es : List Nat}, (es.foldr (fun j m => (2 ^ j ||| l.getD j 0) ||| m) 0).testBit i = true → ∃ j ∈ es, j = i ∨ (l.getD j 0).testBit i = true
  | [], h => by simp at h
  | e :: es, h => by
    simp only [List.foldr_cons, Nat.testBit_or, Nat.testBit_two_pow, Bool.or_eq_true, decide_eq_true_eq] at h
    rcases h with (h | h) | h
    · exact ⟨e, by simp, .inl h⟩
    · exact ⟨e, by simp, .inr h⟩
    · obtain ⟨j, hj, h⟩ := anc_bits h
      exact ⟨j, by simp [hj], h⟩

theorem ancOf_sound (ops : Array Oper) : ∀ (n j : Nat), j < n → ∀ i, ((ancOf ops n).getD j 0).testBit i = true → Ahead ops i j
  | 0, j, h, _, _ => by omega
  | n + 1, j, h, i, hi => by
    simp only [ancOf] at hi
    by_cases hj : j < n
    · rw [List.getD_eq_getElem?_getD, List.getElem?_append_left (by rw [ancOf_len]; exact hj), ← List.getD_eq_getElem?_getD] at hi
      exact ancOf_sound ops n j hj i hi
    · have : j = n := by omega
      subst this
      rw [List.getD_eq_getElem?_getD, List.getElem?_append_right (by rw [ancOf_len]; exact Nat.le_refl _), ancOf_len, Nat.sub_self] at hi
      simp only [List.getElem?_cons_zero, Option.getD_some] at hi
      cases ho : ops[j]? with
      | none => rw [ho] at hi; simp at hi
      | some o =>
        rw [ho] at hi
        obtain ⟨m, hm, rfl | hi⟩ := anc_bits hi
        · exact .edge ho hm
        · by_cases hmj : m < j
          · exact .trans ho hm (ancOf_sound ops j m hmj i hi)
          · rw [List.getD_eq_getElem?_getD, List.getElem?_eq_none (by rw [ancOf_len]; omega)] at hi
            simp at hi

theorem aops_mono' {Q Q' : AFrame → AHeap → Prop} (hQ : ∀ F σ, Q F σ → Q' F σ) : ∀ {l : List AOper} {F : AFrame} {σ : AHeap}, aops P l F σ Q → aops P l F σ Q'
  | [], _, _, h => hQ _ _ h
  | _ :: _, _, _, h => aop_mono (fun _ _ h' => aops_mono' hQ h') h

theorem operAs_len {ops : Array Oper} {fl : List Nat} : ∀ {l : List Oper} {i : Nat} {al : List AOper}, operAs P N ops fl i l = some al → al.length = l.length
  | [], i, al, h => by simp [operAs] at h; subst h; rfl
  | o :: l, i, al, h => by
    simp only [operAs, Option.bind_eq_bind, Option.bind_eq_some_iff, Option.pure_def, Option.some.injEq] at h
    obtain ⟨ao, ho, al', hl, rfl⟩ := h
    simp [operAs_len hl]

theorem operAs_get {ops : Array Oper} {fl : List Nat} : ∀ {l : List Oper} {i : Nat} {al : List AOper}, operAs P N ops fl i l = some al → ∀ (j : Nat) o, l[j]? = some o → ∃ ao, al[j]? = some (modA (fl.contains (i + j)) (ghostsA fl (i + j)) ao) ∧ operA P N ops (fl.contains (i + j)) o = some ao
  | [], i, al, h, j, o, ho => by simp at ho
  | o' :: l, i, al, h, j, o, ho => by
    simp only [operAs, Option.bind_eq_bind, Option.bind_eq_some_iff, Option.pure_def, Option.some.injEq] at h
    obtain ⟨ao, ho', al', hl, rfl⟩ := h
    cases j with
    | zero => simp at ho; subst ho; exact ⟨ao, by simp, ho'⟩
    | succ j =>
      obtain ⟨a, h1, h2⟩ := operAs_get hl j o (by simpa using ho)
      exact ⟨a, by rw [show i + (j + 1) = i + 1 + j by omega]; simpa using h1, by rw [← h2]; congr 2; omega⟩

theorem region_draw_sound (hm : P.follows .mixedOrders = true) {id : Nat} {ops : Array Oper} {fl : List Nat} {al : List AOper} (hc : operAs P N ops fl 0 ops.toList = some al) (hd : drawOk ops al = true) {K0 : Kr} {Q : AFrame → AHeap → Prop} {Qc : Exit → Act → World → Prop} {a : Act} {w : World}
    (hQ : ∀ a w, St K0 N Q a w → Qc .normal a w) (h : St K0 N (fun F σ => aops P al F σ Q) a w) : (Code.region id ops true).wpIn (fen rd) 0 P Qc a w := by
  have hlen : al.length = ops.size := by rw [operAs_len hc]; simp
  unfold drawOk at hd
  simp only [List.all_eq_true, List.mem_range] at hd
  refine wpIn_region_any hm ?_
  have hQ' : ∀ a w, St K0 N (fun F σ => ∃ τ, τ.Perm σ ∧ Q F τ) a w → Qc .normal a w := fun a w hs => by
    obtain ⟨K, F, σ, h1, h2, h3, h4, τ, h5, h6⟩ := hs
    exact hQ a w ⟨K, F, τ, h1, h2.sub ((h5.map Prod.fst).nodup_iff.2 h2.nd) (fun p hp => h5.subset hp), h3, h4, h6⟩
  refine any_sound (fl := fun i => fl.contains (0 + i)) (gs := fun i => ghostsA fl (0 + i)) (fun i o ho => operAs_get hc i o (by simpa using ho)) hQ' ops.size _ a w.drew ?_
  obtain ⟨K, F, σ, h1, h2, h3, h4, h5⟩ := h.drew
  refine ⟨K, F, σ, h1, h2, h3, h4, ?_⟩
  refine aAny_of_aops (nc := al.all fun o => !o.k.calls) hlen (fun j o ho i hi => ?_) (fun e o ho => ?_) (fun i j x y hij hx hy => ?_) (fun F σ τ nd p h => by obtain ⟨ρ, h1, h2⟩ := h; exact ⟨ρ, h1.trans p, h2⟩) ops.size 0 _ F σ (by omega) (fun _ => h2.nd) (by simp) (fun j hj => by omega) (fun j _ hlt => by simp [hlt]) (aops_mono' (fun F σ h => ⟨σ, List.Perm.refl _, h⟩) (by simpa using h5))
  · have hlt : j < ops.size := (Array.getElem?_eq_some_iff.1 ho).1
    have := hd j hlt
    rw [ho] at this
    split at this
    · rename_i oj aj e1 e2
      simp only [Option.some.injEq] at e1; subst e1
      rw [Bool.and_eq_true] at this
      exact of_decide_eq_true (List.all_eq_true.1 this.1 i hi)
    · cases this
  · have := List.all_eq_true.1 e o ho
    simpa using this
  · have hlt : j < ops.size := by rw [← hlen]; exact (List.getElem?_eq_some_iff.1 hy).1
    have hj := hd j hlt
    rw [hy] at hj
    split at hj
    · rename_i oj aj e1 e2
      simp only [Option.some.injEq] at e2; subst e2
      rw [Bool.and_eq_true] at hj
      have := List.all_eq_true.1 hj.2 i (List.mem_range.2 hij)
      rw [hx] at this
      simp only [Bool.or_eq_true] at this
      rcases this with h | h
      · exact .inl (ancOf_sound ops ops.size j hlt i h)
      · exact .inr h
    · cases hj

end Go.Abs
