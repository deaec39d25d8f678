/- Plain: which columns are kept. -/
import Derived.Test.YtgmefkhincnajaaDoorDc
namespace Go.Abs
open Go Go.Proofs
set_option linter.unusedVariables false
set_option linter.unusedSimpArgs false
set_option maxHeartbeats 4000000
/-- What is in a list, a map, a union that is kept is kept; what is kept stands in what is kept. -/
def Whole (l : List Nd) (keep : List Bool) : Prop := ∀ (i : Nat) (n : Nd), l[i]? = some n → ∀ x ∈ n.kids, (keep.getD x false = true → keep.getD i false = true) ∧ (keep.getD i false = true → keep.getD x false = true ∨ n.t.kind = 12)

theorem Anc.trans {l : List Nd} {a b c : Nat} (h1 : Anc l a b) (h2 : Anc l b c) : Anc l a c := by
  induction h2 with
  | refl => exact h1
  | step hc hp _ ih => exact .step hc hp ih
theorem cntL_le : ∀ (ks : List Ty) (j : Nat) (u : Ty), ks[j]? = some u → cntL (ks.take j) + cnt u ≤ cntL ks
  | [], j, u, h => by simp at h
  | t :: ts, 0, u, h => by
    simp only [List.getElem?_cons_zero, Option.some.injEq] at h
    subst h
    rw [List.take_zero, cntL, cntL]; omega
  | t :: ts, j + 1, u, h => by
    have := cntL_le ts j u (by simpa using h)
    rw [List.take_succ_cons, cntL, cntL]; omega
theorem cnt_eq (t : Ty) : cnt t = 1 + cntL t.kids := by obtain ⟨k, ns, ks, a, b, c⟩ := t; rw [cnt]; rfl

theorem anc_size {l : List Nd} (hT : TreeN l) {a x : Nat} (h : Anc l a x) : ∀ {n : Nd} (hn : l[x]? = some n), a ≤ x ∧ x + cnt n.t ≤ a + sizeC l a := by
  induction h with
  | refl => intro n hn; rw [sizeC, hn]; exact ⟨Nat.le_refl _, Nat.le_refl _⟩
  | @step c p m hc hp hh ih =>
    intro n hn
    have hlt := hT.up hc hp
    obtain ⟨⟨p', q, j, e1, e2, e3, e4, _⟩⟩ := hT.par c m hc (by omega)
    rw [hp] at e1
    have := Int.ofNat.inj e1
    subst this
    obtain ⟨h1, h2⟩ := ih e3
    obtain ⟨u, m', f1, f2, f3, f4, _⟩ := (hT.nok p q e3).kids j c e4
    have e5 : n = m' := by rw [hn] at f3; exact Option.some.inj f3
    have := cntL_le q.t.kids j u f1
    rw [cnt_eq q.t] at h2
    rw [e5, f4]
    omega
theorem anc_range {l : List Nd} (hT : TreeN l) : ∀ (d a x : Nat) (n : Nd), x - a = d → l[a]? = some n → a ≤ x → x < a + cnt n.t → Anc l a x := by
  intro d
  induction d using Nat.strongRecOn with
  | _ d ih =>
    intro a x n hd hn h1 h2
    by_cases e : x = a
    · subst e; exact .refl
    · rw [cnt_eq] at h2
      obtain ⟨j, u, e1, e2, e3⟩ := in_kid n.t.kids (a + 1) x (by omega) (by omega)
      have hjl : j < n.kids.length := by rw [(hT.nok a n hn).len]; exact (List.getElem?_eq_some_iff.1 e1).1
      obtain ⟨u', m, f1, f2, f3, f4, f5, _⟩ := (hT.nok a n hn).kids j _ (List.getElem?_eq_getElem hjl)
      rw [e1] at f1
      cases f1
      have := ih (x - n.kids[j]) (by omega) n.kids[j] x m rfl f3 (by omega) (by rw [f4]; omega)
      exact this.over f3 f5

theorem fill_anc {l : List Nd} (hT : TreeN l) {a : Nat} {n : Nd} (hn : l[a]? = some n) {k : List Bool} (hk : k.length = l.length) {x : Nat} (hx : x < l.length) : (fillN a (cnt n.t) k).getD x false = true ↔ Anc l a x ∨ k.getD x false = true := by
  rw [fillN_get]
  constructor
  · rintro (⟨h1, h2, _⟩ | h)
    · exact .inl (anc_range hT _ a x n rfl hn h1 h2)
    · exact .inr h
  · rintro (h | h)
    · have := anc_size hT h (List.getElem?_eq_getElem hx)
      rw [sizeC, hn] at this
      have hp : 1 ≤ cnt l[x].t := by rw [cnt_eq]; omega
      simp only at this
      exact .inl ⟨this.1, by omega, by omega⟩
    · exact .inr h
theorem set_get {k : List Bool} {a x : Nat} (ha : a < k.length) : (k.set a true).getD x false = true ↔ x = a ∨ k.getD x false = true := by
  rw [List.getD_eq_getElem?_getD, List.getD_eq_getElem?_getD]
  by_cases e : x = a
  · subst e; rw [List.getElem?_set_self ha]; simp
  · rw [List.getElem?_set_ne (fun h => e h.symm)]; simp [e]

def UpK (l : List Nd) (c x : Nat) : Prop := ∃ q, Anc l q c ∧ (q = x ∨ (kindC l q ≠ 12 ∧ Anc l q x))
theorem upwF_get {l : List Nd} (hT : TreeN l) {x : Nat} (hx : x < l.length) : ∀ (fl : Nat) (p : Int) (k : List Bool), k.length = l.length → -1 ≤ p → p < l.length → (p + 1).toNat ≤ fl → ((upwF l fl p k).getD x false = true ↔ k.getD x false = true ∨ (0 ≤ p ∧ UpK l p.toNat x))
  | 0, p, k, hk, h1, h2, h3 => by
    rw [upwF]
    constructor
    · exact .inl
    · rintro (h | h)
      · exact h
      · omega
  | fl + 1, p, k, hk, h1, h2, h3 => by
    rw [upwF]
    by_cases h0 : p < 0
    · rw [if_pos h0]
      constructor
      · exact .inl
      · rintro (h | h)
        · exact h
        · omega
    · rw [if_neg h0]
      obtain ⟨a, rfl⟩ : ∃ a : Nat, p = (a : Int) := ⟨p.toNat, by omega⟩
      rw [Int.toNat_natCast]
      have hal : a < l.length := by omega
      have hn := List.getElem?_eq_getElem hal
      rw [hn]
      simp only
      have hkind : kindC l a = l[a].t.kind := by rw [kindC, hn]
      have hpar : l[a].parent = -1 ∨ ∃ q : Nat, l[a].parent = (q : Int) ∧ q < a := by
        by_cases e : a = 0
        · subst e; exact .inl (hT.root _ hn).1
        · obtain ⟨⟨q, _, _, e1, e2, _⟩⟩ := hT.par a _ hn (by omega)
          exact .inr ⟨q, e1, e2⟩
      have hk1 : (if l[a].t.kind ≠ 12 then fillN a (cnt l[a].t) k else k).length = l.length := by
        split
        · rw [fillN_len, hk]
        · exact hk
      have hpp : -1 ≤ l[a].parent ∧ l[a].parent < a := by rcases hpar with e | ⟨q, e, _⟩ <;> omega
      rw [upwF_get hT hx fl _ _ (by rw [List.length_set]; exact hk1) (by omega) (by omega) (by omega), set_get (by rw [hk1]; exact hal)]
      have hmid : (if l[a].t.kind ≠ 12 then fillN a (cnt l[a].t) k else k).getD x false = true ↔ (kindC l a ≠ 12 ∧ Anc l a x) ∨ k.getD x false = true := by
        rw [hkind]
        split
        · rename_i h; rw [fill_anc hT hn hk hx]; simp [h]
        · rename_i h; simp [h]
      rw [hmid]
      have hup : UpK l a x ↔ (a = x ∨ (kindC l a ≠ 12 ∧ Anc l a x)) ∨ (0 ≤ l[a].parent ∧ UpK l l[a].parent.toNat x) := by
        constructor
        · rintro ⟨q, hq, hqx⟩
          cases hq with
          | refl => exact .inl hqx
          | step hc hp hh =>
            rw [hn] at hc
            cases hc
            exact .inr ⟨by omega, q, by rw [hp, Int.toNat_natCast]; exact hh, hqx⟩
        · rintro (h | ⟨h0', q, hq, hqx⟩)
          · exact ⟨a, .refl, h⟩
          · exact ⟨q, .step hn (p := l[a].parent.toNat) (by omega) hq, hqx⟩
      rw [hup]
      have h00 : (0 : Int) ≤ (a : Int) := by omega
      constructor
      · rintro ((h | h | h) | h)
        · exact .inr ⟨h00, .inl (.inl h.symm)⟩
        · exact .inr ⟨h00, .inl (.inr h)⟩
        · exact .inl h
        · exact .inr ⟨h00, .inr h⟩
      · rintro (h | ⟨_, (h | h) | h⟩)
        · exact .inl (.inr (.inr h))
        · exact .inl (.inl h.symm)
        · exact .inl (.inr (.inl h))
        · exact .inr h

/-- What is kept with these columns. -/
def KeepC (l : List Nd) (cols : List Int) (x : Nat) : Prop := ∃ c ∈ cols, Anc l c.toNat x ∨ UpK l c.toNat x
theorem closeL_len (l : List Nd) : ∀ (cols : List Int) (k : List Bool), (closeL l cols k).length = k.length
  | [], _ => rfl
  | c :: cs, k => by rw [closeL, closeL_len l cs, upwF_len, fillN_len]
theorem closeL_get {l : List Nd} (hT : TreeN l) {x : Nat} (hx : x < l.length) : ∀ (cols : List Int) (k : List Bool), k.length = l.length → (∀ c ∈ cols, 0 ≤ c ∧ c < l.length) → ((closeL l cols k).getD x false = true ↔ k.getD x false = true ∨ KeepC l cols x)
  | [], k, _, _ => by simp [closeL, KeepC]
  | c :: cs, k, hk, hc => by
    obtain ⟨c1, c2⟩ := hc c (by simp)
    have hn := List.getElem?_eq_getElem (show c.toNat < l.length by omega)
    have hs : sizeC l c.toNat = cnt l[c.toNat].t := by rw [sizeC, hn]
    rw [closeL, closeL_get hT hx cs _ (by rw [upwF_len, fillN_len, hk]) (fun d hd => hc d (List.mem_cons_of_mem _ hd)), hs, upwF_get hT hx _ _ _ (by rw [fillN_len, hk]) (by omega) c2 (by omega), fill_anc hT hn hk hx]
    constructor
    · rintro (((h | h) | ⟨_, h⟩) | ⟨d, hd, h⟩)
      · exact .inr ⟨c, by simp, .inl h⟩
      · exact .inl h
      · exact .inr ⟨c, by simp, .inr h⟩
      · exact .inr ⟨d, List.mem_cons_of_mem _ hd, h⟩
    · rintro (h | ⟨d, hd, h⟩)
      · exact .inl (.inl (.inr h))
      · rcases List.mem_cons.1 hd with e | e
        · subst e
          rcases h with h | h
          · exact .inl (.inl (.inl h))
          · exact .inl (.inr ⟨c1, h⟩)
        · exact .inr ⟨d, e, h⟩
theorem closeF_get {l : List Nd} (hT : TreeN l) {cols : List Int} (hc : ∀ c ∈ cols, 0 ≤ c ∧ c < l.length) {x : Nat} (hx : x < l.length) : (closeF l cols).getD x false = true ↔ KeepC l cols x := by
  rw [closeF, closeL_get hT hx cols _ (by simp) hc]
  constructor
  · rintro (h | h)
    · rw [List.getD_eq_getElem?_getD, List.getElem?_replicate, if_pos hx] at h; cases h
    · exact h
  · exact .inr
theorem closeF_len (l : List Nd) (cols : List Int) : (closeF l cols).length = l.length := by rw [closeF, closeL_len, List.length_replicate]

theorem KeepC.up {l : List Nd} {cols : List Int} {x i : Nat} {q : Nd} (hx : l[x]? = some q) (hp : q.parent = (i : Int)) (h : KeepC l cols x) : KeepC l cols i := by
  obtain ⟨c, hc, h⟩ := h
  refine ⟨c, hc, ?_⟩
  have inv : ∀ {p : Nat}, Anc l p x → p = x ∨ Anc l p i := fun {p} h => by
    cases h with
    | refl => exact .inl rfl
    | step hc hp' hh =>
      rw [hx] at hc
      cases hc
      rw [hp] at hp'
      exact .inr (by rw [Int.ofNat.inj hp']; exact hh)
  have self : Anc l x c.toNat → UpK l c.toNat i := fun h => ⟨i, h.over hx hp, .inl rfl⟩
  rcases h with h | ⟨p, hpc, h | ⟨k12, h⟩⟩
  · rcases inv h with e | e
    · exact .inr (self (by rw [e]; exact .refl))
    · exact .inl e
  · subst h; exact .inr (self hpc)
  · rcases inv h with e | e
    · subst e; exact .inr (self hpc)
    · exact .inr ⟨p, hpc, .inr ⟨k12, e⟩⟩
theorem KeepC.down {l : List Nd} {cols : List Int} {i y : Nat} (h : KeepC l cols i) (k12 : kindC l i ≠ 12) (hy : Anc l i y) : KeepC l cols y := by
  obtain ⟨c, hc, h⟩ := h
  refine ⟨c, hc, ?_⟩
  rcases h with h | ⟨p, hpc, h | ⟨k, h⟩⟩
  · exact .inl (h.trans hy)
  · subst h; exact .inr ⟨p, hpc, .inr ⟨k12, hy⟩⟩
  · exact .inr ⟨p, hpc, .inr ⟨k, h.trans hy⟩⟩

theorem close_whole {l : List Nd} (hT : TreeN l) {cols : List Int} (hc : ∀ c ∈ cols, 0 ≤ c ∧ c < l.length) : Whole l (closeF l cols) := by
  intro i n hn x hx
  obtain ⟨j, hj⟩ := List.getElem?_of_mem hx
  obtain ⟨u, q, _, _, hq, _, hp, _⟩ := (hT.nok i n hn).kids j x hj
  have h1 := (List.getElem?_eq_some_iff.1 hn).1
  have h2 := (List.getElem?_eq_some_iff.1 hq).1
  rw [closeF_get hT hc h1, closeF_get hT hc h2]
  refine ⟨fun h => h.up hq hp, fun h => ?_⟩
  by_cases k12 : n.t.kind = 12
  · exact .inr k12
  · exact .inl (h.down (by rw [kindC, hn]; exact k12) (.step hq hp .refl))

theorem close_root {l : List Nd} (hT : TreeN l) {cols : List Int} (hc : ∀ c ∈ cols, 0 ≤ c ∧ c < l.length) (hne : cols ≠ []) : (closeF l cols).getD 0 false = true := by
  obtain ⟨c, cs, rfl⟩ := List.exists_cons_of_ne_nil hne
  obtain ⟨c1, c2⟩ := hc c (by simp)
  rw [closeF_get hT hc (by omega)]
  have : ∀ (a : Nat), a < l.length → Anc l 0 a := by
    intro a
    induction a using Nat.strongRecOn with
    | _ a ih =>
      intro ha
      by_cases e : a = 0
      · subst e; exact .refl
      · obtain ⟨⟨q, _, _, e1, e2, _⟩⟩ := hT.par a _ (List.getElem?_eq_getElem ha) (by omega)
        exact .step (List.getElem?_eq_getElem ha) e1 (ih q e2 (by omega))
  exact ⟨c, by simp, .inr ⟨0, this _ (by omega), .inl rfl⟩⟩

end Go.Abs
