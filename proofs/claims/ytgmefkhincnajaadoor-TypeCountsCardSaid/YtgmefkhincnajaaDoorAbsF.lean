/-
  A program logic over abstract states, part F: operations that keep the state.
-/
import Derived.Test.YtgmefkhincnajaaDoorAbsE
namespace Go.Abs
open Go Go.RowKit

variable {P : Program} {K : Kr} {σ : AHeap} {w : World}

theorem sliceBound_ok (x : Int) (k : IntKind) (y : Nat) (code : BoundsCode) (h : 0 ≤ x ∧ x ≤ y) : (Instr.sliceBound (.int k x) y code).run P w = .ok x.toNat w := by
  unfold Instr.sliceBound
  simp [asIntOf, h]

theorem run_sliceBounds {lo hi mx : Bool} {l : List AVal} {vlo vhi vmx : Option Value} {isS : Bool} {len cap : Nat} {a b c : Int}
    (hlen : len ≤ cap) (hb : bnds len lo hi mx l = some (a, b, c)) (hlo : vlo.isSome = lo) (hhi : vhi.isSome = hi) (hmx : vmx.isSome = mx)
    (hv : VRel K l (vlo.toList ++ vhi.toList ++ vmx.toList)) (h : 0 ≤ a ∧ a ≤ b ∧ b ≤ c ∧ c ≤ len) :
    (Instr.sliceBounds isS len cap vlo vhi vmx).run P w = .ok (a.toNat, b.toNat, if mx then c.toNat else cap) w := by
  obtain ⟨h1, h2, h3, h4⟩ := h
  have e1 : ∀ {y : Nat} {code : BoundsCode} {k : IntKind} {x : Int}, 0 ≤ x → x ≤ (y : Int) → (Instr.sliceBound (.int k x) y code).run P w = .ok x.toNat w := fun p q => sliceBound_ok _ _ _ _ ⟨p, q⟩
  cases vlo <;> cases vhi <;> cases vmx <;> simp at hlo hhi hmx <;> subst hlo hhi hmx <;> simp only [bnds, reduceCtorEq] at hb
  · split at hb
    · simp only [Option.some.injEq, Prod.mk.injEq] at hb
      obtain ⟨rfl, rfl, rfl⟩ := hb
      simp [Instr.sliceBounds]
    · cases hb
  · split at hb
    · simp only [Option.some.injEq, Prod.mk.injEq] at hb
      obtain ⟨rfl, rfl, rfl⟩ := hb
      obtain ⟨v, e, h5⟩ := hv.one_inv
      simp at e; subst e
      rw [h5.int_inv]
      rename_i k1 x1
      have q := e1 (y := cap) (code := (if isS then BoundsCode.sliceAcap else BoundsCode.sliceAlen)) (k := k1) (x := x1) (by omega) (by omega)
      simp [Instr.sliceBounds, q]
    · cases hb
  · split at hb
    · simp only [Option.some.injEq, Prod.mk.injEq] at hb
      obtain ⟨rfl, rfl, rfl⟩ := hb
      obtain ⟨u, v, e, h5, h6⟩ := hv.two_inv
      simp at e; obtain ⟨rfl, rfl⟩ := e
      rw [h5.int_inv, h6.int_inv]
      rename_i k1 x1 k2 x2
      have q1 := e1 (y := cap) (code := (if isS then BoundsCode.slice3Acap else BoundsCode.slice3Alen)) (k := k2) (x := x2) (by omega) (by omega)
      have q2 := e1 (y := x2.toNat) (code := BoundsCode.slice3B) (k := k1) (x := x1) (by omega) (by omega)
      simp [Instr.sliceBounds, q1, q2]
    · cases hb
  · split at hb
    · simp only [Option.some.injEq, Prod.mk.injEq] at hb
      obtain ⟨rfl, rfl, rfl⟩ := hb
      obtain ⟨v, e, h5⟩ := hv.one_inv
      simp at e; subst e
      rw [h5.int_inv]
      rename_i k1 x1
      have q := e1 (y := len) (code := BoundsCode.sliceB) (k := k1) (x := x1) (by omega) (by omega)
      simp [Instr.sliceBounds, q]
    · cases hb
  · split at hb
    · simp only [Option.some.injEq, Prod.mk.injEq] at hb
      obtain ⟨rfl, rfl, rfl⟩ := hb
      obtain ⟨u, v, e, h5, h6⟩ := hv.two_inv
      simp at e; obtain ⟨rfl, rfl⟩ := e
      rw [h5.int_inv, h6.int_inv]
      rename_i k1 x1 k2 x2
      have q1 := e1 (y := cap) (code := (if isS then BoundsCode.sliceAcap else BoundsCode.sliceAlen)) (k := k2) (x := x2) (by omega) (by omega)
      have q2 := e1 (y := x2.toNat) (code := BoundsCode.sliceB) (k := k1) (x := x1) (by omega) (by omega)
      simp [Instr.sliceBounds, q1, q2]
    · cases hb
  · split at hb
    · simp only [Option.some.injEq, Prod.mk.injEq] at hb
      obtain ⟨rfl, rfl, rfl⟩ := hb
      obtain ⟨u, v, t, e, h5, h6, h7⟩ := hv.three_inv
      simp at e; obtain ⟨rfl, rfl, rfl⟩ := e
      rw [h5.int_inv, h6.int_inv, h7.int_inv]
      rename_i k1 x1 k2 x2 k3 x3
      have q1 := e1 (y := cap) (code := (if isS then BoundsCode.slice3Acap else BoundsCode.slice3Alen)) (k := k3) (x := x3) (by omega) (by omega)
      have q2 := e1 (y := x3.toNat) (code := BoundsCode.slice3B) (k := k2) (x := x2) (by omega) (by omega)
      have q3 := e1 (y := x2.toNat) (code := BoundsCode.slice3C) (k := k1) (x := x1) (by omega) (by omega)
      simp [Instr.sliceBounds, q1, q2, q3]
    · cases hb

/-- A slice of a slice that nobody writes. -/
theorem run_sub {sz : Nat} {lo hi mx : Bool} {x : AVal} {l : List AVal} {v : AVal} (h : asub sz lo hi mx (x :: l) = some v) {u : Value} (hx : VR K x u) {t e : TypeId} (ht : P.underlying t = some (.slice e))
    (hsz : sizeA P e = some sz) {vlo vhi vmx : Option Value} (hlo : vlo.isSome = lo) (hhi : vhi.isSome = hi) (hmx : vmx.isSome = mx)
    (hv : VRel K l (vlo.toList ++ vhi.toList ++ vmx.toList)) : ∃ r, (Instr.slice t u vlo vhi vmx).run P w = .ok r w ∧ VR K v r := by
  unfold VR at hx
  cases hx with
  | @slc0 s full a cap _ _ hf _ =>
    simp only [asub, Option.bind_eq_some_iff] at h
    obtain ⟨⟨p, q, c⟩, hb, h⟩ := h
    simp only at h
    split at h
    · rename_i hc
      simp only [Option.some.injEq] at h; subst h
      replace hc := hc.1
      have hr := run_sliceBounds (P := P) (w := w) (isS := true) (len := 0) (cap := cap) (Nat.zero_le _) (by simpa using hb) hlo hhi hmx hv (by simpa using hc)
      have hp : p = 0 := by simp at hc; omega
      have hq : q = 0 := by simp at hc; omega
      have hcc : c = 0 := by simp at hc; omega
      subst hp hq hcc
      refine ⟨_, by simp [Instr.slice, run_underlying ht, hr, run_sizeOf' hsz]; rfl, ?_⟩
      cases mx with
      | true => exact VRel.slc0 (fun _ => by simp) .nil
      | false =>
        cases full with
        | true => have := hf rfl; subst this; exact VRel.slc0 (fun _ => by simp) .nil
        | false => exact VRel.slc0 (by simp) .nil
    · cases h
  | @slc s xs full a n cap vs _ _ hn he hs hm hvv hc hf _ =>
    simp only [asub, Option.bind_eq_some_iff] at h
    obtain ⟨⟨p, q, c⟩, hb, h⟩ := h
    simp only at h
    split at h
    · rename_i hcnd
      simp only [Option.some.injEq] at h; subst h
      subst hn
      obtain ⟨hcnd, hsz'⟩ := hcnd
      have hr := run_sliceBounds (P := P) (w := w) (isS := true) (cap := cap) hc hb hlo hhi hmx hv hcnd
      obtain ⟨c1, c2, c3, c4⟩ := hcnd
      have hmm : ∃ m, m = (if mx then c.toNat else cap) ∧ q.toNat ≤ m ∧ (mx = true → m = c.toNat) ∧ (mx = false → m = cap) := by
        refine ⟨_, rfl, ?_, ?_, ?_⟩ <;> cases mx <;> simp <;> omega
      obtain ⟨m, hmm, hqm, hm1, hm2⟩ := hmm
      rw [← hmm] at hr
      refine ⟨_, by simp [Instr.slice, run_underlying ht, hr, run_sizeOf' hsz]; rfl, ?_⟩
      have hlen : ((xs.drop p.toNat).take (q - p).toNat).length = q.toNat - p.toNat := by simp; omega
      have hfull : (if mx = true then decide (q = c) else full && decide (q = (xs.length : Int))) = true → m - p.toNat = q.toNat - p.toNat := by
        cases mx with
        | true => simp; rw [hm1 rfl]; omega
        | false => simp; intro hfl hq; have := hf hfl; rw [hm2 rfl]; omega
      by_cases hemp : q.toNat - p.toNat = 0
      · have hnil : (xs.drop p.toNat).take (q - p).toNat = [] := List.eq_nil_of_length_eq_zero (by rw [hlen]; exact hemp)
        rw [hnil, hemp]
        exact VRel.slc0 (fun hfu => by have := hfull hfu; omega) .nil
      · have hmp : ¬ m = p.toNat := by omega
        have hsz2 : s = sz := by
          rcases hsz' with h | h
          · exact h
          · subst h; simp at hlen; omega
        subst hsz2
        rw [if_neg hmp, addr_add _ _ hs]
        refine VRel.slc hlen (fun y hy => he y (List.mem_of_mem_drop (List.mem_of_mem_take hy))) rfl (vs := (vs.drop (p.toNat * s)).take ((q - p).toNat * s)) ?_ ?_ (by omega) hfull .nil
        · intro j u hj
          rw [List.getElem?_take] at hj
          split at hj
          · rw [List.getElem?_drop] at hj
            have := hm _ _ hj
            simpa [Nat.add_assoc] using this
          · cases hj
        · have e := flat_take (xs := xs.drop p.toNat) (fun y hy => he y (List.mem_of_mem_drop hy)) (q - p).toNat
          rw [flat_drop he] at e
          unfold flat at e
          rw [e]
          exact (hvv.drop _).take _
    · cases h
  | @arr b off n cb s pcap cap _ _ hl ho hn _ =>
    simp only [asub, Option.bind_eq_some_iff] at h
    obtain ⟨⟨p, q, c⟩, hb, h⟩ := h
    simp only at h
    split at h
    · rename_i hcnd
      obtain ⟨hcnd, hs⟩ := hcnd
      have hr := run_sliceBounds (P := P) (w := w) (isS := true) (cap := cap) hn hb hlo hhi hmx hv hcnd
      obtain ⟨c1, c2, c3, c4⟩ := hcnd
      replace hsz : sizeA P e = some s := by rw [hsz, hs]
      clear hs
      have hmm : ∃ m, m = (if mx then c.toNat else cap) ∧ q.toNat ≤ m ∧ m ≤ cap := by
        refine ⟨_, rfl, ?_, ?_⟩ <;> cases mx <;> simp <;> omega
      obtain ⟨m, hmm, hqm, hmc⟩ := hmm
      rw [← hmm] at hr
      refine ⟨_, by simp [Instr.slice, run_underlying ht, hr, run_sizeOf' hsz]; rfl, ?_⟩
      split at h
      · rename_i hp
        subst hp
        simp only [Option.some.injEq] at h; subst h
        have hadd : (if m = (0 : Int).toNat then some (⟨cb, off * s, none⟩ : Addr) else some ((⟨cb, off * s, none⟩ : Addr).add ((0 : Int).toNat * s))) = some ⟨cb, off * s, none⟩ := by
          split
          · rfl
          · rw [addr_add _ _ rfl]; simp
        rw [hadd]
        have := VRel.arr (K := K) (off := off) (n := q.toNat) (cap := m) hl (by omega) hqm .nil
        simpa [VR] using this
      · split at h
        · simp only [Option.some.injEq] at h; subst h
          rw [if_neg (by omega), addr_add _ _ rfl]
          have e : (⟨cb, off * s + p.toNat * s, none⟩ : Addr) = ⟨cb, (off + p.toNat) * s, none⟩ := by rw [Nat.add_mul]
          simp only
          rw [e, show (q - p).toNat = q.toNat - p.toNat by omega]
          exact VRel.arr (K := K) hl (by omega) (by omega) .nil
        · simp only [Option.some.injEq] at h; subst h
          rw [show q.toNat - p.toNat = 0 by omega]
          exact VRel.slc0 (by simp) .nil
    · cases h
  | @arr0 b s pcap a _ _ hl _ =>
    simp only [asub, Option.bind_eq_some_iff] at h
    obtain ⟨⟨p, q, c⟩, hb, h⟩ := h
    simp only at h
    split at h
    · rename_i hc
      replace hc := hc.1
      have hr := run_sliceBounds (P := P) (w := w) (isS := true) (len := 0) (cap := 0) (Nat.zero_le _) (by simpa using hb) hlo hhi hmx hv (by simpa using hc)
      have hp : p = 0 := by simp at hc; omega
      have hq : q = 0 := by simp at hc; omega
      have hcc : c = 0 := by simp at hc; omega
      subst hp hq hcc
      simp at h; subst h
      refine ⟨_, by simp [Instr.slice, run_underlying ht, hr, run_sizeOf' hsz]; rfl, ?_⟩
      exact VRel.arr0 hl .nil
    · cases h
  | _ => simp [asub] at h

end Go.Abs
