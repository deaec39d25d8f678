/-
  A program logic over abstract states, part X: ends of pieces of code, rows of any elements that grow, answers of any form.
-/
import Derived.Test.YtgmefkhincnajaaDoorAbsU
namespace Go.Abs
open Go Go.RowKit

set_option linter.unusedVariables false
set_option linter.unusedSimpArgs false
variable {P : Program} {N : Nat} {l : List AOper} {F : AFrame} {σ : AHeap} {Q : AFrame → AHeap → Prop}

def ACode.fst : ACode → ACode
  | .seq a _ => a
  | c => c

theorem aw_end {ops : List AOper} {keep : List Nat} {c : ACode} {R R' : APost} {F : AFrame} {σ : AHeap} (hR : ∀ F σ, R .normal F σ = AWp P N c R' F σ) (h : aops P ops F σ fun F' σ' => KP keep F' fun G => AWp P N c R' G σ') : AWp P N (.region ops keep) R F σ :=
  awp_region (aops_mono (fun F σ h => by rw [hR]; exact kp_weaken h) h)
theorem aw_skipE {c : ACode} {R R' : APost} {F : AFrame} {σ : AHeap} (hR : ∀ F σ, R .normal F σ = AWp P N c R' F σ) (h : AWp P N c R' F σ) : AWp P N .skip R F σ := awp_skip (by rw [hR]; exact h)
theorem aw_exitE {c : ACode} {id : Nat} {R R' : APost} {F : AFrame} {σ : AHeap} (hR : ∀ F σ, R (.exit id) F σ = AWp P N c R' F σ) (h : AWp P N c R' F σ) : AWp P N (.exit id) R F σ := awp_exit (by rw [hR]; exact h)
/-- The end of a round. -/
theorem aw_round {ops : List AOper} {keep : List Nat} {I : Nat → AFrame → AHeap → Prop} {n : Nat} {Q : APost} {F : AFrame} {σ : AHeap} (h : aops P ops F σ fun F' σ' => KP keep F' fun G => ∃ τ m, HSub τ σ' ∧ I m G τ ∧ m < n) : AWp P N (.region ops keep) (ALess I n Q) F σ :=
  awp_region (aops_mono (fun _ _ h => kp_less h) h)

/-- A parameter that is put into a variable which nobody writes. -/
theorem kp_freezeP {keep : List Nat} {a : ACode} {R : APost} {F : AFrame} {b sz d : Nat} {cs : List AVal} {τ : AHeap} (hF : F d = some (.ptr b 0 0)) (h : KP keep (fset d (some (.iptr cs)) F) fun G => AWp P N a R G τ) : KP keep F fun G => AWp P N a R G ((b, .cells sz [.agg cs]) :: τ) := by
  refine ⟨F, FSub.refl F, awp_freezeP hF ?_⟩
  exact kp_weaken h

/-! ### Rows of any elements that grow -/

def GrowG (sz : Nat) (v : AVal) (xs : List AVal) (β : AHeap) : Prop := ((∃ z, v = .slc z [] true) ∧ xs = [] ∧ β = []) ∨ ∃ b, v = .arr sz b 0 xs.length ∧ β = [(b, .cells sz xs)]

theorem GrowG.nil (sz z : Nat) : GrowG sz (.slc z [] true) [] [] := .inl ⟨⟨z, rfl⟩, rfl, rfl⟩
theorem GrowG.mk {sz b : Nat} {xs : List AVal} : GrowG sz (.arr sz b 0 xs.length) xs [(b, .cells sz xs)] := .inr ⟨b, rfl, rfl⟩
theorem GrowG.ex (sz : Nat) (xs : List AVal) : ∃ v β, GrowG sz v xs β := ⟨_, _, .inr ⟨0, rfl, rfl⟩⟩
theorem GrowG.lens {sz : Nat} {v : AVal} {xs : List AVal} {β : AHeap} (h : GrowG sz v xs β) : alens [v] = some (.int .i64 xs.length) := by
  rcases h with ⟨⟨z, rfl⟩, rfl, rfl⟩ | ⟨b, rfl, rfl⟩ <;> rfl
theorem GrowG.elems {sz : Nat} {v : AVal} {xs : List AVal} {β τ : AHeap} (h : GrowG sz v xs β) : elemsOf (β ++ τ) sz v = some xs := by
  rcases h with ⟨⟨z, rfl⟩, rfl, rfl⟩ | ⟨b, rfl, rfl⟩
  · simp [elemsOf]
  · simp [elemsOf, hget]
theorem GrowG.arr {sz : Nat} {v : AVal} {xs : List AVal} {β : AHeap} (h : GrowG sz v xs β) (hx : xs ≠ []) : ∃ b, v = .arr sz b 0 xs.length ∧ β = [(b, .cells sz xs)] := by
  rcases h with ⟨_, h, _⟩ | h
  · exact absurd h hx
  · exact h

theorem st_appG {d sz byt : Nat} {args : List AOpd} {v x : AVal} {xs ys : List AVal} {β τ : AHeap} (ho : GrowG sz v xs β) (h1 : evs F args = some [v, x]) (hy : elemsOf (β ++ τ) sz x = some ys) (hb : (xs.length + ys.length) * byt ≤ 140737488355328)
    (h : ∀ b', b' ∉ keys (β ++ τ) → aops P l (fset d (some (.arr sz b' 0 (xs ++ ys).length)) F) ((b', .cells sz (xs ++ ys)) :: τ) Q) : aops P (⟨some d, .app sz byt, args, none⟩ :: l) F (β ++ τ) Q := by
  rcases ho with ⟨⟨z, rfl⟩, rfl, rfl⟩ | ⟨b, rfl, rfl⟩
  · refine st_app0 h1 hy (by simpa using hb) fun b' hb' => ?_
    have := h b' hb'
    simpa using this
  · refine st_app h1 (xs := xs) (ys := ys) (sz := sz) (by simp) rfl hy hb fun b' hb' => ?_
    have := h b' hb'
    simpa [hren] using this

/-- Such a row, nobody writing it any more. -/
theorem VShiftL.growG {sz : Nat} {v : AVal} {xs : List AVal} {β τ : AHeap} (h : GrowG sz v xs β) : VShiftL [v] (β ++ τ) [.slc sz xs false] τ := by
  rcases h with ⟨⟨z, rfl⟩, rfl, rfl⟩ | ⟨b, rfl, rfl⟩
  · refine VShiftL.le (fun K vs hv => ?_) (HSub.refl _)
    cases hv with
    | slc0 hf r => exact .slc0 (by simp) r
    | slc hn he hs hm hv hc hf r =>
      simp only [List.length_nil] at hn
      subst hn
      exact .slc0 (by simp) r
  · exact VShiftL.freeze rfl

/-- A view of some slots. -/
theorem awp_shift {a : ACode} {R : APost} {F : AFrame} {σ τ : AHeap} {d : Nat} {v v' : AVal} (hF : F d = some v) (hs : VShiftL [v] σ [v'] τ) (h : AWp P N a R (fset d (some v') F) τ) : AWp P N a R F σ := by
  refine awp_vs (fun K w tmps hr hfr => ?_) h
  have h1 := hfr.at_ d _ hF
  obtain ⟨K', k1, k2, k3⟩ := hs K w [_] hr h1
  refine ⟨K', k1, k2, hfr.size, fun i x e => ?_⟩
  simp only [fset] at e
  split at e
  · rename_i hi
    subst hi
    simp only [Option.some.injEq] at e
    subst e
    exact k3
  · exact (hfr.at_ i x e).mono k1

/-- An answer, seen otherwise. -/
theorem ares_s {res : List ARes} {R : AVal → AHeap → Prop} {F : AFrame} {σ : AHeap} {vs : List AVal} (h : resVals F σ res = some vs) {r : AVal} {τ : AHeap} (hv : VShift (tupOf vs) σ r τ) (hR : R r τ) : ARet res R .ret F σ :=
  ⟨vs, h, r, τ, hv, hR⟩

/-- A slice's spare room forgotten. -/
theorem VRle.full {sz : Nat} {xs : List AVal} {f : Bool} : VRle [.slc sz xs f] [.slc sz xs false] := fun K vs hv => by
  cases hv with
  | slc0 hf r => exact .slc0 (by simp) r
  | slc hn he hs hm hv hc hf r => exact .slc hn he hs hm hv hc (by simp) r
theorem VRle.cells {sz : Nat} {xs ys : List AVal} {f : Bool} (hl : ys.length = xs.length) (he : ∀ y ∈ ys, y.elem sz) (h : VRle (flat xs) (flat ys)) : VRle [.slc sz xs f] [.slc sz ys f] := fun K vs hv => by
  cases hv with
  | slc0 hf r =>
    have : ys = [] := List.length_eq_zero_iff.1 (by simpa using hl)
    subst this
    exact .slc0 hf r
  | slc hn he' hs hm hv hc hf r => exact .slc (hl.trans hn) he hs hm (h K _ hv) hc hf r
theorem VRle.agg {cs ds : List AVal} (h1 : ∀ c ∈ ds, c.one = true) (h : VRle cs ds) : VRle [.agg cs] [.agg ds] := fun K vs hv => by
  cases hv with
  | agg _ hv r => exact .agg h1 (h K _ hv) r
theorem VRle.app {a a' b b' : List AVal} (h1 : VRle a a') (h2 : VRle b b') : VRle (a ++ b) (a' ++ b') := fun K vs hv => by
  obtain ⟨m1, m2, rfl, g1, g2⟩ := hv.split
  exact (h1 K _ g1).append (h2 K _ g2)
theorem VRle.trans {a b c : List AVal} (h1 : VRle a b) (h2 : VRle b c) : VRle a c := fun K vs hv => h2 K _ (h1 K _ hv)

theorem pureC_of {f : FuncId} {vs : List AVal} {v : AVal} (h : ∀ σ, ACalls P f vs σ fun r σ' => r = v ∧ σ' = σ) : pureC P f vs v := h
/-- A pure call. -/
theorem st_callp {d : Nat} {f : FuncId} {args : List AOpd} {vs : List AVal} {v : AVal} (h1 : evs F args = some vs) (hc : ∀ σ, ACalls P f vs σ fun r σ' => r = v ∧ σ' = σ) (h : aops P l (fset d (some v) F) σ Q) : aops P (⟨some d, .callp f, args, none⟩ :: l) F σ Q :=
  ⟨_, h1, v, hc, h⟩
theorem pureC.le {f : FuncId} {vs : List AVal} {v v' : AVal} {σ : AHeap} (h : ACalls P f vs σ fun r σ' => r = v ∧ σ' = σ) (hv : VRle [v] [v']) : ACalls P f vs σ fun r σ' => r = v' ∧ σ' = σ :=
  acalls_shift h fun r σ' ⟨e1, e2⟩ => ⟨v', σ, by rw [e1, e2]; exact VShift.of_le hv (HSub.refl _), rfl, rfl⟩

/-! ### A row that lies in a row, for good -/

theorem Rel.content {K : Kr} {w : World} {b sz : Nat} {xs ys : List AVal} {σ : AHeap} (r : Rel K ((b, .cells sz xs) :: σ) w) (hl : ys.length = xs.length) (he : ∀ y ∈ ys, y.elem sz) (hv : ∀ vs, VRel K (flat xs) vs → VRel K (flat ys) vs) : Rel K ((b, .cells sz ys) :: σ) w := by
  have hk : keys ((b, ABlk.cells sz ys) :: σ) = keys ((b, ABlk.cells sz xs) :: σ) := rfl
  refine ⟨r.ext, r.oth, r.imm, by rw [hk]; exact r.nd, r.bnd, r.lit, fun c blk hc => ?_, ?_⟩
  · rcases List.mem_cons.1 hc with e | hc
    · cases e
      have ho := r.own b (.cells sz xs) (by simp)
      refine ⟨he, ?_⟩
      rcases ho.2 with ⟨p, h1, h2⟩ | ⟨cb, p, cs, ty, h1, h2, h3, h4, h5, h6, h7, h8⟩
      · exact .inl ⟨p, h1, List.length_eq_zero_iff.1 (by rw [hl, h2]; rfl)⟩
      · exact .inr ⟨cb, p, cs, ty, h1, h2, h3, h4, h5, by omega, h7, by rw [hl]; exact hv _ h8⟩
    · exact r.own c blk (List.mem_cons_of_mem _ hc)
  · intro b1 z1 b2 z2 cb s1 c1 s2 c2 m1 m2 l1 l2
    have key : ∀ {c z}, (c, z) ∈ (b, ABlk.cells sz ys) :: σ → ∃ z', (c, z') ∈ (b, ABlk.cells sz xs) :: σ := by
      intro c z h
      rcases List.mem_cons.1 h with e | h
      · cases e; exact ⟨.cells sz xs, by simp⟩
      · exact ⟨z, List.mem_cons_of_mem _ h⟩
    obtain ⟨y1, n1⟩ := key m1
    obtain ⟨y2, n2⟩ := key m2
    exact r.inj _ _ _ _ _ _ _ _ _ n1 n2 l1 l2

def HShift (σ τ : AHeap) : Prop := ∀ K w, Rel K σ w → ∃ K', K.le K' ∧ Rel K' τ w
theorem awp_hshift {a : ACode} {R : APost} {F : AFrame} {σ τ : AHeap} (hs : HShift σ τ) (h : AWp P N a R F τ) : AWp P N a R F σ := by
  refine awp_vs (fun K w tmps hr hfr => ?_) h
  obtain ⟨K', k1, k2⟩ := hs K w hr
  exact ⟨K', k1, k2, hfr.mono k1⟩
theorem HShift.sub {σ τ : AHeap} (h : HSub τ σ) : HShift σ τ := fun K w r => ⟨K, Kr.le.refl K, h K w r⟩
theorem HShift.trans {a b c : AHeap} (h : HShift a b) (h' : HShift b c) : HShift a c := fun K w r => by
  obtain ⟨K1, k1, k2⟩ := h K w r
  obtain ⟨K2, k3, k4⟩ := h' K1 w k2
  exact ⟨K2, k1.trans k3, k4⟩

/-- The row 'bk', held by a cell of the row 'b'. -/
theorem HShift.inner {b sz bk s : Nat} {xs ys ks : List AVal} {σ : AHeap} (hl : ys.length = xs.length) (he : ∀ y ∈ ys, y.elem sz)
    (hv : ∀ K : Kr, (∀ v, VR K (.arr s bk 0 ks.length) v → VR K (.slc s ks false) v) → ∀ vs, VRel K (flat xs) vs → VRel K (flat ys) vs) : HShift ((b, .cells sz xs) :: (bk, .cells s ks) :: σ) ((b, .cells sz ys) :: σ) := by
  intro K w r
  have hmem : (bk, ABlk.cells s ks) ∈ (b, ABlk.cells sz xs) :: (bk, ABlk.cells s ks) :: σ := by simp
  have hown := r.own bk _ hmem
  have hne : b ≠ bk := by
    have := r.nd
    simp only [keys_cons, List.nodup_cons, List.mem_cons, not_or] at this
    exact this.1.1
  rcases hown.2 with ⟨p, h1, h2⟩ | ⟨cb, p, cs, ty, h1, h2, h3, h4, h5, h6, h7, h8⟩
  · subst h2
    refine ⟨K, Kr.le.refl K, Rel.content (xs := xs) (HSub.of_sublist (List.Sublist.cons_cons _ (List.sublist_cons_self _ _)) K w r) hl he (hv K fun v hv => ?_)⟩
    unfold VR at hv ⊢
    cases hv with
    | arr hl ho hn r => exact .slc0 (by simp) r
    | arr0 hl r => exact .slc0 (by simp) r
  · obtain ⟨vs0, g1, g2, g3⟩ := r.freeze hmem h1
    rw [hdel_tail hne hdel_head] at g3
    refine ⟨_, g2, Rel.content g3 hl he (hv _ fun v hv => ?_)⟩
    unfold VR at hv ⊢
    generalize hn : ks.length = n at hv
    cases hv with
    | @arr _ _ _ cb' _ pcap cap _ _ hl' ho hc r =>
      have hl'' : K.loc bk = some ⟨some cb', s, pcap⟩ := hl'
      rw [h1] at hl''
      simp only [Option.some.injEq, Loc.mk.injEq, true_and] at hl''
      obtain ⟨rfl, rfl⟩ := hl''
      refine VRel.slc (vs := vs0) hn hown.1 rfl ?_ (VRel.mono g2 g1) hc (by simp) r
      intro j v hj
      simp only [Kr.addImm, Nat.zero_mul, Nat.zero_add, if_true]
      exact hj
    | arr0 hl' r =>
      have hl'' : K.loc bk = some ⟨none, s, _⟩ := hl'
      rw [h1] at hl''
      simp at hl''

end Go.Abs
