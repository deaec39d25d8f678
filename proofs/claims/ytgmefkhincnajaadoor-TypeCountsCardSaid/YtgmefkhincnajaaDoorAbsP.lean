/-
  A program logic over abstract states, part P: code, and calls of functions.
-/
import Derived.Test.YtgmefkhincnajaaDoorAbsO
import Derived.RangeFuncRecord
namespace Go.Abs
open Go Go.RowKit

set_option linter.unusedVariables false
set_option linter.unusedSimpArgs false
variable {P : Program} {N : Nat}

inductive AExit where
  | normal
  | exit (id : Nat)
  | ret

abbrev APost := AExit → AFrame → AHeap → Prop

def CQ (K0 : Kr) (N : Nat) (Q : APost) : Exit → Act → World → Prop
  | .normal, a, w => St K0 N (Q .normal) a w
  | .exit id, a, w => St K0 N (Q (.exit id)) a w
  | .ret, a, w => St K0 N (Q .ret) a w
  | _, _, _ => False

/-- Does it hold a range over a function? -/
def ACode.ranges : ACode → Bool
  | .seq a b | .cond _ a b => a.ranges || b.ranges
  | .block _ a | .loop a => a.ranges
  | .range _ _ _ _ => true
  | _ => false

/-- Whatever code has this small form: from the state it comes to the post. -/
def AWp (P : Program) (N : Nat) (a : ACode) (Q : APost) (F : AFrame) (σ : AHeap) : Prop :=
  P.follows .mixedOrders = true → ∀ hs c, comp P N hs c = some a.erase → ∀ (rd : Option Nat), (rd = none ∨ a.ranges = false) → ∀ (K0 K : Kr) (act : Act) (w : World), K0.le K → Rel K σ w → FRel K N F act.tmps → Marked K0 K act.defers → c.wpIn (fen rd) 0 P (CQ K0 N Q) act w

theorem CQ.mono {K0 : Kr} {Q Q' : APost} (h : ∀ e F σ, Q e F σ → Q' e F σ) : ∀ e a w, CQ K0 N Q e a w → CQ K0 N Q' e a w
  | .normal, _, _, h' => St.mono h' (h _)
  | .exit _, _, _, h' => St.mono h' (h _)
  | .ret, _, _, h' => St.mono h' (h _)
  | .goto _, _, _, h' => h'.elim
  | .panic _, _, _, h' => h'.elim
  | .outgrown, _, _, h' => h'.elim

theorem awp_conseq {a : ACode} {Q Q' : APost} {F : AFrame} {σ : AHeap} (h : AWp P N a Q F σ) (hQ : ∀ e F σ, Q e F σ → Q' e F σ) : AWp P N a Q' F σ :=
  fun hm hs c hc rd hrd K0 K act w h1 h2 h3 h4 => wpIn_mono (h hm hs c hc rd hrd K0 K act w h1 h2 h3 h4) (CQ.mono hQ)

/-- The same state, seen otherwise. -/
theorem awp_vs {a : ACode} {Q : APost} {F G : AFrame} {σ τ : AHeap} (hv : ∀ K w tmps, Rel K σ w → FRel K N F tmps → ∃ K', K.le K' ∧ Rel K' τ w ∧ FRel K' N G tmps) (h : AWp P N a Q G τ) : AWp P N a Q F σ :=
  fun hm hs c hc rd hrd K0 K act w h1 h2 h3 h4 => by
    obtain ⟨K', h5, h6, h7⟩ := hv K w act.tmps h2 h3
    exact h hm hs c hc rd hrd K0 K' act w (h1.trans h5) h6 h7 (h4.mono h5)

theorem awp_nd {a : ACode} {Q : APost} {F : AFrame} {σ : AHeap} (h : (keys σ).Nodup → AWp P N a Q F σ) : AWp P N a Q F σ :=
  fun hm hs c hc rd hrd K0 K act w h1 h2 h3 h4 => h h2.nd hm hs c hc rd hrd K0 K act w h1 h2 h3 h4

def FSub (G F : AFrame) : Prop := ∀ i x, G i = some x → F i = some x
def HSub (τ σ : AHeap) : Prop := ∀ K w, Rel K σ w → Rel K τ w

theorem HSub.refl (σ : AHeap) : HSub σ σ := fun _ _ h => h
theorem HSub.trans {a b c : AHeap} (h : HSub a b) (h' : HSub b c) : HSub a c := fun K w r => h K w (h' K w r)
theorem HSub.of_sublist {τ σ : AHeap} (h : τ.Sublist σ) : HSub τ σ := fun K w r => r.sub ((h.map Prod.fst).nodup r.nd) (fun p hp => h.subset hp)
theorem HSub.of_perm {τ σ : AHeap} (h : τ.Perm σ) : HSub τ σ := fun K w r => r.sub ((h.map Prod.fst).nodup_iff.2 r.nd) (fun p hp => h.subset hp)
theorem HSub.tail (p : Nat × ABlk) (σ : AHeap) : HSub σ (p :: σ) := .of_sublist (List.sublist_cons_self _ _)
theorem HSub.drop {τ σ : AHeap} (h : HSub τ σ) (p : Nat × ABlk) : HSub τ (p :: σ) := h.trans (HSub.tail p σ)
theorem HSub.keep {τ σ : AHeap} (h : τ.Sublist σ) (p : Nat × ABlk) : HSub (p :: τ) (p :: σ) := .of_sublist (h.cons_cons p)
theorem HSub.swap (p q : Nat × ABlk) (σ : AHeap) : HSub (p :: q :: σ) (q :: p :: σ) := .of_perm (List.Perm.swap _ _ _)

theorem FSub.refl (F : AFrame) : FSub F F := fun _ _ h => h
theorem FRel.sub {K : Kr} {F G : AFrame} {t : Array Value} (h : FRel K N F t) (hs : FSub G F) : FRel K N G t := ⟨h.size, fun i x e => h.at_ i x (hs i x e)⟩
theorem FSub.none (F : AFrame) : FSub fnone F := fun i x h => by cases h
theorem FSub.set {F G : AFrame} {d : Nat} {v : Option AVal} (h : FSub G F) (hd : ∀ x, v = some x → F d = some x) : FSub (fset d v G) F := by
  intro i x e
  simp only [fset] at e
  split at e
  · rename_i hi; subst hi; exact hd x e
  · exact h i x e
theorem FSub.keep (F : AFrame) : ∀ l : List Nat, FSub (fkeep l F) F
  | [] => FSub.none F
  | i :: l => FSub.set (FSub.keep F l) (fun x e => e)

theorem awp_weaken {a : ACode} {Q : APost} {F G : AFrame} {σ τ : AHeap} (hF : FSub G F) (hσ : HSub τ σ) (h : AWp P N a Q G τ) : AWp P N a Q F σ :=
  awp_vs (fun K w tmps h1 h2 => ⟨K, Kr.le.refl K, hσ K w h1, h2.sub hF⟩) h

theorem awp_skip {Q : APost} {F : AFrame} {σ : AHeap} (h : Q .normal F σ) : AWp P N .skip Q F σ := by
  intro hm hs c hc rd hrd K0 K act w h1 h2 h3 h4
  cases c <;> simp only [comp, ACode.erase, Option.bind_eq_bind, Option.bind_eq_some_iff, Option.pure_def, Option.some.injEq, reduceCtorEq, and_false, exists_false] at hc
  · exact Go.wpIn_skip ⟨K, F, σ, h1, h2, h3, h4, h⟩
  · obtain ⟨l, _, hc⟩ := hc
    split at hc <;> simp at hc

theorem awp_exit {id : Nat} {Q : APost} {F : AFrame} {σ : AHeap} (h : Q (.exit id) F σ) : AWp P N (.exit id) Q F σ := by
  intro hm hs c hc rd hrd K0 K act w h1 h2 h3 h4
  cases c <;> simp only [comp, ACode.erase, Option.bind_eq_bind, Option.bind_eq_some_iff, Option.pure_def, Option.some.injEq, reduceCtorEq, and_false, exists_false, ACode.exit.injEq] at hc
  · obtain ⟨l, _, hc⟩ := hc
    split at hc <;> simp at hc
  · subst hc
    exact Go.wpIn_exit ⟨K, F, σ, h1, h2, h3, h4, h⟩

theorem awp_ret {Q : APost} {F : AFrame} {σ : AHeap} (h : Q .ret F σ) : AWp P N .ret Q F σ := by
  intro hm hs c hc rd hrd K0 K act w h1 h2 h3 h4
  cases c <;> simp only [comp, ACode.erase, Option.bind_eq_bind, Option.bind_eq_some_iff, Option.pure_def, Option.some.injEq, reduceCtorEq, and_false, exists_false] at hc
  · obtain ⟨l, _, hc⟩ := hc
    split at hc <;> simp at hc
  · exact Go.wpIn_ret ⟨K, F, σ, h1, h2, h3, h4, h⟩

theorem awp_region {ops : List AOper} {keep : List Nat} {Q : APost} {F : AFrame} {σ : AHeap} (h : aops P ops F σ fun F' σ' => Q .normal F' σ') : AWp P N (.region ops keep) Q F σ := by
  intro hm hs c hc rd hrd K0 K act w h1 h2 h3 h4
  have hst : St K0 N (fun F σ => aops P ops F σ fun F' σ' => Q .normal F' σ') act w := ⟨K, F, σ, h1, h2, h3, h4, h⟩
  have hQ : ∀ a w, St K0 N (fun F' σ' => Q .normal F' σ') a w → CQ K0 N Q .normal a w := fun a w h => h
  cases c <;> simp only [comp, ACode.erase, Option.bind_eq_bind, Option.bind_eq_some_iff, Option.pure_def, Option.some.injEq, reduceCtorEq, and_false, exists_false] at hc
  rename_i id ops' draw
  obtain ⟨l, hl, hc⟩ := hc
  split at hc
  · simp at hc
  · rename_i hd
    simp only [Option.some.injEq, ACode.region.injEq, and_true] at hc
    subst hc
    cases draw with
    | false => exact region_sound hl hQ hst
    | true => exact region_draw_sound hm hl (by simpa using hd) hQ hst

def AThen (P : Program) (N : Nat) (b : ACode) (Q : APost) : APost
  | .normal, F, σ => AWp P N b Q F σ
  | e, F, σ => Q e F σ

theorem awp_seq {a b : ACode} {Q : APost} {F : AFrame} {σ : AHeap} (h : AWp P N a (AThen P N b Q) F σ) : AWp P N (.seq a b) Q F σ := by
  intro hm hs c hc rd hrd K0 K act w h1 h2 h3 h4
  cases c <;> simp only [comp, ACode.erase, Option.bind_eq_bind, Option.bind_eq_some_iff, Option.pure_def, Option.some.injEq, reduceCtorEq, and_false, exists_false, ACode.seq.injEq] at hc
  · obtain ⟨l, _, hc⟩ := hc
    split at hc <;> simp at hc
  · obtain ⟨x, hx, y, hy, rfl, rfl⟩ := hc
    refine Go.wpIn_seq (wpIn_mono (h hm hs _ hx rd (hrd.imp id fun e => by simp only [ACode.ranges, Bool.or_eq_false_iff] at e; exact e.1) K0 K act w h1 h2 h3 h4) ?_)
    intro e a' w' hq
    cases e with
    | normal =>
      obtain ⟨K', F', σ', g1, g2, g3, g4, g5⟩ := hq
      exact g5 hm hs _ hy rd (hrd.imp id fun e => by simp only [ACode.ranges, Bool.or_eq_false_iff] at e; exact e.2) K0 K' a' w' g1 g2 g3 g4
    | exit id => exact hq
    | ret => exact hq
    | goto l => exact hq.elim
    | panic l => exact hq.elim
    | outgrown => exact hq.elim

theorem awp_cond {x : AOpd} {a b : ACode} {Q : APost} {F : AFrame} {σ : AHeap} {t : Bool} (hx : ev F x = some (.bool t)) (h1 : t = true → AWp P N a Q F σ) (h2 : t = false → AWp P N b Q F σ) : AWp P N (.cond x a b) Q F σ := by
  intro hm hs c hc rd hrd K0 K act w g1 g2 g3 g4
  cases c <;> simp only [comp, ACode.erase, Option.bind_eq_bind, Option.bind_eq_some_iff, Option.pure_def, Option.some.injEq, reduceCtorEq, and_false, exists_false, ACode.cond.injEq] at hc
  · obtain ⟨l, _, hc⟩ := hc
    split at hc <;> simp at hc
  · obtain ⟨o, ho, y, hy, z, hz, rfl, rfl, rfl⟩ := hc
    have he := (opd_sound g3 ho hx).bool_inv
    refine Go.wpIn_cond he ?_
    cases t with
    | true => exact h1 rfl hm hs _ hy rd (hrd.imp id fun e => by simp only [ACode.ranges, Bool.or_eq_false_iff] at e; exact e.1) K0 K act w g1 g2 g3 g4
    | false => exact h2 rfl hm hs _ hz rd (hrd.imp id fun e => by simp only [ACode.ranges, Bool.or_eq_false_iff] at e; exact e.2) K0 K act w g1 g2 g3 g4

def AInBlock (id : Nat) (Q : APost) : APost
  | .exit id', F, σ => if id' = id then Q .normal F σ else Q (.exit id') F σ
  | e, F, σ => Q e F σ

theorem awp_block {id : Nat} {a : ACode} {Q : APost} {F : AFrame} {σ : AHeap} (h : AWp P N a (AInBlock id Q) F σ) : AWp P N (.block id a) Q F σ := by
  intro hm hs c hc rd hrd K0 K act w h1 h2 h3 h4
  cases c <;> simp only [comp, ACode.erase, Option.bind_eq_bind, Option.bind_eq_some_iff, Option.pure_def, Option.some.injEq, reduceCtorEq, and_false, exists_false, ACode.block.injEq] at hc
  · obtain ⟨l, _, hc⟩ := hc
    split at hc <;> simp at hc
  · obtain ⟨x, hx, rfl, rfl⟩ := hc
    refine Go.wpIn_block (wpIn_mono (h hm hs _ hx rd hrd K0 K act w h1 h2 h3 h4) ?_)
    intro e a' w' hq
    cases e with
    | normal => exact hq
    | exit id' =>
      simp only [CQ] at hq
      simp only [Exit.inBlock]
      split
      · rename_i e
        refine St.mono hq fun F σ h => ?_
        simpa [AInBlock, e] using h
      · rename_i e
        refine St.mono hq fun F σ h => ?_
        simpa [AInBlock, e] using h
    | ret => exact hq
    | goto l => exact hq.elim
    | panic l => exact hq.elim
    | outgrown => exact hq.elim

/-- What a round comes to: the relation again, lower; what it does not need may be forgotten. -/
def ARound (I : AFrame → AHeap → Prop) (μ : AFrame → AHeap → Nat) (n : Nat) (Q : APost) : APost
  | .normal, F, σ => ∃ G τ, FSub G F ∧ HSub τ σ ∧ I G τ ∧ μ G τ < n
  | e, F, σ => Q e F σ

theorem awp_loop {a : ACode} {Q : APost} {F : AFrame} {σ : AHeap} (I : AFrame → AHeap → Prop) (μ : AFrame → AHeap → Nat) (h0 : I F σ) (round : ∀ F σ, I F σ → AWp P N a (ARound I μ (μ F σ) Q) F σ) : AWp P N (.loop a) Q F σ := by
  intro hm hs c hc rd hrd K0 K act w h1 h2 h3 h4
  cases c <;> simp only [comp, ACode.erase, Option.bind_eq_bind, Option.bind_eq_some_iff, Option.pure_def, Option.some.injEq, reduceCtorEq, and_false, exists_false, ACode.loop.injEq] at hc
  · obtain ⟨l, _, hc⟩ := hc
    split at hc <;> simp at hc
  · rename_i c
    obtain ⟨x, hx, rfl⟩ := hc
    intro b k cs hro hb hr
    have key : ∀ (n : Nat) (K : Kr) (F : AFrame) (σ : AHeap) (a' : Act) (w : World), μ F σ = n → K0.le K → Rel K σ w → FRel K N F a'.tmps → Marked K0 K a'.defers → I F σ →
        ∃ e a'' w', CQ K0 N Q e a'' w' ∧ ArrivesIn (Machine.fenced P (fen rd)) P (lone (b.atR a' (.code c :: .inLoop c :: k)) cs w) b k cs e a'' w' := by
      intro n
      induction n using Nat.strongRecOn with
      | _ n ih =>
        intro K F σ a' w hn g1 g2 g3 g4 hI
        obtain ⟨e, a₁, w₁, hq, harr⟩ := round F σ hI hm hs _ hx rd hrd K0 K a' w g1 g2 g3 g4 b (.inLoop c :: k) cs hro hb hr
        cases e with
        | normal =>
          obtain ⟨K1, F1, σ1, q1, q2, q3, q4, G, τ, q5, q6, q7, q8⟩ := hq
          obtain ⟨e₂, a₂, w₂, hq₂, harr₂⟩ := ih (μ G τ) (by omega) K1 G τ a₁ w₁ rfl q1 (q6 K1 w₁ q2) (q3.sub q5) q4 q7
          exact ⟨e₂, a₂, w₂, hq₂, .of_steps (StepsIn.trans harr (.one (fenced_calm hb hr rfl) stepR_inLoop)) harr₂⟩
        | exit id => exact ⟨.exit id, a₁, w₁, hq, .pass (x := .inLoop c) rfl (fun _ _ => .inl (by simp)) harr⟩
        | ret => exact ⟨.ret, a₁, w₁, hq, .pass (x := .inLoop c) rfl (fun _ _ => .inl (by simp)) harr⟩
        | goto l => exact hq.elim
        | panic ch => exact hq.elim
        | outgrown => exact hq.elim
    obtain ⟨e, a', w', hq, harr⟩ := key _ K F σ act w rfl h1 h2 h3 h4 h0
    exact ⟨e, a', w', hq, .of_steps (.one (fenced_calm hb hr rfl) stepR_loop) harr⟩

/-! ### A function -/

def resVal (F : AFrame) (σ : AHeap) : ARes → Option AVal
  | .t i => F i
  | .cell i ag sz => match F i with
    | some p => aload σ ag sz [p]
    | none => none
def resVals (F : AFrame) (σ : AHeap) : List ARes → Option (List AVal)
  | [] => some []
  | r :: l => match resVal F σ r, resVals F σ l with
    | some v, some vs => some (v :: vs)
    | _, _ => none

def tupOf : List AVal → AVal
  | [v] => v
  | vs => .tup vs

/-- The same value and state, seen otherwise. -/
def VShift (r : AVal) (σ : AHeap) (r' : AVal) (τ : AHeap) : Prop := ∀ K w v, Rel K σ w → VR K r v → ∃ K', K.le K' ∧ Rel K' τ w ∧ VR K' r' v

theorem VShift.refl (r : AVal) (σ : AHeap) : VShift r σ r σ := fun K w v h1 h2 => ⟨K, Kr.le.refl K, h1, h2⟩
theorem VShift.of_sub {r : AVal} {σ τ : AHeap} (h : HSub τ σ) : VShift r σ r τ := fun K w v h1 h2 => ⟨K, Kr.le.refl K, h K w h1, h2⟩
theorem VShift.trans {r r' r'' : AVal} {σ σ' σ'' : AHeap} (h : VShift r σ r' σ') (h' : VShift r' σ' r'' σ'') : VShift r σ r'' σ'' := fun K w v h1 h2 => by
  obtain ⟨K1, a, b, c⟩ := h K w v h1 h2
  obtain ⟨K2, a', b', c'⟩ := h' K1 w v b c
  exact ⟨K2, a.trans a', b', c'⟩

def ARet (res : List ARes) (R : AVal → AHeap → Prop) : APost
  | .normal, F, σ => ∃ vs, resVals F σ res = some vs ∧ ∃ r τ, VShift (tupOf vs) σ r τ ∧ R r τ
  | .ret, F, σ => ∃ vs, resVals F σ res = some vs ∧ ∃ r τ, VShift (tupOf vs) σ r τ ∧ R r τ
  | .exit _, _, _ => False

theorem ares {res : List ARes} {R : AVal → AHeap → Prop} {F : AFrame} {σ : AHeap} {vs : List AVal} (h : resVals F σ res = some vs) {τ : AHeap} (hs : HSub τ σ) (hR : R (tupOf vs) τ) : ARet res R .ret F σ :=
  ⟨vs, h, _, τ, VShift.of_sub hs, hR⟩

def resSem (tmps : Array Value) : ResultVar → Sem Value
  | .tmp t => pure (tmps.getD t undef)
  | .cell a t => do loadVar t (← asAddr (tmps.getD a undef))

theorem results_eq (fn : Func) (tmps : Array Value) : results fn tmps = (do let vs ← fn.results.mapM (resSem tmps); pure (if h : vs.size = 1 then vs[0] else .tuple vs)) := by
  unfold results
  congr 1

theorem run_results {fn : Func} : ∀ {rs : List ResultVar} {res : List ARes} {K : Kr} {F : AFrame} {σ : AHeap} {w : World} {tmps : Array Value} {vs : List AVal}, rs.mapM (resA P) = some res → Rel K σ w → FRel K N F tmps → resVals F σ res = some vs →
    ∃ us, (rs.mapM (resSem tmps)).run P w = .ok us w ∧ VRel K vs us
  | [], res, K, F, σ, w, tmps, vs, h, hr, hF, hv => by
    simp at h; subst h
    simp [resVals] at hv; subst hv
    exact ⟨[], by simp, .nil⟩
  | r :: rs, res, K, F, σ, w, tmps, vs, h, hr, hF, hv => by
    simp only [List.mapM_cons, Option.bind_eq_bind, Option.bind_eq_some_iff, Option.pure_def, Option.some.injEq] at h
    obtain ⟨ar, har, res', hres, rfl⟩ := h
    simp only [resVals] at hv
    split at hv
    · rename_i v vs' h1 h2
      simp only [Option.some.injEq] at hv; subst hv
      obtain ⟨us, hrun, hus⟩ := run_results (fn := fn) hres hr hF h2
      have hone : ∃ u, (resSem tmps r).run P w = .ok u w ∧ VR K v u := by
        cases r with
        | tmp t =>
          simp only [resA, Option.some.injEq] at har; subst har
          exact ⟨_, rfl, hF.at_ t v h1⟩
        | cell a t =>
          simp only [resA, Option.bind_eq_bind, Option.bind_eq_some_iff, Option.pure_def, Option.some.injEq] at har
          obtain ⟨g, hg, s, hs, rfl⟩ := har
          simp only [resVal] at h1
          split at h1
          · rename_i p hp
            rw [aload_eq] at h1
            simp only [Option.bind_eq_some_iff] at h1
            obtain ⟨cs, h3, h4⟩ := h1
            obtain ⟨ad, ms, e, h5, h6, h7⟩ := ptr_cells hr (hF.at_ a p hp) h3
            obtain ⟨u, hu, hvu⟩ := run_loadVar (P := P) hg hs h4 h5 h7 h6
            refine ⟨u, ?_, hvu⟩
            simp only [resSem, Sem.run_bind, e, asAddr, Sem.run_pure, Result.andThen_ok, hu]
          · cases h1
      obtain ⟨u, hu, hvu⟩ := hone
      refine ⟨u :: us, ?_, .cons hvu hus⟩
      simp only [List.mapM_cons, Sem.run_bind, hu, Result.andThen_ok, hrun, Sem.run_pure]
    · cases hv

def valOf : List Value → Value
  | [u] => u
  | us => .tuple us.toArray

theorem VRel.same {K K' : Kr} (hi : K'.imm = K.imm) (hl : K'.loc = K.loc) {l : List AVal} {m : List Value} (r : VRel K l m) : VRel K' l m :=
  VRel.mono2 (fun _ _ _ h => by rw [hi]; exact h) (fun _ _ h => by rw [hl]; exact h) r

/-- An object that is no cells is turned, and what lies is taken as9 it lies then. -/
theorem Rel.put {K : Kr} {σ : AHeap} {w : World} (r : Rel K σ w) {D : Nat} {o o' : Obj} (ho : w.heap[D]? = some o) (hc : ∀ cs ty fr, o ≠ .cells cs ty fr) (hD : K.w0.heap.size ≤ D) : Rel { K with wo := w.putObj D o' } σ (w.putObj D o') := by
  have hother : ∀ k, k ≠ D → (w.putObj D o').heap[k]? = w.heap[k]? := fun k hk => World.putObj_heap_other hk
  have hlt := (Array.getElem?_eq_some_iff.1 ho).1
  have hcell : ∀ b v x, w.cell? ⟨b, x, none⟩ = some v → b ≠ D := by
    rintro b v x h rfl
    unfold World.cell? at h
    rw [ho] at h
    cases o <;> simp at h
    exact hc _ _ _ rfl
  refine ⟨r.ext.trans ⟨rfl, rfl, rfl, by simp [World.putObj], fun k hk => hother k (by omega)⟩, Oth.refl _, fun b x v h => ?_, r.nd, r.bnd, fun b L cb h hb => ?_, fun b blk h => ?_, r.inj⟩
  · have h1 := r.imm b x v h
    rw [cell?_of_heap (w := w) (hother b (hcell _ _ _ h1))]
    exact h1
  · have := r.lit b L cb h hb
    simpa [World.putObj] using this
  · cases blk with
    | cells sz xs =>
      have h1 := r.own b _ h
      refine ⟨h1.1, ?_⟩
      rcases h1.2 with h2 | ⟨cb, pcap, cs, ty, g1, g2, g3, g4, g5, g6, g7, g8⟩
      · exact .inl h2
      · refine .inr ⟨cb, pcap, cs, ty, g1, g2, g3, ?_, g5, g6, g7, VRel.same (K := K) (K' := { K with wo := w.putObj D o' }) rfl rfl g8⟩
        rw [hother cb (fun e => by subst e; rw [ho] at g4; simp only [Option.some.injEq] at g4; exact hc _ _ _ g4)]
        exact g4

/-- What lies is taken as9 it lies now. -/
theorem Rel.now {K : Kr} {σ : AHeap} {w : World} (r : Rel K σ w) : K.le { K with wo := w } ∧ Rel { K with wo := w } σ w := by
  have hle : K.le { K with wo := w } := ⟨rfl, r.oth, fun _ _ _ h => h, fun _ _ h => h, Nat.le_refl _⟩
  exact ⟨hle, r.ext, Oth.refl _, r.imm, r.nd, r.bnd, r.lit, fun b blk h => (r.own b blk h).keep hle fun cb s c _ => ⟨rfl, fun h => h⟩, r.inj⟩

theorem leavesM {fn : Func} {tmps : Array Value} {R : Ending → World → Prop} {K0 : Kr} {σ : AHeap} : ∀ (ds : List Deferred) (K : Kr) (w : World), ds.Nodup →
    (∀ d ∈ ds, ∃ D, d = { target := .collected D, args := #[] } ∧ K0.w0.heap.size ≤ D ∧ K0.wo.heap.size ≤ D ∧ w.heap[D]? = some (.deferred (some []))) → K0.le K → Rel K σ w →
    (∀ K' w', K'.imm = K.imm → K'.loc = K.loc → K0.le K' → Rel K' σ w' → ∃ v, (results fn tmps).run P w' = .ok v w' ∧ R (.returned v) w') → LeavesInM Fence.wide 0 P fn tmps R ds .returning w
  | [], K, w, _, _, hle, hr, h => h K w rfl rfl hle hr
  | d :: ds, K, w, hnd, hm, hle, hr, h => by
    obtain ⟨D, rfl, h1, h2, h3⟩ := hm d (by simp)
    obtain ⟨hn, hnd'⟩ := List.nodup_cons.1 hnd
    refine ⟨by simp, .inl ⟨D, _, rfl, run_takeDeferred h3, ?_⟩⟩
    have hput := hr.put (o' := .deferred none) h3 (fun _ _ _ e => by cases e) (by rw [hle.w0]; exact h1)
    refine leavesM ds _ _ hnd' (fun d' hd' => ?_) ?_ hput (fun K' w' e1 e2 => h K' w' e1 e2)
    · obtain ⟨D', rfl, g1, g2, g3⟩ := hm d' (List.mem_cons_of_mem _ hd')
      refine ⟨D', rfl, g1, g2, ?_⟩
      rw [World.putObj_heap_other (fun e => hn (by subst e; exact hd'))]
      exact g3
    · refine ⟨hle.w0, ?_, hle.imm, hle.loc, hle.nn⟩
      have h0 : Oth K0.wo w := hle.wo.trans hr.oth
      refine ⟨by simpa [World.putObj] using h0.size, fun k o hk ho => ?_⟩
      have hlt := (Array.getElem?_eq_some_iff.1 hk).1
      rw [World.putObj_heap_other (show k ≠ D by omega)]
      exact h0.same k o hk ho

/-- ENTER a function: its code in the small form, from the arguments on. -/
theorem acalls_enter {hs : List (Nat × Nat)} {f : FuncId} {af : AFunc} (hm : P.follows .mixedOrders = true) (hf : compF P hs f = some af.erase) {args : List AVal} (hn : args.length ≤ af.n) {σ : AHeap} {R : AVal → AHeap → Prop}
    (h : AWp P af.n af.code (ARet af.res R) (fargs args) σ) : ACalls P f args σ R := by
  intro K w vs hr hv
  unfold compF at hf
  simp only [Option.bind_eq_bind, Option.bind_eq_some_iff, Option.pure_def, Option.some.injEq] at hf
  obtain ⟨fn, hfn, c, hc, a, ha, rs, hrs, e⟩ := hf
  have e1 : fn.ntmps = af.n := congrArg AFunc.n e
  have e2 : a = af.code.erase := congrArg AFunc.code e
  have e3 : rs = af.res := congrArg AFunc.res e
  subst e2 e3
  refine (callsIn_wide (n := 0)).1 (callsIn_of_wp_marks hfn hc trivial ?_)
  have hlen : vs.length = args.length := hv.length.symm
  have hF : FRel K af.n (fargs args) (vs.toArray ++ Array.replicate (fn.ntmps - vs.toArray.size) undef) := by
    refine ⟨by simp; omega, fun i x e => ?_⟩
    obtain ⟨v, h1, h2⟩ := hv.get (i := i) (a := x) e
    have hlt := (List.getElem?_eq_some_iff.1 h1).1
    have : (vs.toArray ++ Array.replicate (fn.ntmps - vs.toArray.size) undef).getD i undef = v := by
      simp [Array.getElem?_append, hlt, List.getElem?_eq_getElem hlt]
      have := (List.getElem?_eq_some_iff.1 h1).2
      exact this
    rw [this]
    exact h2
  rw [e1] at ha hF ⊢
  refine wpIn_mono (h hm hs c ha none (.inl rfl) K K { tmps := vs.toArray ++ Array.replicate (af.n - vs.toArray.size) undef, defers := [] } w (Kr.le.refl K) hr hF (Marked.nil K K)) ?_
  have fin : ∀ (act : Act) (w' : World), St K af.n (fun F σ => ∃ vs, resVals F σ af.res = some vs ∧ ∃ r τ, VShift (tupOf vs) σ r τ ∧ R r τ) act w' →
      LeavesInM Fence.wide 0 P fn act.tmps (fun e w' => ∃ v K' r σ', e = .returned v ∧ K.le K' ∧ Rel K' σ' w' ∧ VR K' r v ∧ R r σ') act.defers .returning w' := by
    rintro act w0' ⟨K0', F, σ1, g1, g2, g3, g4, ms, hms, r, τ, hsh, hR⟩
    obtain ⟨n1, n2⟩ := g2.now
    refine leavesM act.defers _ w0' (g4.mono n1).1 (g4.mono n1).2 (g1.trans n1) n2 ?_
    intro K1 w' e1 e2 g1 g2
    have g3 : FRel K1 af.n F act.tmps := ⟨g3.size, fun i x e => VRel.same (K := K0') e1 e2 (g3.at_ i x e)⟩
    obtain ⟨us, hrun, hus⟩ := run_results (fn := fn) (P := P) hrs g2 g3 hms
    have hres : (results fn act.tmps).run P w' = .ok (valOf us) w' := by
      rw [results_eq, Array.mapM_eq_mapM_toList]
      simp only [Sem.run_bind, Sem.run_map]
      rw [hrun]
      simp only [Result.andThen_ok, Sem.run_pure]
      match us with
      | [] => rfl
      | [u] => rfl
      | u :: u' :: us => rfl
    have hvr : VR K1 (tupOf ms) (valOf us) := by
      match ms, us, hus with
      | [], us, hus => rw [hus.nil_inv]; exact VRel.tup .nil .nil
      | [m], us, hus =>
        obtain ⟨u, rfl, h1⟩ := hus.one_inv
        exact h1
      | m :: m' :: ms, us, hus =>
        obtain ⟨u, us1, rfl, h1, h2⟩ := hus.ex
        obtain ⟨u', us2, rfl, h3, h4⟩ := h2.ex
        exact VRel.tup hus .nil
    obtain ⟨K2, k1, k2, k3⟩ := hsh K1 w' _ g2 hvr
    exact ⟨_, hres, _, K2, r, τ, rfl, g1.trans k1, k2, k3, hR⟩
  intro e act w' hq
  cases e with
  | normal => exact fin act w' hq
  | ret => exact fin act w' hq
  | exit id => obtain ⟨_, _, _, _, _, _, _, hf⟩ := hq; exact hf.elim
  | goto l => exact hq.elim
  | panic l => exact hq.elim
  | outgrown => exact hq.elim

end Go.Abs
