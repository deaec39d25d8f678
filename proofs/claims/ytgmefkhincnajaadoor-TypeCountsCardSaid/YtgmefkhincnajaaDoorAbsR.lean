/-
  A program logic over abstract states, part R: from a contract to a row.
-/
import Derived.Test.YtgmefkhincnajaaDoorAbsT
import Derived.ChangeSame
import Derived.Below
namespace Go.Abs
open Go Go.RowKit Go.ChangeShapes Go.WideShapes

set_option linter.unusedVariables false

/-- What a call knows of memory when it begins: that every cell is what it is. -/
def K0 {W : World} (hT : TabW W) : Kr := { w0 := W, tab := hT, wo := W, imm := fun b o => W.cell? ⟨b, o, none⟩, loc := fun _ => none, nn := 0 }

theorem rel0 {W : World} (hT : TabW W) : Rel (K0 hT) [] W where
  ext := Below.refl _ _
  oth := Oth.refl _
  imm := fun b o v h => h
  nd := by simp [keys]
  bnd := fun b L h => absurd (show (none : Option Loc) = some L from h) (by simp)
  lit := fun b L cb h => absurd (show (none : Option Loc) = some L from h) (by simp)
  own := fun b blk h => absurd h (by simp)
  inj := fun b1 blk1 b2 blk2 cb s1 c1 s2 c2 h => absurd h (by simp)

theorem calls_of {P : Program} {f : FuncId} {args : List AVal} {vs : List Value} {W : World} {hT : TabW W} (h : ACalls P f args [] fun r _ => r = .bool true) (hv : VRel (K0 hT) args vs) :
    Calls P f vs.toArray W fun e W' => e = .returned (.bool true) ∧ Below W.heap.size W W' := by
  refine (h (K0 hT) W vs (rel0 hT) hv).mono ?_
  rintro e W' ⟨v, K', r, σ', rfl, h1, h2, h3, rfl⟩
  have e1 := h3.bool_inv
  subst e1
  refine ⟨rfl, ?_⟩
  have := h2.ext
  rw [h1.w0] at this
  exact this

variable {H : Type} {enc : TypeId × Value → H} {P : Program}

/-- As the kit's 'post_of_same'; what is frozen is asked of old memory alone. -/
theorem post_of_below {f : Func} {s : ChangeSpec} {apart fresh handsOn again : Bool} {W W' : World} {args : Array Value} {v : Value} {ds gs : List (DataW H)} {before pa pv : List MemPlace}
    (hW : DataW.Whole enc P f.params.toList s.vars apart W args.toList ds gs before)
    (hres : ∀ (b : Nat) (sp : Nat → Bool) (hd : Bool), DataW.TrodAll enc P W' b sp hd f.resultTypes.toList (v.resultList f.resultTypes.size) (s.fn H (ds ++ gs)).results [])
    (hargs : ∀ sp : Nat → Bool, (∀ p ∈ before, sp p.block = true) → DataW.TrodAll enc P W' 0 sp true f.params.toList args.toList (s.fn H (ds ++ gs)).args pa)
    (hvars : ∀ sp : Nat → Bool, (∀ p ∈ before, sp p.block = true) → DataW.TrodVars enc P W' sp s.vars (s.fn H (ds ++ gs)).vars pv)
    (hps : before = pa ++ pv) (hb : Below W.heap.size W W')
    (hok : ∀ (j : Nat) (t : TypeId) (r : Value), f.resultTypes[j]? = some t → (v.resultList f.resultTypes.size)[j]? = some r → Value.okWide P W' .any 0 t r) :
    s.post enc P f apart fresh handsOn again W args v W' := by
  have hlt := hW.lt
  have hold : ∀ p ∈ before, (fun b => decide (b < W.heap.size)) p.block = true := fun p hp => by simpa using hlt p hp
  refine ⟨ds, gs, before, [], pa, pv, hW, hres _ _ _, hargs _ hold, hvars _ hold, World.keptBut_mono (fun p hp => ⟨hp, ?_⟩) (hb.frame (· ∈ before)), fun _ => ?_⟩
  · rw [hps, List.mem_append] at hp
    exact Or.inr hp
  · obtain ⟨_, _, _, _, _, hz, hn⟩ := hW
    refine ⟨hok, _, _, ([] ++ pa) ++ pv, ⟨[] ++ pa, pv, trodAll_append (hargs _ (fun _ _ => rfl)) (hres _ _ _), hvars _ (fun _ _ => rfl), rfl, ?_, ?_⟩, ?_⟩
    · intro b off hp
      have hp' : MemPlace.cell b off ∈ before := by rw [hps]; simpa using hp
      have hlt' := hlt _ hp'
      rw [hb.frozen hlt']
      exact hz b off hp'
    · intro ha
      have := hn ha
      rw [hps] at this
      simpa using this
    · intro p hp _
      rw [hps]
      simpa using hp

/-! ### Rows of bytes that come in -/

theorem flat_bytes (xs : List UInt8) : (bytes xs).flatMap AVal.cells = bytes xs := by
  induction xs with
  | nil => rfl
  | cons a xs ih =>
    show (byte a).cells ++ (bytes xs).flatMap AVal.cells = byte a :: bytes xs
    rw [ih]; rfl
theorem vrel_bytes {K : Kr} : ∀ (xs : List UInt8), VRel K (bytes xs) (xs.map fun b => Value.int .u8 (b.toNat : Int))
  | [] => .nil
  | a :: xs => .int (vrel_bytes xs)

/-- A row of bytes that came in. -/
theorem vr_row {W : World} {hT : TabW W} {x : Addr} {len cap : Nat} {zs : List Int} (hl : len ≤ cap) (hz : zs.length = cap) (hcell : ∀ i, i < zs.length → W.cell? (x.add i) = some (.int .u8 (zs.getD i 0))) (hw : ∀ n ∈ zs, (Lit.int .u8 n).wf = true) :
    ∃ bs : List UInt8, bs.length = len ∧ VR (K0 hT) (.slc 1 (bytes bs) false) (.slice (some x) len cap) := by
  by_cases h0 : len = 0
  · subst h0
    exact ⟨[], rfl, VRel.slc0 (by simp) .nil⟩
  have hsp : x.spot = none := by
    have h := hcell 0 (by omega)
    cases hs : x.spot with
    | none => rfl
    | some s =>
      rw [Addr.add, if_pos rfl] at h
      unfold World.cell? at h
      split at h
      · simp [hs] at h
      · cases h
  have hx : ∀ i, x.add i = ⟨x.block, x.off + i, none⟩ := by
    intro i
    unfold Addr.add
    split
    · rename_i h; subst h
      cases x; simp at hsp; simp [hsp]
    · rfl
  refine ⟨(zs.take len).map fun n => UInt8.ofNat n.toNat, by simp; omega, ?_⟩
  have hb : ∀ n ∈ zs, ((UInt8.ofNat n.toNat).toNat : Int) = n := by
    intro n hn
    have := hw n hn
    have h2 : 0 ≤ n ∧ n ≤ 255 := by simpa [Lit.wf, IntKind.min, IntKind.max, IntKind.signed, IntKind.bits] using this
    rw [UInt8.toNat_ofNat']; omega
  generalize hbs : (zs.take len).map (fun n => UInt8.ofNat n.toNat) = bs
  have hbl : bs.length = len := by rw [← hbs]; simp; omega
  refine VRel.slc (vs := bs.map fun b => Value.int .u8 (b.toNat : Int)) (by rw [bytes_length, hbl]) ?_ hsp ?_ (by rw [flat_bytes]; exact vrel_bytes bs) hl (by simp) .nil
  · intro v hv
    obtain ⟨b, _, rfl⟩ := List.mem_map.1 hv
    exact ⟨rfl, fun c hc => by rw [show (byte b).cells = [byte b] from rfl] at hc; rw [List.mem_singleton.1 hc]; rfl⟩
  · intro j v hv
    have hj : j < len := by
      have := (List.getElem?_eq_some_iff.1 hv).1
      simpa [hbl] using this
    show W.cell? ⟨x.block, x.off + j, none⟩ = some v
    rw [← hx j, hcell j (by omega)]
    rw [← hbs] at hv
    rw [List.getElem?_map, List.getElem?_map, List.getElem?_take_of_lt hj, List.getElem?_eq_getElem (by omega)] at hv
    simp only [Option.map_some, Option.some.injEq] at hv
    rw [← hv, hb _ (List.getElem_mem _), List.getD_eq_getElem?_getD, List.getElem?_eq_getElem (by omega)]
    rfl
theorem vr_nilrow {W : World} {hT : TabW W} : VR (K0 hT) (.slc 1 (bytes []) false) (.slice none 0 0) := VRel.slc0 (by simp) .nil

end Go.Abs
