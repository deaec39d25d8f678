/- Contracts: three functions of the library, off the shelf. -/
import Derived.Test.YtgmefkhincnajaaDoorShelf
import Derived.Test.YtgmefkhincnajaaDoorT0
import Derived.Test.YtgmefkhincnajaaDoorANum
import Derived.Lib.Join
import Derived.Lib.Fields
namespace Go.Abs
open Go Go.Proofs Go.RowKit
set_option linter.unusedVariables false
set_option linter.unusedSimpArgs false

/-- The laid tables hold whatever they held. -/
theorem tab_of {K : Kr} {σ : AHeap} {w : World} (r : Rel K σ w) : TabW w := by
  have key : ∀ n cs, K.w0.var? Tryd.prog n = some cs → w.var? Tryd.prog n = some cs := by
    intro n cs h
    unfold World.var? at h ⊢
    cases hg : Tryd.prog.globalNamed n with
    | none => rw [hg] at h; cases h
    | some g =>
      rw [hg] at h
      simp only [Option.bind_some] at h ⊢
      have hlt : g < K.w0.heap.size := by
        cases e : K.w0.heap[g]? with
        | none => rw [e] at h; cases h
        | some o => exact (Array.getElem?_eq_some_iff.1 e).1
      rw [r.ext.block g hlt]
      exact h
  exact ⟨key _ _ K.tab.1, key _ _ K.tab.2⟩

theorem str_inv {K : Kr} {s : List UInt8} {v : Value} (h : VR K (.str s) v) : v = .string ⟨s.toArray⟩ := by
  unfold VR at h
  cases h
  rfl
theorem vrel_strs (K : Kr) : ∀ (xs : List (List UInt8)), VRel K ((xs.map AVal.str).flatMap AVal.cells) (xs.map fun l => Value.string ⟨l.toArray⟩)
  | [] => .nil
  | x :: xs => .str (vrel_strs K xs)

theorem c_Fields (s : List UInt8) (hs : s.length < 4294967281) (ha : ∀ b ∈ s, b.toNat < 128) (σ : AHeap) : ACalls Tryd.prog f_strings_Fields [.str s] σ fun r σ' => r = .slc 1 ((Lib.fields s).map .str) true ∧ σ' = σ := by
  intro K w vs hr hv
  obtain ⟨v, vs', rfl, h1, h2⟩ := hv.ex
  obtain rfl := h2.nil_inv
  obtain rfl := str_inv h1
  refine (Tryd.strings_Fields_laid ⟨s.toArray⟩ w (by simpa [ByteArray.size] using hs) (fun j b hb => ha b (List.mem_of_getElem? (by simpa using hb))) (tab_of hr).2).mono ?_
  rintro e w' ⟨rfl, rfl⟩
  obtain ⟨k1, k2⟩ := hr.newImm ((Lib.fields s).map fun l => Value.string ⟨l.toArray⟩).toArray 9 (0, 0)
  refine ⟨_, _, .slc 1 ((Lib.fields s).map .str) true, σ, rfl, k1, k2, ?_, rfl, rfl⟩
  refine VRel.slc (vs := (Lib.fields s).map fun l => Value.string ⟨l.toArray⟩) (by simp) (fun x hx => ?_) rfl (fun j v hj => ?_) (vrel_strs _ _) (Nat.le_refl _) (fun _ => rfl) .nil
  · obtain ⟨y, _, rfl⟩ := List.mem_map.1 hx
    exact ⟨rfl, by simp [AVal.cells, AVal.one]⟩
  · simp only [Kr.addImm, Nat.zero_add, if_pos]
    exact hj

theorem c_Join (xs : List (List UInt8)) (sep : List UInt8) (hN : xs.length ≤ 140737488355328) (hlen : (Lib.join xs sep).length ≤ 140737488355328) (f : Bool) (σ : AHeap) : ACalls Tryd.prog f_strings_Join [.slc 1 (xs.map .str) f, .str sep] σ fun r σ' => r = .str (Lib.join xs sep) ∧ σ' = σ := by
  intro K w vs hr hv
  have fin : (Calls Tryd.prog f_strings_Join vs.toArray w fun e w' => e = .returned (.string ⟨(Lib.join xs sep).toArray⟩) ∧ Below w.heap.size w w') → Calls Tryd.prog f_strings_Join vs.toArray w fun e w' => ∃ v K' r σ', e = .returned v ∧ K.le K' ∧ Rel K' σ' w' ∧ VR K' r v ∧ r = .str (Lib.join xs sep) ∧ σ' = σ := fun h =>
    h.mono fun e w' ⟨h1, h2⟩ => ⟨_, K, .str (Lib.join xs sep), σ, h1, Kr.le.refl K, rel_below hr h2, VRel.str .nil, rfl, rfl⟩
  refine fin ?_
  obtain ⟨v, vs1, rfl, h1, h2⟩ := hv.ex
  obtain ⟨v2, vs2, rfl, h3, h4⟩ := h2.ex
  obtain rfl := h4.nil_inv
  obtain rfl := str_inv h3
  unfold VR at h1
  generalize hxs : xs.map AVal.str = ys at h1
  have none : ∀ (a : Option Addr) (cap : Nat), xs = [] → Calls Tryd.prog f_strings_Join #[.slice a 0 cap, .string ⟨sep.toArray⟩] w fun e w' => e = .returned (.string ⟨(Lib.join xs sep).toArray⟩) ∧ Below w.heap.size w w' := by
    intro a cap h
    subst h
    exact (Tryd.strings_Join_none a cap _ w).mono fun e w' ⟨he, hw⟩ => ⟨he, hw ▸ Below.refl _ _⟩
  cases h1 with
  | @slc0 _ _ a cap _ _ hf r => exact none a cap (List.map_eq_nil_iff.1 hxs)
  | @slc _ _ _ a n cap us _ _ hn he hsp hm hvv hc hf r =>
    subst hxs
    obtain ⟨b, o, sp⟩ := a
    simp only at hsp hm
    subst hsp
    have hnl : xs.length = n := by simpa using hn
    by_cases h0 : n = 0
    · subst h0
      exact none _ cap (List.length_eq_zero_iff.1 hnl)
    have hcell : ∀ (j : Nat) x, (xs.map fun l => (⟨l.toArray⟩ : ByteArray))[j]? = some x → w.cell? ⟨b, o + j, Option.none⟩ = some (.string x) := by
      intro j x hj
      rw [List.getElem?_map] at hj
      cases e : xs[j]? with
      | none => rw [e] at hj; cases hj
      | some l =>
        rw [e] at hj
        simp only [Option.map_some, Option.some.injEq] at hj
        subst hj
        have hfl : ((xs.map AVal.str).flatMap AVal.cells)[j]? = some (.str l) := by
          have : (xs.map AVal.str).flatMap AVal.cells = xs.map AVal.str := by
            clear hm hvv he hn hr hv h2 fin hN hlen hnl none e
            induction xs with
            | nil => rfl
            | cons s ns ih => simp only [List.map_cons, List.flatMap_cons, ih]; rfl
          rw [this, List.getElem?_map, e]; rfl
        obtain ⟨u, hu, hvu⟩ := hvv.get hfl
        have hw := hr.imm _ _ _ (hm j u hu)
        rw [hw, str_inv hvu]
    have hb : b < w.heap.size := by
      have h1 : 0 < xs.length := by omega
      have := hcell 0 _ (by rw [List.getElem?_map, List.getElem?_eq_getElem h1]; rfl)
      exact block_lt_of_cell this
    have hmm : (xs.map fun l => (⟨l.toArray⟩ : ByteArray)).map (·.data.toList) = xs := by
      rw [List.map_map]
      exact (List.map_congr_left (fun l _ => by simp)).trans (List.map_id _)
    have := Tryd.strings_Join b o cap (xs.map fun l => (⟨l.toArray⟩ : ByteArray)) ⟨sep.toArray⟩ w hcell hb (by simpa using hN) (by simpa [hnl] using hc) (by rw [hmm]; simpa using hlen)
    rw [hmm, List.length_map, hnl] at this
    show Calls Tryd.prog 41 _ _ _
    simpa using this

theorem below_grow {w : World} (k : Nat) (os : Array Obj) : RowKit.Below w.heap.size w (Sort.grow (w.drewN k) os) := ⟨rfl, rfl, rfl, by simp [Sort.grow, World.drewN], fun j hj => by simp [Sort.grow, World.drewN, Array.getElem?_append, hj]⟩

theorem c_Itoa (n : Int) (h0 : -9223372036854775808 ≤ n) (h1 : n ≤ 9223372036854775807) (σ : AHeap) : ACalls Tryd.prog f_strconv_Itoa [.int .i64 n] σ fun r σ' => r = .str (Lib.itoa n) ∧ σ' = σ := by
  intro K w vs hr hv
  obtain ⟨v, vs', rfl, g1, g2⟩ := hv.ex
  obtain rfl := g2.nil_inv
  obtain rfl : v = .int .i64 n := by unfold VR at g1; cases g1; rfl
  refine (Tryd.strconv_Itoa n h0 h1 w (tab_of hr).1).mono ?_
  rintro e w' ⟨rfl, k, os, rfl⟩
  exact ⟨_, K, .str (Lib.itoa n), σ, rfl, Kr.le.refl K, rel_below hr (below_grow k os), VRel.str .nil, rfl, rfl⟩
end Go.Abs
