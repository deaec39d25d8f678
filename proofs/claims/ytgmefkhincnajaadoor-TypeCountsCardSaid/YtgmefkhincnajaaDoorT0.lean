/-
  The walk of types.names, a set of its own: whether names may be.
-/
import Derived.Test.YtgmefkhincnajaaDoorProg
import Derived.WalkKit
import Derived.Maps.OwnSet
import Derived.Maps.AppendAt
import Derived.Test.YtgmefkhincnajaaDoorAbsX
import Derived.Test.YtgmefkhincnajaaDoorTy
namespace Go.Abs.Names
open Go Go.Proofs Go.RowKit Go.Maps
set_option linter.unusedVariables false
set_option linter.unusedSimpArgs false

/-- The set of the first names. -/
def Dn (ns : List (List UInt8)) : DataW Unit := ns.foldl (fun D s => D.put (.string s) (.lit (.bool true))) (.map [])

theorem key_str (s : List UInt8) : WideAt.IsKeyLit (.string s) := by first | exact trivial | exact WideAt.IsKeyLit.string | simp [WideAt.IsKeyLit]
theorem Dn_map : ∀ (ns : List (List UInt8)) (D : DataW Unit), IsMap D → IsMap (ns.foldl (fun D s => D.put (.string s) (.lit (.bool true))) D)
  | [], D, h => h
  | s :: ns, D, h => Dn_map ns _ (by first | exact h.put _ _ | exact isMap_put h _ _)
theorem Dn_snoc (ns : List (List UInt8)) (s : List UInt8) : Dn (ns ++ [s]) = (Dn ns).put (.string s) (.lit (.bool true)) := by simp [Dn]
theorem Dn_at : ∀ (ns : List (List UInt8)) (s : List UInt8), (Dn ns).atKey (.string s) (.lit (.bool false)) = .lit (.bool (decide (s ∈ ns))) := by
  intro ns s
  have : ∀ (ns : List (List UInt8)) (D : DataW Unit) (c : Bool), IsMap D → D.atKey (.string s) (.lit (.bool false)) = .lit (.bool c) →
      (ns.foldl (fun D s => D.put (.string s) (.lit (.bool true))) D).atKey (.string s) (.lit (.bool false)) = .lit (.bool (c || decide (s ∈ ns))) := by
    intro ns
    induction ns with
    | nil => intro D c hD h; simpa using h
    | cons u ns ih =>
      intro D c hD h
      have hD' : IsMap (D.put (.string u) (.lit (.bool true))) := by first | exact hD.put _ _ | exact isMap_put hD _ _
      by_cases e : s = u
      · subst e
        have := ih _ true hD' (atKey_put_same hD (key_str s) _ _)
        simpa using this
      · have := ih _ c hD' ((atKey_put_other (by simpa using e) _ _).trans h)
        simpa [e] using this
  exact (this ns _ false (by first | exact ⟨_, rfl⟩ | exact trivial | simp [IsMap]) rfl).trans (by simp)

def str (s : List UInt8) : Value := .string ⟨s.toArray⟩
/-- All is well with the first k. -/
def okTo (ns : List (List UInt8)) (k : Nat) : Prop := ∀ (a : Nat) (s : List UInt8), a < k → ns[a]? = some s → (s ≠ [] ∧ s.length ≤ 100) ∧ s ∉ ns.take a

theorem law9 : Keyed Tryd.prog 9 := string_keyed Tryd.underlying9
theorem zero4 (w : World) : (zeroValue 4).run Tryd.prog w = .ok (.bool false) w := by kernel_rfl

theorem plainElem_bool_inv {P : Program} {e : TypeId} {v : Value} {y : DataW Unit × List MemPlace} (he : P.underlying e = some .bool) (h : plainElem P e v = some y) : ∃ c, v = .bool c ∧ y = (.lit (.bool c), []) := by
  unfold plainElem at h
  rw [he] at h
  cases v <;> simp at h
  exact ⟨_, rfl, h.symm⟩

theorem look (ns : List (List UInt8)) (s : List UInt8) (hs : s.length ≤ maxLen) {w : World} {b n : Nat} (h : w.ownsMap Tryd.prog 9 (plainElem Tryd.prog 4) b n (Dn ns)) :
    (Instr.lookup 92 (.map (some b)) (str s) false).run Tryd.prog w = .ok (.bool (decide (s ∈ ns))) w := by
  have hk : keyOf Tryd.prog 9 (str s) = some (.string s) := by
    have := Go.WideMaps.keyOf_string_mk (P := Tryd.prog) (k := 9) Tryd.underlying9 (s := ⟨s.toArray⟩) (by simpa [ByteArray.size] using hs)
    simpa [str] using this
  obtain ⟨v, ps, hrun, hv⟩ := h.lookup law9 Tryd.underlying92 (zero4 w) (zd := .lit (.bool false)) (zp := []) (by simp [plainElem, Tryd.underlying4]) hk
  rw [Dn_at] at hv
  obtain ⟨c, rfl, e⟩ := plainElem_bool_inv Tryd.underlying4 hv
  simp only [Prod.mk.injEq, DataW.lit.injEq, Lit.bool.injEq] at e
  rw [hrun, e.1]

set_option maxHeartbeats 1600000 in
set_option maxRecDepth 100000 in
theorem names_any (b off len cap : Nat) (ns : List (List UInt8)) (w : World) (hl : ns.length = len) (hm : len ≤ 140737488355328) (hb : b < w.heap.size)
    (hc : ∀ j, j < len → w.cell? ⟨b, off + j, none⟩ = some (str (ns.getD j []))) (hw : ∀ s ∈ ns, s.length ≤ maxLen) (R : Bool) (hR : R = true ↔ okTo ns len) :
    Calls Tryd.prog 57 #[.slice (some ⟨b, off, none⟩) len cap] w fun e w' => e = .returned (.bool R) ∧ Below w.heap.size w w' := by
  have hmm := @run_makeMap Tryd.prog
  have hm' : len ≤ 140737488355328 := hm
  go_enter Tryd.func57, Tryd.ntmps57
  go_wp2
  go_loopw [9] (fun i wr => ∃ k : Nat, k ≤ len ∧ i = .int .i64 k ∧ wr.ownsMap Tryd.prog 9 (plainElem Tryd.prog 4) w.heap.size k (Dn (ns.take k)) ∧ Below w.heap.size w wr ∧ okTo ns k)
    (fun i _ => len - (intOf i).toNat)
  case atStart => exact ⟨0, Nat.zero_le _, rfl, by exact World.ownsMap_made _ _ _ _, (Below.refl _ _).alloc (Nat.le_refl _) _, fun a s h => absurd h (by omega)⟩
  case round =>
    obtain ⟨k, hk, rfl, hown, hnx, hok⟩ := hrel
    have hcx : k < len → wr.cell? ⟨b, off + k, none⟩ = some (.string ⟨(ns.getD k []).toArray⟩) := fun _ => (hnx.cell (by exact hb)).trans (hc k (by omega))
    generalize hs : ns.getD k [] = s at hcx
    have hsl : s.length ≤ maxLen := by
      rw [List.getD_eq_getElem?_getD] at hs
      cases h : ns[k]? with
      | none => rw [h] at hs; subst hs; simp
      | some u => rw [h] at hs; simp at hs; subst hs; exact hw u (List.mem_of_getElem? h)
    have hkey : keyOf Tryd.prog 9 (.string ⟨s.toArray⟩) = some (.string s) := by
      have := Go.WideMaps.keyOf_string_mk (P := Tryd.prog) (k := 9) Tryd.underlying9 (s := ⟨s.toArray⟩) (by simpa [ByteArray.size] using hsl)
      simpa using this
    have hlook : (Instr.lookup 92 (.map (some w.heap.size)) (.string ⟨s.toArray⟩) false).run Tryd.prog wr = .ok (.bool (decide (s ∈ ns.take k))) wr := look (ns.take k) s hsl hown
    have bad : k < len → ¬ ((s ≠ [] ∧ s.length ≤ 100) ∧ s ∉ ns.take k) → R = false := fun hlt h => by
      cases hR' : R with
      | false => rfl
      | true =>
        refine absurd ((hR.1 hR') k s hlt ?_) h
        rw [← hs, List.getD_eq_getElem?_getD, List.getElem?_eq_getElem (by omega)]; rfl
    obtain ⟨w1, hupd, hown1, hgrow1⟩ := hown.update law9 Tryd.underlying92 (by unfold maxLen; omega) hkey (plainElem_bool Tryd.underlying4 true)
    go_wp2
    · have hb' := bad (by assumption) (fun h => h.1.1 (by assumption))
      go_ret
      exact ⟨by rw [hb']; rfl, hnx⟩
    · have hb' := bad (by assumption) (fun h => by
        rename_i h1 h2 h3 h4
        have h4' : (s.isEmpty = true ∨ 100 < (s.length : Int)) ∨ s ∈ List.take k ns := by assumption
        rcases h4' with (h4 | h4) | h4
        · exact h.1.1 (by simpa using h4)
        · have := h.1.2; omega
        · exact h.2 h4)
      go_ret
      exact ⟨by rw [hb']; rfl, hnx⟩
    · have hlt : k < len := by assumption
      have hget : ns[k]? = some s := by rw [← hs, List.getD_eq_getElem?_getD, List.getElem?_eq_getElem (by omega)]; rfl
      have htake : ns.take (k + 1) = ns.take k ++ [s] := by rw [List.take_add_one, hget]; rfl
      have hne : ¬ s = [] := by assumption
      have h100 : (s.length : Int) ≤ 100 := by assumption
      have hnin : (s.isEmpty = false ∧ (s.length : Int) ≤ 100) ∧ ¬s ∈ List.take k ns := by assumption
      go_roundw
      case rel =>
        refine ⟨k + 1, by omega, by first | go_num | (refine congrArg _ ?_; rw [IntWalk.wrap64_in _ (by omega)]; omega) | (simp; rw [IntWalk.wrap64_in _ (by omega)]; omega), ?_, ?_, ?_⟩
        · rw [htake, Dn_snoc]; exact hown1
        · exact hnx.grown hgrow1 hnx.size (fun j hj => by cases hj; exact Nat.le_refl _)
        · intro a u ha hu
          by_cases e : a = k
          · subst e
            rw [hget] at hu; cases hu
            exact ⟨⟨hne, by omega⟩, hnin.2⟩
          · exact hok a u (by omega) hu
      case measure => simp [intOf]; omega
    · have hb' := bad (by assumption) (fun h => by have := h.1.2; omega)
      go_ret
      exact ⟨by rw [hb']; rfl, hnx⟩
    · have : k = len := by omega
      subst this
      go_ret
      exact ⟨by rw [hR.2 hok]; rfl, hnx⟩

set_option maxRecDepth 100000 in
theorem names_none (a : Option Addr) (cap : Nat) (w : World) : Calls Tryd.prog 57 #[.slice a 0 cap] w fun e w' => e = .returned (.bool true) ∧ Below w.heap.size w w' := by
  have hmm := @run_makeMap Tryd.prog
  go_enter Tryd.func57, Tryd.ntmps57
  go_wp2
  refine wp_loop_rounds 1 ?_
  rw [rounds_succ]
  go_wp2
  go_ret
  exact ⟨rfl, (Below.refl _ _).alloc (Nat.le_refl _) _⟩
end Go.Abs.Names
namespace Go.Abs
open Go Go.Proofs Go.RowKit

theorem rel_below {K : Kr} {σ : AHeap} {w w' : World} (r : Rel K σ w) (h : Below w.heap.size w w') : Rel K σ w' := by
  have hle := h.size
  refine ⟨r.ext.trans (h.mono ?_), r.oth.trans ⟨hle, fun k o hk _ => by rw [h.block k (Array.getElem?_eq_some_iff.1 hk).1]; exact hk⟩, fun b o v hb => ?_, r.nd, r.bnd, fun b L cb h1 h2 => Nat.lt_of_lt_of_le (r.lit b L cb h1 h2) hle, fun b blk hb => ?_, r.inj⟩
  · exact r.ext.size
  · have h1 := r.imm b o v hb
    have hlt : b < w.heap.size := by
      unfold World.cell? at h1
      split at h1
      · rename_i hh
        exact (Array.getElem?_eq_some_iff.1 hh).1
      · cases h1
    rw [h.cell hlt]; exact h1
  · have ho := r.own b blk hb
    cases blk with
    | cells sz xs =>
      refine ⟨ho.1, ?_⟩
      rcases ho.2 with h1 | ⟨cb, p, cs, ty, h1, h2, h3, h4, h5⟩
      · exact .inl h1
      · exact .inr ⟨cb, p, cs, ty, h1, h2, h3, (h.block cb (Array.getElem?_eq_some_iff.1 h4).1).trans h4, h5⟩

theorem namesOk_iff {ns : List (List UInt8)} : namesOk ns = true ↔ ∀ (a : Nat) (s : List UInt8), ns[a]? = some s → (s ≠ [] ∧ s.length ≤ 100) ∧ ∀ (k : Nat) (u : List UInt8), k < a → ns[k]? = some u → u ≠ s := by
  rw [namesOk, Bool.and_eq_true, List.all_eq_true, decide_eq_true_eq]
  constructor
  · rintro ⟨h1, h2⟩ a s hs
    refine ⟨by simpa using h1 s (List.mem_of_getElem? hs), fun k u hk hu e => ?_⟩
    subst e
    obtain ⟨ha, e1⟩ := List.getElem?_eq_some_iff.1 hs
    obtain ⟨hk', e2⟩ := List.getElem?_eq_some_iff.1 hu
    exact List.pairwise_iff_getElem.1 h2 k a hk' ha hk (e2.trans e1.symm)
  · intro h
    refine ⟨fun s hs => ?_, List.pairwise_iff_getElem.2 fun k a hk ha hka e => ?_⟩
    · obtain ⟨a, ha⟩ := List.getElem?_of_mem hs
      simpa using (h a s ha).1
    · exact (h a ns[a] (List.getElem?_eq_getElem ha)).2 k ns[k] hka (List.getElem?_eq_getElem hk) e

theorem okTo_iff {ns : List (List UInt8)} {len : Nat} (hl : ns.length = len) : namesOk ns = true ↔ Names.okTo ns len := by
  rw [namesOk_iff]
  constructor
  · intro h a s _ hs
    refine ⟨(h a s hs).1, fun hm => ?_⟩
    obtain ⟨k, hk⟩ := List.getElem?_of_mem hm
    rw [List.getElem?_take] at hk
    split at hk
    · exact (h a s hs).2 k s (by assumption) hk rfl
    · cases hk
  · intro h a s hs
    have ha := (List.getElem?_eq_some_iff.1 hs).1
    refine ⟨(h a s (by omega) hs).1, fun k u hk hu e => (h a s (by omega) hs).2 ?_⟩
    subst e
    refine List.mem_of_getElem? (i := k) ?_
    rw [List.getElem?_take_of_lt hk]; exact hu

theorem c_names (ns : List (List UInt8)) (f : Bool) (hl : ns.length ≤ 140737488355328) (hs : ∀ s ∈ ns, s.length ≤ maxLen) (σ : AHeap) : ACalls Tryd.prog 57 [.slc 1 (ns.map .str) f] σ fun r σ' => r = .bool (namesOk ns) ∧ σ' = σ := by
  intro K w vs hr hv
  have fin : (Calls Tryd.prog 57 vs.toArray w fun e w' => e = .returned (.bool (namesOk ns)) ∧ Below w.heap.size w w') → Calls Tryd.prog 57 vs.toArray w fun e w' => ∃ v K' r σ', e = .returned v ∧ K.le K' ∧ Rel K' σ' w' ∧ VR K' r v ∧ r = .bool (namesOk ns) ∧ σ' = σ := fun h =>
    h.mono fun e w' ⟨h1, h2⟩ => ⟨_, K, .bool (namesOk ns), σ, h1, Kr.le.refl K, rel_below hr h2, VRel.bool .nil, rfl, rfl⟩
  refine fin ?_
  obtain ⟨v, vs', rfl, h1, h2⟩ := hv.ex
  obtain rfl := h2.nil_inv
  unfold VR at h1
  generalize hxs : ns.map AVal.str = xs at h1
  cases h1 with
  | @slc0 _ _ a cap _ _ hf r =>
    have : ns = [] := List.map_eq_nil_iff.1 hxs
    subst this
    exact Names.names_none a cap w
  | @slc _ _ _ a n cap us _ _ hn he hsp hm hvv hc hf r =>
    subst hxs
    obtain ⟨b, o, sp⟩ := a
    simp only at hsp hm
    subst hsp
    have hnl : ns.length = n := by simpa using hn
    by_cases h0 : n = 0
    · subst h0
      have : ns = [] := List.length_eq_zero_iff.1 hnl
      subst this
      exact Names.names_none _ cap w
    have hcell : ∀ j, j < n → w.cell? ⟨b, o + j, none⟩ = some (Names.str (ns.getD j [])) := by
      intro j hj
      have hfl : ((ns.map AVal.str).flatMap AVal.cells)[j]? = some (.str (ns.getD j [])) := by
        have : (ns.map AVal.str).flatMap AVal.cells = ns.map AVal.str := by
          clear hm hvv he hn hr hv h2 fin hs hl hnl
          induction ns with
          | nil => rfl
          | cons s ns ih => simp only [List.map_cons, List.flatMap_cons, ih]; rfl
        rw [this, List.getElem?_map, List.getD_eq_getElem?_getD, List.getElem?_eq_getElem (by omega)]; rfl
      obtain ⟨u, hu, hvu⟩ := hvv.get hfl
      have := hm j u hu
      have hw := hr.imm _ _ _ this
      rw [hw]
      unfold VR at hvu
      cases hvu with
      | str _ => rfl
    have hb : b < w.heap.size := by
      have h1 := hcell 0 (by omega)
      unfold World.cell? at h1
      split at h1
      · rename_i hh
        exact (Array.getElem?_eq_some_iff.1 hh).1
      · cases h1
    exact Names.names_any b o n cap ns w hnl (by omega) hb hcell hs (namesOk ns) (okTo_iff hnl)
end Go.Abs
