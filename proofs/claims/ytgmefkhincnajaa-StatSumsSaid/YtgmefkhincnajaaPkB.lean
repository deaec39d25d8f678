/- Part B of a proof: merged by program. -/
import Derived.CallsIn
import Derived.OrdersIn
import Derived.TacticsIn
import Derived.RangeFuncRecord
import Derived.ChangeSame
import Derived.Below
import Derived.Deep.Slices
import Derived.Carry
import Derived.Test.YtgmefkhincnajaaPkA
/-
  A program logic over abstract states, part K: make, append, copy, clip, calls; any operation.
-/
namespace Go.Abs
open Go Go.RowKit

set_option linter.unusedVariables false
set_option linter.unusedSimpArgs false
variable {P : Program} {K : Kr} {σ : AHeap} {w : World} {R : AVal → AHeap → Prop}

theorem flat_replicate (z : AVal) : ∀ n : Nat, flat (List.replicate n z) = (List.replicate n z.cells).flatten
  | 0 => rfl
  | n + 1 => by simp [List.replicate_succ, flat_replicate z n]

theorem range_mod_flatten {α : Type} [Inhabited α] (l : List α) (h : 0 < l.length) : ∀ n : Nat, (List.range (n * l.length)).map (fun i => l[i % l.length]!) = (List.replicate n l).flatten
  | 0 => by simp
  | n + 1 => by
    rw [Nat.add_mul, Nat.one_mul, List.range_add, List.map_append, range_mod_flatten l h n, List.replicate_succ', List.flatten_append]
    congr 1
    simp only [List.map_map, List.flatten_cons, List.flatten_nil, List.append_nil]
    apply List.ext_getElem
    · simp
    · intro i h1 h2
      simp at h1
      simp [Nat.mod_eq_of_lt h1, getElem!_pos l i h1, List.getElem?_eq_getElem h1]

theorem zeroRow_toList (z : Array Value) (n : Nat) (h : 0 < z.size) : ((Array.range (n * z.size)).map (z[· % z.size]!)).toList = (List.replicate n z.toList).flatten := by
  rw [← range_mod_flatten z.toList (by simpa using h) n]
  simp only [Array.toList_map, Array.toList_range, Array.length_toList]
  apply List.map_congr_left
  intro a _
  simp [Array.getElem!_eq_getD, List.getElem!_eq_getElem?_getD]

theorem VRel.replicate {l : List AVal} {m : List Value} (h : VRel K l m) : ∀ n : Nat, VRel K (List.replicate n l).flatten (List.replicate n m).flatten
  | 0 => .nil
  | n + 1 => by
    simp only [List.replicate_succ, List.flatten_cons]
    exact h.append (VRel.replicate h n)

theorem e_mks {t e : TypeId} {i : TypeInfo} {z : AVal} (ht : P.underlying t = some (.slice e)) (hi : P.info? e = some i) (hz : i.zero.bind constA = some z) (hzl : z.cells.length = i.size) (h0 : 0 < i.size) {vs : List AVal} {p q : Value} (hv : VRel K vs [p, q]) (h : emks i.size i.bytes z vs σ R) (r : Rel K σ w) :
    GoodV K R ((Instr.makeSlice t p q).run P w) := by
  unfold emks at h
  split at h
  · rename_i l c
    obtain ⟨he, hl0, hlc, hc63, hb, h⟩ := h
    obtain ⟨u1, u2, e1, h1, h2⟩ := hv.two_inv
    simp at e1; obtain ⟨rfl, rfl⟩ := e1
    rw [h1.int_inv, h2.int_inv]
    simp only [Option.bind_eq_some_iff] at hz
    obtain ⟨zv, hzv, hcz⟩ := hz
    have hzr := (constA_ok (K := K) hcz).1.cells
    have hzs : zv.cells.size = i.size := by rw [← Array.length_toList, ← hzr.length, hzl]
    have e1 : IntKind.i64.wrap l = l := IntWalk.i64_in l (by omega)
    have e2 : IntKind.i64.wrap c = c := IntWalk.i64_in c (by omega)
    have hn1 : ¬ (c < 0) := by omega
    have hn2 : ¬ ((i.bytes : Int) * c > 2 ^ 48) := by
      have : (2 : Int) ^ 48 = 281474976710656 := by decide
      omega
    have hn3 : ¬ (l < 0) := by omega
    have hn4 : ¬ (l > c) := by omega
    have hrun : (Instr.makeSlice t (.int .i64 l) (.int .i64 c)).run P w = .ok (.slice (some ⟨w.heap.size, 0, none⟩) l.toNat c.toNat) (w.alloc (.cells ((Array.range (c.toNat * i.size)).map ((if c.toNat * i.size = 0 then #[] else zv.cells)[· % (if c.toNat * i.size = 0 then #[] else zv.cells).size]!)) e)) := by
      unfold Instr.makeSlice
      simp only [Sem.run_bind, run_underlying ht, Result.andThen_ok, asInt, asIntOf, Sem.run_pure, typeInfo, run_program, hi, e1, e2]
      have hcond : ((decide (c < 0) || decide ((i.bytes : Int) * c > 2 ^ 48)) || decide (l < 0) || decide (l > c)) = false := by simp [hn1, hn3, hn4]; omega
      simp only [hcond, Bool.false_eq_true, if_false, Sem.run_pure, Result.andThen_ok, run_askRoom, sizeOf, typeInfo, Sem.run_bind, run_program, hi]
      by_cases hz0 : c.toNat * i.size = 0
      · simp only [if_pos hz0, Sem.run_pure, Result.andThen_ok, newRow, Sem.run_bind, run_newObj]
        rfl
      · simp only [if_neg hz0, Sem.run_bind, run_zeroValue hi hzv, Sem.run_pure, Result.andThen_ok, newRow, run_newObj]
        rfl
    rw [hrun]
    refine good_new r h (by intro x hx; rw [List.eq_of_mem_replicate hx]; exact he) (pcap := c.toNat) (by simp) (by simp; omega) (by simp only [maxLen]; omega) ?_ ?_
    · rw [flat_replicate, List.length_replicate]
      by_cases hz0 : c.toNat * i.size = 0
      · have hc0 : c.toNat = 0 := by
          rcases Nat.mul_eq_zero.1 hz0 with h | h
          · exact h
          · omega
        have hl0' : l.toNat = 0 := by omega
        rw [hl0']
        simpa using VRel.nil
      · simp only [if_neg hz0]
        have e3 := zeroRow_toList zv.cells c.toNat (by omega)
        rw [← hzs, e3, hzs]
        have e4 : ((List.replicate c.toNat zv.cells.toList).flatten).take (l.toNat * i.size) = (List.replicate l.toNat zv.cells.toList).flatten := by
          have : List.replicate c.toNat zv.cells.toList = List.replicate l.toNat zv.cells.toList ++ List.replicate (c.toNat - l.toNat) zv.cells.toList := by
            rw [List.replicate_append_replicate]; congr 1; omega
          rw [this, List.flatten_append, List.take_append_of_le_length (by simp [hzs]), List.take_of_length_le (by simp [hzs])]
        rw [e4]
        exact VRel.replicate hzr _
    · intro K' hl
      have := VRel.arr (K := K') (off := 0) (n := l.toNat) (cap := c.toNat) hl (by omega) (by omega) .nil
      simpa [VR] using this
  · exact h.elim

/-! ### append -/

theorem run_app_fit {t u e ty : TypeId} {d : TypeDesc} {i : TypeInfo} (ht : P.underlying t = some (.slice e)) (hu : P.underlying u = some d) (hd : ∀ k, d ≠ .int k) (hi : P.info? e = some i) {base : Option Addr} {sLen sCap m : Nat} {x : Value} {news : Array Value}
    (hlx : (Builtin.lenOf x).run P w = .ok m w) (hf : (Builtin.firstCells i.size m x).run P w = .ok news w) (hfit : sLen + m ≤ sCap) {w' : World}
    (hst : (base = none ∧ w' = w) ∨ ∃ a, base = some a ∧ (storeCells (a.add (sLen * i.size)) news.toList).run P w = .ok () w') :
    (Builtin.append_ #[t, u] ty #[.slice base sLen sCap, x]).run P w = .ok (.slice base (sLen + m) sCap) w' := by
  have hz : (d matches .int _) = false := by cases d <;> first | rfl | exact absurd rfl (hd _)
  rcases hst with ⟨rfl, rfl⟩ | ⟨a, rfl, hst⟩
  · unfold Builtin.append_
    simp [run_underlying ht, run_underlying hu, sizeOf, typeInfo, hi, hlx, hf, hfit]
    try (cases d <;> first | exact absurd rfl (hd _) | simp [hlx, hf, hfit])
  · unfold Builtin.append_
    simp [run_underlying ht, run_underlying hu, sizeOf, typeInfo, hi, hlx, hf, hfit]
    try (cases d <;> first | exact absurd rfl (hd _) | simp [hlx, hf, hfit, hst])

theorem run_app_grow {t u e ty : TypeId} {d : TypeDesc} {i : TypeInfo} {z : Value} (ht : P.underlying t = some (.slice e)) (hu : P.underlying u = some d) (hd : ∀ k, d ≠ .int k) (hi : P.info? e = some i) (hz : i.zero = some z) {base : Option Addr} {sLen sCap m : Nat} {x : Value} {olds news : Array Value}
    (hlx : (Builtin.lenOf x).run P w = .ok m w) (hfo : (Builtin.firstCells i.size sLen (.slice base sLen sCap)).run P w.drew = .ok olds w.drew) (hf : (Builtin.firstCells i.size m x).run P w.drew = .ok news w.drew) (hg : sCap < sLen + m)
    (h63 : ((sLen + m : Nat) : Int) ≤ 9223372036854775807) (hfit : Builtin.nextslicecap (sLen + m) sCap * i.bytes ≤ 281474976710656) :
    (Builtin.append_ #[t, u] ty #[.slice base sLen sCap, x]).run P w =
      .ok (.slice (some ⟨w.heap.size, 0, none⟩) (sLen + m) (grownCap w (sLen + m) sCap e)) (w.drew.alloc (.cells (olds ++ news ++ Builtin.zeroCells z.cells (grownCap w (sLen + m) sCap e - (sLen + m))) e)) := by
  have hn : ¬ (sLen + m ≤ sCap) := by omega
  have h63' : ¬ (9223372036854775807 < ((sLen : Int) + (m : Int))) := by omega
  have h48' : ¬ (281474976710656 < Builtin.nextslicecap (sLen + m) sCap * i.bytes) := by omega
  unfold Builtin.append_
  simp [run_underlying ht, run_underlying hu, sizeOf, typeInfo, zeroValue, hi, hz, hlx, hn, h63', h48']
  try (cases d <;> first | exact absurd rfl (hd _) | simp [hlx, hn, h63', h48', Question.forced, hf, hfo, newRow, grownCap, zeroValue, typeInfo, hi, hz])

theorem hren_hset (σ : AHeap) (b b' : Nat) (x y : ABlk) : hren (hset σ b x) b b' y = hren σ b b' y := by
  induction σ with
  | nil => rfl
  | cons p σ ih =>
    obtain ⟨a, z⟩ := p
    simp only [hset, hren]
    split
    · rename_i h; simp [hren, h]
    · rename_i h; simp [hren, h, ih]

theorem hget_hset_same {σ : AHeap} {b : Nat} {x y : ABlk} (h : hget σ b = some x) : hget (hset σ b y) b = some y := by
  induction σ with
  | nil => simp [hget] at h
  | cons p σ ih =>
    obtain ⟨a, z⟩ := p
    simp only [hget] at h
    simp only [hset]
    split
    · rename_i e; simp [hget, e]
    · rename_i e; rw [if_neg e] at h; simp only [hget, if_neg e]; exact ih h

theorem e_app {t u e ty : TypeId} {d : TypeDesc} {i : TypeInfo} {z : Value} {za : AVal} (ht : P.underlying t = some (.slice e)) (hu : P.underlying u = some d) (hd : ∀ k, d ≠ .int k) (hi : P.info? e = some i) (hz : i.zero = some z) (hza : constA z = some za) (hzl : za.cells.length = i.size)
    (h0 : 0 < i.size) (hb0 : 0 < i.bytes) {s : AVal} {sv x : Value} (hs : VR K s sv) {ys : List AVal} {vs : List Value} (hyv : VRel K (flat ys) vs) (hye : ∀ y ∈ ys, y.elem i.size) (hlx : (Builtin.lenOf x).run P w = .ok ys.length w)
    (hf : (Builtin.firstCells i.size ys.length x).run P w = .ok vs.toArray w) (hfd : (Builtin.firstCells i.size ys.length x).run P w.drew = .ok vs.toArray w.drew)
    (h : eapp i.size i.bytes s ys σ R) (r : Rel K σ w) : GoodV K R ((Builtin.append_ #[t, u] ty #[sv, x]).run P w) := by
  have hzs : z.cells.size = i.size := by rw [← Array.length_toList, ← (constA_ok (K := K) hza).1.cells.length, hzl]
  have hvl : vs.length = ys.length * i.size := by rw [← hyv.length, flat_length hye]
  have hlen63 : ∀ n : Nat, n * i.bytes ≤ 140737488355328 → n ≤ 140737488355328 := by
    intro n hn
    have : n * 1 ≤ n * i.bytes := Nat.mul_le_mul_left _ hb0
    omega
  -- a new row
  have grow : ∀ (xs : List AVal) (olds : List Value) (base : Option Addr) (sCap : Nat), (∀ y ∈ xs, y.elem i.size) → VRel K (flat xs) olds → sv = .slice base xs.length sCap → sCap < xs.length + ys.length →
      (Builtin.firstCells i.size xs.length (.slice base xs.length sCap)).run P w.drew = .ok olds.toArray w.drew → (xs.length + ys.length) * i.bytes ≤ 140737488355328 →
      (∀ b', fresh σ b' → ∃ σ', (∀ K' : Kr, ∀ w', Rel K' ((b', .cells i.size (xs ++ ys)) :: σ) w' → Rel K' σ' w') ∧ R (.arr i.size b' 0 (xs.length + ys.length)) σ') →
      GoodV K R ((Builtin.append_ #[t, u] ty #[sv, x]).run P w) := by
    intro xs olds base sCap hxe hxv hsv hg hfo hby hR
    subst hsv
    have hle := hlen63 _ hby
    rw [run_app_grow ht hu hd hi hz hlx hfo hfd hg (by omega) (growslice_fits hg hby)]
    have hge := grownCap_ge w (xs.length + ys.length) sCap e
    have hcm : grownCap w (xs.length + ys.length) sCap e ≤ maxLen := grownCap_le_maxLen w _ sCap e (by simp only [maxLen]; omega)
    have hol : olds.length = xs.length * i.size := by rw [← hxv.length, flat_length hxe]
    have hall : ∀ y ∈ xs ++ ys, y.elem i.size := by
      intro y hy
      rcases List.mem_append.1 hy with h | h
      · exact hxe y h
      · exact hye y h
    obtain ⟨σ', hsub, hRR⟩ := hR K.nn r.drew.fresh
    have hnew := r.drew.newOwned i.size (grownCap w (xs.length + ys.length) sCap e) (olds.toArray ++ vs.toArray ++ Builtin.zeroCells z.cells (grownCap w (xs.length + ys.length) sCap e - (xs.length + ys.length))) e (xs ++ ys) hall (by
      simp only [Array.size_append, List.size_toArray, size_zeroCells, hzs, hol, hvl, ← Nat.add_mul]
      congr 1
      omega) (by simpa using hge) hcm (by
      simp only [Array.toList_append, List.length_append, Nat.add_mul, flat_append]
      rw [List.take_append_of_le_length (by simp [hol, hvl]), List.take_of_length_le (by simp [hol, hvl])]
      exact hxv.append hyv)
    refine ⟨_, _, σ', Kr.le_add r.drew _, hsub _ _ hnew, ?_, hRR⟩
    have := VRel.arr (K := K.add ⟨some w.drew.heap.size, i.size, grownCap w (xs.length + ys.length) sCap e⟩) (off := 0) (n := xs.length + ys.length) (cap := grownCap w (xs.length + ys.length) sCap e) (Kr.add_new _ _) (by omega) hge .nil
    simpa [VR] using this
  unfold eapp at h
  split at h
  · rename_i zz xs
    obtain ⟨hby, hzz, h⟩ := h
    unfold VR at hs
    cases hs with
    | @slc0 _ _ a cap _ _ hcap _ =>
      have := hcap rfl
      subst this
      simp only at h
      by_cases hys : ys = []
      · subst hys
        have hv0 : vs = [] := List.eq_nil_of_length_eq_zero (by simpa using hvl)
        subst hv0
        rw [run_app_fit ht hu hd hi hlx hf (by simp) (w' := w) (by
          cases a with
          | none => exact .inl ⟨rfl, rfl⟩
          | some a => exact .inr ⟨a, rfl, by simp [storeCells]⟩)]
        exact ⟨_, _, _, Kr.le_add r _, r.newNone i.size, VRel.arr0 (Kr.add_new _ _) .nil, h K.nn r.fresh⟩
      · have hpos : 0 < ys.length := List.length_pos_iff.2 hys
        refine grow [] [] a 0 (by simp) .nil rfl (by simpa using hpos) (run_firstCells (P := P) (K := K) (by simp) VRel.nil (.inl rfl)) (by simpa using hby) (fun b' hb' => ⟨_, fun _ _ h => h, ?_⟩)
        simpa using h b' hb'
    | @slc _ _ _ a n cap vs' _ _ hn he hsp hm hxv hc hcap _ =>
      have := hcap rfl
      subst this
      subst hn
      cases xs with
      | nil =>
        simp only at h
        by_cases hys : ys = []
        · subst hys
          have hv0 : vs = [] := List.eq_nil_of_length_eq_zero (by simpa using hvl)
          subst hv0
          rw [run_app_fit ht hu hd hi hlx hf (by simp) (w' := w) (.inr ⟨a, rfl, by simp [storeCells]⟩)]
          exact ⟨_, _, _, Kr.le_add r _, r.newNone i.size, VRel.arr0 (Kr.add_new _ _) .nil, h K.nn r.fresh⟩
        · have hpos : 0 < ys.length := List.length_pos_iff.2 hys
          refine grow [] [] (some a) 0 (by simp) .nil rfl (by simpa using hpos) (run_firstCells (P := P) (K := K) (by simp) VRel.nil (.inl rfl)) (by simpa using hby) (fun b' hb' => ⟨_, fun _ _ h => h, ?_⟩)
          simpa using h b' hb'
      | cons x0 xs0 =>
        simp only at h
        have hzz' : zz = i.size := by rcases hzz with h | h; exact h; cases h
        by_cases hys : ys = []
        · have hR := h.1 hys
          subst hys
          have hv0 : vs = [] := List.eq_nil_of_length_eq_zero (by simpa using hvl)
          subst hv0
          rw [run_app_fit ht hu hd hi hlx hf (by simp) (w' := w) (.inr ⟨a, rfl, by simp [storeCells]⟩)]
          exact ⟨K, _, σ, Kr.le.refl K, r, VRel.slc rfl he hsp hm hxv (by simp) (fun _ => by simp) .nil, hR⟩
        · have hpos : 0 < ys.length := List.length_pos_iff.2 hys
          have hce := imm_cells r.drew hsp hm
          refine grow (x0 :: xs0) vs' (some a) _ (by rw [← hzz']; exact he) hxv rfl (by omega) ?_ hby (fun b' hb' => ⟨_, fun _ _ h => h, ?_⟩)
          · exact run_firstCells (P := P) (K := K) (by rw [← hzz']; exact he) hxv (.inr ⟨a, rfl, hsp, hce⟩)
          · exact h.2 hys b' hb'
  · rename_i s1 b n
    obtain ⟨xs, hg, hl, hby, h⟩ := h
    have hmem := hget_mem hg
    unfold VR at hs
    cases hs with
    | @arr _ _ _ cb _ pcap cap _ _ hloc ho hn _ =>
      subst hl
      obtain ⟨hss, hxe, hx, hm, hbase, cs, ty', hw, hsz, hxv, hc⟩ := r.ownCells hg hloc
      subst hss
      by_cases hfit : xs.length + ys.length ≤ cap
      · have hcap : xs.length * i.size + ys.length * i.size ≤ cs.size := by
          rw [hsz, ← Nat.add_mul]; exact Nat.mul_le_mul_right _ (by omega)
        have hst := run_storeCells_at P cb (xs.length * i.size) ty' vs 0 cs w hw (by simp [hvl]; omega) (hyv.ones (flat_ones hye))
        simp only [Nat.add_zero] at hst
        rw [run_app_fit ht hu hd hi hlx hf hfit (.inr ⟨_, rfl, by rw [addr_add _ _ rfl]; simp only [Nat.zero_mul, Nat.zero_add]; exact hst⟩)]
        have hall : ∀ y ∈ xs ++ ys, y.elem i.size := by
          intro y hy
          rcases List.mem_append.1 hy with h | h
          · exact hxe y h
          · exact hye y h
        have hwr := r.write hmem hloc hall (cs.toList.take (xs.length * i.size) ++ vs ++ cs.toList.drop (xs.length * i.size + vs.length)).toArray (by simp [hvl]; omega) (by simp; omega) (by
          simp only [List.length_append, Nat.add_mul, flat_append]
          rw [List.take_append_of_le_length (by simp [hvl]; omega), List.take_of_length_le (by simp [hvl]; omega)]
          exact hxv.append hyv)
        have hmem' : (b, ABlk.cells i.size (xs ++ ys)) ∈ hset σ b (.cells i.size (xs ++ ys)) := by
          have hh : hget (hset σ b (.cells i.size (xs ++ ys))) b = some (.cells i.size (xs ++ ys)) := hget_hset_same hg
          exact hget_mem hh
        have hrn := hwr.rename hmem' hloc
        rw [hren_hset] at hrn
        refine ⟨_, _, _, Kr.le_add hwr _, hrn, ?_, h K.nn r.fresh⟩
        have := VRel.arr (K := K.add ⟨some cb, i.size, pcap⟩) (off := 0) (n := xs.length + ys.length) (cap := cap) (Kr.add_new _ _) (by omega) hfit .nil
        simpa [VR] using this
      · have hce : CellsAt w.drew ⟨cb, 0 * i.size, none⟩ (cs.toList.take (xs.length * i.size)) := by simp only [Nat.zero_mul]; exact fun j v e => hc j v e
        refine grow xs _ _ cap hxe hxv rfl (by omega) (run_firstCells (P := P) (K := K) hxe hxv (.inr ⟨_, rfl, rfl, hce⟩)) hby (fun b' hb' => ⟨hren σ b b' (.cells i.size (xs ++ ys)), fun K' w' hr => ?_, h b' hb'⟩)
        exact hr.sub (nodup_hren r.nd hb') (fun p hp => by
          obtain ⟨c, y⟩ := p
          rcases mem_hren r.nd hp with ⟨rfl, rfl⟩ | ⟨_, hp⟩
          · simp
          · exact List.mem_cons_of_mem _ hp)
    | @arr0 _ _ pcap a _ _ hloc _ =>
      have hxs : xs = [] := List.eq_nil_of_length_eq_zero hl
      subst hxs
      by_cases hys : ys = []
      · subst hys
        have hv0 : vs = [] := List.eq_nil_of_length_eq_zero (by simpa using hvl)
        subst hv0
        rw [run_app_fit ht hu hd hi hlx hf (by simp) (w' := w) (by
          cases a with
          | none => exact .inl ⟨rfl, rfl⟩
          | some a => exact .inr ⟨a, rfl, by simp [storeCells]⟩)]
        have hsz' : s1 = i.size := by
          have ho := r.own b _ hmem
          rcases ho.2 with ⟨p, h1, _⟩ | ⟨cb', p, cs', ty', h1, _⟩
          · rw [hloc] at h1; simp at h1; exact h1.1
          · rw [hloc] at h1; simp at h1
        subst hsz'
        have hrn := r.rename hmem hloc
        exact ⟨_, _, _, Kr.le_add r _, hrn, VRel.arr0 (Kr.add_new _ _) .nil, by simpa using h K.nn r.fresh⟩
      · have hpos : 0 < ys.length := List.length_pos_iff.2 hys
        refine grow [] [] a 0 (by simp) .nil rfl (by simpa using hpos) (run_firstCells (P := P) (K := K) (by simp) VRel.nil (.inl rfl)) (by simpa using hby) (fun b' hb' => ⟨hren σ b b' (.cells i.size ([] ++ ys)), fun K' w' hr => ?_, h b' hb'⟩)
        exact hr.sub (nodup_hren r.nd hb') (fun p hp => by
          obtain ⟨c, y⟩ := p
          rcases mem_hren r.nd hp with ⟨rfl, rfl⟩ | ⟨_, hp⟩
          · simp
          · exact List.mem_cons_of_mem _ hp)
  · exact h.elim

end Go.Abs

/-
  A program logic over abstract states, part L: copy, clip, calls; any operation.
-/
namespace Go.Abs
open Go Go.RowKit

set_option linter.unusedVariables false
set_option linter.unusedSimpArgs false
variable {P : Program} {K : Kr} {σ : AHeap} {w : World} {R : AVal → AHeap → Prop}

theorem bytes_vals (K : Kr) (t : List UInt8) : VRel K (flat (bytes t)) (t.map fun b => Value.int .u8 b.toNat) ∧ ∀ y ∈ bytes t, y.elem 1 := by
  induction t with
  | nil => exact ⟨.nil, by simp [bytes]⟩
  | cons b t ih =>
    refine ⟨.int ih.1, ?_⟩
    intro y hy
    rcases List.mem_cons.1 hy with rfl | hy
    · exact ⟨rfl, by simp [byte, AVal.cells, AVal.one]⟩
    · exact ih.2 y hy

theorem e_appv {t u e ty : TypeId} {d : TypeDesc} {i : TypeInfo} {za : AVal} (ht : P.underlying t = some (.slice e)) (hu : P.underlying u = some d) (hd : ∀ k, d ≠ .int k) (hi : P.info? e = some i) (hza : i.zero.bind constA = some za) (hzl : za.cells.length = i.size)
    (h0 : 0 < i.size) (hb0 : 0 < i.bytes) {vs : List AVal} {p q : Value} (hv : VRel K vs [p, q]) (h : eappv i.size i.bytes vs σ R) (r : Rel K σ w) : GoodV K R ((Builtin.append_ #[t, u] ty #[p, q]).run P w) := by
  simp only [Option.bind_eq_some_iff] at hza
  obtain ⟨z, hz, hza⟩ := hza
  unfold eappv at h
  split at h
  · rename_i s x
    obtain ⟨ys, hy, h⟩ := h
    obtain ⟨u1, u2, e1, h1, h2⟩ := hv.two_inv
    simp at e1; obtain ⟨rfl, rfl⟩ := e1
    obtain ⟨a, cap, vs', rfl, h4, h5, h6, h7⟩ := elems_cells r h2 hy
    exact e_app ht hu hd hi hz hza hzl h0 hb0 h1 h4 h5 (by simp [Builtin.lenOf]) (run_firstCells (P := P) (K := K) h5 h4 h7) (run_firstCells (P := P) (K := K) h5 h4 (by
      rcases h7 with h | ⟨a', e1, e2, e3⟩
      · exact .inl h
      · exact .inr ⟨a', e1, e2, fun j v e => e3 j v e⟩)) h r
  · exact h.elim

theorem e_apps {t u e ty : TypeId} {i : TypeInfo} {za : AVal} (ht : P.underlying t = some (.slice e)) (hu : P.underlying u = some .string) (hi : P.info? e = some i) (hza : i.zero.bind constA = some za) (hzl : za.cells.length = i.size)
    (h1s : i.size = 1) (h1b : i.bytes = 1) {vs : List AVal} {p q : Value} (hv : VRel K vs [p, q]) (h : eapps vs σ R) (r : Rel K σ w) : GoodV K R ((Builtin.append_ #[t, u] ty #[p, q]).run P w) := by
  simp only [Option.bind_eq_some_iff] at hza
  obtain ⟨z, hz, hza⟩ := hza
  unfold eapps at h
  split at h
  · rename_i s x
    obtain ⟨u1, u2, e1, h1, h2⟩ := hv.two_inv
    simp at e1; obtain ⟨rfl, rfl⟩ := e1
    rw [h2.str_inv]
    obtain ⟨hb1, hb2⟩ := bytes_vals K x
    have hsz : (⟨x.toArray⟩ : ByteArray).size = x.length := by simp [ByteArray.size]
    have hl : (bytes x).length = x.length := by simp [bytes]
    have hext : ((⟨x.toArray⟩ : ByteArray).extract 0 x.length).data = x.toArray := by
      apply Array.ext'
      simp [ByteArray.data_extract]
    have hfc : ∀ w : World, (Builtin.firstCells i.size (bytes x).length (.string ⟨x.toArray⟩)).run P w = .ok (x.map fun b => Value.int .u8 b.toNat).toArray w := by
      intro w
      simp only [Builtin.firstCells, Sem.run_pure, hl, hext]
      simp
    exact e_app ht hu (fun k => by simp) hi hz hza hzl (by omega) (by omega) h1 hb1 (by rw [h1s]; exact hb2) (by simp [Builtin.lenOf, hsz, hl]) (hfc w) (hfc w.drew) (by rw [h1s, h1b]; exact h) r
  · exact h.elim

theorem e_clip {t e : TypeId} {sz : Nat} (ht : P.underlying t = some (.slice e)) (hs : sizeA P e = some sz) {vs : List AVal} {p q q' : Value} (hv : VRel K vs [p, q, q']) (h : eclip sz vs σ R) (r : Rel K σ w) : GoodV K R ((Instr.sliceAt t p none (some q) (some q')).run P w) := by
  have hat : (Instr.sliceAt t p none (some q) (some q')).run P w = (Instr.slice t p none (some q) (some q')).run P w := by
    unfold Instr.sliceAt
    simp only [Sem.run_bind, run_underlying ht, Result.andThen_ok]
  rw [hat]
  unfold eclip at h
  split at h
  · rename_i s b off n k hh k' m
    obtain ⟨xs, hg, hon, h0, rfl, hmn, hR⟩ := h
    obtain ⟨u1, u2, u3, e1, h1, h2, h3⟩ := hv.three_inv
    simp at e1; obtain ⟨rfl, rfl, rfl⟩ := e1
    have hmem := hget_mem hg
    have hsub : asub s false true true [.arr s b off n, .int k hh, .int k' hh] = some (.arr s b off hh.toNat) := by
      simp [asub, bnds]
      omega
    unfold VR at h1
    cases h1 with
    | @arr _ _ _ cb _ pcap cap _ _ hloc ho hn _ =>
      obtain ⟨hss, hxe, hx, hm, hbase, cs, ty', hw, hsz, hxv, hc⟩ := r.ownCells hg hloc
      subst hss
      have hr := run_sliceBounds (P := P) (K := K) (w := w) (isS := true) (len := n) (cap := cap) (lo := false) (hi := true) (mx := true) (l := [.int k hh, .int k' hh]) (vlo := none) (vhi := some q) (vmx := some q') (a := 0) (b := hh) (c := hh) hn (by simp [bnds]) rfl rfl rfl (by
        simpa using VRel.cons h2 (VRel.cons h3 .nil)) (by omega)
      have hrun : (Instr.slice t (.slice (some ⟨cb, off * s, none⟩) n cap) none (some q) (some q')).run P w = .ok (.slice (some ⟨cb, off * s, none⟩) hh.toNat hh.toNat) w := by
        simp only [Instr.slice, Sem.run_bind, run_underlying ht, Result.andThen_ok, hr, run_sizeOf' hs, if_true, Sem.run_pure]
        congr 2
        split
        · rfl
        · simp [addr_add]
      rw [hrun]
      obtain ⟨vs', hvs, hK, hR'⟩ := r.freeze hmem hloc
      refine ⟨_, _, _, hK, hR', ?_, hR⟩
      have he' : ∀ x ∈ (xs.drop off).take hh.toNat, x.elem s := fun y hy => hxe y (List.mem_of_mem_drop (List.mem_of_mem_take hy))
      refine VR.slc_of_arr (by simp; omega) he' (vs := (vs'.drop (off * s)).take (hh.toNat * s)) ?_ (off * s) (fun j v e => ?_) (Nat.le_refl _) (fun _ => rfl)
      · rw [flat_take (fun y hy => hxe y (List.mem_of_mem_drop hy)), flat_drop hxe]
        exact ((hvs.mono hK).drop _).take _
      · rw [List.getElem?_take] at e
        split at e
        · rw [List.getElem?_drop] at e
          simpa [Kr.addImm] using e
        · cases e
    | @arr0 _ _ pcap a _ _ hloc _ =>
      have hh0 : hh = 0 := by omega
      subst hh0
      have hr := run_sliceBounds (P := P) (K := K) (w := w) (isS := true) (len := 0) (cap := 0) (lo := false) (hi := true) (mx := true) (l := [.int k 0, .int k' 0]) (vlo := none) (vhi := some q) (vmx := some q') (a := 0) (b := 0) (c := 0) (by omega) (by simp [bnds]) rfl rfl rfl (by
        simpa using VRel.cons h2 (VRel.cons h3 .nil)) (by omega)
      have hrun : (Instr.slice t (.slice a 0 0) none (some q) (some q')).run P w = .ok (.slice a 0 0) w := by
        simp only [Instr.slice, Sem.run_bind, run_underlying ht, Result.andThen_ok, hr, run_sizeOf' hs, if_true, Sem.run_pure]
        simp
      rw [hrun]
      refine ⟨K, _, _, Kr.le.refl K, r.sub ((keys_hdel_sub σ b).nodup r.nd) (fun p hp => (mem_hdel r.nd hp).2), ?_, hR⟩
      simp only [Int.toNat_zero, List.take_zero]
      exact VRel.slc0 (fun _ => rfl) .nil
  · obtain ⟨v, hsub, hR⟩ := h
    have hh := run_sub_q (P := P) (w := w) ht hs (lo := false) (hi := true) (mx := true) (vlo := none) (vhi := some q) (vmx := some q') (u := p) rfl rfl rfl (by simpa using hv) hsub r
    obtain ⟨u, w', K', e1, h1, h2, h3⟩ := hh
    rw [e1]
    exact ⟨K', v, σ, h1, h2, h3, hR⟩

theorem run_callFunc {f : FuncId} (h : goodFn P f = true) (args : Array Value) : (callFunc f args).run P w = .ok (.enter f args) w := by
  unfold goodFn at h
  split at h
  · rename_i fn hf
    simp only [Bool.and_eq_true, Bool.not_eq_true'] at h
    obtain ⟨h1, h2⟩ := h
    have hb : fn.body.isNone = false := by
      cases hfb : fn.body <;> simp [hfb] at h1 ⊢
    unfold callFunc
    simp only [Sem.run_bind, run_program, Result.andThen_ok, hf, h2, Bool.false_eq_true, if_false, hb, Sem.run_pure]
  · cases h

theorem e_call {f : FuncId} (hg : goodFn P f = true) {vs : List AVal} {args : Array Value} (hv : VRel K vs args.toList) (h : ACalls P f vs σ R) (r : Rel K σ w) : Good P K R ((callFunc f args).run P w) := by
  rw [run_callFunc hg]
  have := h K w args.toList r hv
  simpa [Good] using this

theorem quiet_good {res : Result Next} {x : AVal} (h : QNext P K σ w x res) (hR : R x σ) : Good P K R res := by
  obtain ⟨v, w', K', e, h1, h2, h3⟩ := h
  rw [e]
  exact ⟨K', x, σ, h1, h2, h3, hR⟩

theorem op_sound {fl : Bool} {o : Oper} {k : AK} {xs : List Operand} (hk : kOf P fl o = some (k, xs)) {ρ : Operand → Value} (hρc : ∀ v, ρ (.const v) = v) (hρf : ∀ f, ρ (.func f) = .func (.func f) #[] #[]) {vs : List AVal} (hv : VRel K vs (xs.map ρ)) (r : Rel K σ w) (h : astep P k vs σ R) : Good P K R ((execOp ρ o).run P w) := by
  by_cases hq : k.quiet = true
  · have hx : ∃ x, aquiet k σ vs = some x ∧ R x σ := by
      cases k <;> first | exact h | (simp [AK.quiet] at hq)
    obtain ⟨x, hx, hR⟩ := hx
    exact quiet_good (quiet_sound hk hq hv r hx) hR
  obtain ⟨dst, op, type, pos, after, guard⟩ := o
  cases op <;> simp only [kOf, reduceCtorEq, Option.some.injEq, Prod.mk.injEq] at hk
  case move y => obtain ⟨rfl, rfl⟩ := hk; exact absurd rfl hq
  case assign y => obtain ⟨rfl, rfl⟩ := hk; exact absurd rfl hq
  case pick c a b => obtain ⟨rfl, rfl⟩ := hk; exact absurd rfl hq
  case alloc e =>
    simp only [Option.bind_eq_bind, Option.bind_eq_some_iff, Option.pure_def, Option.some.injEq, Prod.mk.injEq] at hk
    obtain ⟨z, hz, rfl, rfl⟩ := hk
    obtain ⟨_, hone, h⟩ := h
    exact Good.value (e_alloc hz hone h r)
  case box e y =>
    simp only [Option.bind_eq_bind, Option.bind_eq_some_iff, Option.pure_def, Option.some.injEq, Prod.mk.injEq] at hk
    obtain ⟨s, hs, rfl, rfl⟩ := hk
    exact Good.value (e_box hs hv h r)
  case build t parts =>
    simp only [Option.bind_eq_bind, Option.bind_eq_some_iff, Option.pure_def] at hk
    obtain ⟨z, hz, ps, hp, hk⟩ := hk
    split at hk
    · split at hk
      · simp only [Option.some.injEq, Prod.mk.injEq] at hk; obtain ⟨rfl, rfl⟩ := hk; exact absurd rfl hq
      · cases hk
    · cases hk
  case buildSlice t n parts =>
    simp only [Option.bind_eq_bind, Option.bind_eq_some_iff, Option.pure_def] at hk
    obtain ⟨e, he, s, hs, z, hz, hk⟩ := hk
    split at hk
    · rename_i hc
      simp only [Option.some.injEq, Prod.mk.injEq] at hk
      obtain ⟨rfl, rfl⟩ := hk
      cases fl
      · exact absurd rfl hq
      · obtain ⟨c1, c2, c3⟩ := hc
        have hlen : (parts.toList.map (·.2)).length = n := by
          have := congrArg List.length c1
          simpa using this
        have hzip : (parts.map fun (i, x) => (i, ρ x)) = ((List.range n).zip ((parts.toList.map (·.2)).map ρ)).toArray := by
          rw [← c1]
          apply Array.ext'
          rw [Array.toList_map]
          exact zip_parts ρ parts.toList
        have := e_bslo (P := P) (elemA_some he) hs hz hv (by simpa using hlen) c3 c2 h r
        rw [← hzip] at this
        exact Good.value this
    · cases hk
  case load t y =>
    simp only [Option.bind_eq_bind, Option.bind_eq_some_iff, Option.pure_def, Option.some.injEq, Prod.mk.injEq] at hk
    obtain ⟨g, hg, s, hs, rfl, rfl⟩ := hk
    cases fl <;> exact absurd rfl hq
  case store t y z =>
    simp only [Option.bind_eq_bind, Option.bind_eq_some_iff, Option.pure_def, Option.some.injEq, Prod.mk.injEq] at hk
    obtain ⟨s, hs, rfl, rfl⟩ := hk
    obtain ⟨w', K', σ', e, h1, h2, h3⟩ := e_store (P := P) hs hv h r
    exact Good.skip e h1 h2 h3
  case nilCheck y => obtain ⟨rfl, rfl⟩ := hk; exact absurd rfl hq
  case binOp op t y z yt =>
    split at hk
    · split at hk <;> simp only [Option.some.injEq, Prod.mk.injEq, reduceCtorEq] at hk <;> obtain ⟨rfl, rfl⟩ := hk <;> exact absurd rfl hq
    · split at hk
      · simp only [Option.some.injEq, Prod.mk.injEq] at hk; obtain ⟨rfl, rfl⟩ := hk; exact absurd rfl hq
      · split at hk
        · rename_i h4
          obtain ⟨e, he⟩ := kindA_slice h4
          split at hk <;> simp only [Option.some.injEq, Prod.mk.injEq, reduceCtorEq] at hk <;> obtain ⟨rfl, rfl⟩ := hk
          · have hv' : VRel K vs [ρ y, .slice none 0 0] := by rw [← hρc (.slice none 0 0)]; exact hv
            have hg := e_isnil (P := P) (.inl ⟨rfl, rfl⟩) he y (.const (.slice none 0 0)) hv' h r
            rw [← hρc (.slice none 0 0)] at hg
            exact Good.value hg
          · have hv' : VRel K vs [ρ y, .slice none 0 0] := by rw [← hρc (.slice none 0 0)]; exact hv
            have hg := e_isnil (P := P) (.inr ⟨rfl, rfl⟩) he y (.const (.slice none 0 0)) hv' h r
            rw [← hρc (.slice none 0 0)] at hg
            exact Good.value hg
        · cases hk
  case unOp op t y =>
    split at hk <;> simp only [Option.some.injEq, Prod.mk.injEq, reduceCtorEq] at hk <;> obtain ⟨rfl, rfl⟩ := hk <;> exact absurd rfl hq
  case convert src dst y =>
    split at hk
    · simp only [Option.some.injEq, Prod.mk.injEq] at hk; obtain ⟨rfl, rfl⟩ := hk; exact absurd rfl hq
    · simp only [Option.some.injEq, Prod.mk.injEq] at hk; obtain ⟨rfl, rfl⟩ := hk; exact absurd rfl hq
    · split at hk
      · simp only [Option.some.injEq, Prod.mk.injEq] at hk; obtain ⟨rfl, rfl⟩ := hk; cases fl <;> exact absurd rfl hq
      · cases hk
    · rename_i e e' h1 h2
      split at hk
      · rename_i h3
        split at hk
        · rename_i hc
          obtain ⟨rfl, hsz⟩ := hc
          simp only [Option.some.injEq, Prod.mk.injEq] at hk
          obtain ⟨rfl, rfl⟩ := hk
          exact Good.value (e_strish h1 h3 hv h r)
        · cases hk
      · cases hk
    · cases hk
  case makeInterface t y =>
    split at hk
    · cases hk
    · simp only [Option.some.injEq, Prod.mk.injEq] at hk; obtain ⟨rfl, rfl⟩ := hk; exact absurd rfl hq
    · cases hk
  case makeFunc fn first captured =>
    cases fn <;> simp only [kOf, reduceCtorEq, Option.some.injEq, Prod.mk.injEq] at hk
    obtain ⟨rfl, rfl⟩ := hk
    exact absurd rfl hq
  case makeSlice t l c =>
    simp only [Option.bind_eq_bind, Option.bind_eq_some_iff, Option.pure_def] at hk
    obtain ⟨e, he, i, hi, z, hz, hk⟩ := hk
    split at hk
    · rename_i hc
      simp only [Option.some.injEq, Prod.mk.injEq] at hk
      obtain ⟨rfl, rfl⟩ := hk
      have hz' : i.zero.bind constA = some z := by simpa [Option.bind_eq_some_iff] using hz
      exact Good.value (e_mks (elemA_some he) hi hz' hc.1 hc.2 hv h r)
    · cases hk
  case slice t y lo hi mx =>
    split at hk
    · rename_i e he
      simp only [Option.bind_eq_bind, Option.bind_eq_some_iff, Option.pure_def] at hk
      obtain ⟨s, hs, hk⟩ := hk
      split at hk
      · simp only [Option.some.injEq, Prod.mk.injEq] at hk
        obtain ⟨rfl, rfl⟩ := hk
        exact Good.value (e_clip he hs hv h r)
      · simp only [Option.some.injEq, Prod.mk.injEq] at hk; obtain ⟨rfl, rfl⟩ := hk; exact absurd rfl hq
    · split at hk
      · simp only [Option.some.injEq, Prod.mk.injEq] at hk; obtain ⟨rfl, rfl⟩ := hk; exact absurd rfl hq
      · cases hk
    · cases hk
  case fieldAddr t y i =>
    simp only [Option.bind_eq_bind, Option.bind_eq_some_iff, Option.pure_def] at hk
    obtain ⟨f, hf, s, hs, hk⟩ := hk
    split at hk
    · cases hk
    · simp only [Option.some.injEq, Prod.mk.injEq] at hk; obtain ⟨rfl, rfl⟩ := hk; exact absurd rfl hq
  case field t y i =>
    simp only [Option.bind_eq_bind, Option.bind_eq_some_iff, Option.pure_def, Option.some.injEq, Prod.mk.injEq] at hk
    obtain ⟨f, hf, g, hg, s, hs, rfl, rfl⟩ := hk
    exact absurd rfl hq
  case indexAddr t y i =>
    simp only [Option.bind_eq_bind, Option.bind_eq_some_iff, Option.pure_def, Option.some.injEq, Prod.mk.injEq] at hk
    obtain ⟨e, he, s, hs, rfl, rfl⟩ := hk
    exact absurd rfl hq
  case index t y i =>
    split at hk
    · simp only [Option.some.injEq, Prod.mk.injEq] at hk; obtain ⟨rfl, rfl⟩ := hk; exact absurd rfl hq
    · cases hk
  case extract t i => obtain ⟨rfl, rfl⟩ := hk; exact absurd rfl hq
  case call c =>
    obtain ⟨callee, args, ats⟩ := c
    cases callee with
    | value f =>
      cases f <;> simp only [kOf, reduceCtorEq, Option.some.injEq, Prod.mk.injEq] at hk
      · rename_i t
        obtain ⟨rfl, rfl⟩ := hk
        cases vs with
        | nil => cases hv
        | cons a l =>
          obtain ⟨h1, h2⟩ := hv.inv
          simp only [astep, ecallv] at h
          split at h
          · rename_i f first caps l' e
            simp only [List.cons.injEq] at e
            obtain ⟨rfl, rfl⟩ := e
            obtain ⟨hg, _, h⟩ := h
            obtain ⟨v1, v2, e1, h3, h4⟩ := h1.fn_inv
            have hargs : VRel K (first ++ l ++ caps) ((v1.toArray ++ args.map ρ) ++ v2.toArray).toList := by
              have := (h3.append h2).append h4
              simpa using this
            have := e_call hg hargs h r
            simp only [execOp, resolve, e1, Deferred.ofValue, Sem.run_bind, Sem.run_pure, Result.andThen_ok, invoke]
            exact this
          · exact h.elim
      · rename_i f
        split at hk
        · rename_i hg
          simp only [Option.some.injEq, Prod.mk.injEq] at hk
          obtain ⟨rfl, rfl⟩ := hk
          have hargs : VRel K vs ((#[] ++ args.map ρ) ++ #[] : Array Value).toList := by simpa using hv
          have := e_call hg hargs h.2 r
          simp only [execOp, resolve, hρf, Deferred.ofValue, Sem.run_bind, Sem.run_pure, Result.andThen_ok, invoke]
          exact this
        · cases hk
    | invoke a b => simp only [kOf, reduceCtorEq] at hk
    | builtin b =>
      cases b <;> simp only [kOf, reduceCtorEq, Option.some.injEq, Prod.mk.injEq] at hk
      case append =>
        simp only [Option.bind_eq_bind, Option.bind_eq_some_iff, Option.pure_def] at hk
        obtain ⟨t, ht, u, hu, e, he, i, hi, z, hz, hk⟩ := hk
        split at hk
        · cases hk
        · rename_i hc
          simp only [not_or, ne_eq, Decidable.not_not] at hc
          obtain ⟨c1, c2, c3, c4⟩ := hc
          obtain ⟨y1, y2, hy⟩ := list_of_len2 (l := args.toList) (by simpa using c1)
          have hargs : args.map ρ = #[ρ y1, ρ y2] := by apply Array.ext'; simp [hy]
          have hats : ∀ s x : Value, Builtin.append_ ats type #[s, x] = Builtin.append_ #[t, u] type #[s, x] := by
            intro s x
            simp only [Builtin.append_, ht, hu]
            rfl
          have hz' : i.zero.bind constA = some z := by simpa [Option.bind_eq_some_iff] using hz
          have hgood : ∀ res : GoodV K R ((Builtin.append_ #[t, u] type #[ρ y1, ρ y2]).run P w), Good P K R ((execOp ρ ⟨dst, .call ⟨.builtin .append, args, ats⟩, type, pos, after, guard⟩).run P w) := by
            intro res
            rw [← hats, ← hargs] at res
            exact Good.value res
          split at hk
          · rename_i h4
            simp only [Option.some.injEq, Prod.mk.injEq] at hk
            obtain ⟨rfl, rfl⟩ := hk
            obtain ⟨e', he'⟩ := kindA_slice h4
            rw [hy] at hv
            exact hgood (e_appv (elemA_some he) he' (fun k => by simp) hi hz' c2 (by omega) (by omega) hv h r)
          · split at hk
            · rename_i h4
              simp only [Option.some.injEq, Prod.mk.injEq] at hk
              obtain ⟨rfl, rfl⟩ := hk
              have hus : P.underlying u = some .string := by
                have := h4.1
                unfold kindA at this
                split at this <;> first | assumption | (simp at this)
              rw [hy] at hv
              exact hgood (e_apps (elemA_some he) hus hi hz' c2 h4.2.1 h4.2.2 hv h r)
            · cases hk
      case len =>
        simp only [Option.bind_eq_bind, Option.bind_eq_some_iff, Option.pure_def] at hk
        obtain ⟨t, ht, hk⟩ := hk
        split at hk
        · cases hk
        · split at hk
          · simp only [Option.some.injEq, Prod.mk.injEq] at hk; obtain ⟨rfl, rfl⟩ := hk; exact absurd rfl hq
          · split at hk
            · simp only [Option.some.injEq, Prod.mk.injEq] at hk; obtain ⟨rfl, rfl⟩ := hk; exact absurd rfl hq
            · cases hk
      case min => obtain ⟨rfl, rfl⟩ := hk; exact absurd rfl hq
      case max => obtain ⟨rfl, rfl⟩ := hk; exact absurd rfl hq

end Go.Abs

/-
  A program logic over abstract states, part M: frames; regions in the order of the text.
-/
namespace Go.Abs
open Go Go.RowKit

set_option linter.unusedVariables false
set_option linter.unusedSimpArgs false
variable {P : Program} {K : Kr} {σ : AHeap} {w : World} {N : Nat} {rd : Option Nat}

/-- A fence that lets all by: of no round, or of a round of the loop that is told. -/
def fen (rd : Option Nat) : Fence := { Fence.wide with round := rd }
theorem fen_depth (rd : Option Nat) : (fen rd).depth.isSome = true → 1 ≤ 0 := fun h => by simp [fen, Fence.wide] at h
theorem callsIn_fen {f : FuncId} {args : Array Value} {R : Ending → World → Prop} (h : Calls P f args w R) (n : Nat) : CallsIn (fen rd) n P f args w R := callsIn_wide.2 h

structure FRel (K : Kr) (N : Nat) (F : AFrame) (tmps : Array Value) : Prop where
  size : tmps.size = N
  at_ : ∀ i x, F i = some x → VR K x (tmps.getD i undef)

theorem VR.mono {K K' : Kr} {x : AVal} {v : Value} (h : VR K x v) (hK : K.le K') : VR K' x v := VRel.mono hK h
theorem FRel.mono {F : AFrame} {tmps : Array Value} (h : FRel K N F tmps) {K' : Kr} (hK : K.le K') : FRel K' N F tmps := ⟨h.size, fun i x e => (h.at_ i x e).mono hK⟩

/-- The deferred calls of an activation: none but the marks of loops over functions; each lies as it was laid. -/
def Marked (K0 K : Kr) (l : List Deferred) : Prop :=
  l.Nodup ∧ ∀ d ∈ l, ∃ D, d = { target := .collected D, args := #[] } ∧ K0.w0.heap.size ≤ D ∧ K0.wo.heap.size ≤ D ∧ K.wo.heap[D]? = some (.deferred (some []))
theorem Marked.nil (K0 K : Kr) : Marked K0 K [] := ⟨List.nodup_nil, fun d hd => by cases hd⟩
theorem Marked.mono {K0 K K' : Kr} {l : List Deferred} (h : Marked K0 K l) (hk : K.le K') : Marked K0 K' l :=
  ⟨h.1, fun d hd => by
    obtain ⟨D, h1, h2, h3, h4⟩ := h.2 d hd
    exact ⟨D, h1, h2, h3, hk.wo.same D _ h4 (fun _ _ _ e => by cases e)⟩⟩

/-- The state, as the world has it. -/
def St (K0 : Kr) (N : Nat) (Q : AFrame → AHeap → Prop) (a : Act) (w : World) : Prop :=
  ∃ K F σ, K0.le K ∧ Rel K σ w ∧ FRel K N F a.tmps ∧ Marked K0 K a.defers ∧ Q F σ

theorem St.mono {K0 : Kr} {Q Q' : AFrame → AHeap → Prop} {a : Act} (h : St K0 N Q a w) (hQ : ∀ F σ, Q F σ → Q' F σ) : St K0 N Q' a w := by
  obtain ⟨K, F, σ, h1, h2, h3, h4, h5⟩ := h
  exact ⟨K, F, σ, h1, h2, h3, h4, hQ _ _ h5⟩

theorem St.drew {K0 : Kr} {Q : AFrame → AHeap → Prop} {a : Act} (h : St K0 N Q a w) : St K0 N Q a w.drew := by
  obtain ⟨K, F, σ, h1, h2, h3, h4, h5⟩ := h
  exact ⟨K, F, σ, h1, h2.drew, h3, h4, h5⟩

theorem opd_sound {F : AFrame} {a : Act} (hF : FRel K N F a.tmps) {x : Operand} {y : AOpd} (h : opdA x = some y) {v : AVal} (he : ev F y = some v) : VR K v (a.eval x) := by
  unfold opdA at h
  split at h
  · simp only [Option.some.injEq] at h; subst h
    exact hF.at_ _ _ he
  · rename_i u
    simp only [Option.map_eq_some_iff] at h
    obtain ⟨z, hz, rfl⟩ := h
    simp only [ev, Option.some.injEq] at he; subst he
    exact (constA_ok hz).1
  · simp only [Option.some.injEq] at h; subst h
    simp only [ev, Option.some.injEq] at he; subst he
    exact VRel.fn (v1 := []) (v2 := []) .nil .nil .nil
  · cases h

theorem evs_cons {F : AFrame} {y : AOpd} {l : List AOpd} {vs : List AVal} (h : evs F (y :: l) = some vs) : ∃ v vs', ev F y = some v ∧ evs F l = some vs' ∧ vs = v :: vs' := by
  simp only [evs] at h
  split at h
  · rename_i v vs' h1 h2
    simp only [Option.some.injEq] at h
    exact ⟨v, vs', h1, h2, h.symm⟩
  · cases h

theorem opds_sound {F : AFrame} {a : Act} (hF : FRel K N F a.tmps) : ∀ {xs : List Operand} {l : List AOpd} {vs : List AVal}, xs.mapM opdA = some l → evs F l = some vs → VRel K vs (xs.map a.eval)
  | [], l, vs, h, he => by
    simp at h; subst h
    simp [evs] at he; subst he
    exact .nil
  | x :: xs, l, vs, h, he => by
    simp only [List.mapM_cons, Option.bind_eq_bind, Option.bind_eq_some_iff, Option.pure_def, Option.some.injEq] at h
    obtain ⟨y, hy, l', hl, rfl⟩ := h
    obtain ⟨v, vs', h1, h2, rfl⟩ := evs_cons he
    exact .cons (opd_sound hF hy h1) (opds_sound hF hl h2)

theorem FRel.put {F : AFrame} {a : Act} (hF : FRel K N F a.tmps) (dst : Option Nat) (hd : ∀ d, dst = some d → d < N) {r : AVal} {v : Value} (h : VR K r v) : FRel K N (fput dst (some r) F) (a.put dst v).tmps := by
  cases dst with
  | none => exact hF
  | some d =>
    refine ⟨by simp [Act.put, hF.size], fun i x e => ?_⟩
    simp only [fput, fset] at e
    simp only [Act.put]
    split at e
    · rename_i hi
      subst hi
      simp only [Option.some.injEq] at e; subst e
      have := hd i rfl
      simp [hF.size, this]
      exact h
    · rename_i hi
      have := hF.at_ i x e
      simpa [Array.getElem?_setIfInBounds_ne (fun e => hi e.symm)] using this

theorem VR.undef : VR K (.tup []) undef := VRel.tup (vs := []) .nil .nil
theorem FRel.putNone {F : AFrame} {a : Act} (hF : FRel K N F a.tmps) (dst : Option Nat) : FRel K N (fput dst (some (.tup [])) F) (a.put dst undef).tmps := by
  cases dst with
  | none => exact hF
  | some d =>
    refine ⟨by simp [Act.put, hF.size], fun i x e => ?_⟩
    simp only [fput, fset] at e
    simp only [Act.put]
    split at e
    · rename_i hi
      subst hi
      simp only [Option.some.injEq] at e; subst e
      have : (a.tmps.setIfInBounds i undef).getD i undef = undef := by by_cases hlt : i < a.tmps.size <;> simp [hlt]
      rw [this]
      exact VR.undef
    · rename_i hi
      have := hF.at_ i x e
      simpa [Array.getElem?_setIfInBounds_ne (fun e => hi e.symm)] using this

/-- What 'operA' makes of an operation. -/
theorem operA_some {ops : Array Oper} {fl : Bool} {o : Oper} {ao : AOper} (h : operA P N ops fl o = some ao) :
    ∃ xs, kOf P fl o = some (ao.k, xs) ∧ xs.mapM opdA = some ao.args ∧ ao.dst = o.dst ∧ (∀ d, o.dst = some d → d < N) ∧
      (o.guard = none ∧ ao.guard = none ∨ ∃ j want g, o.guard = some (j, want) ∧ (ops[j]?).bind (·.dst) = some g ∧ ao.guard = some (g, want)) := by
  unfold operA at h
  simp only [Option.bind_eq_some_iff] at h
  obtain ⟨⟨k, xs⟩, hk, args, ha, g, hg, h⟩ := h
  simp only at ha h
  split at h
  · rename_i hd
    simp only [Option.some.injEq] at h
    subst h
    refine ⟨xs, hk, ha, rfl, ?_, ?_⟩
    · intro d e
      rw [e] at hd
      simpa [dstOk] using hd
    · cases e : o.guard with
      | none =>
        rw [e] at hg
        simp only [guardA, Option.some.injEq] at hg
        exact .inl ⟨rfl, hg.symm⟩
      | some p =>
        obtain ⟨j, want⟩ := p
        rw [e] at hg
        simp only [guardA, Option.map_eq_some_iff] at hg
        obtain ⟨g', hg', rfl⟩ := hg
        exact .inr ⟨j, want, g', rfl, hg', rfl⟩
  · cases h

theorem yielded_of {ops : Array Oper} {F : AFrame} {a : Act} (hF : FRel K N F a.tmps) {j g : Nat} (hj : (ops[j]?).bind (·.dst) = some g) {b : Bool} (hg : F g = some (.bool b)) : yielded ops a.tmps j = some b := by
  have h := (hF.at_ g _ hg).bool_inv
  unfold yielded
  have e : a.tmps[g]? = some (.bool b) := by
    by_cases hlt : g < a.tmps.size
    · simp [hlt] at h ⊢; exact h
    · simp [hlt] at h
      simp [undef] at h
  rw [hj]
  simp [e]

theorem yielded_gval {ops : Array Oper} {F : AFrame} {a : Act} (hF : FRel K N F a.tmps) {j g : Nat} (hj : (ops[j]?).bind (·.dst) = some g) {b : Option Bool} (hg : gval (F g) = some b) : yielded ops a.tmps j = b := by
  cases hb : b with
  | some b' =>
    subst hb
    refine yielded_of hF hj ?_
    unfold gval at hg
    split at hg
    · rename_i b2 e2
      simp only [Option.some.injEq] at hg
      subst hg
      exact e2
    · simp at hg
    · simp at hg
  | none =>
    subst hb
    have hg' : F g = some (.tup []) := by
      unfold gval at hg
      split at hg
      · simp at hg
      · rename_i e2; exact e2
      · simp at hg
    have h := hF.at_ g _ hg'
    unfold yielded
    rw [hj]
    have e : a.tmps.getD g undef = .tuple #[] := by
      generalize a.tmps.getD g undef = v at h
      unfold VR at h
      cases h with
      | tup hv r => rw [hv.nil_inv]
    by_cases hlt : g < a.tmps.size
    · simp [hlt] at e
      simp [hlt, e]
    · simp [hlt]

theorem evs_app {F : AFrame} : ∀ {l m : List AOpd} {ws : List AVal}, evs F (l ++ m) = some ws → ∃ vs us, ws = vs ++ us ∧ evs F l = some vs ∧ evs F m = some us ∧ vs.length = l.length
  | [], m, ws, h => ⟨[], ws, rfl, rfl, h, rfl⟩
  | x :: l, m, ws, h => by
    simp only [List.cons_append, evs] at h
    cases hx : ev F x with
    | none => rw [hx] at h; simp at h
    | some v =>
      rw [hx] at h
      cases hl : evs F (l ++ m) with
      | none => rw [hl] at h; simp at h
      | some vs' =>
        rw [hl] at h
        simp only [Option.some.injEq] at h
        subst h
        obtain ⟨vs, us, rfl, h1, h2, h3⟩ := evs_app hl
        exact ⟨v :: vs, us, rfl, by simp only [evs, hx, h1], h2, by simp [h3]⟩

theorem arun_modA {fl : Bool} {gs : List Nat} {o : AOper} {F : AFrame} {σ : AHeap} {Q : AFrame → AHeap → Prop} (h : arun P (modA fl gs o) F σ Q) : arun P o F σ Q := by
  unfold modA at h
  split at h
  · rename_i f hf
    split at h
    · obtain ⟨vs, hvs, h⟩ := h
      refine ⟨vs, hvs, ?_⟩
      rw [hf]
      obtain ⟨v, h1, h2⟩ := h
      exact ⟨⟨v, σ, h2⟩, (h1 σ).mono fun r τ ⟨e1, e2⟩ => by rw [e1, e2]; exact h2⟩
    · split at h
      · exact h
      · obtain ⟨ws, hws, h⟩ := h
        obtain ⟨vs, us, rfl, h1, h2, h3⟩ := evs_app hws
        refine ⟨vs, h1, ?_⟩
        rw [hf]
        obtain ⟨⟨r, σ', _, h4⟩, h5⟩ := h
        rw [List.take_append_of_le_length (by omega), List.take_of_length_le (by omega)] at h5
        exact ⟨⟨r, σ', h4⟩, h5.mono fun r τ h => h.2⟩
  · exact h
theorem modA_dst (fl : Bool) (gs : List Nat) (o : AOper) : (modA fl gs o).dst = o.dst := by
  unfold modA; repeat' split <;> try rfl
theorem modA_guard (fl : Bool) (gs : List Nat) (o : AOper) : (modA fl gs o).guard = o.guard := by
  unfold modA; repeat' split <;> try rfl
theorem aop_modA {fl : Bool} {gs : List Nat} {o : AOper} {F : AFrame} {σ : AHeap} {Q : AFrame → AHeap → Prop} (h : aop P (modA fl gs o) F σ Q) : aop P o F σ Q := by
  unfold aop at h ⊢
  rw [modA_guard] at h
  split at h
  · exact arun_modA h
  · obtain ⟨b, h1, h2, h3⟩ := h
    rw [modA_dst] at h3
    exact ⟨b, h1, fun e => arun_modA (h2 e), h3⟩

/-- ONE OPERATION. -/
theorem aop_sound {ops : Array Oper} {fl : Bool} {o : Oper} {ao : AOper} (ho : operA P N ops fl o = some ao) {K0 : Kr} {Q : AFrame → AHeap → Prop} {a : Act} {Qc : Exit → Act → World → Prop} (h : St K0 N (fun F σ => aop P ao F σ Q) a w) :
    if Region.wanted o (yielded ops a.tmps) then o.wpIn (fen rd) 0 P a w (St K0 N Q) Qc else St K0 N Q (a.put o.dst undef) w := by
  obtain ⟨K, F, σ, hK, hr, hF, hd, h⟩ := h
  obtain ⟨xs, hk, hxs, hdst, hdN, hg⟩ := operA_some ho
  have run : arun P ao F σ Q → o.wpIn (fen rd) 0 P a w (St K0 N Q) Qc := by
    rintro ⟨vs, hvs, hst⟩
    have hv := opds_sound hF hxs hvs
    have hgood := op_sound hk (ρ := a.eval) (fun v => rfl) (fun f => rfl) hv hr hst
    unfold Oper.wpIn
    refine ⟨fun _ _ => trivial, ?_⟩
    rw [Oper.semAt_eq _ _ _ (fun c e => by simp [kOf, e] at hk)]
    cases hres : (execOp a.eval o).run P w with
    | halt y w' => rw [hres] at hgood; exact hgood.elim
    | ok n w' =>
      rw [hres] at hgood
      cases n <;> simp only [Good] at hgood
      case value v =>
        obtain ⟨K', r, σ', h1, h2, h3, h4⟩ := hgood
        refine ⟨K', _, σ', hK.trans h1, h2, ?_, ?_, h4⟩
        · rw [hdst]
          exact (hF.mono h1).put _ hdN h3
        · cases o.dst <;> exact hd.mono h1
      case skip =>
        obtain ⟨K', σ', h1, h2, h4⟩ := hgood
        refine ⟨K', _, σ', hK.trans h1, h2, ?_, ?_, h4⟩
        · rw [hdst]
          exact (hF.mono h1).put _ hdN (VRel.tup (vs := []) .nil .nil)
        · cases o.dst <;> exact hd.mono h1
      case enter f args =>
        simp only [Oper.uponIn]
        refine ⟨fen_depth rd, callsIn_fen ?_ _⟩
        refine hgood.mono fun e w'' ⟨v, K', r, σ', he, h1, h2, h3, h4⟩ => ?_
        subst he
        refine ⟨K', _, σ', hK.trans h1, h2, ?_, ?_, h4⟩
        · rw [hdst]
          exact (hF.mono h1).put _ hdN h3
        · cases o.dst <;> exact hd.mono h1
  unfold aop at h
  rcases hg with ⟨e1, e2⟩ | ⟨j, want, g, e1, e2, e3⟩
  · rw [e2] at h
    rw [if_pos (by simp [Region.wanted, e1])]
    exact run h
  · rw [e3] at h
    obtain ⟨b, hb, h1, h2⟩ := h
    have hy := yielded_gval hF e2 hb
    have hw : Region.wanted o (yielded ops a.tmps) = (b == some want) := by
      simp [Region.wanted, e1, hy]
    rw [hw]
    by_cases hbw : b = some want
    · subst hbw
      simp only [beq_self_eq_true, if_true]
      exact run (h1 rfl)
    · have : (b == some want) = false := by simpa using hbw
      rw [this]
      simp only [Bool.false_eq_true, if_false]
      refine ⟨K, _, σ, hK, hr, ?_, ?_, h2 hbw⟩
      · rw [hdst]; exact hF.putNone _
      · cases o.dst <;> exact hd

theorem aops_sound {ops : Array Oper} {fl : List Nat} {K0 : Kr} {Q : AFrame → AHeap → Prop} {Qc : Exit → Act → World → Prop} (hQ : ∀ a w, St K0 N Q a w → Qc .normal a w) : ∀ (l : List Oper) (i : Nat) (al : List AOper) (a : Act) (w : World),
    operAs P N ops fl i l = some al → St K0 N (fun F σ => aops P al F σ Q) a w → wpListIn (fen rd) 0 P ops Qc l a w
  | [], i, al, a, w, h, hs => by
    simp [operAs] at h; subst h
    exact hQ a w hs
  | o :: l, i, al, a, w, h, hs => by
    simp only [operAs, Option.bind_eq_bind, Option.bind_eq_some_iff, Option.pure_def, Option.some.injEq] at h
    obtain ⟨ao, ho, al', hl, rfl⟩ := h
    have hs' : St K0 N (fun F σ => aop P ao F σ fun F σ => aops P al' F σ Q) a w := by
      obtain ⟨K, F, σ, h1, h2, h3, h4, h5⟩ := hs
      exact ⟨K, F, σ, h1, h2, h3, h4, aop_modA h5⟩
    have hstep := aop_sound (rd := rd) (Q := fun F σ => aops P al' F σ Q) (Qc := Qc) ho hs'
    unfold wpListIn
    split
    · rename_i hw
      rw [if_pos hw] at hstep
      exact Oper.wpIn_mono (fun a' w' h' => aops_sound hQ l (i + 1) al' a' w' hl h') hstep
    · rename_i hw
      rw [if_neg hw] at hstep
      exact ⟨fun _ _ => trivial, aops_sound hQ l (i + 1) al' _ w hl hstep⟩

/-- A REGION in the order of the text. -/
theorem region_sound {id : Nat} {ops : Array Oper} {fl : List Nat} {al : List AOper} (hc : operAs P N ops fl 0 ops.toList = some al) {K0 : Kr} {Q : AFrame → AHeap → Prop} {Qc : Exit → Act → World → Prop} {a : Act} (hQ : ∀ a w, St K0 N Q a w → Qc .normal a w)
    (h : St K0 N (fun F σ => aops P al F σ Q) a w) : (Code.region id ops false).wpIn (fen rd) 0 P Qc a w :=
  wpIn_region_list (aops_sound hQ ops.toList 0 al a w hc h)

end Go.Abs

/-
  A program logic over abstract states, part N: regions whose order is drawn.
-/
namespace Go.Abs
open Go Go.RowKit

set_option linter.unusedVariables false
set_option linter.unusedSimpArgs false
variable {P : Program} {N : Nat}

theorem astep_mono {k : AK} {vs : List AVal} {σ : AHeap} {R R' : AVal → AHeap → Prop} (hR : ∀ r σ', R r σ' → R' r σ') (h : astep P k vs σ R) : astep P k vs σ R' := by
  have hnew : ∀ {sz : Nat} {xs : List AVal} {f : Nat → AVal}, enew sz xs σ (fun b σ' => R (f b) σ') → enew sz xs σ (fun b σ' => R' (f b) σ') := fun h b hb => hR _ _ (h b hb)
  have happ : ∀ {sz byt : Nat} {s : AVal} {ys : List AVal}, eapp sz byt s ys σ R → eapp sz byt s ys σ R' := by
    intro sz byt s ys h
    unfold eapp at h ⊢
    split at h
    · rename_i z xs
      obtain ⟨h1, h2, h3⟩ := h
      refine ⟨h1, h2, ?_⟩
      cases xs with
      | nil => exact hnew h3
      | cons x xs => exact ⟨fun e => hR _ _ (h3.1 e), fun e => hnew (h3.2 e)⟩
    · obtain ⟨xs, h1, h2, h3, h4⟩ := h
      exact ⟨xs, h1, h2, h3, fun b' hb' => hR _ _ (h4 b' hb')⟩
    · exact h.elim
  cases k <;> simp only [astep] at h ⊢
  case store sz =>
    unfold estore at h ⊢
    split at h
    · obtain ⟨s, xs, x, h1, h2, h3, h4, h5, h6⟩ := h
      exact ⟨s, xs, x, h1, h2, h3, h4, h5, hR _ _ h6⟩
    · exact h.elim
  case alloc z => exact ⟨h.1, h.2.1, hnew h.2.2⟩
  case box sz =>
    unfold ebox at h ⊢
    split at h
    · exact ⟨h.1, hnew h.2⟩
    · exact h.elim
  case bslo sz => exact ⟨h.1, hnew h.2⟩
  case strish sz =>
    unfold estrish at h ⊢
    split at h
    · obtain ⟨xs, h1, h2, h3, h4⟩ := h
      exact ⟨xs, h1, h2, h3, hR _ _ h4⟩
    · exact h.elim
  case isnil neg =>
    unfold eisnil at h ⊢
    split at h
    · exact ⟨fun e => hR _ _ (h.1 e), fun e t => hR _ _ (h.2 e t)⟩
    · exact ⟨fun e => hR _ _ (h.1 e), fun e t => hR _ _ (h.2 e t)⟩
    · exact h.elim
  case mks sz byt z =>
    unfold emks at h ⊢
    split at h
    · obtain ⟨h1, h2, h3, h4, h5, h6⟩ := h
      exact ⟨h1, h2, h3, h4, h5, hnew h6⟩
    · exact h.elim
  case app sz byt =>
    unfold eappv at h ⊢
    split at h
    · obtain ⟨ys, h1, h2⟩ := h
      exact ⟨ys, h1, happ h2⟩
    · exact h.elim
  case apps =>
    unfold eapps at h ⊢
    split at h
    · exact happ h
    · exact h.elim
  case cpy sz =>
    unfold ecpy at h ⊢
    split at h
    · obtain ⟨xs, ys, h1, h2, h3, h4⟩ := h
      exact ⟨xs, ys, h1, h2, h3, hR _ _ h4⟩
    · exact h.elim
  case clip sz =>
    unfold eclip at h ⊢
    split at h
    · obtain ⟨xs, h1, h2, h3, h4, h5, h6⟩ := h
      exact ⟨xs, h1, h2, h3, h4, h5, hR _ _ h6⟩
    · obtain ⟨v, h1, h2⟩ := h
      exact ⟨v, h1, hR _ _ h2⟩
  case call f =>
    obtain ⟨⟨r, σ', h1⟩, h2⟩ := h
    exact ⟨⟨r, σ', hR _ _ h1⟩, h2.mono hR⟩
  case callv =>
    unfold ecallv at h ⊢
    split at h
    · obtain ⟨h0, ⟨r, σ', h1⟩, h2⟩ := h
      exact ⟨h0, ⟨r, σ', hR _ _ h1⟩, h2.mono hR⟩
    · exact h.elim
  case callk f n =>
    obtain ⟨⟨r, σ', h0, h1⟩, h2⟩ := h
    exact ⟨⟨r, σ', h0, hR _ _ h1⟩, h2.mono fun r σ' h => ⟨h.1, hR _ _ h.2⟩⟩
  all_goals (obtain ⟨v, h1, h2⟩ := h; exact ⟨v, h1, hR _ _ h2⟩)

theorem exists_fresh (σ : AHeap) (n : Nat) : ∃ b, fresh σ b ∧ b ≠ n := by
  have h : ∀ l : List Nat, ∃ m, ∀ x ∈ l, x < m := by
    intro l
    induction l with
    | nil => exact ⟨0, by simp⟩
    | cons a l ih =>
      obtain ⟨m, hm⟩ := ih
      refine ⟨max m (a + 1), fun x hx => ?_⟩
      rcases List.mem_cons.1 hx with rfl | hx
      · omega
      · have := hm x hx; omega
  obtain ⟨m, hm⟩ := h (n :: keys σ)
  exact ⟨m, fun hk => Nat.lt_irrefl _ (hm m (List.mem_cons_of_mem _ hk)), fun e => by have := hm n (by simp); omega⟩

/-- Something comes of it. -/
theorem astep_nonvac {k : AK} {vs : List AVal} {σ : AHeap} {R : AVal → AHeap → Prop} (h : astep P k vs σ R) : ∃ r σ', R r σ' := by
  have hnew : ∀ {sz : Nat} {xs : List AVal} {f : Nat → AVal}, enew sz xs σ (fun b σ' => R (f b) σ') → ∃ r σ', R r σ' := fun h => by
    obtain ⟨b, hb, _⟩ := exists_fresh σ 0
    exact ⟨_, _, h b hb⟩
  have happ : ∀ {sz byt : Nat} {s : AVal} {ys : List AVal}, eapp sz byt s ys σ R → ∃ r σ', R r σ' := by
    intro sz byt s ys h
    unfold eapp at h
    split at h
    · rename_i z xs
      obtain ⟨h1, h2, h3⟩ := h
      cases xs with
      | nil => exact hnew h3
      | cons x xs =>
        by_cases e : ys = []
        · exact ⟨_, _, h3.1 e⟩
        · exact hnew (h3.2 e)
    · obtain ⟨xs, h1, h2, h3, h4⟩ := h
      obtain ⟨b, hb, _⟩ := exists_fresh σ 0
      exact ⟨_, _, h4 b hb⟩
    · exact h.elim
  cases k <;> simp only [astep] at h
  case store sz =>
    unfold estore at h
    split at h
    · obtain ⟨s, xs, x, h1, h2, h3, h4, h5, h6⟩ := h
      exact ⟨_, _, h6⟩
    · exact h.elim
  case alloc z => exact hnew h.2.2
  case box sz =>
    unfold ebox at h
    split at h
    · exact hnew h.2
    · exact h.elim
  case bslo sz => exact hnew h.2
  case strish sz =>
    unfold estrish at h
    split at h
    · obtain ⟨xs, h1, h2, h3, h4⟩ := h
      exact ⟨_, _, h4⟩
    · exact h.elim
  case isnil neg =>
    unfold eisnil at h
    split at h
    · rename_i s xs f s'
      by_cases e : xs = []
      · exact ⟨_, _, h.2 e true⟩
      · exact ⟨_, _, h.1 e⟩
    · rename_i s b o n s'
      by_cases e : n = 0
      · exact ⟨_, _, h.2 e true⟩
      · exact ⟨_, _, h.1 (by omega)⟩
    · exact h.elim
  case mks sz byt z =>
    unfold emks at h
    split at h
    · obtain ⟨h1, h2, h3, h4, h5, h6⟩ := h
      exact hnew h6
    · exact h.elim
  case app sz byt =>
    unfold eappv at h
    split at h
    · obtain ⟨ys, h1, h2⟩ := h
      exact happ h2
    · exact h.elim
  case apps =>
    unfold eapps at h
    split at h
    · exact happ h
    · exact h.elim
  case cpy sz =>
    unfold ecpy at h
    split at h
    · obtain ⟨xs, ys, h1, h2, h3, h4⟩ := h
      exact ⟨_, _, h4⟩
    · exact h.elim
  case clip sz =>
    unfold eclip at h
    split at h
    · obtain ⟨xs, h1, h2, h3, h4, h5, h6⟩ := h
      exact ⟨_, _, h6⟩
    · obtain ⟨v, h1, h2⟩ := h
      exact ⟨_, _, h2⟩
  case call f => exact h.1
  case callv =>
    unfold ecallv at h
    split at h
    · exact h.2.1
    · exact h.elim
  case callk f n =>
    obtain ⟨⟨r, σ', h0, h1⟩, h2⟩ := h
    exact ⟨r, σ', h1⟩
  all_goals (obtain ⟨v, h1, h2⟩ := h; exact ⟨_, _, h2⟩)

/-- The one block that a reading asks of. -/
def rname : List AVal → Option Nat
  | [.ptr b _ _] => some b
  | [.arr _ b _ _] => some b
  | _ => none

theorem aquiet_congr {k : AK} {vs : List AVal} {σ σ' : AHeap} (h : ∀ b, rname vs = some b → hget σ b = hget σ' b) : aquiet k σ vs = aquiet k σ' vs := by
  cases k <;> try rfl
  case load ag sz =>
    simp only [aquiet]
    unfold aload
    split <;> try rfl
    rename_i b i o
    rw [h b rfl]
  case b2s =>
    simp only [aquiet]
    unfold ab2s
    split <;> try rfl
    rename_i x
    have : elemsOf σ 1 x = elemsOf σ' 1 x := by
      unfold elemsOf
      split <;> try rfl
      rename_i s b o n
      rw [h b rfl]
    rw [this]

theorem aquiet_noread {k : AK} (h : k.reads = false) {vs : List AVal} {σ σ' : AHeap} : aquiet k σ vs = aquiet k σ' vs := by
  cases k <;> first | rfl | (simp [AK.reads] at h)

/-- What a reading has found is there. -/
theorem aquiet_found {k : AK} {vs : List AVal} {σ : AHeap} {x : AVal} (hr : k.reads = true) (h : aquiet k σ vs = some x) : ∀ b, rname vs = some b → ∃ y, hget σ b = some y := by
  intro b hb
  unfold rname at hb
  split at hb <;> simp only [Option.some.injEq, reduceCtorEq] at hb <;> subst hb
  · cases k <;> simp only [AK.reads, Bool.false_eq_true] at hr
    · simp only [aquiet, aload] at h
      split at h
      · exact ⟨_, by assumption⟩
      · cases h
    · simp [aquiet, ab2s, elemsOf] at h
  · cases k <;> simp only [AK.reads, Bool.false_eq_true] at hr
    · simp [aquiet, aload] at h
    · simp only [aquiet, ab2s, elemsOf] at h
      split at h
      · exact ⟨_, by assumption⟩
      · simp at h

theorem hget_hren_old {σ : AHeap} (nd : (keys σ).Nodup) {b b' : Nat} {y : ABlk} {n : Nat} (hb' : n ≠ b') (hn : n ≠ b) : hget (hren σ b b' y) n = hget σ n := by
  induction σ with
  | nil => rfl
  | cons p σ ih =>
    obtain ⟨a, x⟩ := p
    simp only [keys_cons, List.nodup_cons] at nd
    simp only [hren]
    split
    · rename_i e
      subst e
      simp only [hget]
      rw [if_neg (fun e => hb' e.symm), if_neg (fun e => hn e.symm)]
    · simp only [hget, ih nd.2]

theorem hget_hren_gone {σ : AHeap} (nd : (keys σ).Nodup) {b b' : Nat} {y z : ABlk} {n : Nat} (hb' : n ≠ b') (h : hget (hren σ b b' y) n = some z) : n ≠ b := by
  rintro rfl
  rcases mem_hren nd (hget_mem h) with h | h
  · exact hb' h.1
  · exact h.1 rfl

end Go.Abs

/-
  A program logic over abstract states, part O: two operations change places; regions whose order is drawn.
-/
namespace Go.Abs
open Go Go.RowKit

set_option linter.unusedVariables false
set_option linter.unusedSimpArgs false
variable {P : Program} {N : Nat} {rd : Option Nat}

theorem astep_quiet {k : AK} (hq : k.quiet = true) {vs : List AVal} {σ : AHeap} {R : AVal → AHeap → Prop} : astep P k vs σ R ↔ ∃ v, aquiet k σ vs = some v ∧ R v σ := by
  cases k <;> first | exact Iff.rfl | (simp [AK.quiet] at hq)

theorem newread {ky : AK} (hky : ky.quiet = true) {us : List AVal} {σ : AHeap} {blk : ABlk} {T : Nat → AVal → Prop} (H : ∀ b, fresh σ b → ∃ s, aquiet ky ((b, blk) :: σ) us = some s ∧ T b s) :
    ∃ s0, aquiet ky σ us = some s0 ∧ ∀ b, fresh σ b → T b s0 := by
  have hsame : ∀ b, fresh σ b → aquiet ky ((b, blk) :: σ) us = aquiet ky σ us := by
    by_cases hr : ky.reads = true
    · intro b hb
      refine aquiet_congr fun n hn => ?_
      obtain ⟨b1, hb1, hne⟩ := exists_fresh σ n
      obtain ⟨s, hs, _⟩ := H b1 hb1
      obtain ⟨y, hy⟩ := aquiet_found hr hs n hn
      simp only [hget, if_neg hne] at hy
      have hbn : b ≠ n := by
        rintro rfl
        exact hb (mem_keys (hget_mem hy))
      simp only [hget, if_neg hbn]
    · intro b hb
      exact aquiet_noread (by simpa using hr)
  obtain ⟨b, hb, _⟩ := exists_fresh σ 0
  obtain ⟨s, hs, _⟩ := H b hb
  rw [hsame b hb] at hs
  refine ⟨s, hs, fun b' hb' => ?_⟩
  obtain ⟨s', hs', ht⟩ := H b' hb'
  rw [hsame b' hb', hs] at hs'
  simp only [Option.some.injEq] at hs'
  rw [hs']
  exact ht

theorem renread {ky : AK} (hky : ky.quiet = true) {us : List AVal} {σ : AHeap} (nd : (keys σ).Nodup) {b0 : Nat} {blk : ABlk} {T : Nat → AVal → Prop} (H : ∀ b, fresh σ b → ∃ s, aquiet ky (hren σ b0 b blk) us = some s ∧ T b s) :
    ∃ s0, aquiet ky σ us = some s0 ∧ ∀ b, fresh σ b → T b s0 := by
  have hsame : ∀ b, fresh σ b → aquiet ky (hren σ b0 b blk) us = aquiet ky σ us := by
    by_cases hr : ky.reads = true
    · intro b hb
      refine aquiet_congr fun n hn => ?_
      obtain ⟨b1, hb1, hne⟩ := exists_fresh σ n
      obtain ⟨s, hs, _⟩ := H b1 hb1
      obtain ⟨y, hy⟩ := aquiet_found hr hs n hn
      have hn0 := hget_hren_gone nd (fun e => hne e.symm) hy
      rw [hget_hren_old nd (fun e => hne e.symm) hn0] at hy
      have hbn : n ≠ b := by
        rintro rfl
        exact hb (mem_keys (hget_mem hy))
      exact hget_hren_old nd hbn hn0
    · intro b hb
      exact aquiet_noread (by simpa using hr)
  obtain ⟨b, hb, _⟩ := exists_fresh σ 0
  obtain ⟨s, hs, _⟩ := H b hb
  rw [hsame b hb] at hs
  refine ⟨s, hs, fun b' hb' => ?_⟩
  obtain ⟨s', hs', ht⟩ := H b' hb'
  rw [hsame b' hb', hs] at hs'
  simp only [Option.some.injEq] at hs'
  rw [hs']
  exact ht

/-- A reading that has found something finds it beside a new block, too. -/
theorem read_beside {k : AK} {vs : List AVal} {σ : AHeap} {r : AVal} (h : aquiet k σ vs = some r) {b : Nat} (hb : fresh σ b) (blk : ABlk) : aquiet k ((b, blk) :: σ) vs = some r := by
  rw [← h]
  by_cases hr : k.reads = true
  · refine aquiet_congr fun n hn => ?_
    obtain ⟨y, hy⟩ := aquiet_found hr h n hn
    have hbn : b ≠ n := by
      rintro rfl
      exact hb (mem_keys (hget_mem hy))
    simp only [hget, if_neg hbn]
  · exact aquiet_noread (by simpa using hr)

theorem swap_app {ky : AK} (hq : ky.quiet = true) {us : List AVal} {σ : AHeap} (nd : (keys σ).Nodup) {sz byt : Nat} {s : AVal} {ys : List AVal} {Q : AVal → AVal → AHeap → Prop}
    (H : eapp sz byt s ys σ fun r σ1 => ∃ v, aquiet ky σ1 us = some v ∧ Q r v σ1) : ∃ v, aquiet ky σ us = some v ∧ eapp sz byt s ys σ fun r σ1 => Q r v σ1 := by
  unfold eapp at H ⊢
  split at H
  · rename_i z xs
    obtain ⟨h1, h2, h3⟩ := H
    cases xs with
    | nil =>
      obtain ⟨s0, e0, h⟩ := newread hq h3
      exact ⟨s0, e0, h1, h2, h⟩
    | cons x xs =>
      by_cases e : ys = []
      · obtain ⟨v, hv, hQ⟩ := h3.1 e
        exact ⟨v, hv, h1, h2, fun _ => hQ, fun he => absurd e he⟩
      · obtain ⟨s0, e0, h⟩ := newread hq (h3.2 e)
        exact ⟨s0, e0, h1, h2, fun he => absurd he e, fun _ => h⟩
  · obtain ⟨xs, h1, h2, h3, h4⟩ := H
    obtain ⟨s0, e0, h⟩ := renread hq nd h4
    exact ⟨s0, e0, xs, h1, h2, h3, h⟩
  · exact H.elim

/-! ### A heap in another order -/

theorem hget_iff {σ : AHeap} (nd : (keys σ).Nodup) {b : Nat} {x : ABlk} : hget σ b = some x ↔ (b, x) ∈ σ := ⟨hget_mem, mem_hget nd⟩
theorem perm_nodup {σ τ : AHeap} (p : σ.Perm τ) (nd : (keys σ).Nodup) : (keys τ).Nodup := (p.map Prod.fst).nodup_iff.1 nd
theorem hget_perm {σ τ : AHeap} (nd : (keys σ).Nodup) (p : σ.Perm τ) (b : Nat) : hget τ b = hget σ b := by
  cases h : hget σ b with
  | some x => exact (hget_iff (perm_nodup p nd)).2 (p.subset ((hget_iff nd).1 h))
  | none =>
    cases h' : hget τ b with
    | none => rfl
    | some x =>
      have := (hget_iff nd).2 (p.symm.subset ((hget_iff (perm_nodup p nd)).1 h'))
      rw [h] at this; cases this
theorem hset_perm {σ τ : AHeap} (p : σ.Perm τ) (b : Nat) (y : ABlk) : (keys σ).Nodup → (hset σ b y).Perm (hset τ b y) := by
  induction p with
  | nil => intro _; exact List.Perm.refl _
  | cons x p ih =>
    intro nd
    obtain ⟨a, z⟩ := x
    simp only [keys_cons, List.nodup_cons] at nd
    simp only [hset]
    split
    · exact p.cons _
    · exact (ih nd.2).cons _
  | swap x z l =>
    intro nd
    obtain ⟨a, u⟩ := x
    obtain ⟨c, v⟩ := z
    simp only [keys_cons, List.nodup_cons, List.mem_cons, not_or] at nd
    have hne := nd.1.1
    simp only [hset]
    by_cases h1 : c = b
    · subst h1
      rw [if_pos rfl, if_neg (fun e => hne e.symm), if_pos rfl]
      exact List.Perm.swap _ _ _
    · rw [if_neg h1, if_neg h1]
      split <;> exact List.Perm.swap _ _ _
  | trans p1 p2 ih1 ih2 => intro nd; exact (ih1 nd).trans (ih2 (perm_nodup p1 nd))
theorem hren_perm {σ τ : AHeap} (p : σ.Perm τ) (b b' : Nat) (y : ABlk) : (keys σ).Nodup → (hren σ b b' y).Perm (hren τ b b' y) := by
  induction p with
  | nil => intro _; exact List.Perm.refl _
  | cons x p ih =>
    intro nd
    obtain ⟨a, z⟩ := x
    simp only [keys_cons, List.nodup_cons] at nd
    simp only [hren]
    split
    · exact p.cons _
    · exact (ih nd.2).cons _
  | swap x z l =>
    intro nd
    obtain ⟨a, u⟩ := x
    obtain ⟨c, v⟩ := z
    simp only [keys_cons, List.nodup_cons, List.mem_cons, not_or] at nd
    have hne := nd.1.1
    simp only [hren]
    by_cases h1 : c = b
    · subst h1
      rw [if_pos rfl, if_neg (fun e => hne e.symm), if_pos rfl]
      exact List.Perm.swap _ _ _
    · rw [if_neg h1, if_neg h1]
      split <;> exact List.Perm.swap _ _ _
  | trans p1 p2 ih1 ih2 => intro nd; exact (ih1 nd).trans (ih2 (perm_nodup p1 nd))
theorem hdel_perm {σ τ : AHeap} (p : σ.Perm τ) (b : Nat) : (keys σ).Nodup → (hdel σ b).Perm (hdel τ b) := by
  induction p with
  | nil => intro _; exact List.Perm.refl _
  | cons x p ih =>
    intro nd
    obtain ⟨a, z⟩ := x
    simp only [keys_cons, List.nodup_cons] at nd
    simp only [hdel]
    split
    · exact p
    · exact (ih nd.2).cons _
  | swap x z l =>
    intro nd
    obtain ⟨a, u⟩ := x
    obtain ⟨c, v⟩ := z
    simp only [keys_cons, List.nodup_cons, List.mem_cons, not_or] at nd
    have hne := nd.1.1
    simp only [hdel]
    by_cases h1 : c = b
    · subst h1
      rw [if_pos rfl, if_neg (fun e => hne e.symm), if_pos rfl]
    · rw [if_neg h1, if_neg h1]
      split
      · exact List.Perm.refl _
      · exact List.Perm.swap _ _ _
  | trans p1 p2 ih1 ih2 => intro nd; exact (ih1 nd).trans (ih2 (perm_nodup p1 nd))

def clo (R : AVal → AHeap → Prop) : AVal → AHeap → Prop := fun r σ => ∃ τ, τ.Perm σ ∧ R r τ
theorem elems_perm {σ τ : AHeap} (nd : (keys σ).Nodup) (p : σ.Perm τ) (sz : Nat) (x : AVal) : elemsOf τ sz x = elemsOf σ sz x := by
  unfold elemsOf
  split <;> try rfl
  rw [hget_perm nd p]
theorem astep_perm {k : AK} (hc : k.calls = false) {vs : List AVal} {σ τ : AHeap} (nd : (keys σ).Nodup) (p : σ.Perm τ) {R : AVal → AHeap → Prop} (h : astep P k vs σ R) : astep P k vs τ (clo R) := by
  have hfr : ∀ {b : Nat}, fresh τ b → fresh σ b := fun hb hm => hb ((p.map Prod.fst).subset hm)
  have hnew : ∀ {sz : Nat} {xs : List AVal} {f : Nat → AVal}, enew sz xs σ (fun b σ' => R (f b) σ') → enew sz xs τ (fun b σ' => clo R (f b) σ') := fun h b hb => ⟨_, p.cons _, h b (hfr hb)⟩
  have happ : ∀ {sz byt : Nat} {s : AVal} {ys : List AVal}, eapp sz byt s ys σ R → eapp sz byt s ys τ (clo R) := by
    intro sz byt s ys h
    unfold eapp at h ⊢
    split at h
    · rename_i z xs
      obtain ⟨h1, h2, h3⟩ := h
      refine ⟨h1, h2, ?_⟩
      cases xs with
      | nil => exact hnew h3
      | cons x xs => exact ⟨fun e => ⟨_, p, h3.1 e⟩, fun e => hnew (h3.2 e)⟩
    · obtain ⟨xs, h1, h2, h3, h4⟩ := h
      exact ⟨xs, by rw [hget_perm nd p]; exact h1, h2, h3, fun b' hb' => ⟨_, hren_perm p _ _ _ nd, h4 b' (hfr hb')⟩⟩
    · exact h.elim
  cases k <;> simp only [AK.calls, Bool.true_eq_false] at hc <;> simp only [astep] at h ⊢
  case store sz =>
    unfold estore at h ⊢
    split at h
    · obtain ⟨s, xs, x, h1, h2, h3, h4, h5, h6⟩ := h
      exact ⟨s, xs, x, by rw [hget_perm nd p]; exact h1, h2, h3, h4, h5, ⟨_, hset_perm p _ _ nd, h6⟩⟩
    · exact h.elim
  case alloc z => exact ⟨h.1, h.2.1, hnew h.2.2⟩
  case box sz =>
    unfold ebox at h ⊢
    split at h
    · exact ⟨h.1, hnew h.2⟩
    · exact h.elim
  case bslo sz => exact ⟨h.1, hnew h.2⟩
  case strish sz =>
    unfold estrish at h ⊢
    split at h
    · obtain ⟨xs, h1, h2, h3, h4⟩ := h
      exact ⟨xs, by rw [hget_perm nd p]; exact h1, h2, h3, ⟨_, hdel_perm p _ nd, h4⟩⟩
    · exact h.elim
  case isnil neg =>
    unfold eisnil at h ⊢
    split at h
    · exact ⟨fun e => ⟨_, p, h.1 e⟩, fun e t => ⟨_, p, h.2 e t⟩⟩
    · exact ⟨fun e => ⟨_, p, h.1 e⟩, fun e t => ⟨_, p, h.2 e t⟩⟩
    · exact h.elim
  case mks sz byt z =>
    unfold emks at h ⊢
    split at h
    · obtain ⟨h1, h2, h3, h4, h5, h6⟩ := h
      exact ⟨h1, h2, h3, h4, h5, hnew h6⟩
    · exact h.elim
  case app sz byt =>
    unfold eappv at h ⊢
    split at h
    · obtain ⟨ys, h1, h2⟩ := h
      exact ⟨ys, by rw [elems_perm nd p]; exact h1, happ h2⟩
    · exact h.elim
  case apps =>
    unfold eapps at h ⊢
    split at h
    · exact happ h
    · exact h.elim
  case cpy sz =>
    unfold ecpy at h ⊢
    split at h
    · obtain ⟨xs, ys, h1, h2, h3, h4⟩ := h
      exact ⟨xs, ys, by rw [hget_perm nd p]; exact h1, by rw [elems_perm nd p]; exact h2, h3, ⟨_, hset_perm p _ _ nd, h4⟩⟩
    · exact h.elim
  case clip sz =>
    unfold eclip at h ⊢
    split at h
    · obtain ⟨xs, h1, h2, h3, h4, h5, h6⟩ := h
      exact ⟨xs, by rw [hget_perm nd p]; exact h1, h2, h3, h4, h5, ⟨_, hdel_perm p _ nd, h6⟩⟩
    · obtain ⟨v, h1, h2⟩ := h
      exact ⟨v, h1, ⟨_, p, h2⟩⟩
  case callp f =>
    obtain ⟨v, h1, h2⟩ := h
    exact ⟨v, h1, ⟨_, p, h2⟩⟩
  all_goals (
    obtain ⟨v, h1, h2⟩ := h
    exact ⟨v, by rw [← h1]; exact (aquiet_congr fun b _ => (hget_perm nd p b).symm).symm, ⟨_, p, h2⟩⟩)

/-- Two that make new blocks. -/
theorem swap_makes {kx ky : AK} (hx : kx.makes = true) (hy : ky.makes = true) {vs us : List AVal} {σ : AHeap} {Q : AVal → AVal → AHeap → Prop} (H : astep P kx vs σ fun r σ1 => astep P ky us σ1 fun s σ2 => Q r s σ2) :
    astep P ky us σ fun s σ1 => astep P kx vs σ1 fun r σ2 => ∃ τ, τ.Perm σ2 ∧ Q r s τ := by
  have form : ∀ {k : AK}, k.makes = true → ∀ (vs : List AVal) , (∃ (C : Prop) (sz : Nat) (xs : List AVal) (f : Nat → AVal), ∀ (σ : AHeap) (R : AVal → AHeap → Prop), astep P k vs σ R ↔ C ∧ enew sz xs σ fun b σ' => R (f b) σ') := by
    intro k hk vs
    cases k <;> simp only [AK.makes, Bool.false_eq_true] at hk
    case alloc z => exact ⟨vs = [] ∧ ∀ c ∈ z.cells, c.one = true, _, _, _, fun σ R => by simp only [astep, and_assoc]; exact Iff.rfl⟩
    case box sz =>
      match vs with
      | [v] => exact ⟨v.elem sz, _, _, _, fun σ R => Iff.rfl⟩
      | [] => exact ⟨False, 0, [], fun _ => .nilp, fun σ R => by simp [astep, ebox]⟩
      | _ :: _ :: _ => exact ⟨False, 0, [], fun _ => .nilp, fun σ R => by simp [astep, ebox]⟩
    case bslo sz => exact ⟨∀ v ∈ vs, v.elem sz, _, _, _, fun σ R => Iff.rfl⟩
    case mks sz byt z =>
      by_cases h : ∃ l c, vs = [.int .i64 l, .int .i64 c]
      · obtain ⟨l, c, rfl⟩ := h
        exact ⟨z.elem sz ∧ 0 ≤ l ∧ l ≤ c ∧ c ≤ 9223372036854775807 ∧ byt * c ≤ 281474976710656, sz, List.replicate l.toNat z, fun b => .arr sz b 0 l.toNat, fun σ R => by simp only [astep, emks, and_assoc]⟩
      · refine ⟨False, 0, [], fun _ => .nilp, fun σ R => ?_⟩
        simp only [astep, false_and, iff_false]
        unfold emks
        split
        · exact absurd ⟨_, _, rfl⟩ h
        · exact fun h => h
  obtain ⟨Cx, sx, xs, fx, hfx⟩ := form hx vs
  obtain ⟨Cy, sy, ys, fy, hfy⟩ := form hy us
  rw [hfx] at H
  obtain ⟨h1, H⟩ := H
  rw [hfy]
  have h2 : Cy := by
    obtain ⟨b, hb, _⟩ := exists_fresh σ 0
    exact ((hfy _ _).1 (H b hb)).1
  refine ⟨h2, fun b2 hb2 => ?_⟩
  refine (hfx _ _).2 ⟨h1, fun b1 hb1 => ?_⟩
  have hb1' : fresh σ b1 ∧ b1 ≠ b2 := by
    unfold fresh at hb1 ⊢
    simp only [keys_cons, List.mem_cons, not_or] at hb1
    exact ⟨hb1.2, hb1.1⟩
  have := (hfy _ _).1 (H b1 hb1'.1)
  have hb2' : fresh ((b1, ABlk.cells sx xs) :: σ) b2 := by
    unfold fresh at hb2 ⊢
    simp only [keys_cons, List.mem_cons, not_or]
    exact ⟨fun e => hb1'.2 e.symm, hb2⟩
  exact ⟨_, List.Perm.swap _ _ _, this.2 b2 hb2'⟩

theorem swap_step {nc : Bool} {kx ky : AK} (hc : ((kx.quiet && ky.quiet) || (kx.quiet && !kx.reads) || (ky.quiet && !ky.reads) || (ky.quiet && (kx.makes || (nc && kx.apps?))) || (kx.quiet && ky.makes)) = true) {vs us : List AVal} {σ : AHeap} (nd : nc = true → (keys σ).Nodup)
    {Q : AVal → AVal → AHeap → Prop} (H : astep P kx vs σ fun r σ1 => astep P ky us σ1 fun s σ2 => Q r s σ2) :
    astep P ky us σ fun s σ1 => astep P kx vs σ1 fun r σ2 => Q r s σ2 := by
  simp only [Bool.or_eq_true, Bool.and_eq_true, Bool.not_eq_true'] at hc
  rcases hc with (((⟨hx, hy⟩ | ⟨hx, hxr⟩) | ⟨hy, hyr⟩) | ⟨hy, hxm⟩) | ⟨hx, hym⟩
  · rw [astep_quiet hx] at H
    obtain ⟨r, hr, H⟩ := H
    rw [astep_quiet hy] at H
    obtain ⟨s, hs, H⟩ := H
    rw [astep_quiet hy]
    exact ⟨s, hs, by rw [astep_quiet hx]; exact ⟨r, hr, H⟩⟩
  · rw [astep_quiet hx] at H
    obtain ⟨r, hr, H⟩ := H
    refine astep_mono (fun s σ1 hQ => ?_) H
    rw [astep_quiet hx]
    exact ⟨r, by rw [← hr]; exact aquiet_noread hxr, hQ⟩
  · have H' : astep P kx vs σ fun r σ1 => ∃ s, aquiet ky σ us = some s ∧ Q r s σ1 := astep_mono (fun r σ1 h => by
      rw [astep_quiet hy] at h
      obtain ⟨s, hs, hQ⟩ := h
      exact ⟨s, by rw [← hs]; exact aquiet_noread hyr, hQ⟩) H
    obtain ⟨r0, σ0, s0, hs0, _⟩ := astep_nonvac H'
    rw [astep_quiet hy]
    refine ⟨s0, hs0, astep_mono (fun r σ1 h => ?_) H'⟩
    obtain ⟨s, hs, hQ⟩ := h
    rw [hs0] at hs
    simp only [Option.some.injEq] at hs
    rw [hs]
    exact hQ
  · have H' : astep P kx vs σ fun r σ1 => ∃ s, aquiet ky σ1 us = some s ∧ Q r s σ1 := astep_mono (fun r σ1 h => by rwa [astep_quiet hy] at h) H
    rw [astep_quiet hy]
    cases kx <;> simp only [AK.makes, AK.apps?, Bool.false_eq_true, or_self, or_false, false_or, and_false, and_true] at hxm <;> simp only [astep] at H' ⊢
    case alloc z =>
      obtain ⟨h1, h2, h3⟩ := H'
      obtain ⟨s0, e0, h⟩ := newread hy h3
      exact ⟨s0, e0, h1, h2, h⟩
    case box sz =>
      unfold ebox at H' ⊢
      split at H'
      · obtain ⟨h1, h3⟩ := H'
        obtain ⟨s0, e0, h⟩ := newread hy h3
        exact ⟨s0, e0, h1, h⟩
      · exact H'.elim
    case bslo sz =>
      obtain ⟨h1, h3⟩ := H'
      obtain ⟨s0, e0, h⟩ := newread hy h3
      exact ⟨s0, e0, h1, h⟩
    case mks sz byt z =>
      unfold emks at H' ⊢
      split at H'
      · obtain ⟨h1, h2, h3, h4, h5, h6⟩ := H'
        obtain ⟨s0, e0, h⟩ := newread hy h6
        exact ⟨s0, e0, h1, h2, h3, h4, h5, h⟩
      · exact H'.elim
    case app sz byt =>
      unfold eappv at H' ⊢
      split at H'
      · obtain ⟨ys, h1, h2⟩ := H'
        obtain ⟨s0, e0, h⟩ := swap_app hy (nd hxm) h2
        exact ⟨s0, e0, ys, h1, h⟩
      · exact H'.elim
    case apps =>
      unfold eapps at H' ⊢
      split at H'
      · obtain ⟨s0, e0, h⟩ := swap_app hy (nd hxm) H'
        exact ⟨s0, e0, h⟩
      · exact H'.elim
  · rw [astep_quiet hx] at H
    obtain ⟨r, hr, H⟩ := H
    have key : ∀ {sz : Nat} {xs : List AVal} {f : Nat → AVal}, enew sz xs σ (fun b σ' => Q r (f b) σ') → enew sz xs σ (fun b σ' => astep P kx vs σ' fun r σ2 => Q r (f b) σ2) := by
      intro sz xs f h b hb
      rw [astep_quiet hx]
      exact ⟨r, read_beside hr hb _, h b hb⟩
    cases ky <;> simp only [AK.makes, Bool.false_eq_true] at hym <;> simp only [astep] at H ⊢
    case alloc z => exact ⟨H.1, H.2.1, key H.2.2⟩
    case box sz =>
      unfold ebox at H ⊢
      split at H
      · exact ⟨H.1, key H.2⟩
      · exact H.elim
    case bslo sz => exact ⟨H.1, key H.2⟩
    case mks sz byt z =>
      unfold emks at H ⊢
      split at H
      · obtain ⟨h1, h2, h3, h4, h5, h6⟩ := H
        exact ⟨h1, h2, h3, h4, h5, key h6⟩
      · exact H.elim

/-! ### With the frame -/

theorem evs_congr {F F' : AFrame} : ∀ {l : List AOpd}, (∀ i, .t i ∈ l → F i = F' i) → evs F l = evs F' l
  | [], _ => rfl
  | x :: l, h => by
    have h1 : ev F x = ev F' x := by
      cases x with
      | t i => exact h i (by simp)
      | c v => rfl
    simp only [evs, h1, evs_congr (l := l) (fun i hi => h i (by simp [hi]))]

theorem fput_other {dst : Option Nat} {v : Option AVal} {F : AFrame} {i : Nat} (h : dst ≠ some i) : fput dst v F i = F i := by
  cases dst with
  | none => rfl
  | some d =>
    simp only [fput, fset]
    rw [if_neg (fun e => h (by rw [e]))]

theorem fput_comm {d1 d2 : Option Nat} (h : ∀ d, d1 = some d → d2 ≠ some d) (v1 v2 : Option AVal) (F : AFrame) : fput d1 v1 (fput d2 v2 F) = fput d2 v2 (fput d1 v1 F) := by
  cases d1 <;> cases d2 <;> try rfl
  rename_i a b
  have hab : a ≠ b := fun e => h a rfl (by rw [e])
  funext i
  simp only [fput, fset]
  by_cases h1 : i = a
  · subst h1
    rw [if_pos rfl, if_neg hab, if_pos rfl]
  · rw [if_neg h1, if_neg h1]

theorem mem_looks_arg {o : AOper} {i : Nat} (h : AOpd.t i ∈ o.args) : i ∈ o.looks := by
  unfold AOper.looks
  refine List.mem_append.2 (.inl (List.mem_filterMap.2 ⟨_, h, rfl⟩))
theorem mem_looks_guard {o : AOper} {g : Nat} {b : Bool} (h : o.guard = some (g, b)) : g ∈ o.looks := by
  unfold AOper.looks
  rw [h]
  simp

theorem evs_put {o : AOper} {dst : Option Nat} (h : ∀ d, dst = some d → d ∉ o.looks) (v : Option AVal) (F : AFrame) : evs (fput dst v F) o.args = evs F o.args :=
  evs_congr fun i hi => fput_other (fun e => h i e (mem_looks_arg hi))

theorem arun_put {o : AOper} {dst : Option Nat} (h : ∀ d, dst = some d → d ∉ o.looks) (hd : ∀ d, dst = some d → o.dst ≠ some d) (v : Option AVal) {F : AFrame} {σ : AHeap} {Q : AFrame → AHeap → Prop} :
    arun P o (fput dst v F) σ Q ↔ arun P o F σ fun F' σ' => Q (fput dst v F') σ' := by
  unfold arun
  rw [evs_put h]
  have e : ∀ r : AVal, fput o.dst (some r) (fput dst v F) = fput dst v (fput o.dst (some r) F) := fun r => (fput_comm hd v (some r) F).symm
  simp only [e]

theorem aop_put {o : AOper} {dst : Option Nat} (h : ∀ d, dst = some d → d ∉ o.looks) (hd : ∀ d, dst = some d → o.dst ≠ some d) (v : Option AVal) {F : AFrame} {σ : AHeap} {Q : AFrame → AHeap → Prop} :
    aop P o (fput dst v F) σ Q ↔ aop P o F σ fun F' σ' => Q (fput dst v F') σ' := by
  unfold aop
  split
  · exact arun_put h hd v
  · rename_i g want hg
    have e1 : fput dst v F g = F g := fput_other (fun e => h g e (mem_looks_guard hg))
    rw [e1, fput_comm (fun d e => hd d e) v (some (.tup [])) F |>.symm]
    simp only [arun_put h hd v]

theorem apartA_spec {x y : AOper} (h : apartA x y = true) : (∀ d, x.dst = some d → d ∉ y.looks) ∧ (∀ d, x.dst = some d → y.dst ≠ some d) ∧ (∀ d, y.dst = some d → d ∉ x.looks) := by
  unfold apartA at h
  rw [Bool.and_eq_true] at h
  obtain ⟨h1, h2⟩ := h
  refine ⟨fun d e => ?_, fun d e => ?_, fun d e => ?_⟩
  · rw [e] at h1
    simp at h1
    exact h1.1
  · rw [e] at h1
    simp at h1
    exact h1.2
  · rw [e] at h2
    simpa using h2

theorem arun_mono {o : AOper} {F : AFrame} {σ : AHeap} {Q Q' : AFrame → AHeap → Prop} (hQ : ∀ F σ, Q F σ → Q' F σ) (h : arun P o F σ Q) : arun P o F σ Q' := by
  obtain ⟨vs, hvs, h⟩ := h
  exact ⟨vs, hvs, astep_mono (fun r σ' h => hQ _ _ h) h⟩
theorem aop_mono {o : AOper} {F : AFrame} {σ : AHeap} {Q Q' : AFrame → AHeap → Prop} (hQ : ∀ F σ, Q F σ → Q' F σ) (h : aop P o F σ Q) : aop P o F σ Q' := by
  unfold aop at h ⊢
  split at h
  · exact arun_mono hQ h
  · obtain ⟨b, h1, h2, h3⟩ := h
    exact ⟨b, h1, fun e => arun_mono hQ (h2 e), fun e => hQ _ _ (h3 e)⟩

/-- Does the guard let the operation by? -/
def gate (o : AOper) (F : AFrame) : Option Bool :=
  match o.guard with
  | none => some true
  | some (g, want) => (gval (F g)).map fun b => b == some want

theorem aop_gate {o : AOper} {F : AFrame} {σ : AHeap} {Q : AFrame → AHeap → Prop} : aop P o F σ Q ↔ (gate o F = some true ∧ arun P o F σ Q) ∨ (gate o F = some false ∧ Q (fput o.dst (some (.tup [])) F) σ) := by
  unfold aop gate
  cases o.guard with
  | none => simp
  | some gw =>
    obtain ⟨g, want⟩ := gw
    simp only
    constructor
    · rintro ⟨b, hb, h1, h2⟩
      rw [hb]
      by_cases h : b = some want
      · exact .inl ⟨by simp [h], h1 h⟩
      · exact .inr ⟨by simp [h], h2 h⟩
    · intro h
      cases hb : gval (F g) with
      | none => rw [hb] at h; simp at h
      | some b =>
        rw [hb] at h
        simp only [Option.map_some, Option.some.injEq, beq_iff_eq, beq_eq_false_iff_ne] at h
        rcases h with ⟨h1, h2⟩ | ⟨h1, h2⟩
        · exact ⟨b, rfl, fun _ => h2, fun e => absurd h1 e⟩
        · exact ⟨b, rfl, fun e => absurd e h1, fun _ => h2⟩

theorem gate_put {o : AOper} {dst : Option Nat} (h : ∀ d, dst = some d → d ∉ o.looks) (v : Option AVal) (F : AFrame) : gate o (fput dst v F) = gate o F := by
  unfold gate
  cases hg : o.guard with
  | none => rfl
  | some gw =>
    obtain ⟨g, want⟩ := gw
    simp only
    rw [fput_other (fun e => h g e (mem_looks_guard hg))]

theorem swap_callp {kx ky : AK} (hx : kx.callp? = true) {vs us : List AVal} {σ : AHeap} {Q : AVal → AVal → AHeap → Prop} (H : astep P kx vs σ fun r σ1 => astep P ky us σ1 fun s σ2 => Q r s σ2) :
    astep P ky us σ fun s σ1 => astep P kx vs σ1 fun r σ2 => Q r s σ2 := by
  cases kx <;> simp only [AK.callp?, Bool.false_eq_true] at hx
  obtain ⟨v, h1, h2⟩ := H
  exact astep_mono (fun s σ1 h => ⟨v, h1, h⟩) h2
theorem swap_callp2 {kx ky : AK} (hx : kx.quiet = true) (hy : ky.callp? = true) {vs us : List AVal} {σ : AHeap} {Q : AVal → AVal → AHeap → Prop} (H : astep P kx vs σ fun r σ1 => astep P ky us σ1 fun s σ2 => Q r s σ2) :
    astep P ky us σ fun s σ1 => astep P kx vs σ1 fun r σ2 => Q r s σ2 := by
  cases ky <;> simp only [AK.callp?, Bool.false_eq_true] at hy
  rw [astep_quiet hx] at H
  obtain ⟨r, h1, v, h2, h3⟩ := H
  exact ⟨v, h2, (astep_quiet hx).2 ⟨r, h1, h3⟩⟩
theorem evs_mem {F : AFrame} {a : Nat} {v : AVal} (ha : F a = some v) : ∀ {l : List AOpd} {vs : List AVal} {n : Nat}, evs F l = some vs → .t a ∈ l.drop n → v ∈ vs.drop n
  | [], vs, n, _, h => by simp at h
  | x :: l, vs, n, hl, h => by
    simp only [evs] at hl
    cases hx : ev F x with
    | none => rw [hx] at hl; simp at hl
    | some u =>
      rw [hx] at hl
      cases hr : evs F l with
      | none => rw [hr] at hl; simp at hl
      | some us =>
        rw [hr] at hl
        simp only [Option.some.injEq] at hl
        subst hl
        cases n with
        | succ n => simp only [List.drop_succ_cons] at h ⊢; exact evs_mem ha hr h
        | zero =>
          simp only [List.drop_zero] at h ⊢
          rcases List.mem_cons.1 h with e | h
          · subst e
            simp only [ev, ha, Option.some.injEq] at hx
            subst hx; simp
          · have := evs_mem (n := 0) ha hr (by simpa using h)
            simp only [List.drop_zero] at this
            exact List.mem_cons_of_mem _ this
theorem swap_ghost {x y : AOper} (hc : ghostOk x y = true) {F : AFrame} {vs us : List AVal} (hvs : evs F x.args = some vs) (hus : evs F y.args = some us) {σ : AHeap} {Q : AVal → AVal → AHeap → Prop}
    (H : astep P x.k vs σ fun r σ1 => astep P y.k us σ1 fun s σ2 => Q r s σ2) : astep P y.k us σ fun s σ1 => astep P x.k vs σ1 fun r σ2 => Q r s σ2 := by
  unfold ghostOk at hc
  split at hc
  · rename_i ag sz a f n ex ea ey
    rw [ex] at H ⊢
    rw [ey] at H ⊢
    rw [ea] at hvs
    obtain ⟨r, h1, ⟨s, σ', g1, g2⟩, h2⟩ := H
    have hF : ∃ v, F a = some v ∧ vs = [v] := by
      simp only [evs, ev] at hvs
      cases hF : F a with
      | none => rw [hF] at hvs; simp at hvs
      | some v => rw [hF] at hvs; simp at hvs; exact ⟨v, rfl, hvs.symm⟩
    obtain ⟨v, hF, rfl⟩ := hF
    have hmem : v ∈ us.drop n := by
      refine evs_mem hF hus ?_
      rw [List.any_eq_true] at hc
      obtain ⟨z, hz, hc⟩ := hc
      cases z with
      | t b => simp only [beq_iff_eq] at hc; subst hc; exact hz
      | c v => simp at hc
    have key : ∀ σ1, keptG (us.drop n) σ σ1 → aquiet (.load ag sz) σ1 [v] = some r := by
      intro σ1 hk
      rw [← h1]
      refine aquiet_congr fun b hb => ?_
      unfold rname at hb
      split at hb <;> simp only [Option.some.injEq, reduceCtorEq] at hb
      · rename_i e; simp only [List.cons.injEq, and_true] at e; subst e hb; exact hk _ hmem _ rfl
      · rename_i e; simp only [List.cons.injEq, and_true] at e; subst e hb; exact hk _ hmem _ rfl
    exact ⟨⟨s, σ', g1, r, key σ' g1, g2⟩, h2.mono fun s σ1 h => ⟨h.1, r, key σ1 h.1, h.2⟩⟩
  · cases hc

theorem swap_op {nc : Bool} {x y : AOper} (hc : commuteA nc x y = true) {F : AFrame} {σ : AHeap} (nd : nc = true → (keys σ).Nodup) {Q : AFrame → AHeap → Prop} (H : aop P x F σ fun F1 σ1 => aop P y F1 σ1 Q) :
    aop P y F σ fun F1 σ1 => aop P x F1 σ1 fun F2 σ2 => Q F2 σ2 ∨ (nc = true ∧ ∃ τ, τ.Perm σ2 ∧ Q F2 τ) := by
  unfold commuteA at hc
  rw [Bool.and_eq_true] at hc
  obtain ⟨hap, hk⟩ := hc
  obtain ⟨a1, a2, a3⟩ := apartA_spec hap
  have a2' : ∀ d, y.dst = some d → x.dst ≠ some d := fun d e e' => a2 d e' e
  rw [aop_gate] at H
  rcases H with ⟨gx, vs, hvs, H⟩ | ⟨gx, H⟩
  · have H' : astep P x.k vs σ fun r σ1 => (gate y F = some true ∧ ∃ us, evs F y.args = some us ∧ astep P y.k us σ1 fun s σ2 => Q (fput x.dst (some r) (fput y.dst (some s) F)) σ2) ∨ (gate y F = some false ∧ Q (fput x.dst (some r) (fput y.dst (some (.tup [])) F)) σ1) := by
      refine astep_mono (fun r σ1 h => ?_) H
      replace h : aop P y (fput x.dst (some r) F) σ1 Q := h
      rw [aop_put a1 a2, aop_gate] at h
      rcases h with ⟨h1, h2⟩ | ⟨h1, h2⟩
      · exact .inl ⟨h1, h2⟩
      · exact .inr ⟨h1, h2⟩
    obtain ⟨r0, σ0, h0⟩ := astep_nonvac H'
    rw [aop_gate]
    rcases h0 with ⟨gy, us, hus, _⟩ | ⟨gy, _⟩
    · refine .inl ⟨gy, us, hus, ?_⟩
      have h2 : astep P x.k vs σ fun r σ1 => astep P y.k us σ1 fun s σ2 => Q (fput x.dst (some r) (fput y.dst (some s) F)) σ2 := astep_mono (fun r σ1 h => by
        rcases h with ⟨_, us', hus', h⟩ | ⟨h1, _⟩
        · rw [hus] at hus'
          simp only [Option.some.injEq] at hus'
          rw [hus']
          exact h
        · rw [gy] at h1; simp at h1) H'
      have h3 : astep P y.k us σ fun s σ1 => astep P x.k vs σ1 fun r σ2 => Q (fput x.dst (some r) (fput y.dst (some s) F)) σ2 ∨ (nc = true ∧ ∃ τ, τ.Perm σ2 ∧ Q (fput x.dst (some r) (fput y.dst (some s) F)) τ) := by
        have inl : (astep P y.k us σ fun s σ1 => astep P x.k vs σ1 fun r σ2 => Q (fput x.dst (some r) (fput y.dst (some s) F)) σ2) → astep P y.k us σ fun s σ1 => astep P x.k vs σ1 fun r σ2 => Q (fput x.dst (some r) (fput y.dst (some s) F)) σ2 ∨ (nc = true ∧ ∃ τ, τ.Perm σ2 ∧ Q (fput x.dst (some r) (fput y.dst (some s) F)) τ) :=
          fun h => astep_mono (fun s σ1 h => astep_mono (fun r σ2 h => .inl h) h) h
        rw [Bool.or_eq_true, Bool.or_eq_true, Bool.or_eq_true, Bool.or_eq_true] at hk
        rcases hk with (((hk | hk) | hk) | hk) | hk
        · exact inl (swap_ghost hk hvs hus h2)
        · exact inl (swap_callp hk h2)
        · rw [Bool.and_eq_true] at hk
          exact inl (swap_callp2 hk.1 hk.2 h2)
        · simp only [Bool.and_eq_true] at hk
          exact astep_mono (fun s σ1 h => astep_mono (fun r σ2 h => .inr ⟨hk.1.1, h⟩) h) (swap_makes hk.1.2 hk.2 h2)
        · exact inl (swap_step hk nd (Q := fun r s σ2 => Q (fput x.dst (some r) (fput y.dst (some s) F)) σ2) h2)
      refine astep_mono (fun s σ1 h => ?_) h3
      show aop P x (fput y.dst (some s) F) σ1 _
      rw [aop_gate, gate_put a3]
      exact .inl ⟨gx, vs, by rw [evs_put a3]; exact hvs, h⟩
    · refine .inr ⟨gy, ?_⟩
      rw [aop_gate, gate_put a3]
      refine .inl ⟨gx, vs, by rw [evs_put a3]; exact hvs, astep_mono (fun r σ1 h => ?_) H'⟩
      rcases h with ⟨h1, _⟩ | ⟨_, h⟩
      · rw [gy] at h1; simp at h1
      · exact .inl h
  · rw [aop_put a1 a2, aop_gate] at H
    rw [aop_gate]
    rcases H with ⟨gy, us, hus, H⟩ | ⟨gy, H⟩
    · refine .inl ⟨gy, us, hus, astep_mono (fun s σ1 h => ?_) H⟩
      show aop P x (fput y.dst (some s) F) σ1 _
      rw [aop_gate, gate_put a3]
      exact .inr ⟨gx, .inl h⟩
    · refine .inr ⟨gy, ?_⟩
      rw [aop_gate, gate_put a3]
      exact .inr ⟨gx, .inl H⟩

theorem aop_nd {o : AOper} (hc : o.k.calls = false) {F : AFrame} {σ : AHeap} (nd : (keys σ).Nodup) {Q : AFrame → AHeap → Prop} (h : aop P o F σ Q) : aop P o F σ fun F' σ' => (keys σ').Nodup ∧ Q F' σ' := by
  have hrun : arun P o F σ Q → arun P o F σ fun F' σ' => (keys σ').Nodup ∧ Q F' σ' := by
    rintro ⟨vs, hvs, h⟩
    refine ⟨vs, hvs, ?_⟩
    generalize hR : (fun r σ' => Q (fput o.dst (some r) F) σ') = R at h
    have hgoal : (fun (r : AVal) (σ' : AHeap) => (keys σ').Nodup ∧ Q (fput o.dst (some r) F) σ') = fun r σ' => (keys σ').Nodup ∧ R r σ' := by
      funext r σ'; rw [← hR]
    rw [hgoal]
    clear hgoal hR
    have hnew : ∀ {sz : Nat} {xs : List AVal} {f : Nat → AVal}, enew sz xs σ (fun b σ' => R (f b) σ') → enew sz xs σ (fun b σ' => (keys σ').Nodup ∧ R (f b) σ') := fun h b hb => ⟨by simp only [keys_cons, List.nodup_cons]; exact ⟨hb, nd⟩, h b hb⟩
    have happ : ∀ {sz byt : Nat} {s : AVal} {ys : List AVal}, eapp sz byt s ys σ R → eapp sz byt s ys σ fun r σ' => (keys σ').Nodup ∧ R r σ' := by
      intro sz byt s ys h
      unfold eapp at h ⊢
      split at h
      · rename_i z xs
        obtain ⟨h1, h2, h3⟩ := h
        refine ⟨h1, h2, ?_⟩
        cases xs with
        | nil => exact hnew h3
        | cons x xs => exact ⟨fun e => ⟨nd, h3.1 e⟩, fun e => hnew (h3.2 e)⟩
      · obtain ⟨xs, h1, h2, h3, h4⟩ := h
        exact ⟨xs, h1, h2, h3, fun b' hb' => ⟨nodup_hren nd hb', h4 b' hb'⟩⟩
      · exact h.elim
    generalize o.k = k at h hc
    cases k <;> simp only [AK.calls, Bool.true_eq_false] at hc <;> simp only [astep] at h ⊢
    case store sz =>
      unfold estore at h ⊢
      split at h
      · obtain ⟨s, xs, x, h1, h2, h3, h4, h5, h6⟩ := h
        exact ⟨s, xs, x, h1, h2, h3, h4, h5, by rw [keys_hset]; exact nd, h6⟩
      · exact h.elim
    case alloc z => exact ⟨h.1, h.2.1, hnew h.2.2⟩
    case box sz =>
      unfold ebox at h ⊢
      split at h
      · exact ⟨h.1, hnew h.2⟩
      · exact h.elim
    case bslo sz => exact ⟨h.1, hnew h.2⟩
    case strish sz =>
      unfold estrish at h ⊢
      split at h
      · obtain ⟨xs, h1, h2, h3, h4⟩ := h
        exact ⟨xs, h1, h2, h3, (keys_hdel_sub σ _).nodup nd, h4⟩
      · exact h.elim
    case isnil neg =>
      unfold eisnil at h ⊢
      split at h
      · exact ⟨fun e => ⟨nd, h.1 e⟩, fun e t => ⟨nd, h.2 e t⟩⟩
      · exact ⟨fun e => ⟨nd, h.1 e⟩, fun e t => ⟨nd, h.2 e t⟩⟩
      · exact h.elim
    case mks sz byt z =>
      unfold emks at h ⊢
      split at h
      · obtain ⟨h1, h2, h3, h4, h5, h6⟩ := h
        exact ⟨h1, h2, h3, h4, h5, hnew h6⟩
      · exact h.elim
    case app sz byt =>
      unfold eappv at h ⊢
      split at h
      · obtain ⟨ys, h1, h2⟩ := h
        exact ⟨ys, h1, happ h2⟩
      · exact h.elim
    case apps =>
      unfold eapps at h ⊢
      split at h
      · exact happ h
      · exact h.elim
    case cpy sz =>
      unfold ecpy at h ⊢
      split at h
      · obtain ⟨xs, ys, h1, h2, h3, h4⟩ := h
        exact ⟨xs, ys, h1, h2, h3, by rw [keys_hset]; exact nd, h4⟩
      · exact h.elim
    case clip sz =>
      unfold eclip at h ⊢
      split at h
      · obtain ⟨xs, h1, h2, h3, h4, h5, h6⟩ := h
        exact ⟨xs, h1, h2, h3, h4, h5, (keys_hdel_sub σ _).nodup nd, h6⟩
      · obtain ⟨v, h1, h2⟩ := h
        exact ⟨v, h1, nd, h2⟩
    all_goals (obtain ⟨v, h1, h2⟩ := h; exact ⟨v, h1, nd, h2⟩)
  unfold aop at h ⊢
  split at h
  · exact hrun h
  · obtain ⟨b, h1, h2, h3⟩ := h
    exact ⟨b, h1, fun e => hrun (h2 e), fun e => ⟨nd, h3 e⟩⟩

/-! ### In whatever order -/

def aAny (P : Program) (ops : Array Oper) (l : List AOper) (Q : AFrame → AHeap → Prop) : Nat → Array Bool → AFrame → AHeap → Prop
  | 0, listed, F, σ => Region.ready .any ops listed = [] ∧ Q F σ
  | fuel + 1, listed, F, σ => (Region.ready .any ops listed = [] → Q F σ) ∧ ∀ i ∈ Region.ready .any ops listed, ∀ o, l[i]? = some o → aop P o F σ (aAny P ops l Q fuel (listed.setIfInBounds i true))

theorem aop_perm {o : AOper} (hc : o.k.calls = false) {F : AFrame} {σ τ : AHeap} (nd : (keys σ).Nodup) (p : σ.Perm τ) {Q : AFrame → AHeap → Prop} (h : aop P o F σ Q) : aop P o F τ fun F' σ' => ∃ ρ, ρ.Perm σ' ∧ Q F' ρ := by
  have hrun : arun P o F σ Q → arun P o F τ fun F' σ' => ∃ ρ, ρ.Perm σ' ∧ Q F' ρ := by
    rintro ⟨vs, hvs, h⟩
    exact ⟨vs, hvs, astep_mono (fun r σ' h => h) (astep_perm hc nd p h)⟩
  unfold aop at h ⊢
  split at h
  · exact hrun h
  · obtain ⟨b, h1, h2, h3⟩ := h
    exact ⟨b, h1, fun e => hrun (h2 e), fun e => ⟨_, p, h3 e⟩⟩

/-- What does not ask for the heap's order. -/
def Closed (Q : AFrame → AHeap → Prop) : Prop := ∀ F σ τ, (keys σ).Nodup → σ.Perm τ → Q F σ → Q F τ

theorem aAny_perm {ops : Array Oper} {l : List AOper} (hnc : ∀ o ∈ l, o.k.calls = false) {Q : AFrame → AHeap → Prop} (hQ : Closed Q) : ∀ (fuel : Nat) (listed : Array Bool), Closed (aAny P ops l Q fuel listed)
  | 0, listed => fun F σ τ nd p h => ⟨h.1, hQ F σ τ nd p h.2⟩
  | fuel + 1, listed => fun F σ τ nd p h => by
    refine ⟨fun e => hQ F σ τ nd p (h.1 e), fun i hi o ho => ?_⟩
    have hc := hnc o (List.mem_of_getElem? ho)
    refine aop_mono (fun F' σ' h' => ?_) (aop_perm hc nd p (aop_nd hc nd (h.2 i hi o ho)))
    obtain ⟨ρ, h1, h2, h3⟩ := h'
    exact aAny_perm hnc hQ fuel _ F' ρ σ' h2 h1 h3

theorem any_sound {ops : Array Oper} {fl : Nat → Bool} {l : List AOper} {gs : Nat → List Nat} (hl : ∀ (i : Nat) o, ops[i]? = some o → ∃ ao, l[i]? = some (modA (fl i) (gs i) ao) ∧ operA P N ops (fl i) o = some ao) {K0 : Kr} {Q : AFrame → AHeap → Prop} {Qc : Exit → Act → World → Prop} (hQ : ∀ a w, St K0 N Q a w → Qc .normal a w) :
    ∀ (fuel : Nat) (listed : Array Bool) (a : Act) (w : World), St K0 N (fun F σ => aAny P ops l Q fuel listed F σ) a w → wpAnyIn (fen rd) 0 P .any ops Qc fuel listed a w
  | 0, listed, a, w, h => by
    obtain ⟨K, F, σ, h1, h2, h3, h4, h5⟩ := h
    exact ⟨h5.1, hQ _ _ ⟨K, F, σ, h1, h2, h3, h4, h5.2⟩⟩
  | fuel + 1, listed, a, w, h => by
    obtain ⟨K, F, σ, h1, h2, h3, h4, h5⟩ := h
    have h6 := h5.1
    have h7 := h5.2
    refine ⟨fun e => hQ _ _ ⟨K, F, σ, h1, h2, h3, h4, h6 e⟩, fun i hi => ?_⟩
    obtain ⟨_, o, ho, _⟩ := mem_ready.1 hi
    obtain ⟨ao, hao, hop⟩ := hl i o ho
    have hstep := aop_sound (rd := rd) (Qc := Qc) hop (K0 := K0) (Q := fun F σ => aAny P ops l Q fuel (listed.setIfInBounds i true) F σ) ⟨K, F, σ, h1, h2, h3, h4, aop_modA (h7 i hi _ hao)⟩
    unfold wpOpIn
    rw [ho]
    simp only
    split
    · rename_i hw
      rw [if_pos hw] at hstep
      exact Oper.wpIn_mono (fun a' w' h' => any_sound hl hQ fuel _ a' w' h') hstep
    · rename_i hw
      rw [if_neg hw] at hstep
      exact ⟨fun _ _ => trivial, any_sound hl hQ fuel _ _ _ hstep⟩

/-- 'i' must be ahead of 'j'. -/
inductive Ahead (ops : Array Oper) : Nat → Nat → Prop
  | edge {i j : Nat} {o : Oper} (h : ops[j]? = some o) (he : i ∈ edgesOf o) : Ahead ops i j
  | trans {i m j : Nat} {o : Oper} (h : ops[j]? = some o) (he : m ∈ edgesOf o) (ha : Ahead ops i m) : Ahead ops i j

theorem mem_edges {o : Oper} {i : Nat} : i ∈ edgesOf o ↔ ∃ e ∈ o.after, Region.binds .any e = true ∧ e.on = i := by
  unfold edgesOf
  simp only [List.mem_map, List.mem_filter, Array.mem_toList_iff]
  constructor
  · rintro ⟨e, ⟨h1, h2⟩, h3⟩; exact ⟨e, h1, h2, h3⟩
  · rintro ⟨e, h1, h2, h3⟩; exact ⟨e, ⟨h1, h2⟩, h3⟩

/-- What is listed has all listed that must be ahead of it. -/
def ListOk (ops : Array Oper) (listed : Array Bool) : Prop := ∀ j, listed.getD j false = true → ∀ o, ops[j]? = some o → ∀ i ∈ edgesOf o, listed.getD i false = true

theorem ready_edges {ops : Array Oper} {listed : Array Bool} {j : Nat} (h : j ∈ Region.ready .any ops listed) {o : Oper} (ho : ops[j]? = some o) : ∀ i ∈ edgesOf o, listed.getD i false = true := by
  obtain ⟨_, o', ho', hall⟩ := mem_ready.1 h
  rw [ho] at ho'
  simp only [Option.some.injEq] at ho'; subst ho'
  intro i hi
  obtain ⟨e, he, hb, rfl⟩ := mem_edges.1 hi
  exact hall e he hb

theorem ListOk.ahead {ops : Array Oper} {listed : Array Bool} (hok : ListOk ops listed) {i j : Nat} (h : Ahead ops i j) : listed.getD j false = true → listed.getD i false = true := by
  induction h with
  | edge h he => exact fun hj => hok _ hj _ h _ he
  | trans h he _ ih => exact fun hj => ih (hok _ hj _ h _ he)

theorem not_ready_of_ahead {ops : Array Oper} {listed : Array Bool} (hok : ListOk ops listed) {i j : Nat} (h : Ahead ops i j) (hi : listed.getD i false = false) : j ∉ Region.ready .any ops listed := by
  intro hj
  cases h with
  | edge h he =>
    have := ready_edges hj h _ he
    rw [hi] at this; cases this
  | trans h he ha =>
    have := hok.ahead ha (ready_edges hj h _ he)
    rw [hi] at this; cases this

theorem ListOk.set {ops : Array Oper} {listed : Array Bool} (hok : ListOk ops listed) {i : Nat} (hi : i ∈ Region.ready .any ops listed) : ListOk ops (listed.setIfInBounds i true) := by
  intro j hj o ho m hm
  by_cases e : j = i
  · subst e
    exact getD_set_true (ready_edges hi ho m hm)
  · rw [getD_set_ne false (fun h => e h.symm)] at hj
    exact getD_set_true (hok j hj o ho m hm)

theorem getD_bool {listed : Array Bool} {i : Nat} (h : listed.getD i true = false) : listed.getD i false = false := by
  by_cases hlt : i < listed.size
  · simp [hlt] at h ⊢; exact h
  · simp [hlt] at h

theorem set_comm (listed : Array Bool) (i j : Nat) : (listed.setIfInBounds i true).setIfInBounds j true = (listed.setIfInBounds j true).setIfInBounds i true := by
  by_cases h : i = j
  · subst h; rfl
  · exact Array.setIfInBounds_comm _ _ h

/-- How many are not listed. -/
def unlisted (ops : Array Oper) (listed : Array Bool) : Nat := ((List.range ops.size).filter fun i => !listed.getD i true).length

theorem filter_less {p : Nat → Bool} {j : Nat} : ∀ {L : List Nat}, L.Nodup → j ∈ L → p j = true → (L.filter fun i => p i && !(i == j)).length + 1 = (L.filter p).length
  | [], _, hj, _ => by cases hj
  | a :: L, nd, hj, hp => by
    simp only [List.nodup_cons] at nd
    by_cases e : a = j
    · subst e
      have : (L.filter fun i => p i && !(i == a)) = L.filter p := by
        apply List.filter_congr
        intro i hi
        have : i ≠ a := fun e => nd.1 (e ▸ hi)
        simp [this]
      simp [List.filter_cons, hp, this]
    · have hj' : j ∈ L := by
        rcases List.mem_cons.1 hj with h | h
        · exact absurd h.symm e
        · exact h
      have := filter_less nd.2 hj' hp
      simp only [List.filter_cons]
      have e' : (a == j) = false := by simpa using e
      rw [e']
      cases p a <;> simp <;> omega

theorem unlisted_set {ops : Array Oper} {listed : Array Bool} {j : Nat} (hj : j ∈ Region.ready .any ops listed) : unlisted ops (listed.setIfInBounds j true) + 1 = unlisted ops listed := by
  obtain ⟨h1, o, ho, _⟩ := mem_ready.1 hj
  have hlt : j < ops.size := (Array.getElem?_eq_some_iff.1 ho).1
  have hls : j < listed.size := by
    by_cases h : j < listed.size
    · exact h
    · simp [h] at h1
  unfold unlisted
  rw [← filter_less (p := fun i => !listed.getD i true) (j := j) List.nodup_range (List.mem_range.2 hlt) (by simp only [h1, Bool.not_false])]
  congr 2
  apply List.filter_congr
  intro i _
  by_cases e : i = j
  · subst e
    simp [hls]
  · have e' : (i == j) = false := by simpa using e
    rw [getD_set_ne true (fun h => e h.symm), e']
    simp

theorem ready_unlisted {ops : Array Oper} {listed : Array Bool} {i j : Nat} (hi : i ∈ Region.ready .any ops listed) (hj : j ∈ Region.ready .any ops listed) (h1 : unlisted ops listed = 1) : i = j := by
  have hm : ∀ {m}, m ∈ Region.ready .any ops listed → m ∈ (List.range ops.size).filter fun i => !listed.getD i true := by
    intro m hm
    obtain ⟨h1, o, ho, _⟩ := mem_ready.1 hm
    exact List.mem_filter.2 ⟨List.mem_range.2 (Array.getElem?_eq_some_iff.1 ho).1, by simp only [h1, Bool.not_false]⟩
  obtain ⟨a, ha⟩ := list_of_len1 h1
  have h2 := hm hi
  have h3 := hm hj
  rw [ha] at h2 h3
  simp at h2 h3
  rw [h2, h3]

/-- An operation that is ready, and with which all that may come ahead of it can change places, is taken first. -/
theorem aAny_first {ops : Array Oper} {l : List AOper} {nc : Bool} (hnc : nc = true → ∀ o ∈ l, o.k.calls = false) {Q : AFrame → AHeap → Prop} (hQ : Closed Q) {k : Nat} {x : AOper} (hk : l[k]? = some x)
    (hcom : ∀ j y, l[j]? = some y → j ≠ k → Ahead ops k j ∨ j < k ∨ commuteA nc x y = true) :
    ∀ (fuel : Nat) (listed : Array Bool) (F : AFrame) (σ : AHeap), (nc = true → (keys σ).Nodup) → ListOk ops listed → (∀ j, j < k → listed.getD j false = true) → k ∈ Region.ready .any ops listed →
      unlisted ops listed = fuel + 1 → aop P x F σ (aAny P ops l Q fuel (listed.setIfInBounds k true)) → aAny P ops l Q (fuel + 1) listed F σ := by
  intro fuel
  induction fuel with
  | zero =>
    intro listed F σ nd hok hlow hr hz H
    refine ⟨fun e => (by rw [e] at hr; cases hr), fun j hj o ho => ?_⟩
    have hjk := ready_unlisted hj hr hz
    subst hjk
    rw [hk] at ho; simp only [Option.some.injEq] at ho; subst ho
    exact H
  | succ fuel ih =>
    intro listed F σ nd hok hlow hr hz H
    refine ⟨fun e => (by rw [e] at hr; cases hr), fun j hj o ho => ?_⟩
    by_cases hjk : j = k
    · subst hjk
      rw [hk] at ho; simp only [Option.some.injEq] at ho; subst ho
      exact H
    · have hknot := getD_bool (mem_ready.1 hr).1
      have hcomm : commuteA nc x o = true := by
        rcases hcom j o ho hjk with h | h | h
        · exact absurd hj (not_ready_of_ahead hok h hknot)
        · have h1 := hlow j h
          have h2 := getD_bool (mem_ready.1 hj).1
          rw [h1] at h2; cases h2
        · exact h
      have H1 : aop P x F σ fun F1 σ1 => aop P o F1 σ1 (aAny P ops l Q fuel ((listed.setIfInBounds k true).setIfInBounds j true)) := aop_mono (fun F1 σ1 h => h.2 j (ready_mono hj hjk) o ho) H
      have H2' := swap_op hcomm nd H1
      have H2 : aop P o F σ fun F1 σ1 => aop P x F1 σ1 (aAny P ops l Q fuel ((listed.setIfInBounds k true).setIfInBounds j true)) := by
        cases hnc' : nc with
        | false => exact aop_mono (fun F1 σ1 h => aop_mono (fun F2 σ2 h => h.elim id fun h => by rw [hnc'] at h; cases h.1) h) H2'
        | true =>
          have ho' := hnc hnc' o (List.mem_of_getElem? ho)
          have hx' := hnc hnc' x (List.mem_of_getElem? hk)
          refine aop_mono (fun F1 σ1 h => ?_) (aop_nd ho' (nd hnc') H2')
          refine aop_mono (fun F2 σ2 h => ?_) (aop_nd hx' h.1 h.2)
          rcases h with ⟨h1, h2 | ⟨_, ρ, h3, h4⟩⟩
          · exact h2
          · exact aAny_perm (hnc hnc') hQ _ _ F2 ρ σ2 (perm_nodup h3.symm h1) h3 h4
      rw [set_comm] at H2
      have step : ∀ F1 σ1, (nc = true → (keys σ1).Nodup) → aop P x F1 σ1 (aAny P ops l Q fuel ((listed.setIfInBounds j true).setIfInBounds k true)) → aAny P ops l Q (fuel + 1) (listed.setIfInBounds j true) F1 σ1 := by
        intro F1 σ1 nd1 h
        refine ih (listed.setIfInBounds j true) F1 σ1 nd1 (hok.set hj) (fun m hm => getD_set_true (hlow m hm)) (ready_mono hr (fun e => hjk e.symm)) (by have := unlisted_set hj; omega) h
      cases hnc' : nc with
      | false => exact aop_mono (fun F1 σ1 h => step F1 σ1 (fun e => by rw [hnc'] at e; cases e) h) H2
      | true =>
        have H3 := aop_nd (hnc hnc' o (List.mem_of_getElem? ho)) (nd hnc') H2
        exact aop_mono (fun F1 σ1 h => step F1 σ1 (fun _ => h.1) h.2) H3

/-- The operations from the k-th on, in the order of the text: in whatever order. -/
theorem aAny_of_aops {ops : Array Oper} {l : List AOper} (hlen : l.length = ops.size) (hlow : ∀ (j : Nat) o, ops[j]? = some o → ∀ i ∈ edgesOf o, i < j) {nc : Bool} (hnc : nc = true → ∀ o ∈ l, o.k.calls = false)
    (hcom : ∀ i j x y, i < j → l[i]? = some x → l[j]? = some y → Ahead ops i j ∨ commuteA nc x y = true) {Q : AFrame → AHeap → Prop} (hQ : Closed Q) :
    ∀ (n k : Nat) (listed : Array Bool) (F : AFrame) (σ : AHeap), k + n = ops.size → (nc = true → (keys σ).Nodup) → listed.size = ops.size → (∀ j, j < k → listed.getD j false = true) → (∀ j, k ≤ j → j < ops.size → listed.getD j true = false) →
      aops P (l.drop k) F σ Q → aAny P ops l Q n listed F σ := by
  intro n
  induction n with
  | zero =>
    intro k listed F σ hk nd hs h1 h2 h
    have hd : l.drop k = [] := List.drop_of_length_le (by omega)
    rw [hd] at h
    refine ⟨?_, h⟩
    apply List.eq_nil_iff_forall_not_mem.2
    intro j hj
    obtain ⟨h3, o, ho, _⟩ := mem_ready.1 hj
    have hlt : j < ops.size := (Array.getElem?_eq_some_iff.1 ho).1
    have h4 := h1 j (by omega)
    have h5 := getD_bool h3
    rw [h4] at h5; cases h5
  | succ n ih =>
    intro k listed F σ hk nd hs h1 h2 h
    have hkl : k < l.length := by omega
    have hx : l[k]? = some l[k] := List.getElem?_eq_getElem hkl
    rw [List.drop_eq_getElem_cons hkl] at h
    simp only [aops] at h
    have hok : ListOk ops listed := by
      intro j hj o ho i hi
      have hjk : j < k := by
        by_cases hh : j < k
        · exact hh
        · have hlt : j < ops.size := (Array.getElem?_eq_some_iff.1 ho).1
          have := getD_bool (h2 j (by omega) hlt)
          rw [this] at hj; cases hj
      exact h1 i (by have := hlow j o ho i hi; omega)
    have hkr : k ∈ Region.ready .any ops listed := by
      rw [mem_ready]
      have hlt : k < ops.size := by omega
      refine ⟨h2 k (Nat.le_refl _) hlt, ops[k], Array.getElem?_eq_getElem hlt, fun e he hb => ?_⟩
      exact h1 e.on (hlow k ops[k] (Array.getElem?_eq_getElem hlt) e.on (mem_edges.2 ⟨e, he, hb, rfl⟩))
    have hun : unlisted ops listed = n + 1 := by
      unfold unlisted
      have e : (List.range ops.size).filter (fun i => !listed.getD i true) = (List.range' k (n + 1)) := by
        have e1 : List.range ops.size = List.range k ++ List.range' k (n + 1) := by
          rw [← hk, List.range_eq_range', List.range_eq_range', ← List.range'_append_1]
          simp
        rw [e1, List.filter_append]
        have e2 : (List.range k).filter (fun i => !listed.getD i true) = [] := by
          apply List.filter_eq_nil_iff.2
          intro i hi
          have h3 := h1 i (List.mem_range.1 hi)
          have hlt : i < listed.size := by
            by_cases hh : i < listed.size
            · exact hh
            · simp [hh] at h3
          simp [hlt] at h3 ⊢
          exact h3
        have e3 : (List.range' k (n + 1)).filter (fun i => !listed.getD i true) = List.range' k (n + 1) := by
          apply List.filter_eq_self.2
          intro i hi
          simp only [List.mem_range'_1] at hi
          rw [h2 i hi.1 (by omega)]
          rfl
        rw [e2, e3]
        rfl
      rw [e]
      simp
    refine aAny_first hnc hQ hx (fun j y hy hjk => ?_) n listed F σ nd hok h1 hkr hun ?_
    · by_cases hlt : j < k
      · exact .inr (.inl hlt)
      · rcases hcom k j _ y (by omega) hx hy with h | h
        · exact .inl h
        · exact .inr (.inr h)
    · have step : ∀ F1 σ1, (nc = true → (keys σ1).Nodup) → aops P (l.drop (k + 1)) F1 σ1 Q → aAny P ops l Q n (listed.setIfInBounds k true) F1 σ1 := by
        intro F1 σ1 nd1 h'
        refine ih (k + 1) _ F1 σ1 (by omega) nd1 (by simp [hs]) (fun j hj => ?_) (fun j hj hlt => ?_) h'
        · by_cases e : j = k
          · subst e
            have : j < listed.size := by omega
            simp [this]
          · exact getD_set_true (h1 j (by omega))
        · rw [getD_set_ne true (by omega)]
          exact h2 j (by omega) hlt
      cases hnc' : nc with
      | false => exact aop_mono (fun F1 σ1 h => step F1 σ1 (fun e => by rw [hnc'] at e; cases e) h) h
      | true =>
        have h3 := aop_nd (hnc hnc' l[k] (List.getElem_mem hkl)) (nd hnc') h
        exact aop_mono (fun F1 σ1 h => step F1 σ1 (fun _ => h.1) h.2) h3

theorem ancOf_len (ops : Array Oper) : ∀ n, (ancOf ops n).length = n
  | 0 => rfl
  | n + 1 => by simp [ancOf, ancOf_len ops n]

theorem anc_bits {l : List Nat} {i : Nat} : ∀ {es : List Nat}, (es.foldr (fun j m => (2 ^ j ||| l.getD j 0) ||| m) 0).testBit i = true → ∃ j ∈ es, j = i ∨ (l.getD j 0).testBit i = true
  | [], h => by simp at h
  | e :: es, h => by
    simp only [List.foldr_cons, Nat.testBit_or, Nat.testBit_two_pow, Bool.or_eq_true, decide_eq_true_eq] at h
    rcases h with (h | h) | h
    · exact ⟨e, by simp, .inl h⟩
    · exact ⟨e, by simp, .inr h⟩
    · obtain ⟨j, hj, h⟩ := anc_bits h
      exact ⟨j, by simp [hj], h⟩

theorem ancOf_sound (ops : Array Oper) : ∀ (n j : Nat), j < n → ∀ i, ((ancOf ops n).getD j 0).testBit i = true → Ahead ops i j
  | 0, j, h, _, _ => by omega
  | n + 1, j, h, i, hi => by
    simp only [ancOf] at hi
    by_cases hj : j < n
    · rw [List.getD_eq_getElem?_getD, List.getElem?_append_left (by rw [ancOf_len]; exact hj), ← List.getD_eq_getElem?_getD] at hi
      exact ancOf_sound ops n j hj i hi
    · have : j = n := by omega
      subst this
      rw [List.getD_eq_getElem?_getD, List.getElem?_append_right (by rw [ancOf_len]; exact Nat.le_refl _), ancOf_len, Nat.sub_self] at hi
      simp only [List.getElem?_cons_zero, Option.getD_some] at hi
      cases ho : ops[j]? with
      | none => rw [ho] at hi; simp at hi
      | some o =>
        rw [ho] at hi
        obtain ⟨m, hm, rfl | hi⟩ := anc_bits hi
        · exact .edge ho hm
        · by_cases hmj : m < j
          · exact .trans ho hm (ancOf_sound ops j m hmj i hi)
          · rw [List.getD_eq_getElem?_getD, List.getElem?_eq_none (by rw [ancOf_len]; omega)] at hi
            simp at hi

theorem aops_mono' {Q Q' : AFrame → AHeap → Prop} (hQ : ∀ F σ, Q F σ → Q' F σ) : ∀ {l : List AOper} {F : AFrame} {σ : AHeap}, aops P l F σ Q → aops P l F σ Q'
  | [], _, _, h => hQ _ _ h
  | _ :: _, _, _, h => aop_mono (fun _ _ h' => aops_mono' hQ h') h

theorem operAs_len {ops : Array Oper} {fl : List Nat} : ∀ {l : List Oper} {i : Nat} {al : List AOper}, operAs P N ops fl i l = some al → al.length = l.length
  | [], i, al, h => by simp [operAs] at h; subst h; rfl
  | o :: l, i, al, h => by
    simp only [operAs, Option.bind_eq_bind, Option.bind_eq_some_iff, Option.pure_def, Option.some.injEq] at h
    obtain ⟨ao, ho, al', hl, rfl⟩ := h
    simp [operAs_len hl]

theorem operAs_get {ops : Array Oper} {fl : List Nat} : ∀ {l : List Oper} {i : Nat} {al : List AOper}, operAs P N ops fl i l = some al → ∀ (j : Nat) o, l[j]? = some o → ∃ ao, al[j]? = some (modA (fl.contains (i + j)) (ghostsA fl (i + j)) ao) ∧ operA P N ops (fl.contains (i + j)) o = some ao
  | [], i, al, h, j, o, ho => by simp at ho
  | o' :: l, i, al, h, j, o, ho => by
    simp only [operAs, Option.bind_eq_bind, Option.bind_eq_some_iff, Option.pure_def, Option.some.injEq] at h
    obtain ⟨ao, ho', al', hl, rfl⟩ := h
    cases j with
    | zero => simp at ho; subst ho; exact ⟨ao, by simp, ho'⟩
    | succ j =>
      obtain ⟨a, h1, h2⟩ := operAs_get hl j o (by simpa using ho)
      exact ⟨a, by rw [show i + (j + 1) = i + 1 + j by omega]; simpa using h1, by rw [← h2]; congr 2; omega⟩

theorem region_draw_sound (hm : P.follows .mixedOrders = true) {id : Nat} {ops : Array Oper} {fl : List Nat} {al : List AOper} (hc : operAs P N ops fl 0 ops.toList = some al) (hd : drawOk ops al = true) {K0 : Kr} {Q : AFrame → AHeap → Prop} {Qc : Exit → Act → World → Prop} {a : Act} {w : World}
    (hQ : ∀ a w, St K0 N Q a w → Qc .normal a w) (h : St K0 N (fun F σ => aops P al F σ Q) a w) : (Code.region id ops true).wpIn (fen rd) 0 P Qc a w := by
  have hlen : al.length = ops.size := by rw [operAs_len hc]; simp
  unfold drawOk at hd
  simp only [List.all_eq_true, List.mem_range] at hd
  refine wpIn_region_any hm ?_
  have hQ' : ∀ a w, St K0 N (fun F σ => ∃ τ, τ.Perm σ ∧ Q F τ) a w → Qc .normal a w := fun a w hs => by
    obtain ⟨K, F, σ, h1, h2, h3, h4, τ, h5, h6⟩ := hs
    exact hQ a w ⟨K, F, τ, h1, h2.sub ((h5.map Prod.fst).nodup_iff.2 h2.nd) (fun p hp => h5.subset hp), h3, h4, h6⟩
  refine any_sound (fl := fun i => fl.contains (0 + i)) (gs := fun i => ghostsA fl (0 + i)) (fun i o ho => operAs_get hc i o (by simpa using ho)) hQ' ops.size _ a w.drew ?_
  obtain ⟨K, F, σ, h1, h2, h3, h4, h5⟩ := h.drew
  refine ⟨K, F, σ, h1, h2, h3, h4, ?_⟩
  refine aAny_of_aops (nc := al.all fun o => !o.k.calls) hlen (fun j o ho i hi => ?_) (fun e o ho => ?_) (fun i j x y hij hx hy => ?_) (fun F σ τ nd p h => by obtain ⟨ρ, h1, h2⟩ := h; exact ⟨ρ, h1.trans p, h2⟩) ops.size 0 _ F σ (by omega) (fun _ => h2.nd) (by simp) (fun j hj => by omega) (fun j _ hlt => by simp [hlt]) (aops_mono' (fun F σ h => ⟨σ, List.Perm.refl _, h⟩) (by simpa using h5))
  · have hlt : j < ops.size := (Array.getElem?_eq_some_iff.1 ho).1
    have := hd j hlt
    rw [ho] at this
    split at this
    · rename_i oj aj e1 e2
      simp only [Option.some.injEq] at e1; subst e1
      rw [Bool.and_eq_true] at this
      exact of_decide_eq_true (List.all_eq_true.1 this.1 i hi)
    · cases this
  · have := List.all_eq_true.1 e o ho
    simpa using this
  · have hlt : j < ops.size := by rw [← hlen]; exact (List.getElem?_eq_some_iff.1 hy).1
    have hj := hd j hlt
    rw [hy] at hj
    split at hj
    · rename_i oj aj e1 e2
      simp only [Option.some.injEq] at e2; subst e2
      rw [Bool.and_eq_true] at hj
      have := List.all_eq_true.1 hj.2 i (List.mem_range.2 hij)
      rw [hx] at this
      simp only [Bool.or_eq_true] at this
      rcases this with h | h
      · exact .inl (ancOf_sound ops ops.size j hlt i h)
      · exact .inr h
    · cases hj

end Go.Abs

/-
  A program logic over abstract states, part P: code, and calls of functions.
-/
namespace Go.Abs
open Go Go.RowKit

set_option linter.unusedVariables false
set_option linter.unusedSimpArgs false
variable {P : Program} {N : Nat}

inductive AExit where
  | normal
  | exit (id : Nat)
  | ret

abbrev APost := AExit → AFrame → AHeap → Prop

def CQ (K0 : Kr) (N : Nat) (Q : APost) : Exit → Act → World → Prop
  | .normal, a, w => St K0 N (Q .normal) a w
  | .exit id, a, w => St K0 N (Q (.exit id)) a w
  | .ret, a, w => St K0 N (Q .ret) a w
  | _, _, _ => False

/-- Does it hold a range over a function? -/
def ACode.ranges : ACode → Bool
  | .seq a b | .cond _ a b => a.ranges || b.ranges
  | .block _ a | .loop a => a.ranges
  | .range _ _ _ _ => true
  | _ => false

/-- Whatever code has this small form: from the state it comes to the post. -/
def AWp (P : Program) (N : Nat) (a : ACode) (Q : APost) (F : AFrame) (σ : AHeap) : Prop :=
  P.follows .mixedOrders = true → ∀ hs c, comp P N hs c = some a.erase → ∀ (rd : Option Nat), (rd = none ∨ a.ranges = false) → ∀ (K0 K : Kr) (act : Act) (w : World), K0.le K → Rel K σ w → FRel K N F act.tmps → Marked K0 K act.defers → c.wpIn (fen rd) 0 P (CQ K0 N Q) act w

theorem CQ.mono {K0 : Kr} {Q Q' : APost} (h : ∀ e F σ, Q e F σ → Q' e F σ) : ∀ e a w, CQ K0 N Q e a w → CQ K0 N Q' e a w
  | .normal, _, _, h' => St.mono h' (h _)
  | .exit _, _, _, h' => St.mono h' (h _)
  | .ret, _, _, h' => St.mono h' (h _)
  | .goto _, _, _, h' => h'.elim
  | .panic _, _, _, h' => h'.elim
  | .outgrown, _, _, h' => h'.elim

theorem awp_conseq {a : ACode} {Q Q' : APost} {F : AFrame} {σ : AHeap} (h : AWp P N a Q F σ) (hQ : ∀ e F σ, Q e F σ → Q' e F σ) : AWp P N a Q' F σ :=
  fun hm hs c hc rd hrd K0 K act w h1 h2 h3 h4 => wpIn_mono (h hm hs c hc rd hrd K0 K act w h1 h2 h3 h4) (CQ.mono hQ)

/-- The same state, seen otherwise. -/
theorem awp_vs {a : ACode} {Q : APost} {F G : AFrame} {σ τ : AHeap} (hv : ∀ K w tmps, Rel K σ w → FRel K N F tmps → ∃ K', K.le K' ∧ Rel K' τ w ∧ FRel K' N G tmps) (h : AWp P N a Q G τ) : AWp P N a Q F σ :=
  fun hm hs c hc rd hrd K0 K act w h1 h2 h3 h4 => by
    obtain ⟨K', h5, h6, h7⟩ := hv K w act.tmps h2 h3
    exact h hm hs c hc rd hrd K0 K' act w (h1.trans h5) h6 h7 (h4.mono h5)

theorem awp_nd {a : ACode} {Q : APost} {F : AFrame} {σ : AHeap} (h : (keys σ).Nodup → AWp P N a Q F σ) : AWp P N a Q F σ :=
  fun hm hs c hc rd hrd K0 K act w h1 h2 h3 h4 => h h2.nd hm hs c hc rd hrd K0 K act w h1 h2 h3 h4

def FSub (G F : AFrame) : Prop := ∀ i x, G i = some x → F i = some x
def HSub (τ σ : AHeap) : Prop := ∀ K w, Rel K σ w → Rel K τ w

theorem HSub.refl (σ : AHeap) : HSub σ σ := fun _ _ h => h
theorem HSub.trans {a b c : AHeap} (h : HSub a b) (h' : HSub b c) : HSub a c := fun K w r => h K w (h' K w r)
theorem HSub.of_sublist {τ σ : AHeap} (h : τ.Sublist σ) : HSub τ σ := fun K w r => r.sub ((h.map Prod.fst).nodup r.nd) (fun p hp => h.subset hp)
theorem HSub.of_perm {τ σ : AHeap} (h : τ.Perm σ) : HSub τ σ := fun K w r => r.sub ((h.map Prod.fst).nodup_iff.2 r.nd) (fun p hp => h.subset hp)
theorem HSub.tail (p : Nat × ABlk) (σ : AHeap) : HSub σ (p :: σ) := .of_sublist (List.sublist_cons_self _ _)
theorem HSub.drop {τ σ : AHeap} (h : HSub τ σ) (p : Nat × ABlk) : HSub τ (p :: σ) := h.trans (HSub.tail p σ)
theorem HSub.keep {τ σ : AHeap} (h : τ.Sublist σ) (p : Nat × ABlk) : HSub (p :: τ) (p :: σ) := .of_sublist (h.cons_cons p)
theorem HSub.swap (p q : Nat × ABlk) (σ : AHeap) : HSub (p :: q :: σ) (q :: p :: σ) := .of_perm (List.Perm.swap _ _ _)

theorem FSub.refl (F : AFrame) : FSub F F := fun _ _ h => h
theorem FRel.sub {K : Kr} {F G : AFrame} {t : Array Value} (h : FRel K N F t) (hs : FSub G F) : FRel K N G t := ⟨h.size, fun i x e => h.at_ i x (hs i x e)⟩
theorem FSub.none (F : AFrame) : FSub fnone F := fun i x h => by cases h
theorem FSub.set {F G : AFrame} {d : Nat} {v : Option AVal} (h : FSub G F) (hd : ∀ x, v = some x → F d = some x) : FSub (fset d v G) F := by
  intro i x e
  simp only [fset] at e
  split at e
  · rename_i hi; subst hi; exact hd x e
  · exact h i x e
theorem FSub.keep (F : AFrame) : ∀ l : List Nat, FSub (fkeep l F) F
  | [] => FSub.none F
  | i :: l => FSub.set (FSub.keep F l) (fun x e => e)

theorem awp_weaken {a : ACode} {Q : APost} {F G : AFrame} {σ τ : AHeap} (hF : FSub G F) (hσ : HSub τ σ) (h : AWp P N a Q G τ) : AWp P N a Q F σ :=
  awp_vs (fun K w tmps h1 h2 => ⟨K, Kr.le.refl K, hσ K w h1, h2.sub hF⟩) h

theorem awp_skip {Q : APost} {F : AFrame} {σ : AHeap} (h : Q .normal F σ) : AWp P N .skip Q F σ := by
  intro hm hs c hc rd hrd K0 K act w h1 h2 h3 h4
  cases c <;> simp only [comp, ACode.erase, Option.bind_eq_bind, Option.bind_eq_some_iff, Option.pure_def, Option.some.injEq, reduceCtorEq, and_false, exists_false] at hc
  · exact Go.wpIn_skip ⟨K, F, σ, h1, h2, h3, h4, h⟩
  · obtain ⟨l, _, hc⟩ := hc
    split at hc <;> simp at hc

theorem awp_exit {id : Nat} {Q : APost} {F : AFrame} {σ : AHeap} (h : Q (.exit id) F σ) : AWp P N (.exit id) Q F σ := by
  intro hm hs c hc rd hrd K0 K act w h1 h2 h3 h4
  cases c <;> simp only [comp, ACode.erase, Option.bind_eq_bind, Option.bind_eq_some_iff, Option.pure_def, Option.some.injEq, reduceCtorEq, and_false, exists_false, ACode.exit.injEq] at hc
  · obtain ⟨l, _, hc⟩ := hc
    split at hc <;> simp at hc
  · subst hc
    exact Go.wpIn_exit ⟨K, F, σ, h1, h2, h3, h4, h⟩

theorem awp_ret {Q : APost} {F : AFrame} {σ : AHeap} (h : Q .ret F σ) : AWp P N .ret Q F σ := by
  intro hm hs c hc rd hrd K0 K act w h1 h2 h3 h4
  cases c <;> simp only [comp, ACode.erase, Option.bind_eq_bind, Option.bind_eq_some_iff, Option.pure_def, Option.some.injEq, reduceCtorEq, and_false, exists_false] at hc
  · obtain ⟨l, _, hc⟩ := hc
    split at hc <;> simp at hc
  · exact Go.wpIn_ret ⟨K, F, σ, h1, h2, h3, h4, h⟩

theorem awp_region {ops : List AOper} {keep : List Nat} {Q : APost} {F : AFrame} {σ : AHeap} (h : aops P ops F σ fun F' σ' => Q .normal F' σ') : AWp P N (.region ops keep) Q F σ := by
  intro hm hs c hc rd hrd K0 K act w h1 h2 h3 h4
  have hst : St K0 N (fun F σ => aops P ops F σ fun F' σ' => Q .normal F' σ') act w := ⟨K, F, σ, h1, h2, h3, h4, h⟩
  have hQ : ∀ a w, St K0 N (fun F' σ' => Q .normal F' σ') a w → CQ K0 N Q .normal a w := fun a w h => h
  cases c <;> simp only [comp, ACode.erase, Option.bind_eq_bind, Option.bind_eq_some_iff, Option.pure_def, Option.some.injEq, reduceCtorEq, and_false, exists_false] at hc
  rename_i id ops' draw
  obtain ⟨l, hl, hc⟩ := hc
  split at hc
  · simp at hc
  · rename_i hd
    simp only [Option.some.injEq, ACode.region.injEq, and_true] at hc
    subst hc
    cases draw with
    | false => exact region_sound hl hQ hst
    | true => exact region_draw_sound hm hl (by simpa using hd) hQ hst

def AThen (P : Program) (N : Nat) (b : ACode) (Q : APost) : APost
  | .normal, F, σ => AWp P N b Q F σ
  | e, F, σ => Q e F σ

theorem awp_seq {a b : ACode} {Q : APost} {F : AFrame} {σ : AHeap} (h : AWp P N a (AThen P N b Q) F σ) : AWp P N (.seq a b) Q F σ := by
  intro hm hs c hc rd hrd K0 K act w h1 h2 h3 h4
  cases c <;> simp only [comp, ACode.erase, Option.bind_eq_bind, Option.bind_eq_some_iff, Option.pure_def, Option.some.injEq, reduceCtorEq, and_false, exists_false, ACode.seq.injEq] at hc
  · obtain ⟨l, _, hc⟩ := hc
    split at hc <;> simp at hc
  · obtain ⟨x, hx, y, hy, rfl, rfl⟩ := hc
    refine Go.wpIn_seq (wpIn_mono (h hm hs _ hx rd (hrd.imp id fun e => by simp only [ACode.ranges, Bool.or_eq_false_iff] at e; exact e.1) K0 K act w h1 h2 h3 h4) ?_)
    intro e a' w' hq
    cases e with
    | normal =>
      obtain ⟨K', F', σ', g1, g2, g3, g4, g5⟩ := hq
      exact g5 hm hs _ hy rd (hrd.imp id fun e => by simp only [ACode.ranges, Bool.or_eq_false_iff] at e; exact e.2) K0 K' a' w' g1 g2 g3 g4
    | exit id => exact hq
    | ret => exact hq
    | goto l => exact hq.elim
    | panic l => exact hq.elim
    | outgrown => exact hq.elim

theorem awp_cond {x : AOpd} {a b : ACode} {Q : APost} {F : AFrame} {σ : AHeap} {t : Bool} (hx : ev F x = some (.bool t)) (h1 : t = true → AWp P N a Q F σ) (h2 : t = false → AWp P N b Q F σ) : AWp P N (.cond x a b) Q F σ := by
  intro hm hs c hc rd hrd K0 K act w g1 g2 g3 g4
  cases c <;> simp only [comp, ACode.erase, Option.bind_eq_bind, Option.bind_eq_some_iff, Option.pure_def, Option.some.injEq, reduceCtorEq, and_false, exists_false, ACode.cond.injEq] at hc
  · obtain ⟨l, _, hc⟩ := hc
    split at hc <;> simp at hc
  · obtain ⟨o, ho, y, hy, z, hz, rfl, rfl, rfl⟩ := hc
    have he := (opd_sound g3 ho hx).bool_inv
    refine Go.wpIn_cond he ?_
    cases t with
    | true => exact h1 rfl hm hs _ hy rd (hrd.imp id fun e => by simp only [ACode.ranges, Bool.or_eq_false_iff] at e; exact e.1) K0 K act w g1 g2 g3 g4
    | false => exact h2 rfl hm hs _ hz rd (hrd.imp id fun e => by simp only [ACode.ranges, Bool.or_eq_false_iff] at e; exact e.2) K0 K act w g1 g2 g3 g4

def AInBlock (id : Nat) (Q : APost) : APost
  | .exit id', F, σ => if id' = id then Q .normal F σ else Q (.exit id') F σ
  | e, F, σ => Q e F σ

theorem awp_block {id : Nat} {a : ACode} {Q : APost} {F : AFrame} {σ : AHeap} (h : AWp P N a (AInBlock id Q) F σ) : AWp P N (.block id a) Q F σ := by
  intro hm hs c hc rd hrd K0 K act w h1 h2 h3 h4
  cases c <;> simp only [comp, ACode.erase, Option.bind_eq_bind, Option.bind_eq_some_iff, Option.pure_def, Option.some.injEq, reduceCtorEq, and_false, exists_false, ACode.block.injEq] at hc
  · obtain ⟨l, _, hc⟩ := hc
    split at hc <;> simp at hc
  · obtain ⟨x, hx, rfl, rfl⟩ := hc
    refine Go.wpIn_block (wpIn_mono (h hm hs _ hx rd hrd K0 K act w h1 h2 h3 h4) ?_)
    intro e a' w' hq
    cases e with
    | normal => exact hq
    | exit id' =>
      simp only [CQ] at hq
      simp only [Exit.inBlock]
      split
      · rename_i e
        refine St.mono hq fun F σ h => ?_
        simpa [AInBlock, e] using h
      · rename_i e
        refine St.mono hq fun F σ h => ?_
        simpa [AInBlock, e] using h
    | ret => exact hq
    | goto l => exact hq.elim
    | panic l => exact hq.elim
    | outgrown => exact hq.elim

/-- What a round comes to: the relation again, lower; what it does not need may be forgotten. -/
def ARound (I : AFrame → AHeap → Prop) (μ : AFrame → AHeap → Nat) (n : Nat) (Q : APost) : APost
  | .normal, F, σ => ∃ G τ, FSub G F ∧ HSub τ σ ∧ I G τ ∧ μ G τ < n
  | e, F, σ => Q e F σ

theorem awp_loop {a : ACode} {Q : APost} {F : AFrame} {σ : AHeap} (I : AFrame → AHeap → Prop) (μ : AFrame → AHeap → Nat) (h0 : I F σ) (round : ∀ F σ, I F σ → AWp P N a (ARound I μ (μ F σ) Q) F σ) : AWp P N (.loop a) Q F σ := by
  intro hm hs c hc rd hrd K0 K act w h1 h2 h3 h4
  cases c <;> simp only [comp, ACode.erase, Option.bind_eq_bind, Option.bind_eq_some_iff, Option.pure_def, Option.some.injEq, reduceCtorEq, and_false, exists_false, ACode.loop.injEq] at hc
  · obtain ⟨l, _, hc⟩ := hc
    split at hc <;> simp at hc
  · rename_i c
    obtain ⟨x, hx, rfl⟩ := hc
    intro b k cs hro hb hr
    have key : ∀ (n : Nat) (K : Kr) (F : AFrame) (σ : AHeap) (a' : Act) (w : World), μ F σ = n → K0.le K → Rel K σ w → FRel K N F a'.tmps → Marked K0 K a'.defers → I F σ →
        ∃ e a'' w', CQ K0 N Q e a'' w' ∧ ArrivesIn (Machine.fenced P (fen rd)) P (lone (b.atR a' (.code c :: .inLoop c :: k)) cs w) b k cs e a'' w' := by
      intro n
      induction n using Nat.strongRecOn with
      | _ n ih =>
        intro K F σ a' w hn g1 g2 g3 g4 hI
        obtain ⟨e, a₁, w₁, hq, harr⟩ := round F σ hI hm hs _ hx rd hrd K0 K a' w g1 g2 g3 g4 b (.inLoop c :: k) cs hro hb hr
        cases e with
        | normal =>
          obtain ⟨K1, F1, σ1, q1, q2, q3, q4, G, τ, q5, q6, q7, q8⟩ := hq
          obtain ⟨e₂, a₂, w₂, hq₂, harr₂⟩ := ih (μ G τ) (by omega) K1 G τ a₁ w₁ rfl q1 (q6 K1 w₁ q2) (q3.sub q5) q4 q7
          exact ⟨e₂, a₂, w₂, hq₂, .of_steps (StepsIn.trans harr (.one (fenced_calm hb hr rfl) stepR_inLoop)) harr₂⟩
        | exit id => exact ⟨.exit id, a₁, w₁, hq, .pass (x := .inLoop c) rfl (fun _ _ => .inl (by simp)) harr⟩
        | ret => exact ⟨.ret, a₁, w₁, hq, .pass (x := .inLoop c) rfl (fun _ _ => .inl (by simp)) harr⟩
        | goto l => exact hq.elim
        | panic ch => exact hq.elim
        | outgrown => exact hq.elim
    obtain ⟨e, a', w', hq, harr⟩ := key _ K F σ act w rfl h1 h2 h3 h4 h0
    exact ⟨e, a', w', hq, .of_steps (.one (fenced_calm hb hr rfl) stepR_loop) harr⟩

/-! ### A function -/

def resVal (F : AFrame) (σ : AHeap) : ARes → Option AVal
  | .t i => F i
  | .cell i ag sz => match F i with
    | some p => aload σ ag sz [p]
    | none => none
def resVals (F : AFrame) (σ : AHeap) : List ARes → Option (List AVal)
  | [] => some []
  | r :: l => match resVal F σ r, resVals F σ l with
    | some v, some vs => some (v :: vs)
    | _, _ => none

def tupOf : List AVal → AVal
  | [v] => v
  | vs => .tup vs

/-- The same value and state, seen otherwise. -/
def VShift (r : AVal) (σ : AHeap) (r' : AVal) (τ : AHeap) : Prop := ∀ K w v, Rel K σ w → VR K r v → ∃ K', K.le K' ∧ Rel K' τ w ∧ VR K' r' v

theorem VShift.refl (r : AVal) (σ : AHeap) : VShift r σ r σ := fun K w v h1 h2 => ⟨K, Kr.le.refl K, h1, h2⟩
theorem VShift.of_sub {r : AVal} {σ τ : AHeap} (h : HSub τ σ) : VShift r σ r τ := fun K w v h1 h2 => ⟨K, Kr.le.refl K, h K w h1, h2⟩
theorem VShift.trans {r r' r'' : AVal} {σ σ' σ'' : AHeap} (h : VShift r σ r' σ') (h' : VShift r' σ' r'' σ'') : VShift r σ r'' σ'' := fun K w v h1 h2 => by
  obtain ⟨K1, a, b, c⟩ := h K w v h1 h2
  obtain ⟨K2, a', b', c'⟩ := h' K1 w v b c
  exact ⟨K2, a.trans a', b', c'⟩

def ARet (res : List ARes) (R : AVal → AHeap → Prop) : APost
  | .normal, F, σ => ∃ vs, resVals F σ res = some vs ∧ ∃ r τ, VShift (tupOf vs) σ r τ ∧ R r τ
  | .ret, F, σ => ∃ vs, resVals F σ res = some vs ∧ ∃ r τ, VShift (tupOf vs) σ r τ ∧ R r τ
  | .exit _, _, _ => False

theorem ares {res : List ARes} {R : AVal → AHeap → Prop} {F : AFrame} {σ : AHeap} {vs : List AVal} (h : resVals F σ res = some vs) {τ : AHeap} (hs : HSub τ σ) (hR : R (tupOf vs) τ) : ARet res R .ret F σ :=
  ⟨vs, h, _, τ, VShift.of_sub hs, hR⟩

def resSem (tmps : Array Value) : ResultVar → Sem Value
  | .tmp t => pure (tmps.getD t undef)
  | .cell a t => do loadVar t (← asAddr (tmps.getD a undef))

theorem results_eq (fn : Func) (tmps : Array Value) : results fn tmps = (do let vs ← fn.results.mapM (resSem tmps); pure (if h : vs.size = 1 then vs[0] else .tuple vs)) := by
  unfold results
  congr 1

theorem run_results {fn : Func} : ∀ {rs : List ResultVar} {res : List ARes} {K : Kr} {F : AFrame} {σ : AHeap} {w : World} {tmps : Array Value} {vs : List AVal}, rs.mapM (resA P) = some res → Rel K σ w → FRel K N F tmps → resVals F σ res = some vs →
    ∃ us, (rs.mapM (resSem tmps)).run P w = .ok us w ∧ VRel K vs us
  | [], res, K, F, σ, w, tmps, vs, h, hr, hF, hv => by
    simp at h; subst h
    simp [resVals] at hv; subst hv
    exact ⟨[], by simp, .nil⟩
  | r :: rs, res, K, F, σ, w, tmps, vs, h, hr, hF, hv => by
    simp only [List.mapM_cons, Option.bind_eq_bind, Option.bind_eq_some_iff, Option.pure_def, Option.some.injEq] at h
    obtain ⟨ar, har, res', hres, rfl⟩ := h
    simp only [resVals] at hv
    split at hv
    · rename_i v vs' h1 h2
      simp only [Option.some.injEq] at hv; subst hv
      obtain ⟨us, hrun, hus⟩ := run_results (fn := fn) hres hr hF h2
      have hone : ∃ u, (resSem tmps r).run P w = .ok u w ∧ VR K v u := by
        cases r with
        | tmp t =>
          simp only [resA, Option.some.injEq] at har; subst har
          exact ⟨_, rfl, hF.at_ t v h1⟩
        | cell a t =>
          simp only [resA, Option.bind_eq_bind, Option.bind_eq_some_iff, Option.pure_def, Option.some.injEq] at har
          obtain ⟨g, hg, s, hs, rfl⟩ := har
          simp only [resVal] at h1
          split at h1
          · rename_i p hp
            rw [aload_eq] at h1
            simp only [Option.bind_eq_some_iff] at h1
            obtain ⟨cs, h3, h4⟩ := h1
            obtain ⟨ad, ms, e, h5, h6, h7⟩ := ptr_cells hr (hF.at_ a p hp) h3
            obtain ⟨u, hu, hvu⟩ := run_loadVar (P := P) hg hs h4 h5 h7 h6
            refine ⟨u, ?_, hvu⟩
            simp only [resSem, Sem.run_bind, e, asAddr, Sem.run_pure, Result.andThen_ok, hu]
          · cases h1
      obtain ⟨u, hu, hvu⟩ := hone
      refine ⟨u :: us, ?_, .cons hvu hus⟩
      simp only [List.mapM_cons, Sem.run_bind, hu, Result.andThen_ok, hrun, Sem.run_pure]
    · cases hv

def valOf : List Value → Value
  | [u] => u
  | us => .tuple us.toArray

theorem VRel.same {K K' : Kr} (hi : K'.imm = K.imm) (hl : K'.loc = K.loc) {l : List AVal} {m : List Value} (r : VRel K l m) : VRel K' l m :=
  VRel.mono2 (fun _ _ _ h => by rw [hi]; exact h) (fun _ _ h => by rw [hl]; exact h) r

/-- An object that is no cells is turned, and what lies is taken as it lies then. -/
theorem Rel.put {K : Kr} {σ : AHeap} {w : World} (r : Rel K σ w) {D : Nat} {o o' : Obj} (ho : w.heap[D]? = some o) (hc : ∀ cs ty fr, o ≠ .cells cs ty fr) (hD : K.w0.heap.size ≤ D) : Rel { K with wo := w.putObj D o' } σ (w.putObj D o') := by
  have hother : ∀ k, k ≠ D → (w.putObj D o').heap[k]? = w.heap[k]? := fun k hk => World.putObj_heap_other hk
  have hlt := (Array.getElem?_eq_some_iff.1 ho).1
  have hcell : ∀ b v x, w.cell? ⟨b, x, none⟩ = some v → b ≠ D := by
    rintro b v x h rfl
    unfold World.cell? at h
    rw [ho] at h
    cases o <;> simp at h
    exact hc _ _ _ rfl
  refine ⟨r.ext.trans ⟨rfl, rfl, rfl, by simp [World.putObj], fun k hk => hother k (by omega)⟩, Oth.refl _, fun b x v h => ?_, r.nd, r.bnd, fun b L cb h hb => ?_, fun b blk h => ?_, r.inj⟩
  · have h1 := r.imm b x v h
    rw [cell?_of_heap (w := w) (hother b (hcell _ _ _ h1))]
    exact h1
  · have := r.lit b L cb h hb
    simpa [World.putObj] using this
  · cases blk with
    | cells sz xs =>
      have h1 := r.own b _ h
      refine ⟨h1.1, ?_⟩
      rcases h1.2 with h2 | ⟨cb, pcap, cs, ty, g1, g2, g3, g4, g5, g6, g7, g8⟩
      · exact .inl h2
      · refine .inr ⟨cb, pcap, cs, ty, g1, g2, g3, ?_, g5, g6, g7, VRel.same (K := K) (K' := { K with wo := w.putObj D o' }) rfl rfl g8⟩
        rw [hother cb (fun e => by subst e; rw [ho] at g4; simp only [Option.some.injEq] at g4; exact hc _ _ _ g4)]
        exact g4

/-- What lies is taken as it lies now. -/
theorem Rel.now {K : Kr} {σ : AHeap} {w : World} (r : Rel K σ w) : K.le { K with wo := w } ∧ Rel { K with wo := w } σ w := by
  have hle : K.le { K with wo := w } := ⟨rfl, r.oth, fun _ _ _ h => h, fun _ _ h => h, Nat.le_refl _⟩
  exact ⟨hle, r.ext, Oth.refl _, r.imm, r.nd, r.bnd, r.lit, fun b blk h => (r.own b blk h).keep hle fun cb s c _ => ⟨rfl, fun h => h⟩, r.inj⟩

theorem leavesM {fn : Func} {tmps : Array Value} {R : Ending → World → Prop} {K0 : Kr} {σ : AHeap} : ∀ (ds : List Deferred) (K : Kr) (w : World), ds.Nodup →
    (∀ d ∈ ds, ∃ D, d = { target := .collected D, args := #[] } ∧ K0.w0.heap.size ≤ D ∧ K0.wo.heap.size ≤ D ∧ w.heap[D]? = some (.deferred (some []))) → K0.le K → Rel K σ w →
    (∀ K' w', K'.imm = K.imm → K'.loc = K.loc → K0.le K' → Rel K' σ w' → ∃ v, (results fn tmps).run P w' = .ok v w' ∧ R (.returned v) w') → LeavesInM Fence.wide 0 P fn tmps R ds .returning w
  | [], K, w, _, _, hle, hr, h => h K w rfl rfl hle hr
  | d :: ds, K, w, hnd, hm, hle, hr, h => by
    obtain ⟨D, rfl, h1, h2, h3⟩ := hm d (by simp)
    obtain ⟨hn, hnd'⟩ := List.nodup_cons.1 hnd
    refine ⟨by simp, .inl ⟨D, _, rfl, run_takeDeferred h3, ?_⟩⟩
    have hput := hr.put (o' := .deferred none) h3 (fun _ _ _ e => by cases e) (by rw [hle.w0]; exact h1)
    refine leavesM ds _ _ hnd' (fun d' hd' => ?_) ?_ hput (fun K' w' e1 e2 => h K' w' e1 e2)
    · obtain ⟨D', rfl, g1, g2, g3⟩ := hm d' (List.mem_cons_of_mem _ hd')
      refine ⟨D', rfl, g1, g2, ?_⟩
      rw [World.putObj_heap_other (fun e => hn (by subst e; exact hd'))]
      exact g3
    · refine ⟨hle.w0, ?_, hle.imm, hle.loc, hle.nn⟩
      have h0 : Oth K0.wo w := hle.wo.trans hr.oth
      refine ⟨by simpa [World.putObj] using h0.size, fun k o hk ho => ?_⟩
      have hlt := (Array.getElem?_eq_some_iff.1 hk).1
      rw [World.putObj_heap_other (show k ≠ D by omega)]
      exact h0.same k o hk ho

/-- ENTER a function: its code in the small form, from the arguments on. -/
theorem acalls_enter {hs : List (Nat × Nat)} {f : FuncId} {af : AFunc} (hm : P.follows .mixedOrders = true) (hf : compF P hs f = some af.erase) {args : List AVal} (hn : args.length ≤ af.n) {σ : AHeap} {R : AVal → AHeap → Prop}
    (h : AWp P af.n af.code (ARet af.res R) (fargs args) σ) : ACalls P f args σ R := by
  intro K w vs hr hv
  unfold compF at hf
  simp only [Option.bind_eq_bind, Option.bind_eq_some_iff, Option.pure_def, Option.some.injEq] at hf
  obtain ⟨fn, hfn, c, hc, a, ha, rs, hrs, e⟩ := hf
  have e1 : fn.ntmps = af.n := congrArg AFunc.n e
  have e2 : a = af.code.erase := congrArg AFunc.code e
  have e3 : rs = af.res := congrArg AFunc.res e
  subst e2 e3
  refine (callsIn_wide (n := 0)).1 (callsIn_of_wp_marks hfn hc trivial ?_)
  have hlen : vs.length = args.length := hv.length.symm
  have hF : FRel K af.n (fargs args) (vs.toArray ++ Array.replicate (fn.ntmps - vs.toArray.size) undef) := by
    refine ⟨by simp; omega, fun i x e => ?_⟩
    obtain ⟨v, h1, h2⟩ := hv.get (i := i) (a := x) e
    have hlt := (List.getElem?_eq_some_iff.1 h1).1
    have : (vs.toArray ++ Array.replicate (fn.ntmps - vs.toArray.size) undef).getD i undef = v := by
      simp [Array.getElem?_append, hlt, List.getElem?_eq_getElem hlt]
      have := (List.getElem?_eq_some_iff.1 h1).2
      exact this
    rw [this]
    exact h2
  rw [e1] at ha hF ⊢
  refine wpIn_mono (h hm hs c ha none (.inl rfl) K K { tmps := vs.toArray ++ Array.replicate (af.n - vs.toArray.size) undef, defers := [] } w (Kr.le.refl K) hr hF (Marked.nil K K)) ?_
  have fin : ∀ (act : Act) (w' : World), St K af.n (fun F σ => ∃ vs, resVals F σ af.res = some vs ∧ ∃ r τ, VShift (tupOf vs) σ r τ ∧ R r τ) act w' →
      LeavesInM Fence.wide 0 P fn act.tmps (fun e w' => ∃ v K' r σ', e = .returned v ∧ K.le K' ∧ Rel K' σ' w' ∧ VR K' r v ∧ R r σ') act.defers .returning w' := by
    rintro act w0' ⟨K0', F, σ1, g1, g2, g3, g4, ms, hms, r, τ, hsh, hR⟩
    obtain ⟨n1, n2⟩ := g2.now
    refine leavesM act.defers _ w0' (g4.mono n1).1 (g4.mono n1).2 (g1.trans n1) n2 ?_
    intro K1 w' e1 e2 g1 g2
    have g3 : FRel K1 af.n F act.tmps := ⟨g3.size, fun i x e => VRel.same (K := K0') e1 e2 (g3.at_ i x e)⟩
    obtain ⟨us, hrun, hus⟩ := run_results (fn := fn) (P := P) hrs g2 g3 hms
    have hres : (results fn act.tmps).run P w' = .ok (valOf us) w' := by
      rw [results_eq, Array.mapM_eq_mapM_toList]
      simp only [Sem.run_bind, Sem.run_map]
      rw [hrun]
      simp only [Result.andThen_ok, Sem.run_pure]
      match us with
      | [] => rfl
      | [u] => rfl
      | u :: u' :: us => rfl
    have hvr : VR K1 (tupOf ms) (valOf us) := by
      match ms, us, hus with
      | [], us, hus => rw [hus.nil_inv]; exact VRel.tup .nil .nil
      | [m], us, hus =>
        obtain ⟨u, rfl, h1⟩ := hus.one_inv
        exact h1
      | m :: m' :: ms, us, hus =>
        obtain ⟨u, us1, rfl, h1, h2⟩ := hus.ex
        obtain ⟨u', us2, rfl, h3, h4⟩ := h2.ex
        exact VRel.tup hus .nil
    obtain ⟨K2, k1, k2, k3⟩ := hsh K1 w' _ g2 hvr
    exact ⟨_, hres, _, K2, r, τ, rfl, g1.trans k1, k2, k3, hR⟩
  intro e act w' hq
  cases e with
  | normal => exact fin act w' hq
  | ret => exact fin act w' hq
  | exit id => obtain ⟨_, _, _, _, _, _, _, hf⟩ := hq; exact hf.elim
  | goto l => exact hq.elim
  | panic l => exact hq.elim
  | outgrown => exact hq.elim

end Go.Abs

/-
  A program logic over abstract states, part S: single steps, one law each.
-/
namespace Go.Abs
open Go Go.RowKit

set_option linter.unusedVariables false
set_option linter.unusedSimpArgs false
variable {P : Program} {N : Nat} {l : List AOper} {F : AFrame} {σ : AHeap} {Q : AFrame → AHeap → Prop}

/-- Any operation that keeps the state. -/
theorem st_q {d : Nat} {k : AK} {args : List AOpd} {vs : List AVal} {v : AVal} (h1 : evs F args = some vs) (h2 : aquiet k σ vs = some v) (hq : k.quiet = true)
    (h : aops P l (fset d (some v) F) σ Q) : aops P (⟨some d, k, args, none⟩ :: l) F σ Q := by
  refine ⟨vs, h1, ?_⟩
  rw [astep_quiet hq]
  exact ⟨v, h2, h⟩

/-- Any operation. -/
theorem st_any {dst : Option Nat} {k : AK} {args : List AOpd} {vs : List AVal} (h1 : evs F args = some vs) (h : astep P k vs σ fun r σ' => aops P l (fput dst (some r) F) σ' Q) : aops P (⟨dst, k, args, none⟩ :: l) F σ Q :=
  ⟨vs, h1, h⟩

/-- A guard that lets by. -/
theorem st_gy {dst : Option Nat} {k : AK} {args : List AOpd} {g : Nat} {want : Bool} (h1 : F g = some (.bool want)) (h : aops P (⟨dst, k, args, none⟩ :: l) F σ Q) : aops P (⟨dst, k, args, some (g, want)⟩ :: l) F σ Q :=
  ⟨some want, by rw [h1]; rfl, fun _ => h, fun e => absurd rfl e⟩
/-- A guard that does not. -/
theorem st_gn {dst : Option Nat} {k : AK} {args : List AOpd} {g : Nat} {want : Bool} (h1 : F g = some (.bool (!want))) (h : aops P l (fput dst (some (.tup [])) F) σ Q) : aops P (⟨dst, k, args, some (g, want)⟩ :: l) F σ Q :=
  ⟨some (!want), by rw [h1]; rfl, fun e => by cases want <;> simp at e, fun _ => h⟩
/-- A guard whose slot was passed over. -/
theorem st_gu {dst : Option Nat} {k : AK} {args : List AOpd} {g : Nat} {want : Bool} (h1 : F g = some (.tup [])) (h : aops P l (fput dst (some (.tup [])) F) σ Q) : aops P (⟨dst, k, args, some (g, want)⟩ :: l) F σ Q :=
  ⟨none, by rw [h1]; rfl, fun e => (by cases e), fun _ => h⟩
/-- A guard, either way. -/
theorem st_g {dst : Option Nat} {k : AK} {args : List AOpd} {g : Nat} {want b : Bool} (h1 : F g = some (.bool b)) (hy : b = want → aops P (⟨dst, k, args, none⟩ :: l) F σ Q) (hn : b ≠ want → aops P l (fput dst (some (.tup [])) F) σ Q) : aops P (⟨dst, k, args, some (g, want)⟩ :: l) F σ Q :=
  ⟨some b, by rw [h1]; rfl, fun e => hy (by simpa using e), fun e => hn (by simpa using e)⟩

theorem st_nil (h : Q F σ) : aops P [] F σ Q := h

@[simp] theorem hget_head {b : Nat} {x : ABlk} {σ : AHeap} : hget ((b, x) :: σ) b = some x := by simp [hget]
theorem hget_tail {a b : Nat} {x : ABlk} {σ : AHeap} {y : Option ABlk} (h : a ≠ b) (h' : hget σ b = y) : hget ((a, x) :: σ) b = y := by simp only [hget, if_neg h]; exact h'
theorem hget_tail' {a b : Nat} {x : ABlk} {σ : AHeap} {y : Option ABlk} (h : b ≠ a) (h' : hget σ b = y) : hget ((a, x) :: σ) b = y := hget_tail (fun e => h e.symm) h'

/-- A load behind a pointer into a block of the state. -/
theorem st_ldp {d : Nat} {ag : Bool} {sz : Nat} {args : List AOpd} {b i o s : Nat} {xs : List AVal} {x v : AVal} (h1 : evs F args = some [.ptr b i o]) (hg : hget σ b = some (.cells s xs)) (hx : xs[i]? = some x) (hp : part_ ag sz (x.cells.drop o) = some v)
    (h : aops P l (fset d (some v) F) σ Q) : aops P (⟨some d, .load ag sz, args, none⟩ :: l) F σ Q :=
  st_q h1 (by simp [aquiet, aload, hg, hx, hp]) rfl h

/-- An address of an element of a slice that nobody writes. -/
theorem st_iad {d sz : Nat} {args : List AOpd} {xs : List AVal} {f : Bool} {k : IntKind} {i : Int} {x : AVal} (h1 : evs F args = some [.slc sz xs f, .int k i]) (h0 : 0 ≤ i) (hx : xs[i.toNat]? = some x)
    (h : aops P l (fset d (some (.iptr x.cells)) F) σ Q) : aops P (⟨some d, .iad sz, args, none⟩ :: l) F σ Q :=
  st_q h1 (by simp [aquiet, aiad, h0, hx]) rfl h
theorem st_iada {d sz : Nat} {args : List AOpd} {b off n : Nat} {k : IntKind} {i : Int} (h1 : evs F args = some [.arr sz b off n, .int k i]) (h0 : 0 ≤ i ∧ i < n)
    (h : aops P l (fset d (some (.ptr b (off + i.toNat) 0)) F) σ Q) : aops P (⟨some d, .iad sz, args, none⟩ :: l) F σ Q :=
  st_q h1 (by simp [aquiet, aiad, h0]) rfl h

/-- A number's shift. -/
theorem st_shl {d : Nat} {args : List AOpd} {k k' : IntKind} {a b : Int} (h1 : evs F args = some [.int k a, .int k' b]) (h0 : 0 ≤ b)
    (h : aops P l (fset d (some (.int k (k.wrap (a * 2 ^ (Nat.min b.toNat k.bits))))) F) σ Q) : aops P (⟨some d, .bin .shl, args, none⟩ :: l) F σ Q :=
  st_q h1 (by simp [aquiet, abin, isShift, binShift]; omega) rfl h
theorem st_shr {d : Nat} {args : List AOpd} {k k' : IntKind} {a b : Int} (h1 : evs F args = some [.int k a, .int k' b]) (h0 : 0 ≤ b)
    (h : aops P l (fset d (some (.int k (a.fdiv (2 ^ (Nat.min b.toNat k.bits))))) F) σ Q) : aops P (⟨some d, .bin .shr, args, none⟩ :: l) F σ Q :=
  st_q h1 (by simp [aquiet, abin, isShift, binShift]; omega) rfl h
theorem st_quo {d : Nat} {args : List AOpd} {k : IntKind} {a b : Int} (h1 : evs F args = some [.int k a, .int k b]) (h0 : b ≠ 0)
    (h : aops P l (fset d (some (.int k (k.wrap (a.tdiv b)))) F) σ Q) : aops P (⟨some d, .bin .quo, args, none⟩ :: l) F σ Q :=
  st_q h1 (by simp [aquiet, abin, isShift, binInt, h0]) rfl h
theorem st_rem {d : Nat} {args : List AOpd} {k : IntKind} {a b : Int} (h1 : evs F args = some [.int k a, .int k b]) (h0 : b ≠ 0)
    (h : aops P l (fset d (some (.int k (a.tmod b))) F) σ Q) : aops P (⟨some d, .bin .rem, args, none⟩ :: l) F σ Q :=
  st_q h1 (by simp [aquiet, abin, isShift, binInt, h0]) rfl h

/-- A slice of a slice. -/
theorem st_slc {d sz : Nat} {lo hi mx : Bool} {args : List AOpd} {xs : List AVal} {f : Bool} {rest : List AVal} {a b c : Int} (h1 : evs F args = some (.slc sz xs f :: rest)) (hb : bnds xs.length lo hi mx rest = some (a, b, c)) (h0 : 0 ≤ a ∧ a ≤ b ∧ b ≤ c ∧ c ≤ xs.length)
    (h : aops P l (fset d (some (.slc sz ((xs.drop a.toNat).take (b - a).toNat) (if mx then decide (b = c) else (f && decide (b = xs.length))))) F) σ Q) : aops P (⟨some d, .slc sz lo hi mx, args, none⟩ :: l) F σ Q :=
  st_q h1 (by simp [aquiet, asub, hb, h0]) rfl h

/-- A store. -/
theorem st_store {sz : Nat} {args : List AOpd} {b i o s : Nat} {xs : List AVal} {x v : AVal} (h1 : evs F args = some [.ptr b i o, v]) (hg : hget σ b = some (.cells s xs)) (hx : xs[i]? = some x) (ho : o + sz ≤ s) (hv : v.elem sz) (h1' : x.one = true → o = 0 ∧ sz = 1)
    {σ' : AHeap} (hs : hset σ b (.cells s (xs.set i (putCells x o v.cells))) = σ') (h : aops P l F σ' Q) : aops P (⟨none, .store sz, args, none⟩ :: l) F σ Q := by
  subst hs
  exact ⟨_, h1, s, xs, x, hg, hx, ho, hv, h1', h⟩
theorem hset_head {b : Nat} {x y : ABlk} {σ : AHeap} : hset ((b, x) :: σ) b y = (b, y) :: σ := by simp [hset]
theorem hset_tail {a b : Nat} {x y : ABlk} {σ σ' : AHeap} (h : a ≠ b) (h' : hset σ b y = σ') : hset ((a, x) :: σ) b y = (a, x) :: σ' := by simp only [hset, if_neg h, h']
theorem hset_tail' {a b : Nat} {x y : ABlk} {σ σ' : AHeap} (h : b ≠ a) (h' : hset σ b y = σ') : hset ((a, x) :: σ) b y = (a, x) :: σ' := hset_tail (fun e => h e.symm) h'
theorem hren_head {b b' : Nat} {x y : ABlk} {σ : AHeap} : hren ((b, x) :: σ) b b' y = (b', y) :: σ := by simp [hren]
theorem hren_tail {a b b' : Nat} {x y : ABlk} {σ σ' : AHeap} (h : a ≠ b) (h' : hren σ b b' y = σ') : hren ((a, x) :: σ) b b' y = (a, x) :: σ' := by simp only [hren, if_neg h, h']
theorem hren_tail' {a b b' : Nat} {x y : ABlk} {σ σ' : AHeap} (h : b ≠ a) (h' : hren σ b b' y = σ') : hren ((a, x) :: σ) b b' y = (a, x) :: σ' := hren_tail (fun e => h e.symm) h'
theorem hdel_head {b : Nat} {x : ABlk} {σ : AHeap} : hdel ((b, x) :: σ) b = σ := by simp [hdel]
theorem hdel_tail {a b : Nat} {x : ABlk} {σ σ' : AHeap} (h : a ≠ b) (h' : hdel σ b = σ') : hdel ((a, x) :: σ) b = (a, x) :: σ' := by simp only [hdel, if_neg h, h']

/-- A new variable. -/
theorem st_box {d sz : Nat} {args : List AOpd} {v : AVal} (h1 : evs F args = some [v]) (hv : v.elem sz) (h : ∀ b, b ∉ keys σ → aops P l (fset d (some (.ptr b 0 0)) F) ((b, .cells sz [v]) :: σ) Q) : aops P (⟨some d, .box sz, args, none⟩ :: l) F σ Q :=
  ⟨_, h1, hv, fun b hb => h b hb⟩
theorem st_alloc {d : Nat} {z : AVal} (hz : ∀ c ∈ z.cells, c.one = true) (h : ∀ b, b ∉ keys σ → aops P l (fset d (some (.ptr b 0 0)) F) ((b, .cells z.cells.length [z]) :: σ) Q) : aops P (⟨some d, .alloc z, [], none⟩ :: l) F σ Q :=
  ⟨[], rfl, rfl, hz, fun b hb => h b hb⟩
theorem st_mks {d sz byt : Nat} {z : AVal} {args : List AOpd} {n c : Int} (h1 : evs F args = some [.int .i64 n, .int .i64 c]) (hz : z.elem sz) (h0 : 0 ≤ n) (h2 : n ≤ c) (h3 : c ≤ 9223372036854775807) (h4 : byt * c ≤ 281474976710656)
    (h : ∀ b, b ∉ keys σ → aops P l (fset d (some (.arr sz b 0 n.toNat)) F) ((b, .cells sz (List.replicate n.toNat z)) :: σ) Q) : aops P (⟨some d, .mks sz byt z, args, none⟩ :: l) F σ Q :=
  ⟨_, h1, hz, h0, h2, h3, h4, fun b hb => h b hb⟩
/-- A row of literals that the call owns. -/
theorem st_bslo {d sz : Nat} {args : List AOpd} {vs : List AVal} (h1 : evs F args = some vs) (hv : ∀ v ∈ vs, v.elem sz) (h : ∀ b, b ∉ keys σ → aops P l (fset d (some (.arr sz b 0 vs.length)) F) ((b, .cells sz vs) :: σ) Q) : aops P (⟨some d, .bslo sz, args, none⟩ :: l) F σ Q :=
  ⟨_, h1, hv, fun b hb => h b hb⟩
/-- It is marked: nobody writes it any more. -/
theorem st_strish {d sz s b n : Nat} {args : List AOpd} {xs : List AVal} (h1 : evs F args = some [.arr s b 0 n]) (hg : hget σ b = some (.cells sz xs)) (hn : xs.length = n) (h0 : 0 < n) {σ' : AHeap} (hd : hdel σ b = σ') (h : aops P l (fset d (some (.slc sz xs false)) F) σ' Q) :
    aops P (⟨some d, .strish sz, args, none⟩ :: l) F σ Q := by
  subst hd
  exact ⟨_, h1, xs, hg, hn, h0, h⟩

/-- append to a row of the call's own. -/
theorem st_app {d sz byt s b n : Nat} {args : List AOpd} {x : AVal} {xs ys : List AVal} (h1 : evs F args = some [.arr s b 0 n, x]) (hg : hget σ b = some (.cells sz xs)) (hn : xs.length = n) (hy : elemsOf σ sz x = some ys) (hb : (xs.length + ys.length) * byt ≤ 140737488355328)
    (h : ∀ b', b' ∉ keys σ → aops P l (fset d (some (.arr sz b' 0 (xs.length + ys.length))) F) (hren σ b b' (.cells sz (xs ++ ys))) Q) : aops P (⟨some d, .app sz byt, args, none⟩ :: l) F σ Q :=
  ⟨_, h1, ys, hy, xs, hg, hn, hb, fun b' hb' => h b' hb'⟩
/-- append to nothing. -/
theorem st_app0 {d sz byt z : Nat} {args : List AOpd} {x : AVal} {ys : List AVal} (h1 : evs F args = some [.slc z [] true, x]) (hy : elemsOf σ sz x = some ys) (hb : ys.length * byt ≤ 140737488355328)
    (h : ∀ b', b' ∉ keys σ → aops P l (fset d (some (.arr sz b' 0 ys.length)) F) ((b', .cells sz ys) :: σ) Q) : aops P (⟨some d, .app sz byt, args, none⟩ :: l) F σ Q :=
  ⟨_, h1, ys, hy, by simpa using hb, .inr rfl, fun b' hb' => h b' hb'⟩
/-- 's[:n:n]' of a row of the call's own. -/
theorem st_clip {d sz s b off n : Nat} {args : List AOpd} {k k' : IntKind} {m : Int} {xs : List AVal} (h1 : evs F args = some [.arr s b off n, .int k m, .int k' m]) (hg : hget σ b = some (.cells sz xs)) (ho : off + n ≤ xs.length) (h0 : 0 ≤ m) (hm : m ≤ n) {σ' : AHeap} (hd : hdel σ b = σ')
    (h : aops P l (fset d (some (.slc sz ((xs.drop off).take m.toNat) true)) F) σ' Q) : aops P (⟨some d, .clip sz, args, none⟩ :: l) F σ Q := by
  subst hd
  exact ⟨_, h1, xs, hg, ho, h0, rfl, hm, h⟩
theorem st_clip_slc {d sz : Nat} {args : List AOpd} {k k' : IntKind} {m : Int} {xs : List AVal} {f : Bool} (h1 : evs F args = some [.slc sz xs f, .int k m, .int k' m]) (h0 : 0 ≤ m) (hm : m ≤ xs.length)
    (h : aops P l (fset d (some (.slc sz (xs.take m.toNat) true)) F) σ Q) : aops P (⟨some d, .clip sz, args, none⟩ :: l) F σ Q :=
  ⟨_, h1, .slc sz (xs.take m.toNat) true, by simp [asub, bnds, h0, hm], by simpa [fput] using h⟩

/-- A call, by a contract. -/
theorem st_call {d : Nat} {f : FuncId} {args : List AOpd} {vs : List AVal} {C : AVal → AHeap → Prop} (h1 : evs F args = some vs) (hc : ACalls P f vs σ C) (hne : ∃ r σ', C r σ') (h : ∀ r σ', C r σ' → aops P l (fset d (some r) F) σ' Q) : aops P (⟨some d, .call f, args, none⟩ :: l) F σ Q := by
  refine ⟨_, h1, ?_, hc.mono h⟩
  obtain ⟨r, σ', hC⟩ := hne
  exact ⟨r, σ', h r σ' hC⟩
/-- A call whose answer is known. -/
theorem st_callv {d : Nat} {f : FuncId} {args : List AOpd} {vs : List AVal} {v : AVal} {τ : AHeap} (h1 : evs F args = some vs) (hc : ACalls P f vs σ fun r σ' => r = v ∧ σ' = τ) (h : aops P l (fset d (some v) F) τ Q) : aops P (⟨some d, .call f, args, none⟩ :: l) F σ Q :=
  st_call h1 hc ⟨v, τ, rfl, rfl⟩ fun r σ' ⟨e1, e2⟩ => by subst e1 e2; exact h

/-! ### What is kept of a frame -/

def KP (keep : List Nat) (F : AFrame) (Φ : AFrame → Prop) : Prop := ∃ G, FSub G F ∧ Φ G
theorem kp_nil {F : AFrame} {Φ : AFrame → Prop} (h : Φ fnone) : KP [] F Φ := ⟨_, FSub.none F, h⟩
theorem kp_cons {i : Nat} {l : List Nat} {F : AFrame} {Φ : AFrame → Prop} {x : AVal} (h : F i = some x) (h' : KP l F fun G => Φ (fset i (some x) G)) : KP (i :: l) F Φ := by
  obtain ⟨G, h1, h2⟩ := h'
  exact ⟨_, FSub.set h1 (fun y e => by cases e; exact h), h2⟩
theorem kp_skip {i : Nat} {l : List Nat} {F : AFrame} {Φ : AFrame → Prop} (h' : KP l F Φ) : KP (i :: l) F Φ := by
  obtain ⟨G, h1, h2⟩ := h'
  exact ⟨G, h1, h2⟩

theorem aops_mono {Q Q' : AFrame → AHeap → Prop} (hQ : ∀ F σ, Q F σ → Q' F σ) : ∀ {l : List AOper} {F : AFrame} {σ : AHeap}, aops P l F σ Q → aops P l F σ Q'
  | [], _, _, h => hQ _ _ h
  | _ :: _, _, _, h => aop_mono (fun _ _ h' => aops_mono hQ h') h

theorem kp_weaken {keep : List Nat} {b : ACode} {R : APost} {F : AFrame} {σ : AHeap} (h : KP keep F fun G => AWp P N b R G σ) : AWp P N b R F σ := by
  obtain ⟨G, h1, h2⟩ := h
  exact awp_weaken h1 (HSub.refl σ) h2

/-- A region, and what stands behind it. -/
theorem aw_region {ops : List AOper} {keep : List Nat} {b : ACode} {R : APost} {F : AFrame} {σ : AHeap} (h : aops P ops F σ fun F' σ' => KP keep F' fun G => AWp P N b R G σ') : AWp P N (.seq (.region ops keep) b) R F σ :=
  awp_seq (awp_region (aops_mono (fun _ _ h => kp_weaken h) h))
/-- A region at the end of a piece of code. -/
theorem aw_last {ops : List AOper} {keep : List Nat} {R : APost} {F : AFrame} {σ : AHeap} (h : aops P ops F σ fun F' σ' => R .normal F' σ') : AWp P N (.region ops keep) R F σ := awp_region h

/-- A test, and what stands behind it (where both ways go on, each goes on by itself). -/
theorem aw_cond {x : AOpd} {a b c : ACode} {R : APost} {F : AFrame} {σ : AHeap} {t : Bool} (hx : ev F x = some (.bool t)) (h1 : t = true → AWp P N a (AThen P N c R) F σ) (h2 : t = false → AWp P N b (AThen P N c R) F σ) : AWp P N (.seq (.cond x a b) c) R F σ :=
  awp_seq (awp_cond hx h1 h2)
theorem aw_condp {x : AOpd} {a b c : ACode} {R : APost} {F : AFrame} {σ : AHeap} {p : Prop} [Decidable p] (hx : ev F x = some (.bool (decide p))) (h1 : p → AWp P N a (AThen P N c R) F σ) (h2 : ¬ p → AWp P N b (AThen P N c R) F σ) : AWp P N (.seq (.cond x a b) c) R F σ :=
  aw_cond hx (fun e => h1 (of_decide_eq_true e)) (fun e => h2 (of_decide_eq_false e))
theorem awp_condp {x : AOpd} {a b : ACode} {R : APost} {F : AFrame} {σ : AHeap} {p : Prop} [Decidable p] (hx : ev F x = some (.bool (decide p))) (h1 : p → AWp P N a R F σ) (h2 : ¬ p → AWp P N b R F σ) : AWp P N (.cond x a b) R F σ :=
  awp_cond hx (fun e => h1 (of_decide_eq_true e)) (fun e => h2 (of_decide_eq_false e))
theorem aw_skip {c : ACode} {R : APost} {F : AFrame} {σ : AHeap} (h : AWp P N c R F σ) : AWp P N .skip (AThen P N c R) F σ := awp_skip h
theorem aw_assoc {a b c : ACode} {R : APost} {F : AFrame} {σ : AHeap} (h : AWp P N a (AThen P N b (AThen P N c R)) F σ) : AWp P N (.seq (.seq a b) c) R F σ := awp_seq (awp_seq h)
theorem aw_block {id : Nat} {a c : ACode} {R : APost} {F : AFrame} {σ : AHeap} (h : AWp P N a (AInBlock id (AThen P N c R)) F σ) : AWp P N (.seq (.block id a) c) R F σ := awp_seq (awp_block h)
theorem aw_loop {a c : ACode} {R : APost} {F : AFrame} {σ : AHeap} (I : AFrame → AHeap → Prop) (μ : AFrame → AHeap → Nat) (h0 : I F σ) (round : ∀ F σ, I F σ → AWp P N a (ARound I μ (μ F σ) (AThen P N c R)) F σ) : AWp P N (.seq (.loop a) c) R F σ := awp_seq (awp_loop I μ h0 round)

end Go.Abs

/-
  A program logic over abstract states, part T: loops counted down, heaps in pieces, rows of bytes that grow, small sums.
-/
namespace Go.Abs
open Go Go.RowKit

set_option linter.unusedVariables false
set_option linter.unusedSimpArgs false
variable {P : Program} {N : Nat} {l : List AOper} {F : AFrame} {σ : AHeap} {Q : AFrame → AHeap → Prop}

/-- What stands behind the first part. -/
def ACode.snd : ACode → Nat → ACode
  | c, 0 => c
  | .seq _ b, n + 1 => b.snd n
  | c, _ + 1 => c

def ACode.body : ACode → ACode
  | .block _ a => a
  | .loop a => a
  | c => c

/-! ### Loops -/

theorem least_ex {p : Nat → Prop} : ∀ n, p n → ∃ m, p m ∧ ∀ k, p k → m ≤ k := by
  intro n
  induction n using Nat.strongRecOn with
  | _ n ih =>
    intro hn
    by_cases h : ∃ k, p k ∧ k < n
    · obtain ⟨k, h1, h2⟩ := h
      exact ih k h2 h1
    · exact ⟨n, hn, fun k hk => Nat.le_of_not_lt fun h' => h ⟨k, hk, h'⟩⟩

/-- What a round leaves: the invariant at a lower number. -/
def ALess (I : Nat → AFrame → AHeap → Prop) (n : Nat) (Q : APost) : APost
  | .normal, F, σ => ∃ G τ m, FSub G F ∧ HSub τ σ ∧ I m G τ ∧ m < n
  | e, F, σ => Q e F σ

theorem awp_loopN {a : ACode} {Q : APost} {F : AFrame} {σ : AHeap} (I : Nat → AFrame → AHeap → Prop) {n : Nat} (h0 : I n F σ) (round : ∀ n F σ, I n F σ → AWp P N a (ALess I n Q) F σ) : AWp P N (.loop a) Q F σ := by
  classical
  let J : AFrame → AHeap → Prop := fun F σ => ∃ n, I n F σ
  let μ : AFrame → AHeap → Nat := fun F σ => if h : J F σ then Classical.choose (least_ex (p := fun n => I n F σ) h.choose h.choose_spec) else 0
  have hμ : ∀ F σ, J F σ → I (μ F σ) F σ ∧ ∀ k, I k F σ → μ F σ ≤ k := fun F σ h => by
    have := Classical.choose_spec (least_ex (p := fun n => I n F σ) h.choose h.choose_spec)
    simp only [μ, dif_pos h]
    exact this
  refine awp_loop J μ ⟨n, h0⟩ fun F σ hJ => awp_conseq (round (μ F σ) F σ (hμ F σ hJ).1) ?_
  intro e G τ h
  cases e with
  | normal =>
    obtain ⟨G', τ', m, h1, h2, h3, h4⟩ := h
    exact ⟨G', τ', h1, h2, ⟨m, h3⟩, Nat.lt_of_le_of_lt ((hμ G' τ' ⟨m, h3⟩).2 m h3) h4⟩
  | exit id => exact h
  | ret => exact h

theorem aw_loopN {a c : ACode} {R : APost} {F : AFrame} {σ : AHeap} (I : Nat → AFrame → AHeap → Prop) {n : Nat} (h0 : I n F σ) (round : ∀ n F σ, I n F σ → AWp P N a (ALess I n (AThen P N c R)) F σ) : AWp P N (.seq (.loop a) c) R F σ := awp_seq (awp_loopN I h0 round)

/-- The last region of a round. -/
theorem kp_less {keep : List Nat} {I : Nat → AFrame → AHeap → Prop} {n : Nat} {F : AFrame} {σ : AHeap} (h : KP keep F fun G => ∃ τ m, HSub τ σ ∧ I m G τ ∧ m < n) : ∃ G τ m, FSub G F ∧ HSub τ σ ∧ I m G τ ∧ m < n := by
  obtain ⟨G, h1, τ, m, h2, h3, h4⟩ := h
  exact ⟨G, τ, m, h1, h2, h3, h4⟩

theorem aw_reg {ops : List AOper} {keep : List Nat} {b : ACode} {R : APost} {F : AFrame} {σ : AHeap} (h : aops P ops F σ fun F' σ' => KP keep F' fun G => AWp P N b R G σ') : AWp P N (.region ops keep) (AThen P N b R) F σ :=
  awp_region (aops_mono (fun _ _ h => kp_weaken h) h)
/-- A region with a claim of its own about what it leaves. -/
theorem aw_cut {ops : List AOper} {keep : List Nat} {b : ACode} {R : APost} {F : AFrame} {σ : AHeap} (M : AFrame → AHeap → Prop) (h : aops P ops F σ M) (h' : ∀ F σ, M F σ → AWp P N b R F σ) : AWp P N (.region ops keep) (AThen P N b R) F σ :=
  awp_region (aops_mono h' h)
theorem aw_seq {a b c : ACode} {R : APost} {F : AFrame} {σ : AHeap} (h : AWp P N a (AThen P N b (AThen P N c R)) F σ) : AWp P N (.seq a b) (AThen P N c R) F σ := awp_seq h

/-! ### Heaps in pieces -/

theorem hget_none {σ : AHeap} {b : Nat} (h : b ∉ keys σ) : hget σ b = none := by
  induction σ with
  | nil => rfl
  | cons p σ ih =>
    obtain ⟨a, x⟩ := p
    simp only [keys_cons, List.mem_cons, not_or] at h
    simp only [hget, if_neg (fun e : a = b => h.1 e.symm)]
    exact ih h.2
theorem hget_app {σ τ : AHeap} {b : Nat} (h : b ∉ keys σ) : hget (σ ++ τ) b = hget τ b := by
  induction σ with
  | nil => rfl
  | cons p σ ih =>
    obtain ⟨a, x⟩ := p
    simp only [keys_cons, List.mem_cons, not_or] at h
    simp only [List.cons_append, hget, if_neg (fun e : a = b => h.1 e.symm)]
    exact ih h.2
theorem hset_app {σ τ : AHeap} {b : Nat} {y : ABlk} (h : b ∉ keys σ) : hset (σ ++ τ) b y = σ ++ hset τ b y := by
  induction σ with
  | nil => rfl
  | cons p σ ih =>
    obtain ⟨a, x⟩ := p
    simp only [keys_cons, List.mem_cons, not_or] at h
    simp only [List.cons_append, hset, if_neg (fun e : a = b => h.1 e.symm)]
    rw [ih h.2]
theorem hset_hset (σ : AHeap) (b : Nat) (x y : ABlk) : hset (hset σ b x) b y = hset σ b y := by
  induction σ with
  | nil => rfl
  | cons p σ ih =>
    obtain ⟨a, z⟩ := p
    by_cases h : a = b <;> simp [hset, h, ih]
theorem hset_self {σ : AHeap} {b : Nat} {x : ABlk} (h : hget σ b = some x) : hset σ b x = σ := by
  induction σ with
  | nil => rfl
  | cons p σ ih =>
    obtain ⟨a, z⟩ := p
    by_cases e : a = b
    · simp [hget, e] at h; simp [hset, e, h]
    · simp [hget, e] at h; simp [hset, e, ih h]
theorem keys_app (σ τ : AHeap) : keys (σ ++ τ) = keys σ ++ keys τ := by simp [keys]

theorem ACalls.sub {f : FuncId} {args : List AVal} {σ τ : AHeap} {R : AVal → AHeap → Prop} (hs : HSub τ σ) (h : ACalls P f args τ R) : ACalls P f args σ R :=
  fun K w vs hr hv => h K w vs (hs K w hr) hv

/-! ### Rows of bytes that grow -/

theorem bytes_length (l : List UInt8) : (bytes l).length = l.length := by simp [bytes]
theorem bytes_app (a b : List UInt8) : bytes (a ++ b) = bytes a ++ bytes b := by simp [bytes]
theorem bytes_get (l : List UInt8) (i : Nat) : (bytes l)[i]? = (l[i]?).map byte := by simp [bytes]
theorem bytes_drop (l : List UInt8) (i : Nat) : (bytes l).drop i = bytes (l.drop i) := by simp [bytes]
theorem bytes_take (l : List UInt8) (i : Nat) : (bytes l).take i = bytes (l.take i) := by simp [bytes]
theorem toBytes_bytes (l : List UInt8) : toBytes (bytes l) = some l := by
  induction l with
  | nil => rfl
  | cons a l ih =>
    have : toBytes (bytes (a :: l)) = (toByte (byte a)).bind fun x => (toBytes (bytes l)).bind fun y => some (x :: y) := by simp [toBytes, bytes, List.mapM_cons]
    rw [this, ih]
    simp [toByte, byte]

/-- A row of bytes of the call's own, or nothing yet: its value and its piece of the heap. -/
def Grow (v : AVal) (xs : List UInt8) (β : AHeap) : Prop := ((∃ z, v = .slc z [] true) ∧ xs = [] ∧ β = []) ∨ ∃ b, v = .arr 1 b 0 xs.length ∧ β = [(b, .cells 1 (bytes xs))]

theorem Grow.nil (z : Nat) : Grow (.slc z [] true) [] [] := .inl ⟨⟨z, rfl⟩, rfl, rfl⟩
theorem Grow.lens {v : AVal} {xs : List UInt8} {β : AHeap} (h : Grow v xs β) : alens [v] = some (.int .i64 xs.length) := by
  rcases h with ⟨⟨z, rfl⟩, rfl, rfl⟩ | ⟨b, rfl, rfl⟩ <;> rfl
theorem Grow.elems {v : AVal} {xs : List UInt8} {β τ : AHeap} (h : Grow v xs β) : elemsOf (β ++ τ) 1 v = some (bytes xs) := by
  rcases h with ⟨⟨z, rfl⟩, rfl, rfl⟩ | ⟨b, rfl, rfl⟩
  · simp [elemsOf, bytes]
  · have e : (bytes xs).take xs.length = bytes xs := List.take_of_length_le (by simp [bytes_length])
    simp [elemsOf, hget, bytes_length, e]

theorem st_lens {d : Nat} {args : List AOpd} {v x : AVal} (h1 : evs F args = some [v]) (h2 : alens [v] = some x) (h : aops P l (fset d (some x) F) σ Q) : aops P (⟨some d, .lens, args, none⟩ :: l) F σ Q :=
  st_q h1 h2 rfl h

/-- append to such a row. -/
theorem st_appO {d : Nat} {args : List AOpd} {v x : AVal} {xs ys : List UInt8} {β τ : AHeap} (ho : Grow v xs β) (h1 : evs F args = some [v, x]) (hy : elemsOf (β ++ τ) 1 x = some (bytes ys)) (hb : xs.length + ys.length ≤ 140737488355328)
    (h : ∀ b', b' ∉ keys (β ++ τ) → aops P l (fset d (some (.arr 1 b' 0 (xs ++ ys).length)) F) ((b', .cells 1 (bytes (xs ++ ys))) :: τ) Q) : aops P (⟨some d, .app 1 1, args, none⟩ :: l) F (β ++ τ) Q := by
  rcases ho with ⟨⟨z, rfl⟩, rfl, rfl⟩ | ⟨b, rfl, rfl⟩
  · refine st_app0 h1 hy (by simpa [bytes_length] using hb) fun b' hb' => ?_
    have := h b' hb'
    simpa [bytes_length] using this
  · refine st_app h1 (xs := bytes xs) (ys := bytes ys) (sz := 1) (by simp) (by simp [bytes_length]) hy (by simpa [bytes_length] using hb) fun b' hb' => ?_
    have := h b' hb'
    simpa [bytes_length, bytes_app, hren] using this

/-! ### The same value, seen otherwise -/

def VRle (l l' : List AVal) : Prop := ∀ K vs, VRel K l vs → VRel K l' vs
theorem VRle.refl (l : List AVal) : VRle l l := fun _ _ h => h
theorem VRle.cons {a a' : AVal} {l l' : List AVal} (h1 : VRle [a] [a']) (h2 : VRle l l') : VRle (a :: l) (a' :: l') := fun K vs h => by
  cases vs with
  | nil => exact absurd h.length (by simp)
  | cons v vs' => exact VRel.cons (h1 K _ h.inv.1) (h2 K _ h.inv.2)
theorem VRle.same {a : AVal} {l l' : List AVal} (h2 : VRle l l') : VRle (a :: l) (a :: l') := VRle.cons (VRle.refl _) h2
theorem VRle.tup {l l' : List AVal} (h : VRle l l') : VRle [.tup l] [.tup l'] := fun K vs hv => by
  cases hv with
  | tup hv r => exact .tup (h K _ hv) r
theorem VRle.nil_slc (z z' : Nat) (f : Bool) : VRle [.slc z [] f] [.slc z' [] f] := fun K vs hv => by
  cases hv with
  | slc0 hf r => exact .slc0 hf r
  | slc hn he hs hm hv hc hf r =>
    simp only [List.length_nil] at hn
    subst hn
    exact .slc0 hf r
theorem VShift.of_le {r r' : AVal} {σ τ : AHeap} (h : VRle [r] [r']) (hs : HSub τ σ) : VShift r σ r' τ := fun K w v h1 h2 => ⟨K, Kr.le.refl K, hs K w h1, h K _ h2⟩
theorem ACalls.args {f : FuncId} {as as' : List AVal} {σ : AHeap} {R : AVal → AHeap → Prop} (h : VRle as as') (hc : ACalls P f as' σ R) : ACalls P f as σ R :=
  fun K w vs hr hv => hc K w vs hr (h K _ hv)
theorem ares_v {res : List ARes} {R : AVal → AHeap → Prop} {F : AFrame} {σ : AHeap} {vs : List AVal} (h : resVals F σ res = some vs) {r : AVal} {τ : AHeap} (hv : VRle [tupOf vs] [r]) (hs : HSub τ σ) (hR : R r τ) : ARet res R .ret F σ :=
  ⟨vs, h, r, τ, VShift.of_le hv hs, hR⟩

/-! ### Sums -/

theorem w64 (n : Int) (h : -9223372036854775808 ≤ n) (h' : n ≤ 9223372036854775807) : IntKind.wrap .i64 n = n := by
  simp [IntKind.wrap, IntKind.bits, IntKind.signed]; omega
theorem w8 (n : Int) : IntKind.wrap .u8 n = n % 256 := by simp [IntKind.wrap, IntKind.bits, IntKind.signed]
theorem w32 (n : Int) : IntKind.wrap .u32 n = n % 4294967296 := by simp [IntKind.wrap, IntKind.bits, IntKind.signed]

end Go.Abs

/-
  A program logic over abstract states, part R: from a contract to a row.
-/
namespace Go.Abs
open Go Go.RowKit Go.ChangeShapes Go.WideShapes

set_option linter.unusedVariables false

/-- What a call knows of memory when it begins: that every cell is what it is. -/
def K0 (W : World) : Kr := { w0 := W, wo := W, imm := fun b o => W.cell? ⟨b, o, none⟩, loc := fun _ => none, nn := 0 }

theorem rel0 (W : World) : Rel (K0 W) [] W where
  ext := Below.refl _ _
  oth := Oth.refl _
  imm := fun b o v h => h
  nd := by simp [keys]
  bnd := fun b L h => absurd (show (none : Option Loc) = some L from h) (by simp)
  lit := fun b L cb h => absurd (show (none : Option Loc) = some L from h) (by simp)
  own := fun b blk h => absurd h (by simp)
  inj := fun b1 blk1 b2 blk2 cb s1 c1 s2 c2 h => absurd h (by simp)

theorem calls_of {P : Program} {f : FuncId} {args : List AVal} {vs : List Value} {W : World} (h : ACalls P f args [] fun r _ => r = .bool true) (hv : VRel (K0 W) args vs) :
    Calls P f vs.toArray W fun e W' => e = .returned (.bool true) ∧ Below W.heap.size W W' := by
  refine (h (K0 W) W vs (rel0 W) hv).mono ?_
  rintro e W' ⟨v, K', r, σ', rfl, h1, h2, h3, rfl⟩
  have e1 := h3.bool_inv
  subst e1
  refine ⟨rfl, ?_⟩
  have := h2.ext
  rw [h1.w0] at this
  exact this

variable {H : Type} {enc : TypeId × Value → H} {P : Program}

/-- As the kit's 'post_of_same'; what is frozen is asked of old memory alone. -/
theorem post_of_below {f : Func} {s : ChangeSpec} {apart fresh handsOn again : Bool} {W W' : World} {args : Array Value} {v : Value} {ds gs : List (DataW H)} {before pa pv : List MemPlace}
    (hW : DataW.Whole enc P f.params.toList s.vars apart W args.toList ds gs before)
    (hres : ∀ (b : Nat) (sp : Nat → Bool) (hd : Bool), DataW.TrodAll enc P W' b sp hd f.resultTypes.toList (v.resultList f.resultTypes.size) (s.fn H (ds ++ gs)).results [])
    (hargs : ∀ sp : Nat → Bool, (∀ p ∈ before, sp p.block = true) → DataW.TrodAll enc P W' 0 sp true f.params.toList args.toList (s.fn H (ds ++ gs)).args pa)
    (hvars : ∀ sp : Nat → Bool, (∀ p ∈ before, sp p.block = true) → DataW.TrodVars enc P W' sp s.vars (s.fn H (ds ++ gs)).vars pv)
    (hps : before = pa ++ pv) (hb : Below W.heap.size W W')
    (hok : ∀ (j : Nat) (t : TypeId) (r : Value), f.resultTypes[j]? = some t → (v.resultList f.resultTypes.size)[j]? = some r → Value.okWide P W' .any 0 t r) :
    s.post enc P f apart fresh handsOn again W args v W' := by
  have hlt := hW.lt
  have hold : ∀ p ∈ before, (fun b => decide (b < W.heap.size)) p.block = true := fun p hp => by simpa using hlt p hp
  refine ⟨ds, gs, before, [], pa, pv, hW, hres _ _ _, hargs _ hold, hvars _ hold, World.keptBut_mono (fun p hp => ⟨hp, ?_⟩) (hb.frame (· ∈ before)), fun _ => ?_⟩
  · rw [hps, List.mem_append] at hp
    exact Or.inr hp
  · obtain ⟨_, _, _, _, _, hz, hn⟩ := hW
    refine ⟨hok, _, _, ([] ++ pa) ++ pv, ⟨[] ++ pa, pv, trodAll_append (hargs _ (fun _ _ => rfl)) (hres _ _ _), hvars _ (fun _ _ => rfl), rfl, ?_, ?_⟩, ?_⟩
    · intro b off hp
      have hp' : MemPlace.cell b off ∈ before := by rw [hps]; simpa using hp
      have hlt' := hlt _ hp'
      rw [hb.frozen hlt']
      exact hz b off hp'
    · intro ha
      have := hn ha
      rw [hps] at this
      simpa using this
    · intro p hp _
      rw [hps]
      simpa using hp

/-! ### Rows of bytes that come in -/

theorem flat_bytes (xs : List UInt8) : (bytes xs).flatMap AVal.cells = bytes xs := by
  induction xs with
  | nil => rfl
  | cons a xs ih =>
    show (byte a).cells ++ (bytes xs).flatMap AVal.cells = byte a :: bytes xs
    rw [ih]; rfl
theorem vrel_bytes {K : Kr} : ∀ (xs : List UInt8), VRel K (bytes xs) (xs.map fun b => Value.int .u8 (b.toNat : Int))
  | [] => .nil
  | a :: xs => .int (vrel_bytes xs)

/-- A row of bytes that came in. -/
theorem vr_row {W : World} {x : Addr} {len cap : Nat} {zs : List Int} (hl : len ≤ cap) (hz : zs.length = cap) (hcell : ∀ i, i < zs.length → W.cell? (x.add i) = some (.int .u8 (zs.getD i 0))) (hw : ∀ n ∈ zs, (Lit.int .u8 n).wf = true) :
    ∃ bs : List UInt8, bs.length = len ∧ VR (K0 W) (.slc 1 (bytes bs) false) (.slice (some x) len cap) := by
  by_cases h0 : len = 0
  · subst h0
    exact ⟨[], rfl, VRel.slc0 (by simp) .nil⟩
  have hsp : x.spot = none := by
    have h := hcell 0 (by omega)
    cases hs : x.spot with
    | none => rfl
    | some s =>
      rw [Addr.add, if_pos rfl] at h
      unfold World.cell? at h
      split at h
      · simp [hs] at h
      · cases h
  have hx : ∀ i, x.add i = ⟨x.block, x.off + i, none⟩ := by
    intro i
    unfold Addr.add
    split
    · rename_i h; subst h
      cases x; simp at hsp; simp [hsp]
    · rfl
  refine ⟨(zs.take len).map fun n => UInt8.ofNat n.toNat, by simp; omega, ?_⟩
  have hb : ∀ n ∈ zs, ((UInt8.ofNat n.toNat).toNat : Int) = n := by
    intro n hn
    have := hw n hn
    have h2 : 0 ≤ n ∧ n ≤ 255 := by simpa [Lit.wf, IntKind.min, IntKind.max, IntKind.signed, IntKind.bits] using this
    rw [UInt8.toNat_ofNat']; omega
  generalize hbs : (zs.take len).map (fun n => UInt8.ofNat n.toNat) = bs
  have hbl : bs.length = len := by rw [← hbs]; simp; omega
  refine VRel.slc (vs := bs.map fun b => Value.int .u8 (b.toNat : Int)) (by rw [bytes_length, hbl]) ?_ hsp ?_ (by rw [flat_bytes]; exact vrel_bytes bs) hl (by simp) .nil
  · intro v hv
    obtain ⟨b, _, rfl⟩ := List.mem_map.1 hv
    exact ⟨rfl, fun c hc => by rw [show (byte b).cells = [byte b] from rfl] at hc; rw [List.mem_singleton.1 hc]; rfl⟩
  · intro j v hv
    have hj : j < len := by
      have := (List.getElem?_eq_some_iff.1 hv).1
      simpa [hbl] using this
    show W.cell? ⟨x.block, x.off + j, none⟩ = some v
    rw [← hx j, hcell j (by omega)]
    rw [← hbs] at hv
    rw [List.getElem?_map, List.getElem?_map, List.getElem?_take_of_lt hj, List.getElem?_eq_getElem (by omega)] at hv
    simp only [Option.map_some, Option.some.injEq] at hv
    rw [← hv, hb _ (List.getElem_mem _), List.getD_eq_getElem?_getD, List.getElem?_eq_getElem (by omega)]
    rfl
theorem vr_nilrow {W : World} : VR (K0 W) (.slc 1 (bytes []) false) (.slice none 0 0) := VRel.slc0 (by simp) .nil

end Go.Abs

/-
  A program logic over abstract states, part U: a row of the call's own, handed on for good.
-/
namespace Go.Abs
open Go Go.RowKit

set_option linter.unusedVariables false
variable {P : Program}

theorem ACalls.freeze {f : FuncId} {b sz : Nat} {xs : List AVal} {rest : List AVal} {τ : AHeap} {R : AVal → AHeap → Prop} (h : ACalls P f (.slc sz xs false :: rest) τ R) : ACalls P f (.arr sz b 0 xs.length :: rest) ((b, .cells sz xs) :: τ) R := by
  intro K w vs hr hv
  obtain ⟨v, vs', rfl, h1, h2⟩ := hv.ex
  have hmem : (b, ABlk.cells sz xs) ∈ (b, ABlk.cells sz xs) :: τ := by simp
  have hown := hr.own b _ hmem
  have hsub : HSub τ ((b, ABlk.cells sz xs) :: τ) := HSub.tail _ _
  unfold VR at h1
  generalize hn : xs.length = n at h1
  cases h1 with
  | arr0 hl r =>
    have : xs = [] := List.length_eq_zero_iff.1 hn
    subst this
    exact h K w _ (hsub K w hr) (VRel.cons (VRel.slc0 (by simp) .nil) h2)
  | @arr _ _ _ cb _ pcap cap _ _ hl ho hc r =>
    obtain ⟨vs0, g1, g2, g3⟩ := hr.freeze hmem hl
    rw [hdel_head] at g3
    have hval : VR (K.addImm cb vs0) (.slc sz xs false) (.slice (some ⟨cb, 0 * sz, none⟩) n cap) := by
      refine VRel.slc (vs := vs0) hn hown.1 rfl ?_ (VRel.mono g2 g1) hc (by simp) .nil
      intro j v hj
      simp only [Kr.addImm, Nat.zero_mul, Nat.zero_add, if_true]
      exact hj
    refine (h _ w _ g3 (VRel.cons hval (VRel.mono g2 h2))).mono ?_
    rintro e w' ⟨v, K', r, σ', he, k1, k2, k3, k4⟩
    exact ⟨v, K', r, σ', he, g2.trans k1, k2, k3, k4⟩

/-- The same, of a slot of the frame. -/
theorem awp_freeze {N : Nat} {a : ACode} {Q : APost} {F : AFrame} {b sz d : Nat} {xs : List AVal} {τ : AHeap} (hF : F d = some (.arr sz b 0 xs.length)) (h : AWp P N a Q (fset d (some (.slc sz xs false)) F) τ) : AWp P N a Q F ((b, .cells sz xs) :: τ) := by
  refine awp_vs (fun K w tmps hr hfr => ?_) h
  have h1 := hfr.at_ d _ hF
  have hmem : (b, ABlk.cells sz xs) ∈ (b, ABlk.cells sz xs) :: τ := by simp
  have hown := hr.own b _ hmem
  have hsub : HSub τ ((b, ABlk.cells sz xs) :: τ) := HSub.tail _ _
  have key : ∀ K', K.le K' → Rel K' τ w → VR K' (.slc sz xs false) (tmps.getD d undef) → ∃ K', K.le K' ∧ Rel K' τ w ∧ FRel K' N (fset d (some (.slc sz xs false)) F) tmps := by
    intro K' k1 k2 k3
    refine ⟨K', k1, k2, hfr.size, fun i x e => ?_⟩
    simp only [fset] at e
    split at e
    · rename_i hi
      subst hi
      simp only [Option.some.injEq] at e
      subst e
      exact k3
    · exact (hfr.at_ i x e).mono k1
  unfold VR at h1
  generalize hv : tmps.getD d undef = v at h1 key
  generalize hn : xs.length = n at h1
  cases h1 with
  | arr0 hl r =>
    have : xs = [] := List.length_eq_zero_iff.1 hn
    subst this
    exact key K (Kr.le.refl K) (hsub K w hr) (VRel.slc0 (by simp) .nil)
  | @arr _ _ _ cb _ pcap cap _ _ hl ho hc r =>
    obtain ⟨vs0, g1, g2, g3⟩ := hr.freeze hmem hl
    rw [hdel_head] at g3
    refine key (K.addImm cb vs0) g2 g3 ?_
    refine VRel.slc (vs := vs0) hn hown.1 rfl ?_ (VRel.mono g2 g1) hc (by simp) .nil
    intro j v hj
    simp only [Kr.addImm, Nat.zero_mul, Nat.zero_add, if_true]
    exact hj

/-- Cells that lie one behind the other, each known by what it is: the row of them. -/
theorem vrel_row {K : Kr} {b o : Nat} : ∀ (cs : List AVal) (n : Nat), (∀ j c, cs[j]? = some c → ∃ v, K.imm b (o + n + j) = some v ∧ VR K c v) → ∃ vs, VRel K cs vs ∧ ∀ j v, vs[j]? = some v → K.imm b (o + n + j) = some v
  | [], n, h => ⟨[], .nil, fun j v e => by simp at e⟩
  | c :: cs, n, h => by
    obtain ⟨v, h1, h2⟩ := h 0 c rfl
    obtain ⟨vs, h3, h4⟩ := vrel_row cs (n + 1) (fun j c' e => by
      obtain ⟨v', g1, g2⟩ := h (j + 1) c' (by simpa using e)
      exact ⟨v', by rw [show o + (n + 1) + j = o + n + (j + 1) by omega]; exact g1, g2⟩)
    refine ⟨v :: vs, VRel.cons h2 h3, fun j u e => ?_⟩
    cases j with
    | zero => simp only [List.getElem?_cons_zero, Option.some.injEq] at e; subst e; simpa using h1
    | succ j =>
      have := h4 j u (by simpa using e)
      rw [show o + n + (j + 1) = o + (n + 1) + j by omega]
      exact this

/-- A variable that nobody writes any more, of a slot of the frame. -/
theorem awp_freezeP {N : Nat} {a : ACode} {Q : APost} {F : AFrame} {b sz d : Nat} {cs : List AVal} {τ : AHeap} (hF : F d = some (.ptr b 0 0)) (h : AWp P N a Q (fset d (some (.iptr cs)) F) τ) : AWp P N a Q F ((b, .cells sz [.agg cs]) :: τ) := by
  refine awp_vs (fun K w tmps hr hfr => ?_) h
  have h1 := hfr.at_ d _ hF
  have hmem : (b, ABlk.cells sz [.agg cs]) ∈ (b, ABlk.cells sz [.agg cs]) :: τ := by simp
  have hown := hr.own b _ hmem
  unfold VR at h1
  generalize hv : tmps.getD d undef = v at h1
  cases h1 with
  | @ptr _ _ _ cb sz' pcap _ _ hl r =>
    obtain rfl : sz' = sz := by
      rcases hown.2 with ⟨p, k1, _⟩ | ⟨cb', p, cs', ty, k1, _⟩ <;> rw [hl] at k1 <;> simp at k1
      exact k1.2.1
    obtain ⟨vs0, g1, g2, g3⟩ := hr.freeze hmem hl
    rw [hdel_head] at g3
    refine ⟨K.addImm cb vs0, g2, g3, hfr.size, fun i x e => ?_⟩
    simp only [fset] at e
    split at e
    · rename_i hi
      subst hi
      simp only [Option.some.injEq] at e
      subst e
      rw [hv]
      refine VRel.iptr (vs := vs0) rfl ?_ ?_ ?_ .nil
      · have := (hown.1 (.agg cs) (by simp)).2
        simpa [AVal.cells] using this
      · intro j v hj
        simp only [Kr.addImm, Nat.zero_mul, Nat.zero_add, if_true]
        exact hj
      · have := VRel.mono g2 g1
        simpa [AVal.cells] using this
    · exact (hfr.at_ i x e).mono g2

/-- The heap's pieces in another order. -/
theorem awp_rot {N : Nat} {a : ACode} {Q : APost} {F : AFrame} {β γ σ : AHeap} (h : AWp P N a Q F (γ ++ (β ++ σ))) : AWp P N a Q F (β ++ (γ ++ σ)) := by
  refine awp_weaken (FSub.refl F) (HSub.of_perm ?_) h
  rw [← List.append_assoc, ← List.append_assoc]
  exact List.Perm.append_right _ List.perm_append_comm

/-- A call's answer, seen otherwise. -/
theorem acalls_shift {f : FuncId} {args : List AVal} {σ : AHeap} {R R' : AVal → AHeap → Prop} (h : ACalls P f args σ R) (hs : ∀ r σ', R r σ' → ∃ r' τ, VShift r σ' r' τ ∧ R' r' τ) : ACalls P f args σ R' := by
  intro K w vs hr hv
  refine (h K w vs hr hv).mono ?_
  rintro e w' ⟨v, K', r, σ', he, k1, k2, k3, k4⟩
  obtain ⟨r', τ, h1, h2⟩ := hs r σ' k4
  obtain ⟨K2, g1, g2, g3⟩ := h1 K' w' v k2 k3
  exact ⟨v, K2, r', τ, he, k1.trans g1, g2, g3, h2⟩

/-- Many values at once. -/
def VShiftL (l : List AVal) (σ : AHeap) (l' : List AVal) (τ : AHeap) : Prop := ∀ K w vs, Rel K σ w → VRel K l vs → ∃ K', K.le K' ∧ Rel K' τ w ∧ VRel K' l' vs
theorem VShiftL.refl (l : List AVal) (σ : AHeap) : VShiftL l σ l σ := fun K w v h1 h2 => ⟨K, Kr.le.refl K, h1, h2⟩
theorem VShiftL.trans {l l' l'' : List AVal} {σ σ' σ'' : AHeap} (h : VShiftL l σ l' σ') (h' : VShiftL l' σ' l'' σ'') : VShiftL l σ l'' σ'' := fun K w v h1 h2 => by
  obtain ⟨K1, a1, a2, a3⟩ := h K w v h1 h2
  obtain ⟨K2, b1, b2, b3⟩ := h' K1 w v a2 a3
  exact ⟨K2, a1.trans b1, b2, b3⟩
theorem VShiftL.one {r r' : AVal} {σ τ : AHeap} (h : VShiftL [r] σ [r'] τ) : VShift r σ r' τ := fun K w v h1 h2 => h K w [v] h1 h2
theorem VShiftL.tup {l l' : List AVal} {σ τ : AHeap} (h : VShiftL l σ l' τ) : VShift (.tup l) σ (.tup l') τ := by
  intro K w v h1 h2
  unfold VR at h2
  cases h2 with
  | tup hv r =>
    obtain ⟨K', a1, a2, a3⟩ := h K w _ h1 hv
    exact ⟨K', a1, a2, .tup a3 .nil⟩
theorem VShiftL.keep {a : AVal} {l l' : List AVal} {σ τ : AHeap} (h : VShiftL l σ l' τ) : VShiftL (a :: l) σ (a :: l') τ := by
  intro K w vs h1 h2
  obtain ⟨v, vs', rfl, g1, g2⟩ := h2.ex
  obtain ⟨K', a1, a2, a3⟩ := h K w _ h1 g2
  exact ⟨K', a1, a2, VRel.cons (VRel.mono a1 g1) a3⟩
theorem VShiftL.first {a a' : AVal} {l : List AVal} {σ τ : AHeap} (h : VShiftL [a] σ [a'] τ) : VShiftL (a :: l) σ (a' :: l) τ := by
  intro K w vs h1 h2
  obtain ⟨v, vs', rfl, g1, g2⟩ := h2.ex
  obtain ⟨K', a1, a2, a3⟩ := h K w [v] h1 g1
  exact ⟨K', a1, a2, VRel.cons a3 (VRel.mono a1 g2)⟩
theorem VShiftL.le {l l' : List AVal} {σ τ : AHeap} (h : VRle l l') (hs : HSub τ σ) : VShiftL l σ l' τ := fun K w v h1 h2 => ⟨K, Kr.le.refl K, hs K w h1, h K v h2⟩
theorem VShiftL.drop {l : List AVal} {σ τ : AHeap} (hs : HSub τ σ) : VShiftL l σ l τ := VShiftL.le (VRle.refl _) hs

/-- A row of the call's own. -/
theorem VShiftL.freeze {b sz n : Nat} {xs : List AVal} {τ : AHeap} (hn : xs.length = n) : VShiftL [.arr sz b 0 n] ((b, .cells sz xs) :: τ) [.slc sz xs false] τ := by
  intro K w vs hr hv
  obtain ⟨v, vs', rfl, h1, h2⟩ := hv.ex
  have := h2.nil_inv
  subst this
  have hmem : (b, ABlk.cells sz xs) ∈ (b, ABlk.cells sz xs) :: τ := by simp
  have hown := hr.own b _ hmem
  have hsub : HSub τ ((b, ABlk.cells sz xs) :: τ) := HSub.tail _ _
  unfold VR at h1
  cases h1 with
  | arr0 hl r =>
    have : xs = [] := List.length_eq_zero_iff.1 hn
    subst this
    exact ⟨K, Kr.le.refl K, hsub K w hr, VRel.slc0 (by simp) .nil⟩
  | @arr _ _ _ cb _ pcap cap _ _ hl ho hc r =>
    obtain ⟨vs0, g1, g2, g3⟩ := hr.freeze hmem hl
    rw [hdel_head] at g3
    refine ⟨_, g2, g3, ?_⟩
    refine VRel.slc (vs := vs0) hn hown.1 rfl ?_ (VRel.mono g2 g1) hc (by simp) .nil
    intro j v hj
    simp only [Kr.addImm, Nat.zero_mul, Nat.zero_add, if_true]
    exact hj
theorem VShiftL.grow {v : AVal} {xs : List UInt8} {β τ : AHeap} (h : Grow v xs β) : VShiftL [v] (β ++ τ) [.slc 1 (bytes xs) false] τ := by
  rcases h with ⟨⟨z, rfl⟩, rfl, rfl⟩ | ⟨b, rfl, rfl⟩
  · refine VShiftL.le (fun K vs hv => ?_) (HSub.refl _)
    cases hv with
    | slc0 hf r => exact .slc0 (by simp) r
    | slc hn he hs hm hv hc hf r =>
      simp only [List.length_nil] at hn
      subst hn
      exact .slc0 (by simp) r
  · exact VShiftL.freeze (bytes_length _)

end Go.Abs

/-
  A program logic over abstract states, part V: arguments of any plain type, opened.
-/
namespace Go.Abs
open Go Go.RowKit Go.ChangeShapes Go.WideShapes Go.Deep

set_option linter.unusedVariables false
set_option linter.unusedSimpArgs false

/-- A value of a type of truths, numbers, texts, slices, structs. -/
inductive Has (P : Program) : TypeId → AVal → Prop
  | bool {t : TypeId} {b : Bool} (h : P.underlying t = some .bool) : Has P t (.bool b)
  | int {t : TypeId} {k : IntKind} {i : Int} (h : P.underlying t = some (.int k)) (hw : (Lit.int k i).wf = true) : Has P t (.int k i)
  | str {t : TypeId} {s : List UInt8} (h : P.underlying t = some .string) (hl : s.length ≤ maxLen) : Has P t (.str s)
  | slc {t e : TypeId} {xs : List AVal} (h : P.underlying t = some (.slice e)) (hl : xs.length ≤ maxLen) (hx : ∀ x ∈ xs, Has P e x) : Has P t (.slc (P.cellsOf e) xs false)
  | agg {t : TypeId} {fs : Array Field} {ys : List AVal} (h : P.underlying t = some (.struct fs)) (hn : ys.length = fs.size) (hy : ∀ (j : Nat) (f : Field) (y : AVal), fs[j]? = some f → ys[j]? = some y → Has P f.type y) : Has P t (.agg (flat ys))

def contig (P : Program) : Nat → List Field → Nat → Bool
  | o, [], n => o == n
  | o, f :: fs, n => f.offset == o && contig P (o + P.cellsOf f.type) fs n

def plainT (P : Program) (S : List TypeId) (t : TypeId) : Bool :=
  match P.underlying t with
  | some .bool | some (.int _) | some .string => P.cellsOf t == 1
  | some (.slice e) => S.contains e && (P.cellsOf t == 1) && decide (0 < P.cellsOf e)
  | some (.struct fs) => contig P 0 fs.toList (P.cellsOf t) && fs.toList.all fun f => S.contains f.type
  | _ => false

/-- The types of a program that are plain, closed under their parts. -/
def plainS (P : Program) (S : List TypeId) : Bool := S.all (plainT P S)

variable {H : Type} {enc : TypeId × Value → H} {P : Program} {W : World}

def Opened (P : Program) (W : World) (t : TypeId) (cs : List Value) : Prop :=
  ∃ a : AVal, Has P t a ∧ a.elem (P.cellsOf t) ∧ VRel (K0 W) a.cells cs

theorem opened_row {P : Program} {W : World} {e : TypeId} {b o sz : Nat} {c : Nat → List Value} (hsz : P.cellsOf e = sz) : ∀ n, (∀ i, i < n → Opened P W e (c i) ∧ ∀ j, j < sz → W.cell? ⟨b, o + i * sz + j, none⟩ = (c i)[j]?) →
    ∃ (xs : List AVal) (vs : List Value), xs.length = n ∧ (∀ x ∈ xs, Has P e x) ∧ (∀ x ∈ xs, x.elem sz) ∧ VRel (K0 W) (flat xs) vs ∧ ∀ j v, vs[j]? = some v → W.cell? ⟨b, o + j, none⟩ = some v
  | 0, _ => ⟨[], [], rfl, by simp, by simp, .nil, by simp⟩
  | n + 1, h => by
    obtain ⟨xs, vs, h1, h2, h3, h4, h5⟩ := opened_row hsz n fun i hi => h i (by omega)
    obtain ⟨⟨a, ha, he, hv⟩, hc⟩ := h n (by omega)
    rw [hsz] at he
    have hl : vs.length = n * sz := by rw [← h4.length, flat_length h3, h1]
    have hcl : (c n).length = sz := by rw [← hv.length, he.1]
    refine ⟨xs ++ [a], vs ++ c n, by simp [h1], ?_, ?_, ?_, ?_⟩
    · intro x hx
      rcases List.mem_append.1 hx with hx | hx
      · exact h2 x hx
      · rw [List.mem_singleton.1 hx]; exact ha
    · intro x hx
      rcases List.mem_append.1 hx with hx | hx
      · exact h3 x hx
      · rw [List.mem_singleton.1 hx]; exact he
    · rw [flat_append, flat_cons, flat_nil, List.append_nil]
      exact h4.append hv
    · intro j v hj
      rw [List.getElem?_append] at hj
      split at hj
      · exact h5 j v hj
      · rename_i hjl
        have hlt := (List.getElem?_eq_some_iff.1 hj).1
        have := hc (j - vs.length) (by omega)
        rw [hj, hl] at this
        rw [← this]
        congr 2
        rw [hl] at hjl
        omega

theorem opened_fields {P : Program} {W : World} {cs : List Value} : ∀ (fs : List Field) (o n : Nat), contig P o fs n = true → cs.length = n → o ≤ n → (∀ f ∈ fs, Opened P W f.type ((cs.drop f.offset).take (P.cellsOf f.type))) →
    ∃ ys : List AVal, ys.length = fs.length ∧ (∀ (j : Nat) (f : Field) (y : AVal), fs[j]? = some f → ys[j]? = some y → Has P f.type y) ∧ (∀ c ∈ flat ys, c.one = true) ∧ VRel (K0 W) (flat ys) (cs.drop o)
  | [], o, n, h, hc, ho, _ => by
    simp only [contig, beq_iff_eq] at h
    refine ⟨[], rfl, by simp, by simp, ?_⟩
    rw [List.drop_of_length_le (by omega)]
    exact .nil
  | f :: fs, o, n, h, hc, ho, hf => by
    simp only [contig, Bool.and_eq_true, beq_iff_eq] at h
    obtain ⟨h1, h2⟩ := h
    obtain ⟨a, ha, he, hv⟩ := hf f (by simp)
    rw [h1] at hv
    have hle : o + P.cellsOf f.type ≤ n := by
      have := hv.length
      rw [he.1, List.length_take, List.length_drop, hc] at this
      omega
    obtain ⟨ys, k1, k2, k3, k4⟩ := opened_fields fs (o + P.cellsOf f.type) n h2 hc hle fun g hg => hf g (by simp [hg])
    refine ⟨a :: ys, by simp [k1], ?_, ?_, ?_⟩
    · intro j g y hj hy
      cases j with
      | zero => simp at hj hy; subst hj hy; exact ha
      | succ j => exact k2 j g y (by simpa using hj) (by simpa using hy)
    · intro c hc'
      rw [flat_cons] at hc'
      rcases List.mem_append.1 hc' with h | h
      · exact he.2 c h
      · exact k3 c h
    · rw [flat_cons]
      have e : cs.drop o = (cs.drop o).take (P.cellsOf f.type) ++ cs.drop (o + P.cellsOf f.type) := by
        rw [← List.drop_drop, List.take_append_drop]
      rw [e]
      exact hv.append k4

theorem opened {S : List TypeId} (hS : plainS P S = true) : ∀ (fuel : Nat) (t : TypeId), t ∈ S → ∀ (cs : List Value) x, DataW.trod enc P W 0 (fun _ => true) true fuel t cs = some x → Opened P W t cs := by
  intro fuel
  induction fuel with
  | zero => intro t _ cs x h; simp [DataW.trod] at h
  | succ n ih =>
    intro t ht cs x h
    have hp := List.all_eq_true.1 hS t ht
    unfold plainT at hp
    cases hu : P.underlying t with
    | none => rw [hu] at hp; simp at hp
    | some u =>
      rw [hu] at hp
      cases u with
      | bool =>
        obtain ⟨b, rfl, _⟩ := DataW.trod_bool hu h
        simp only [beq_iff_eq] at hp
        exact ⟨.bool b, .bool hu, ⟨by rw [hp]; rfl, by simp [AVal.cells, AVal.one]⟩, .bool .nil⟩
      | int k =>
        obtain ⟨i, rfl, _, hw⟩ := DataW.trod_int hu h
        simp only [beq_iff_eq] at hp
        exact ⟨.int k i, .int hu hw, ⟨by rw [hp]; rfl, by simp [AVal.cells, AVal.one]⟩, .int .nil⟩
      | string =>
        obtain ⟨s, rfl, _, hl⟩ := DataW.trod_string hu h
        simp only [beq_iff_eq] at hp
        refine ⟨.str s.data.toList, .str hu (by simpa using hl), ⟨by rw [hp]; rfl, by simp [AVal.cells, AVal.one]⟩, ?_⟩
        exact VRel.str (K := K0 W) (s := s.data.toList) VRel.nil
      | slice e =>
        simp only [Bool.and_eq_true, beq_iff_eq, decide_eq_true_eq] at hp
        obtain ⟨⟨he, h1⟩, hz⟩ := hp
        have heS : e ∈ S := by simpa using he
        rcases DataW.trod_slice hu h with ⟨rfl, _⟩ | ⟨a, len, cap, elems, rest, m, hm, rfl, rfl, hb, hl, hmx, hlen, hel, _, _⟩
        · exact ⟨.slc (P.cellsOf e) [] false, .slc hu (by simp) (by simp), ⟨by rw [h1]; rfl, by simp [AVal.cells, AVal.one]⟩, .slc0 (by simp) .nil⟩
        · obtain rfl : n = m := by omega
          have hcell : ∀ i, i < len → ∃ cs', W.cells? 0 (a.add (i * P.cellsOf e)) (P.cellsOf e) = some cs' ∧ Opened P W e cs' := by
            intro i hi
            have := hel i hi
            rw [List.getElem?_eq_getElem (by omega)] at this
            obtain ⟨cs', g1, g2⟩ := Option.bind_eq_some_iff.1 this
            exact ⟨cs', g1, ih e heS cs' _ g2⟩
          by_cases h0 : len = 0
          · subst h0
            exact ⟨.slc (P.cellsOf e) [] false, .slc hu (by simp) (by simp), ⟨by rw [h1]; rfl, by simp [AVal.cells, AVal.one]⟩, .slc0 (by simp) .nil⟩
          have hsp : a.spot = none := by
            obtain ⟨cs', g1, g2⟩ := hcell 0 (by omega)
            obtain ⟨_, g3, g4⟩ := World.cells?_some g1
            have g5 := g4 0 hz
            rw [List.getElem?_eq_getElem (by omega)] at g5
            cases hs : a.spot with
            | none => rfl
            | some s =>
              rw [Nat.zero_mul, Addr.add, if_pos rfl, Addr.add, if_pos rfl] at g5
              unfold World.cell? at g5
              split at g5
              · simp [hs] at g5
              · cases g5
          have hx : ∀ i, a.add i = ⟨a.block, a.off + i, none⟩ := by
            intro i
            unfold Addr.add
            split
            · rename_i h; subst h
              cases a; simp at hsp; simp [hsp]
            · rfl
          have hch : ∃ c : Nat → List Value, ∀ i, i < len → Opened P W e (c i) ∧ ∀ j, j < P.cellsOf e → W.cell? ⟨a.block, a.off + i * P.cellsOf e + j, none⟩ = (c i)[j]? := by
            refine choose_lt (p := fun i ci => Opened P W e ci ∧ ∀ j, j < P.cellsOf e → W.cell? ⟨a.block, a.off + i * P.cellsOf e + j, none⟩ = ci[j]?) fun i hi => ?_
            obtain ⟨cs', g1, g2⟩ := hcell i hi
            obtain ⟨_, g3, g4⟩ := World.cells?_some g1
            refine ⟨cs', g2, fun j hj => ?_⟩
            have := g4 j hj
            rw [add_add, hx] at this
            rw [← this, Nat.add_assoc]
          obtain ⟨c, hc⟩ := hch
          obtain ⟨xs, vs, k1, k2, k3, k4, k5⟩ := opened_row (b := a.block) (o := a.off) (c := c) rfl len hc
          refine ⟨.slc (P.cellsOf e) xs false, .slc hu (by omega) k2, ⟨by rw [h1]; rfl, by simp [AVal.cells, AVal.one]⟩, ?_⟩
          exact VRel.slc k1 k3 hsp (fun j v hj => k5 j v hj) k4 hl (by simp) .nil
      | struct fs =>
        simp only [Bool.and_eq_true] at hp
        obtain ⟨hc, hall⟩ := hp
        obtain ⟨xs, m, hm, rfl, hlen, hxl, hf⟩ := DataW.trod_struct hu h
        obtain rfl : n = m := by omega
        obtain ⟨ys, k1, k2, k3, k4⟩ := opened_fields (P := P) (W := W) (cs := cs) fs.toList 0 _ hc hlen (Nat.zero_le _) (by
          intro f hfm
          obtain ⟨i, hi, rfl⟩ := List.getElem_of_mem hfm
          have h1 := hf i fs.toList[i] (by simp)
          have hi' : i < fs.size := by simpa using hi
          rw [List.getElem?_eq_getElem (by omega)] at h1
          exact ih _ (by simpa using List.all_eq_true.1 hall _ hfm) _ _ h1)
        refine ⟨.agg (flat ys), .agg hu (by simpa using k1) (fun j f y hj hy => k2 j f y (by simpa using hj) hy), ⟨?_, k3⟩, by simpa [AVal.cells] using k4⟩
        have := k4.length
        simp only [List.drop_zero] at this
        simpa [AVal.cells] using this.trans hlen
      | _ => simp at hp

/-- An argument. -/
theorem opened_arg {S : List TypeId} (hS : plainS P S = true) {t : TypeId} (ht : t ∈ S) {v : Value} {d : DataW H} {ps : List MemPlace} {r : Reach} {b : Nat} (hv : Value.okWide P W r b t v) (h : DataW.Trod enc P W 0 (fun _ => true) true t v d ps) : ∃ a : AVal, Has P t a ∧ VR (K0 W) a v := by
  obtain ⟨fuel, h⟩ := h
  obtain ⟨a, h1, h2, h3⟩ := opened hS fuel t ht _ _ h
  refine ⟨a, h1, ?_⟩
  cases h1 with
  | bool hu => obtain ⟨b, rfl⟩ := okWide_bool hu hv; exact h3
  | int hu _ => obtain ⟨b, rfl⟩ := okWide_int hu hv; exact h3
  | str hu _ => obtain ⟨b, rfl⟩ := okWide_string hu hv; exact h3
  | slc hu _ _ => obtain ⟨a, l, c, rfl⟩ := okWide_slice hu hv; exact h3
  | agg hu _ _ =>
    obtain ⟨cs, rfl, _⟩ := okWide_struct hu hv
    have := VRel.agg (K := K0 W) h2.2 (show VRel (K0 W) _ cs.toList from h3) .nil
    simpa [VR, AVal.cells] using this

inductive HasL (P : Program) : List TypeId → List AVal → Prop
  | nil : HasL P [] []
  | cons {t : TypeId} {a : AVal} {ts : List TypeId} {l : List AVal} (h : Has P t a) (r : HasL P ts l) : HasL P (t :: ts) (a :: l)

theorem opened_all {S : List TypeId} (hS : plainS P S = true) {r : Reach} {b : Nat} : ∀ (ts : List TypeId) (vs : List Value) (ds : List (DataW H)) (ps : List MemPlace), (∀ t ∈ ts, t ∈ S) → (∀ (j : Nat) t v, ts[j]? = some t → vs[j]? = some v → Value.okWide P W r b t v) → DataW.TrodAll enc P W 0 (fun _ => true) true ts vs ds ps →
    ∃ as, HasL P ts as ∧ VRel (K0 W) as vs
  | [], [], [], _, _, _, _ => ⟨[], .nil, .nil⟩
  | t :: ts, v :: vs, d :: ds, ps, hts, hv, h => by
    obtain ⟨p, q, h1, h2, _⟩ := h
    obtain ⟨as, g1, g2⟩ := opened_all hS ts vs ds q (fun t ht => hts t (by simp [ht])) (fun j t v e1 e2 => hv (j + 1) t v (by simpa using e1) (by simpa using e2)) h2
    obtain ⟨a, g3, g4⟩ := opened_arg hS (hts t (by simp)) (hv 0 t v rfl rfl) h1
    exact ⟨a :: as, .cons g3 g1, VRel.cons g4 g2⟩
  | [], _ :: _, _, _, _, _, h => absurd h (by simp [DataW.TrodAll])
  | [], [], _ :: _, _, _, _, h => absurd h (by simp [DataW.TrodAll])
  | _ :: _, [], _, _, _, _, h => absurd h (by simp [DataW.TrodAll])
  | _ :: _, _ :: _, [], _, _, _, h => absurd h (by simp [DataW.TrodAll])

/-- The arguments afterwards. -/
theorem stays_all (hl : laidOutB P = true) {W' : World} (hb : Below W.heap.size W W') : ∀ (ts : List TypeId) (vs : List Value) (ds : List (DataW H)) (ps : List MemPlace), (∀ t ∈ ts, P.readableRec t = true ∧ t < P.types.size) → DataW.TrodAll enc P W 0 (fun _ => true) true ts vs ds ps →
    DataW.TrodAll enc P W' 0 (fun b => decide (b < W.heap.size)) true ts vs ds ps
  | [], [], [], _, _, h => h
  | t :: ts, v :: vs, d :: ds, ps, hts, h => by
    obtain ⟨p, q, h1, h2, rfl⟩ := h
    have hlt : ∀ x ∈ p, x.block < W.heap.size := by obtain ⟨m, hm⟩ := h1; exact DataW.trod_lt m _ _ _ hm
    exact ⟨p, q, Below.trod hl (hts t (by simp)).1 (hts t (by simp)).2 h1 hb hlt, stays_all hl hb ts vs ds q (fun t ht => hts t (by simp [ht])) h2, rfl⟩
  | [], _ :: _, _, _, _, h => absurd h (by simp [DataW.TrodAll])
  | [], [], _ :: _, _, _, h => absurd h (by simp [DataW.TrodAll])
  | _ :: _, [], _, _, _, h => absurd h (by simp [DataW.TrodAll])
  | _ :: _, _ :: _, [], _, _, h => absurd h (by simp [DataW.TrodAll])

theorem trodAll_len {base : Nat} {spare : Nat → Bool} {held : Bool} : ∀ {ts : List TypeId} {vs : List Value} {ds : List (DataW H)} {ps : List MemPlace}, DataW.TrodAll enc P W base spare held ts vs ds ps → ds.length = ts.length
  | [], [], [], _, _ => rfl
  | t :: ts, v :: vs, d :: ds, ps, h => by
    obtain ⟨p, q, h1, h2, rfl⟩ := h
    simp [trodAll_len h2]
  | [], _ :: _, _, _, h => absurd h (by simp [DataW.TrodAll])
  | [], [], _ :: _, _, h => absurd h (by simp [DataW.TrodAll])
  | _ :: _, [], _, _, h => absurd h (by simp [DataW.TrodAll])
  | _ :: _, _ :: _, [], _, h => absurd h (by simp [DataW.TrodAll])

/-! ### What a value of a type is -/

theorem Has.bool_inv {t : TypeId} {a : AVal} (hu : P.underlying t = some .bool) (h : Has P t a) : ∃ b, a = .bool b := by
  cases h with
  | bool _ => exact ⟨_, rfl⟩
  | int h _ | str h _ | slc h _ _ | agg h _ _ => rw [hu] at h; cases h
theorem Has.int_inv {t : TypeId} {a : AVal} {k : IntKind} (hu : P.underlying t = some (.int k)) (h : Has P t a) : ∃ i, a = .int k i ∧ (Lit.int k i).wf = true := by
  cases h with
  | int h hw => rw [hu] at h; cases h; exact ⟨_, rfl, hw⟩
  | bool h | str h _ | slc h _ _ | agg h _ _ => rw [hu] at h; cases h
theorem Has.str_inv {t : TypeId} {a : AVal} (hu : P.underlying t = some .string) (h : Has P t a) : ∃ s, a = .str s ∧ s.length ≤ maxLen := by
  cases h with
  | str h hl => exact ⟨_, rfl, hl⟩
  | bool h | int h _ | slc h _ _ | agg h _ _ => rw [hu] at h; cases h
theorem Has.slc_inv {t e : TypeId} {a : AVal} (hu : P.underlying t = some (.slice e)) (h : Has P t a) : ∃ xs, a = .slc (P.cellsOf e) xs false ∧ xs.length ≤ maxLen ∧ ∀ x ∈ xs, Has P e x := by
  cases h with
  | slc h hl hx => rw [hu] at h; cases h; exact ⟨_, rfl, hl, hx⟩
  | bool h | int h _ | str h _ | agg h _ _ => rw [hu] at h; cases h
theorem Has.agg_inv {t : TypeId} {fs : Array Field} {a : AVal} (hu : P.underlying t = some (.struct fs)) (h : Has P t a) : ∃ ys, a = .agg (flat ys) ∧ HasL P (fs.toList.map Field.type) ys := by
  cases h with
  | agg h hn hy =>
    rw [hu] at h; cases h
    refine ⟨_, rfl, ?_⟩
    have key : ∀ (l : List Field) (ys : List AVal), ys.length = l.length → (∀ (j : Nat) (f : Field) (y : AVal), l[j]? = some f → ys[j]? = some y → Has P f.type y) → HasL P (l.map Field.type) ys := by
      intro l
      induction l with
      | nil => intro ys h _; rw [List.length_eq_zero_iff.1 h]; exact .nil
      | cons f l ih =>
        intro ys h hy
        cases ys with
        | nil => simp at h
        | cons y ys => exact .cons (hy 0 f y rfl rfl) (ih ys (by simpa using h) fun j f y e1 e2 => hy (j + 1) f y (by simpa using e1) (by simpa using e2))
    exact key _ _ (by simpa using hn) fun j f y e1 e2 => hy j f y (by simpa using e1) e2
  | bool h | int h _ | str h _ | slc h _ _ => rw [hu] at h; cases h

theorem HasL.nil_inv {as : List AVal} (h : HasL P [] as) : as = [] := by cases h; rfl
theorem HasL.cons_inv {t : TypeId} {ts : List TypeId} {as : List AVal} (h : HasL P (t :: ts) as) : ∃ a l, as = a :: l ∧ Has P t a ∧ HasL P ts l := by
  cases h with
  | cons h r => exact ⟨_, _, rfl, h, r⟩

theorem wf_i64 {i : Int} (h : (Lit.int .i64 i).wf = true) : -9223372036854775808 ≤ i ∧ i ≤ 9223372036854775807 := by simpa [Lit.wf, IntKind.min, IntKind.max, IntKind.signed, IntKind.bits] using h
theorem wf_u8 {i : Int} (h : (Lit.int .u8 i).wf = true) : 0 ≤ i ∧ i ≤ 255 := by simpa [Lit.wf, IntKind.min, IntKind.max, IntKind.signed, IntKind.bits] using h
theorem wf_i8 {i : Int} (h : (Lit.int .i8 i).wf = true) : -128 ≤ i ∧ i ≤ 127 := by simpa [Lit.wf, IntKind.min, IntKind.max, IntKind.signed, IntKind.bits] using h

/-- A row whose elements are known one by one. -/
theorem map_ex {α : Type} {f : α → AVal} {p : α → Prop} : ∀ {xs : List AVal}, (∀ x ∈ xs, ∃ a, x = f a ∧ p a) → ∃ l : List α, xs = l.map f ∧ ∀ a ∈ l, p a
  | [], _ => ⟨[], rfl, by simp⟩
  | x :: xs, h => by
    obtain ⟨a, rfl, ha⟩ := h x (by simp)
    obtain ⟨l, rfl, hl⟩ := map_ex (xs := xs) fun y hy => h y (by simp [hy])
    exact ⟨a :: l, rfl, fun b hb => by rcases List.mem_cons.1 hb with rfl | hb; exact ha; exact hl b hb⟩

theorem Has.bytes_inv {t e : TypeId} {a : AVal} (hu : P.underlying t = some (.slice e)) (he : P.underlying e = some (.int .u8)) (hc : P.cellsOf e = 1) (h : Has P t a) : ∃ bs : List UInt8, a = .slc 1 (bytes bs) false ∧ bs.length ≤ maxLen := by
  obtain ⟨xs, rfl, hl, hx⟩ := h.slc_inv hu
  rw [hc]
  obtain ⟨bs, rfl, _⟩ := map_ex (f := byte) (p := fun _ => True) fun x hm => by
    obtain ⟨i, rfl, hw⟩ := (hx x hm).int_inv he
    have := wf_u8 hw
    refine ⟨UInt8.ofNat i.toNat, ?_, trivial⟩
    rw [byte, UInt8.toNat_ofNat']
    congr 1; omega
  exact ⟨bs, rfl, by simpa using hl⟩

end Go.Abs

/-
  A program logic over abstract states, part X: ends of pieces of code, rows of any elements that grow, answers of any form.
-/
namespace Go.Abs
open Go Go.RowKit

set_option linter.unusedVariables false
set_option linter.unusedSimpArgs false
variable {P : Program} {N : Nat} {l : List AOper} {F : AFrame} {σ : AHeap} {Q : AFrame → AHeap → Prop}

def ACode.fst : ACode → ACode
  | .seq a _ => a
  | c => c

theorem aw_end {ops : List AOper} {keep : List Nat} {c : ACode} {R R' : APost} {F : AFrame} {σ : AHeap} (hR : ∀ F σ, R .normal F σ = AWp P N c R' F σ) (h : aops P ops F σ fun F' σ' => KP keep F' fun G => AWp P N c R' G σ') : AWp P N (.region ops keep) R F σ :=
  awp_region (aops_mono (fun F σ h => by rw [hR]; exact kp_weaken h) h)
theorem aw_skipE {c : ACode} {R R' : APost} {F : AFrame} {σ : AHeap} (hR : ∀ F σ, R .normal F σ = AWp P N c R' F σ) (h : AWp P N c R' F σ) : AWp P N .skip R F σ := awp_skip (by rw [hR]; exact h)
theorem aw_exitE {c : ACode} {id : Nat} {R R' : APost} {F : AFrame} {σ : AHeap} (hR : ∀ F σ, R (.exit id) F σ = AWp P N c R' F σ) (h : AWp P N c R' F σ) : AWp P N (.exit id) R F σ := awp_exit (by rw [hR]; exact h)
/-- The end of a round. -/
theorem aw_round {ops : List AOper} {keep : List Nat} {I : Nat → AFrame → AHeap → Prop} {n : Nat} {Q : APost} {F : AFrame} {σ : AHeap} (h : aops P ops F σ fun F' σ' => KP keep F' fun G => ∃ τ m, HSub τ σ' ∧ I m G τ ∧ m < n) : AWp P N (.region ops keep) (ALess I n Q) F σ :=
  awp_region (aops_mono (fun _ _ h => kp_less h) h)

/-- A parameter that is put into a variable which nobody writes. -/
theorem kp_freezeP {keep : List Nat} {a : ACode} {R : APost} {F : AFrame} {b sz d : Nat} {cs : List AVal} {τ : AHeap} (hF : F d = some (.ptr b 0 0)) (h : KP keep (fset d (some (.iptr cs)) F) fun G => AWp P N a R G τ) : KP keep F fun G => AWp P N a R G ((b, .cells sz [.agg cs]) :: τ) := by
  refine ⟨F, FSub.refl F, awp_freezeP hF ?_⟩
  exact kp_weaken h

/-! ### Rows of any elements that grow -/

def GrowG (sz : Nat) (v : AVal) (xs : List AVal) (β : AHeap) : Prop := ((∃ z, v = .slc z [] true) ∧ xs = [] ∧ β = []) ∨ ∃ b, v = .arr sz b 0 xs.length ∧ β = [(b, .cells sz xs)]

theorem GrowG.nil (sz z : Nat) : GrowG sz (.slc z [] true) [] [] := .inl ⟨⟨z, rfl⟩, rfl, rfl⟩
theorem GrowG.mk {sz b : Nat} {xs : List AVal} : GrowG sz (.arr sz b 0 xs.length) xs [(b, .cells sz xs)] := .inr ⟨b, rfl, rfl⟩
theorem GrowG.ex (sz : Nat) (xs : List AVal) : ∃ v β, GrowG sz v xs β := ⟨_, _, .inr ⟨0, rfl, rfl⟩⟩
theorem GrowG.lens {sz : Nat} {v : AVal} {xs : List AVal} {β : AHeap} (h : GrowG sz v xs β) : alens [v] = some (.int .i64 xs.length) := by
  rcases h with ⟨⟨z, rfl⟩, rfl, rfl⟩ | ⟨b, rfl, rfl⟩ <;> rfl
theorem GrowG.elems {sz : Nat} {v : AVal} {xs : List AVal} {β τ : AHeap} (h : GrowG sz v xs β) : elemsOf (β ++ τ) sz v = some xs := by
  rcases h with ⟨⟨z, rfl⟩, rfl, rfl⟩ | ⟨b, rfl, rfl⟩
  · simp [elemsOf]
  · simp [elemsOf, hget]
theorem GrowG.arr {sz : Nat} {v : AVal} {xs : List AVal} {β : AHeap} (h : GrowG sz v xs β) (hx : xs ≠ []) : ∃ b, v = .arr sz b 0 xs.length ∧ β = [(b, .cells sz xs)] := by
  rcases h with ⟨_, h, _⟩ | h
  · exact absurd h hx
  · exact h

theorem st_appG {d sz byt : Nat} {args : List AOpd} {v x : AVal} {xs ys : List AVal} {β τ : AHeap} (ho : GrowG sz v xs β) (h1 : evs F args = some [v, x]) (hy : elemsOf (β ++ τ) sz x = some ys) (hb : (xs.length + ys.length) * byt ≤ 140737488355328)
    (h : ∀ b', b' ∉ keys (β ++ τ) → aops P l (fset d (some (.arr sz b' 0 (xs ++ ys).length)) F) ((b', .cells sz (xs ++ ys)) :: τ) Q) : aops P (⟨some d, .app sz byt, args, none⟩ :: l) F (β ++ τ) Q := by
  rcases ho with ⟨⟨z, rfl⟩, rfl, rfl⟩ | ⟨b, rfl, rfl⟩
  · refine st_app0 h1 hy (by simpa using hb) fun b' hb' => ?_
    have := h b' hb'
    simpa using this
  · refine st_app h1 (xs := xs) (ys := ys) (sz := sz) (by simp) rfl hy hb fun b' hb' => ?_
    have := h b' hb'
    simpa [hren] using this

/-- Such a row, nobody writing it any more. -/
theorem VShiftL.growG {sz : Nat} {v : AVal} {xs : List AVal} {β τ : AHeap} (h : GrowG sz v xs β) : VShiftL [v] (β ++ τ) [.slc sz xs false] τ := by
  rcases h with ⟨⟨z, rfl⟩, rfl, rfl⟩ | ⟨b, rfl, rfl⟩
  · refine VShiftL.le (fun K vs hv => ?_) (HSub.refl _)
    cases hv with
    | slc0 hf r => exact .slc0 (by simp) r
    | slc hn he hs hm hv hc hf r =>
      simp only [List.length_nil] at hn
      subst hn
      exact .slc0 (by simp) r
  · exact VShiftL.freeze rfl

/-- A view of some slots. -/
theorem awp_shift {a : ACode} {R : APost} {F : AFrame} {σ τ : AHeap} {d : Nat} {v v' : AVal} (hF : F d = some v) (hs : VShiftL [v] σ [v'] τ) (h : AWp P N a R (fset d (some v') F) τ) : AWp P N a R F σ := by
  refine awp_vs (fun K w tmps hr hfr => ?_) h
  have h1 := hfr.at_ d _ hF
  obtain ⟨K', k1, k2, k3⟩ := hs K w [_] hr h1
  refine ⟨K', k1, k2, hfr.size, fun i x e => ?_⟩
  simp only [fset] at e
  split at e
  · rename_i hi
    subst hi
    simp only [Option.some.injEq] at e
    subst e
    exact k3
  · exact (hfr.at_ i x e).mono k1

/-- An answer, seen otherwise. -/
theorem ares_s {res : List ARes} {R : AVal → AHeap → Prop} {F : AFrame} {σ : AHeap} {vs : List AVal} (h : resVals F σ res = some vs) {r : AVal} {τ : AHeap} (hv : VShift (tupOf vs) σ r τ) (hR : R r τ) : ARet res R .ret F σ :=
  ⟨vs, h, r, τ, hv, hR⟩

/-- A slice's spare room forgotten. -/
theorem VRle.full {sz : Nat} {xs : List AVal} {f : Bool} : VRle [.slc sz xs f] [.slc sz xs false] := fun K vs hv => by
  cases hv with
  | slc0 hf r => exact .slc0 (by simp) r
  | slc hn he hs hm hv hc hf r => exact .slc hn he hs hm hv hc (by simp) r
theorem VRle.cells {sz : Nat} {xs ys : List AVal} {f : Bool} (hl : ys.length = xs.length) (he : ∀ y ∈ ys, y.elem sz) (h : VRle (flat xs) (flat ys)) : VRle [.slc sz xs f] [.slc sz ys f] := fun K vs hv => by
  cases hv with
  | slc0 hf r =>
    have : ys = [] := List.length_eq_zero_iff.1 (by simpa using hl)
    subst this
    exact .slc0 hf r
  | slc hn he' hs hm hv hc hf r => exact .slc (hl.trans hn) he hs hm (h K _ hv) hc hf r
theorem VRle.agg {cs ds : List AVal} (h1 : ∀ c ∈ ds, c.one = true) (h : VRle cs ds) : VRle [.agg cs] [.agg ds] := fun K vs hv => by
  cases hv with
  | agg _ hv r => exact .agg h1 (h K _ hv) r
theorem VRle.app {a a' b b' : List AVal} (h1 : VRle a a') (h2 : VRle b b') : VRle (a ++ b) (a' ++ b') := fun K vs hv => by
  obtain ⟨m1, m2, rfl, g1, g2⟩ := hv.split
  exact (h1 K _ g1).append (h2 K _ g2)
theorem VRle.trans {a b c : List AVal} (h1 : VRle a b) (h2 : VRle b c) : VRle a c := fun K vs hv => h2 K _ (h1 K _ hv)

theorem pureC_of {f : FuncId} {vs : List AVal} {v : AVal} (h : ∀ σ, ACalls P f vs σ fun r σ' => r = v ∧ σ' = σ) : pureC P f vs v := h
/-- A pure call. -/
theorem st_callp {d : Nat} {f : FuncId} {args : List AOpd} {vs : List AVal} {v : AVal} (h1 : evs F args = some vs) (hc : ∀ σ, ACalls P f vs σ fun r σ' => r = v ∧ σ' = σ) (h : aops P l (fset d (some v) F) σ Q) : aops P (⟨some d, .callp f, args, none⟩ :: l) F σ Q :=
  ⟨_, h1, v, hc, h⟩
theorem pureC.le {f : FuncId} {vs : List AVal} {v v' : AVal} {σ : AHeap} (h : ACalls P f vs σ fun r σ' => r = v ∧ σ' = σ) (hv : VRle [v] [v']) : ACalls P f vs σ fun r σ' => r = v' ∧ σ' = σ :=
  acalls_shift h fun r σ' ⟨e1, e2⟩ => ⟨v', σ, by rw [e1, e2]; exact VShift.of_le hv (HSub.refl _), rfl, rfl⟩

/-! ### A row that lies in a row, for good -/

theorem Rel.content {K : Kr} {w : World} {b sz : Nat} {xs ys : List AVal} {σ : AHeap} (r : Rel K ((b, .cells sz xs) :: σ) w) (hl : ys.length = xs.length) (he : ∀ y ∈ ys, y.elem sz) (hv : ∀ vs, VRel K (flat xs) vs → VRel K (flat ys) vs) : Rel K ((b, .cells sz ys) :: σ) w := by
  have hk : keys ((b, ABlk.cells sz ys) :: σ) = keys ((b, ABlk.cells sz xs) :: σ) := rfl
  refine ⟨r.ext, r.oth, r.imm, by rw [hk]; exact r.nd, r.bnd, r.lit, fun c blk hc => ?_, ?_⟩
  · rcases List.mem_cons.1 hc with e | hc
    · cases e
      have ho := r.own b (.cells sz xs) (by simp)
      refine ⟨he, ?_⟩
      rcases ho.2 with ⟨p, h1, h2⟩ | ⟨cb, p, cs, ty, h1, h2, h3, h4, h5, h6, h7, h8⟩
      · exact .inl ⟨p, h1, List.length_eq_zero_iff.1 (by rw [hl, h2]; rfl)⟩
      · exact .inr ⟨cb, p, cs, ty, h1, h2, h3, h4, h5, by omega, h7, by rw [hl]; exact hv _ h8⟩
    · exact r.own c blk (List.mem_cons_of_mem _ hc)
  · intro b1 z1 b2 z2 cb s1 c1 s2 c2 m1 m2 l1 l2
    have key : ∀ {c z}, (c, z) ∈ (b, ABlk.cells sz ys) :: σ → ∃ z', (c, z') ∈ (b, ABlk.cells sz xs) :: σ := by
      intro c z h
      rcases List.mem_cons.1 h with e | h
      · cases e; exact ⟨.cells sz xs, by simp⟩
      · exact ⟨z, List.mem_cons_of_mem _ h⟩
    obtain ⟨y1, n1⟩ := key m1
    obtain ⟨y2, n2⟩ := key m2
    exact r.inj _ _ _ _ _ _ _ _ _ n1 n2 l1 l2

def HShift (σ τ : AHeap) : Prop := ∀ K w, Rel K σ w → ∃ K', K.le K' ∧ Rel K' τ w
theorem awp_hshift {a : ACode} {R : APost} {F : AFrame} {σ τ : AHeap} (hs : HShift σ τ) (h : AWp P N a R F τ) : AWp P N a R F σ := by
  refine awp_vs (fun K w tmps hr hfr => ?_) h
  obtain ⟨K', k1, k2⟩ := hs K w hr
  exact ⟨K', k1, k2, hfr.mono k1⟩
theorem HShift.sub {σ τ : AHeap} (h : HSub τ σ) : HShift σ τ := fun K w r => ⟨K, Kr.le.refl K, h K w r⟩
theorem HShift.trans {a b c : AHeap} (h : HShift a b) (h' : HShift b c) : HShift a c := fun K w r => by
  obtain ⟨K1, k1, k2⟩ := h K w r
  obtain ⟨K2, k3, k4⟩ := h' K1 w k2
  exact ⟨K2, k1.trans k3, k4⟩

/-- The row 'bk', held by a cell of the row 'b'. -/
theorem HShift.inner {b sz bk s : Nat} {xs ys ks : List AVal} {σ : AHeap} (hl : ys.length = xs.length) (he : ∀ y ∈ ys, y.elem sz)
    (hv : ∀ K : Kr, (∀ v, VR K (.arr s bk 0 ks.length) v → VR K (.slc s ks false) v) → ∀ vs, VRel K (flat xs) vs → VRel K (flat ys) vs) : HShift ((b, .cells sz xs) :: (bk, .cells s ks) :: σ) ((b, .cells sz ys) :: σ) := by
  intro K w r
  have hmem : (bk, ABlk.cells s ks) ∈ (b, ABlk.cells sz xs) :: (bk, ABlk.cells s ks) :: σ := by simp
  have hown := r.own bk _ hmem
  have hne : b ≠ bk := by
    have := r.nd
    simp only [keys_cons, List.nodup_cons, List.mem_cons, not_or] at this
    exact this.1.1
  rcases hown.2 with ⟨p, h1, h2⟩ | ⟨cb, p, cs, ty, h1, h2, h3, h4, h5, h6, h7, h8⟩
  · subst h2
    refine ⟨K, Kr.le.refl K, Rel.content (xs := xs) (HSub.of_sublist (List.Sublist.cons_cons _ (List.sublist_cons_self _ _)) K w r) hl he (hv K fun v hv => ?_)⟩
    unfold VR at hv ⊢
    cases hv with
    | arr hl ho hn r => exact .slc0 (by simp) r
    | arr0 hl r => exact .slc0 (by simp) r
  · obtain ⟨vs0, g1, g2, g3⟩ := r.freeze hmem h1
    rw [hdel_tail hne hdel_head] at g3
    refine ⟨_, g2, Rel.content g3 hl he (hv _ fun v hv => ?_)⟩
    unfold VR at hv ⊢
    generalize hn : ks.length = n at hv
    cases hv with
    | @arr _ _ _ cb' _ pcap cap _ _ hl' ho hc r =>
      have hl'' : K.loc bk = some ⟨some cb', s, pcap⟩ := hl'
      rw [h1] at hl''
      simp only [Option.some.injEq, Loc.mk.injEq, true_and] at hl''
      obtain ⟨rfl, rfl⟩ := hl''
      refine VRel.slc (vs := vs0) hn hown.1 rfl ?_ (VRel.mono g2 g1) hc (by simp) r
      intro j v hj
      simp only [Kr.addImm, Nat.zero_mul, Nat.zero_add, if_true]
      exact hj
    | arr0 hl' r =>
      have hl'' : K.loc bk = some ⟨none, s, _⟩ := hl'
      rw [h1] at hl''
      simp at hl''

end Go.Abs

/-
  A program logic over abstract states, part Y: more single steps.
-/
namespace Go.Abs
open Go Go.RowKit

set_option linter.unusedVariables false
set_option linter.unusedSimpArgs false
variable {P : Program} {N : Nat} {l : List AOper} {F : AFrame} {σ : AHeap} {Q : AFrame → AHeap → Prop}

/-- Bytes as a text. -/
theorem st_b2s {d : Nat} {args : List AOpd} {bs : List UInt8} {f : Bool} {s : Nat} (h1 : evs F args = some [.slc s (bytes bs) f]) (hs : s = 1) (h : aops P l (fset d (some (.str bs)) F) σ Q) : aops P (⟨some d, .b2s, args, none⟩ :: l) F σ Q :=
  st_q h1 (by subst hs; simp [aquiet, ab2s, elemsOf, toBytes_bytes]) rfl h
theorem st_b2sp {d : Nat} {args : List AOpd} {bs : List UInt8} {f : Bool} {s : Nat} (h1 : evs F args = some [.slc s (bytes bs) f]) (hs : s = 1) (h : aops P l (fset d (some (.str bs)) F) σ Q) : aops P (⟨some d, .b2sp, args, none⟩ :: l) F σ Q :=
  st_q h1 (by subst hs; simp [aquiet, ab2sp, toBytes_bytes]) rfl h
/-- The length of a mapped row. -/
theorem st_lensM {α : Type} {f : α → AVal} {d : Nat} {args : List AOpd} {xs : List α} {s : Nat} {u : Bool} (h1 : evs F args = some [.slc s (xs.map f) u]) (h : aops P l (fset d (some (.int .i64 (xs.length : Int))) F) σ Q) : aops P (⟨some d, .lens, args, none⟩ :: l) F σ Q :=
  st_q h1 (by simp [aquiet, alens]) rfl h

theorem resVals_cons {F : AFrame} {σ : AHeap} {r : ARes} {l : List ARes} {v : AVal} {vs : List AVal} (h1 : resVal F σ r = some v) (h2 : resVals F σ l = some vs) : resVals F σ (r :: l) = some (v :: vs) := by simp [resVals, h1, h2]
theorem resVal_cell {F : AFrame} {σ : AHeap} {b s i sz : Nat} {cs xs : List AVal} (hF : F i = some (.ptr b 0 0)) (hg : hget σ b = some (.cells s (.agg cs :: xs))) (hl : cs.length = sz) : resVal F σ (.cell i true sz) = some (.agg cs) := by
  subst hl
  simp [resVal, hF, aload, hg, part_, AVal.cells]

/-! ### Concrete values, seen otherwise -/

theorem vle_cons {a a' b b' : AVal} {l l' : List AVal} (h1 : VRle [a] [a']) (h2 : VRle (b :: l) (b' :: l')) : VRle (a :: b :: l) (a' :: b' :: l') := VRle.cons h1 h2
theorem vle_nil {z z' : Nat} {f : Bool} : VRle [.slc z [] f] [.slc z' [] false] := (VRle.nil_slc z z' f).trans VRle.full
theorem vle_slc {sz : Nat} {xs ys : List AVal} {f : Bool} (hl : ys.length = xs.length) (he : ys.all (AVal.fit sz) = true) (h : VRle (flat xs) (flat ys)) : VRle [.slc sz xs f] [.slc sz ys false] :=
  (VRle.cells hl (fun y hy => AVal.fit_iff.1 (List.all_eq_true.1 he y hy)) h).trans VRle.full
theorem vle_agg {cs ds : List AVal} (h1 : ds.all AVal.one = true) (h : VRle cs ds) : VRle [.agg cs] [.agg ds] := VRle.agg (fun c hc => List.all_eq_true.1 h1 c hc) h
theorem HShift.view {b sz : Nat} {xs ys : List AVal} {σ : AHeap} (hl : ys.length = xs.length) (he : ys.all (AVal.fit sz) = true) (hv : VRle (flat xs) (flat ys)) : HShift ((b, .cells sz xs) :: σ) ((b, .cells sz ys) :: σ) :=
  fun K w r => ⟨K, Kr.le.refl K, r.content hl (fun y hy => AVal.fit_iff.1 (List.all_eq_true.1 he y hy)) (hv K)⟩
end Go.Abs

