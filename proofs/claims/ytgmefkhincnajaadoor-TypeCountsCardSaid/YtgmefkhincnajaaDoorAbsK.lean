/-
  A program logic over abstract states, part K: make, append, copy, clip, calls; any operation.
-/
import Derived.Test.YtgmefkhincnajaaDoorAbsJ
namespace Go.Abs
open Go Go.RowKit

set_option linter.unusedVariables false
set_option linter.unusedSimpArgs false
variable {P : Program} {K : Kr} {σ : AHeap} {w : World} {R : AVal → AHeap → Prop}

theorem flat_replicate (z : AVal) : ∀ n : Nat, flat (List.replicate n z) = (List.replicate n z.cells).flatten
  | 0 => rfl
  | n + 1 => by simp [List.replicate_succ, flat_replicate z n]

theorem range_mod_flatten {α : Type} [Inhabited α] (l : List α) (h : 0 < l.length) : ∀ n : Nat, (List.range (n * l.length)).map (fun i => l[i % l.length]!) = (List.replicate n l).flatten
  | 0 => by simp
  | n + 1 => by
    rw [Nat.add_mul, Nat.one_mul, List.range_add, List.map_append, range_mod_flatten l h n, List.replicate_succ', List.flatten_append]
    congr 1
    simp only [List.map_map, List.flatten_cons, List.flatten_nil, List.append_nil]
    apply List.ext_getElem
    · simp
    · intro i h1 h2
      simp at h1
      simp [Nat.mod_eq_of_lt h1, getElem!_pos l i h1, List.getElem?_eq_getElem h1]

theorem zeroRow_toList (z : Array Value) (n : Nat) (h : 0 < z.size) : ((Array.range (n * z.size)).map (z[· % z.size]!)).toList = (List.replicate n z.toList).flatten := by
  rw [← range_mod_flatten z.toList (by simpa using h) n]
  simp only [Array.toList_map, Array.toList_range, Array.length_toList]
  apply List.map_congr_left
  intro a _
  simp [Array.getElem!_eq_getD, List.getElem!_eq_getElem?_getD]

theorem VRel.replicate {l : List AVal} {m : List Value} (h : VRel K l m) : ∀ n : Nat, VRel K (List.replicate n l).flatten (List.replicate n m).flatten
  | 0 => .nil
  | n + 1 => by
    simp only [List.replicate_succ, List.flatten_cons]
    exact h.append (VRel.replicate h n)

theorem e_mks {t e : TypeId} {i : TypeInfo} {z : AVal} (ht : P.underlying t = some (.slice e)) (hi : P.info? e = some i) (hz : i.zero.bind constA = some z) (hzl : z.cells.length = i.size) (h0 : 0 < i.size) {vs : List AVal} {p q : Value} (hv : VRel K vs [p, q]) (h : emks i.size i.bytes z vs σ R) (r : Rel K σ w) :
    GoodV K R ((Instr.makeSlice t p q).run P w) := by
  unfold emks at h
  split at h
  · rename_i l c
    obtain ⟨he, hl0, hlc, hc63, hb, h⟩ := h
    obtain ⟨u1, u2, e1, h1, h2⟩ := hv.two_inv
    simp at e1; obtain ⟨rfl, rfl⟩ := e1
    rw [h1.int_inv, h2.int_inv]
    simp only [Option.bind_eq_some_iff] at hz
    obtain ⟨zv, hzv, hcz⟩ := hz
    have hzr := (constA_ok (K := K) hcz).1.cells
    have hzs : zv.cells.size = i.size := by rw [← Array.length_toList, ← hzr.length, hzl]
    have e1 : IntKind.i64.wrap l = l := IntWalk.i64_in l (by omega)
    have e2 : IntKind.i64.wrap c = c := IntWalk.i64_in c (by omega)
    have hn1 : ¬ (c < 0) := by omega
    have hn2 : ¬ ((i.bytes : Int) * c > 2 ^ 48) := by
      have : (2 : Int) ^ 48 = 281474976710656 := by decide
      omega
    have hn3 : ¬ (l < 0) := by omega
    have hn4 : ¬ (l > c) := by omega
    have hrun : (Instr.makeSlice t (.int .i64 l) (.int .i64 c)).run P w = .ok (.slice (some ⟨w.heap.size, 0, none⟩) l.toNat c.toNat) (w.alloc (.cells ((Array.range (c.toNat * i.size)).map ((if c.toNat * i.size = 0 then #[] else zv.cells)[· % (if c.toNat * i.size = 0 then #[] else zv.cells).size]!)) e)) := by
      unfold Instr.makeSlice
      simp only [Sem.run_bind, run_underlying ht, Result.andThen_ok, asInt, asIntOf, Sem.run_pure, typeInfo, run_program, hi, e1, e2]
      have hcond : ((decide (c < 0) || decide ((i.bytes : Int) * c > 2 ^ 48)) || decide (l < 0) || decide (l > c)) = false := by simp [hn1, hn3, hn4]; omega
      simp only [hcond, Bool.false_eq_true, if_false, Sem.run_pure, Result.andThen_ok, run_askRoom, sizeOf, typeInfo, Sem.run_bind, run_program, hi]
      by_cases hz0 : c.toNat * i.size = 0
      · simp only [if_pos hz0, Sem.run_pure, Result.andThen_ok, newRow, Sem.run_bind, run_newObj]
        rfl
      · simp only [if_neg hz0, Sem.run_bind, run_zeroValue hi hzv, Sem.run_pure, Result.andThen_ok, newRow, run_newObj]
        rfl
    rw [hrun]
    refine good_new r h (by intro x hx; rw [List.eq_of_mem_replicate hx]; exact he) (pcap := c.toNat) (by simp) (by simp; omega) (by simp only [maxLen]; omega) ?_ ?_
    · rw [flat_replicate, List.length_replicate]
      by_cases hz0 : c.toNat * i.size = 0
      · have hc0 : c.toNat = 0 := by
          rcases Nat.mul_eq_zero.1 hz0 with h | h
          · exact h
          · omega
        have hl0' : l.toNat = 0 := by omega
        rw [hl0']
        simpa using VRel.nil
      · simp only [if_neg hz0]
        have e3 := zeroRow_toList zv.cells c.toNat (by omega)
        rw [← hzs, e3, hzs]
        have e4 : ((List.replicate c.toNat zv.cells.toList).flatten).take (l.toNat * i.size) = (List.replicate l.toNat zv.cells.toList).flatten := by
          have : List.replicate c.toNat zv.cells.toList = List.replicate l.toNat zv.cells.toList ++ List.replicate (c.toNat - l.toNat) zv.cells.toList := by
            rw [List.replicate_append_replicate]; congr 1; omega
          rw [this, List.flatten_append, List.take_append_of_le_length (by simp [hzs]), List.take_of_length_le (by simp [hzs])]
        rw [e4]
        exact VRel.replicate hzr _
    · intro K' hl
      have := VRel.arr (K := K') (off := 0) (n := l.toNat) (cap := c.toNat) hl (by omega) (by omega) .nil
      simpa [VR] using this
  · exact h.elim

/-! ### append -/

theorem run_app_fit {t u e ty : TypeId} {d : TypeDesc} {i : TypeInfo} (ht : P.underlying t = some (.slice e)) (hu : P.underlying u = some d) (hd : ∀ k, d ≠ .int k) (hi : P.info? e = some i) {base : Option Addr} {sLen sCap m : Nat} {x : Value} {news : Array Value}
    (hlx : (Builtin.lenOf x).run P w = .ok m w) (hf : (Builtin.firstCells i.size m x).run P w = .ok news w) (hfit : sLen + m ≤ sCap) {w' : World}
    (hst : (base = none ∧ w' = w) ∨ ∃ a, base = some a ∧ (storeCells (a.add (sLen * i.size)) news.toList).run P w = .ok () w') :
    (Builtin.append_ #[t, u] ty #[.slice base sLen sCap, x]).run P w = .ok (.slice base (sLen + m) sCap) w' := by
  have hz : (d matches .int _) = false := by cases d <;> first | rfl | exact absurd rfl (hd _)
  rcases hst with ⟨rfl, rfl⟩ | ⟨a, rfl, hst⟩
  · unfold Builtin.append_
    simp [run_underlying ht, run_underlying hu, sizeOf, typeInfo, hi, hlx, hf, hfit]
    try (cases d <;> first | exact absurd rfl (hd _) | simp [hlx, hf, hfit])
  · unfold Builtin.append_
    simp [run_underlying ht, run_underlying hu, sizeOf, typeInfo, hi, hlx, hf, hfit]
    try (cases d <;> first | exact absurd rfl (hd _) | simp [hlx, hf, hfit, hst])

theorem run_app_grow {t u e ty : TypeId} {d : TypeDesc} {i : TypeInfo} {z : Value} (ht : P.underlying t = some (.slice e)) (hu : P.underlying u = some d) (hd : ∀ k, d ≠ .int k) (hi : P.info? e = some i) (hz : i.zero = some z) {base : Option Addr} {sLen sCap m : Nat} {x : Value} {olds news : Array Value}
    (hlx : (Builtin.lenOf x).run P w = .ok m w) (hfo : (Builtin.firstCells i.size sLen (.slice base sLen sCap)).run P w.drew = .ok olds w.drew) (hf : (Builtin.firstCells i.size m x).run P w.drew = .ok news w.drew) (hg : sCap < sLen + m)
    (h63 : ((sLen + m : Nat) : Int) ≤ 9223372036854775807) (hfit : Builtin.nextslicecap (sLen + m) sCap * i.bytes ≤ 281474976710656) :
    (Builtin.append_ #[t, u] ty #[.slice base sLen sCap, x]).run P w =
      .ok (.slice (some ⟨w.heap.size, 0, none⟩) (sLen + m) (grownCap w (sLen + m) sCap e)) (w.drew.alloc (.cells (olds ++ news ++ Builtin.zeroCells z.cells (grownCap w (sLen + m) sCap e - (sLen + m))) e)) := by
  have hn : ¬ (sLen + m ≤ sCap) := by omega
  have h63' : ¬ (9223372036854775807 < ((sLen : Int) + (m : Int))) := by omega
  have h48' : ¬ (281474976710656 < Builtin.nextslicecap (sLen + m) sCap * i.bytes) := by omega
  unfold Builtin.append_
  simp [run_underlying ht, run_underlying hu, sizeOf, typeInfo, zeroValue, hi, hz, hlx, hn, h63', h48']
  try (cases d <;> first | exact absurd rfl (hd _) | simp [hlx, hn, h63', h48', Question.forced, hf, hfo, newRow, grownCap, zeroValue, typeInfo, hi, hz])

theorem hren_hset (σ : AHeap) (b b' : Nat) (x y : ABlk) : hren (hset σ b x) b b' y = hren σ b b' y := by
  induction σ with
  | nil => rfl
  | cons p σ ih =>
    obtain ⟨a, z⟩ := p
    simp only [hset, hren]
    split
    · rename_i h; simp [hren, h]
    · rename_i h; simp [hren, h, ih]

theorem hget_hset_same {σ : AHeap} {b : Nat} {x y : ABlk} (h : hget σ b = some x) : hget (hset σ b y) b = some y := by
  induction σ with
  | nil => simp [hget] at h
  | cons p σ ih =>
    obtain ⟨a, z⟩ := p
    simp only [hget] at h
    simp only [hset]
    split
    · rename_i e; simp [hget, e]
    · rename_i e; rw [if_neg e] at h; simp only [hget, if_neg e]; exact ih h

theorem e_app {t u e ty : TypeId} {d : TypeDesc} {i : TypeInfo} {z : Value} {za : AVal} (ht : P.underlying t = some (.slice e)) (hu : P.underlying u = some d) (hd : ∀ k, d ≠ .int k) (hi : P.info? e = some i) (hz : i.zero = some z) (hza : constA z = some za) (hzl : za.cells.length = i.size)
    (h0 : 0 < i.size) (hb0 : 0 < i.bytes) {s : AVal} {sv x : Value} (hs : VR K s sv) {ys : List AVal} {vs : List Value} (hyv : VRel K (flat ys) vs) (hye : ∀ y ∈ ys, y.elem i.size) (hlx : (Builtin.lenOf x).run P w = .ok ys.length w)
    (hf : (Builtin.firstCells i.size ys.length x).run P w = .ok vs.toArray w) (hfd : (Builtin.firstCells i.size ys.length x).run P w.drew = .ok vs.toArray w.drew)
    (h : eapp i.size i.bytes s ys σ R) (r : Rel K σ w) : GoodV K R ((Builtin.append_ #[t, u] ty #[sv, x]).run P w) := by
  have hzs : z.cells.size = i.size := by rw [← Array.length_toList, ← (constA_ok (K := K) hza).1.cells.length, hzl]
  have hvl : vs.length = ys.length * i.size := by rw [← hyv.length, flat_length hye]
  have hlen63 : ∀ n : Nat, n * i.bytes ≤ 140737488355328 → n ≤ 140737488355328 := by
    intro n hn
    have : n * 1 ≤ n * i.bytes := Nat.mul_le_mul_left _ hb0
    omega
  -- a new row
  have grow : ∀ (xs : List AVal) (olds : List Value) (base : Option Addr) (sCap : Nat), (∀ y ∈ xs, y.elem i.size) → VRel K (flat xs) olds → sv = .slice base xs.length sCap → sCap < xs.length + ys.length →
      (Builtin.firstCells i.size xs.length (.slice base xs.length sCap)).run P w.drew = .ok olds.toArray w.drew → (xs.length + ys.length) * i.bytes ≤ 140737488355328 →
      (∀ b', fresh σ b' → ∃ σ', (∀ K' : Kr, ∀ w', Rel K' ((b', .cells i.size (xs ++ ys)) :: σ) w' → Rel K' σ' w') ∧ R (.arr i.size b' 0 (xs.length + ys.length)) σ') →
      GoodV K R ((Builtin.append_ #[t, u] ty #[sv, x]).run P w) := by
    intro xs olds base sCap hxe hxv hsv hg hfo hby hR
    subst hsv
    have hle := hlen63 _ hby
    rw [run_app_grow ht hu hd hi hz hlx hfo hfd hg (by omega) (growslice_fits hg hby)]
    have hge := grownCap_ge w (xs.length + ys.length) sCap e
    have hcm : grownCap w (xs.length + ys.length) sCap e ≤ maxLen := grownCap_le_maxLen w _ sCap e (by simp only [maxLen]; omega)
    have hol : olds.length = xs.length * i.size := by rw [← hxv.length, flat_length hxe]
    have hall : ∀ y ∈ xs ++ ys, y.elem i.size := by
      intro y hy
      rcases List.mem_append.1 hy with h | h
      · exact hxe y h
      · exact hye y h
    obtain ⟨σ', hsub, hRR⟩ := hR K.nn r.drew.fresh
    have hnew := r.drew.newOwned i.size (grownCap w (xs.length + ys.length) sCap e) (olds.toArray ++ vs.toArray ++ Builtin.zeroCells z.cells (grownCap w (xs.length + ys.length) sCap e - (xs.length + ys.length))) e (xs ++ ys) hall (by
      simp only [Array.size_append, List.size_toArray, size_zeroCells, hzs, hol, hvl, ← Nat.add_mul]
      congr 1
      omega) (by simpa using hge) hcm (by
      simp only [Array.toList_append, List.length_append, Nat.add_mul, flat_append]
      rw [List.take_append_of_le_length (by simp [hol, hvl]), List.take_of_length_le (by simp [hol, hvl])]
      exact hxv.append hyv)
    refine ⟨_, _, σ', Kr.le_add r.drew _, hsub _ _ hnew, ?_, hRR⟩
    have := VRel.arr (K := K.add ⟨some w.drew.heap.size, i.size, grownCap w (xs.length + ys.length) sCap e⟩) (off := 0) (n := xs.length + ys.length) (cap := grownCap w (xs.length + ys.length) sCap e) (Kr.add_new _ _) (by omega) hge .nil
    simpa [VR] using this
  unfold eapp at h
  split at h
  · rename_i zz xs
    obtain ⟨hby, hzz, h⟩ := h
    unfold VR at hs
    cases hs with
    | @slc0 _ _ a cap _ _ hcap _ =>
      have := hcap rfl
      subst this
      simp only at h
      by_cases hys : ys = []
      · subst hys
        have hv0 : vs = [] := List.eq_nil_of_length_eq_zero (by simpa using hvl)
        subst hv0
        rw [run_app_fit ht hu hd hi hlx hf (by simp) (w' := w) (by
          cases a with
          | none => exact .inl ⟨rfl, rfl⟩
          | some a => exact .inr ⟨a, rfl, by simp [storeCells]⟩)]
        exact ⟨_, _, _, Kr.le_add r _, r.newNone i.size, VRel.arr0 (Kr.add_new _ _) .nil, h K.nn r.fresh⟩
      · have hpos : 0 < ys.length := List.length_pos_iff.2 hys
        refine grow [] [] a 0 (by simp) .nil rfl (by simpa using hpos) (run_firstCells (P := P) (K := K) (by simp) VRel.nil (.inl rfl)) (by simpa using hby) (fun b' hb' => ⟨_, fun _ _ h => h, ?_⟩)
        simpa using h b' hb'
    | @slc _ _ _ a n cap vs' _ _ hn he hsp hm hxv hc hcap _ =>
      have := hcap rfl
      subst this
      subst hn
      cases xs with
      | nil =>
        simp only at h
        by_cases hys : ys = []
        · subst hys
          have hv0 : vs = [] := List.eq_nil_of_length_eq_zero (by simpa using hvl)
          subst hv0
          rw [run_app_fit ht hu hd hi hlx hf (by simp) (w' := w) (.inr ⟨a, rfl, by simp [storeCells]⟩)]
          exact ⟨_, _, _, Kr.le_add r _, r.newNone i.size, VRel.arr0 (Kr.add_new _ _) .nil, h K.nn r.fresh⟩
        · have hpos : 0 < ys.length := List.length_pos_iff.2 hys
          refine grow [] [] (some a) 0 (by simp) .nil rfl (by simpa using hpos) (run_firstCells (P := P) (K := K) (by simp) VRel.nil (.inl rfl)) (by simpa using hby) (fun b' hb' => ⟨_, fun _ _ h => h, ?_⟩)
          simpa using h b' hb'
      | cons x0 xs0 =>
        simp only at h
        have hzz' : zz = i.size := by rcases hzz with h | h; exact h; cases h
        by_cases hys : ys = []
        · have hR := h.1 hys
          subst hys
          have hv0 : vs = [] := List.eq_nil_of_length_eq_zero (by simpa using hvl)
          subst hv0
          rw [run_app_fit ht hu hd hi hlx hf (by simp) (w' := w) (.inr ⟨a, rfl, by simp [storeCells]⟩)]
          exact ⟨K, _, σ, Kr.le.refl K, r, VRel.slc rfl he hsp hm hxv (by simp) (fun _ => by simp) .nil, hR⟩
        · have hpos : 0 < ys.length := List.length_pos_iff.2 hys
          have hce := imm_cells r.drew hsp hm
          refine grow (x0 :: xs0) vs' (some a) _ (by rw [← hzz']; exact he) hxv rfl (by omega) ?_ hby (fun b' hb' => ⟨_, fun _ _ h => h, ?_⟩)
          · exact run_firstCells (P := P) (K := K) (by rw [← hzz']; exact he) hxv (.inr ⟨a, rfl, hsp, hce⟩)
          · exact h.2 hys b' hb'
  · rename_i s1 b n
    obtain ⟨xs, hg, hl, hby, h⟩ := h
    have hmem := hget_mem hg
    unfold VR at hs
    cases hs with
    | @arr _ _ _ cb _ pcap cap _ _ hloc ho hn _ =>
      subst hl
      obtain ⟨hss, hxe, hx, hm, hbase, cs, ty', hw, hsz, hxv, hc⟩ := r.ownCells hg hloc
      subst hss
      by_cases hfit : xs.length + ys.length ≤ cap
      · have hcap : xs.length * i.size + ys.length * i.size ≤ cs.size := by
          rw [hsz, ← Nat.add_mul]; exact Nat.mul_le_mul_right _ (by omega)
        have hst := run_storeCells_at P cb (xs.length * i.size) ty' vs 0 cs w hw (by simp [hvl]; omega) (hyv.ones (flat_ones hye))
        simp only [Nat.add_zero] at hst
        rw [run_app_fit ht hu hd hi hlx hf hfit (.inr ⟨_, rfl, by rw [addr_add _ _ rfl]; simp only [Nat.zero_mul, Nat.zero_add]; exact hst⟩)]
        have hall : ∀ y ∈ xs ++ ys, y.elem i.size := by
          intro y hy
          rcases List.mem_append.1 hy with h | h
          · exact hxe y h
          · exact hye y h
        have hwr := r.write hmem hloc hall (cs.toList.take (xs.length * i.size) ++ vs ++ cs.toList.drop (xs.length * i.size + vs.length)).toArray (by simp [hvl]; omega) (by simp; omega) (by
          simp only [List.length_append, Nat.add_mul, flat_append]
          rw [List.take_append_of_le_length (by simp [hvl]; omega), List.take_of_length_le (by simp [hvl]; omega)]
          exact hxv.append hyv)
        have hmem' : (b, ABlk.cells i.size (xs ++ ys)) ∈ hset σ b (.cells i.size (xs ++ ys)) := by
          have hh : hget (hset σ b (.cells i.size (xs ++ ys))) b = some (.cells i.size (xs ++ ys)) := hget_hset_same hg
          exact hget_mem hh
        have hrn := hwr.rename hmem' hloc
        rw [hren_hset] at hrn
        refine ⟨_, _, _, Kr.le_add hwr _, hrn, ?_, h K.nn r.fresh⟩
        have := VRel.arr (K := K.add ⟨some cb, i.size, pcap⟩) (off := 0) (n := xs.length + ys.length) (cap := cap) (Kr.add_new _ _) (by omega) hfit .nil
        simpa [VR] using this
      · have hce : CellsAt w.drew ⟨cb, 0 * i.size, none⟩ (cs.toList.take (xs.length * i.size)) := by simp only [Nat.zero_mul]; exact fun j v e => hc j v e
        refine grow xs _ _ cap hxe hxv rfl (by omega) (run_firstCells (P := P) (K := K) hxe hxv (.inr ⟨_, rfl, rfl, hce⟩)) hby (fun b' hb' => ⟨hren σ b b' (.cells i.size (xs ++ ys)), fun K' w' hr => ?_, h b' hb'⟩)
        exact hr.sub (nodup_hren r.nd hb') (fun p hp => by
          obtain ⟨c, y⟩ := p
          rcases mem_hren r.nd hp with ⟨rfl, rfl⟩ | ⟨_, hp⟩
          · simp
          · exact List.mem_cons_of_mem _ hp)
    | @arr0 _ _ pcap a _ _ hloc _ =>
      have hxs : xs = [] := List.eq_nil_of_length_eq_zero hl
      subst hxs
      by_cases hys : ys = []
      · subst hys
        have hv0 : vs = [] := List.eq_nil_of_length_eq_zero (by simpa using hvl)
        subst hv0
        rw [run_app_fit ht hu hd hi hlx hf (by simp) (w' := w) (by
          cases a with
          | none => exact .inl ⟨rfl, rfl⟩
          | some a => exact .inr ⟨a, rfl, by simp [storeCells]⟩)]
        have hsz' : s1 = i.size := by
          have ho := r.own b _ hmem
          rcases ho.2 with ⟨p, h1, _⟩ | ⟨cb', p, cs', ty', h1, _⟩
          · rw [hloc] at h1; simp at h1; exact h1.1
          · rw [hloc] at h1; simp at h1
        subst hsz'
        have hrn := r.rename hmem hloc
        exact ⟨_, _, _, Kr.le_add r _, hrn, VRel.arr0 (Kr.add_new _ _) .nil, by simpa using h K.nn r.fresh⟩
      · have hpos : 0 < ys.length := List.length_pos_iff.2 hys
        refine grow [] [] a 0 (by simp) .nil rfl (by simpa using hpos) (run_firstCells (P := P) (K := K) (by simp) VRel.nil (.inl rfl)) (by simpa using hby) (fun b' hb' => ⟨hren σ b b' (.cells i.size ([] ++ ys)), fun K' w' hr => ?_, h b' hb'⟩)
        exact hr.sub (nodup_hren r.nd hb') (fun p hp => by
          obtain ⟨c, y⟩ := p
          rcases mem_hren r.nd hp with ⟨rfl, rfl⟩ | ⟨_, hp⟩
          · simp
          · exact List.mem_cons_of_mem _ hp)
  · exact h.elim

end Go.Abs
