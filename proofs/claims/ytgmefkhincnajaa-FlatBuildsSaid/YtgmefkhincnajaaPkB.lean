/- Part B of a proof: merged by program. -/
import Derived.Laws.CopyRow
import Derived.Laws.IdiomCopy
import Derived.CallsIn
import Derived.OrdersIn
import Derived.TacticsIn
import Derived.RangeFuncRecord
import Derived.ChangeSame
import Derived.Below
import Derived.Deep.Slices
import Derived.Carry
import Derived.Test.YtgmefkhincnajaaPkA
set_option linter.unusedVariables false
set_option linter.unusedSimpArgs false
namespace Go.Abs
open Go Go.RowKit
variable {P : Program} {K : Kr} {σ : Zc} {w : World} {R : Z0 → Zc → Prop}
theorem Z5e (z : Z0) : ∀ n : Nat, flat (List.replicate n z) = (List.replicate n z.cells).flatten
 | 0 => rfl
 | n + 1 => by simp [List.replicate_succ, Z5e z n]
theorem Z5f {α : Type} [Inhabited α] (l : List α) (h : 0 < l.length) : ∀ n : Nat, (List.range (n * l.length)).map (fun i => l[i % l.length]!) = (List.replicate n l).flatten
 | 0 => by simp
 | n + 1 => by
  rw [Nat.add_mul, Nat.one_mul, List.range_add, List.map_append, Z5f l h n, List.replicate_succ', List.flatten_append]
  congr 1
  simp only [List.map_map, List.flatten_cons, List.flatten_nil, List.append_nil]
  apply List.ext_getElem
  ·simp
  ·intro i h1 h2
   simp at h1
   simp [Nat.mod_eq_of_lt h1, getElem!_pos l i h1, List.getElem?_eq_getElem h1]
theorem Z5g (z : Array Value) (n : Nat) (h : 0 < z.size) : ((Array.range (n * z.size)).map (z[· % z.size]!)).toList = (List.replicate n z.toList).flatten := by
 rw [← Z5f z.toList (by simpa using h) n]
 simp only [Array.toList_map, Array.toList_range, Array.length_toList]
 apply List.map_congr_left
 intro a _
 simp [Array.getElem!_eq_getD, List.getElem!_eq_getElem?_getD]
theorem Z1.replicate {l : List Z0} {m : List Value} (h : Z1 K l m) : ∀ n : Nat, Z1 K (List.replicate n l).flatten (List.replicate n m).flatten
 | 0 => .nil
 | n + 1 => by
  simp only [List.replicate_succ, List.flatten_cons]
  exact h.append (Z1.replicate h n)
theorem Z5h {t e : TypeId} {i : TypeInfo} {z : Z0} (ht : P.underlying t = some (.slice e)) (hi : P.info? e = some i) (hz : i.zero.bind Z2e = some z) (hzl : z.cells.length = i.size) (h0 : 0 < i.size) {vs : List Z0} {p q : Value} (hv : Z1 K vs [p, q]) (h : emks i.size i.bytes z vs σ R) (r : Rel K σ w) :
  Z31 K R ((Instr.makeSlice t p q).run P w) := by
 unfold emks at h
 split at h
 ·rename_i l c
  obtain ⟨he, hl0, hlc, hc63, hb, h⟩ := h
  obtain ⟨u1, u2, e1, h1, h2⟩ := hv.two_inv
  simp at e1; obtain ⟨rfl, rfl⟩ := e1
  rw [h1.int_inv, h2.int_inv]
  simp only [Option.bind_eq_some_iff] at hz
  obtain ⟨zv, hzv, hcz⟩ := hz
  have hzr := (Z2h (K := K) hcz).1.cells
  have hzs : zv.cells.size = i.size := by rw [← Array.length_toList, ← hzr.length, hzl]
  have e1 : IntKind.i64.wrap l = l := IntWalk.i64_in l (by omega)
  have e2 : IntKind.i64.wrap c = c := IntWalk.i64_in c (by omega)
  have hn1 : ¬ (c < 0) := by omega
  have hn2 : ¬ ((i.bytes : Int) * c > 2 ^ 48) := by
   have : (2 : Int) ^ 48 = 281474976710656 := by decide
   omega
  have hn3 : ¬ (l < 0) := by omega
  have hn4 : ¬ (l > c) := by omega
  have hrun : (Instr.makeSlice t (.int .i64 l) (.int .i64 c)).run P w = .ok (.slice (some ⟨w.heap.size, 0, none⟩) l.toNat c.toNat) (w.alloc (.cells ((Array.range (c.toNat * i.size)).map ((if c.toNat * i.size = 0 then #[] else zv.cells)[· % (if c.toNat * i.size = 0 then #[] else zv.cells).size]!)) e)) := by
   unfold Instr.makeSlice
   simp only [Sem.run_bind, run_underlying ht, Result.andThen_ok, asInt, asIntOf, Sem.run_pure, typeInfo, run_program, hi, e1, e2]
   have hcond : ((decide (c < 0) || decide ((i.bytes : Int) * c > 2 ^ 48)) || decide (l < 0) || decide (l > c)) = false := by simp [hn1, hn3, hn4]; omega
   simp only [hcond, Bool.false_eq_true, if_false, Sem.run_pure, Result.andThen_ok, run_askRoom, sizeOf, typeInfo, Sem.run_bind, run_program, hi]
   by_cases hz0 : c.toNat * i.size = 0
   ·simp only [if_pos hz0, Sem.run_pure, Result.andThen_ok, newRow, Sem.run_bind, run_newObj]
    rfl
   ·simp only [if_neg hz0, Sem.run_bind, Z4r hi hzv, Sem.run_pure, Result.andThen_ok, newRow, run_newObj]
    rfl
  rw [hrun]
  refine Z56 r h (by intro x hx; rw [List.eq_of_mem_replicate hx]; exact he) (pcap := c.toNat) (by simp) (by simp; omega) (by simp only [maxLen]; omega) ?_ ?_
  ·rw [Z5e, List.length_replicate]
   by_cases hz0 : c.toNat * i.size = 0
   ·have hc0 : c.toNat = 0 := by
     rcases Nat.mul_eq_zero.1 hz0 with h | h
     ·exact h
     ·omega
    have hl0' : l.toNat = 0 := by omega
    rw [hl0']
    simpa using Z1.nil
   ·simp only [if_neg hz0]
    have e3 := Z5g zv.cells c.toNat (by omega)
    rw [← hzs, e3, hzs]
    have e4 : ((List.replicate c.toNat zv.cells.toList).flatten).take (l.toNat * i.size) = (List.replicate l.toNat zv.cells.toList).flatten := by
     have : List.replicate c.toNat zv.cells.toList = List.replicate l.toNat zv.cells.toList ++ List.replicate (c.toNat - l.toNat) zv.cells.toList := by
      rw [List.replicate_append_replicate]; congr 1; omega
     rw [this, List.flatten_append, List.take_append_of_le_length (by simp [hzs]), List.take_of_length_le (by simp [hzs])]
    rw [e4]
    exact Z1.replicate hzr _
  ·intro K' hl
   have := Z1.arr (K := K') (off := 0) (n := l.toNat) (cap := c.toNat) hl (by omega) (by omega) .nil
   simpa [VR] using this
 ·exact h.elim
theorem Z5i {t u e ty : TypeId} {d : TypeDesc} {i : TypeInfo} (ht : P.underlying t = some (.slice e)) (hu : P.underlying u = some d) (hd : ∀ k, d ≠ .int k) (hi : P.info? e = some i) {base : Option Addr} {sLen sCap m : Nat} {x : Value} {news : Array Value}
  (hlx : (Builtin.lenOf x).run P w = .ok m w) (hf : (Builtin.firstCells i.size m x).run P w = .ok news w) (hfit : sLen + m ≤ sCap) {w' : World}
  (hst : (base = none ∧ w' = w) ∨ ∃ a, base = some a ∧ (storeCells (a.add (sLen * i.size)) news.toList).run P w = .ok () w') :
  (Builtin.append_ #[t, u] ty #[.slice base sLen sCap, x]).run P w = .ok (.slice base (sLen + m) sCap) w' := by
 have hz : (d matches .int _) = false := by cases d <;> first | rfl | exact absurd rfl (hd _)
 rcases hst with ⟨rfl, rfl⟩ | ⟨a, rfl, hst⟩
 ·unfold Builtin.append_
  simp [run_underlying ht, run_underlying hu, sizeOf, typeInfo, hi, hlx, hf, hfit]
  try (cases d <;> first | exact absurd rfl (hd _) | simp [hlx, hf, hfit])
 ·unfold Builtin.append_
  simp [run_underlying ht, run_underlying hu, sizeOf, typeInfo, hi, hlx, hf, hfit]
  try (cases d <;> first | exact absurd rfl (hd _) | simp [hlx, hf, hfit, hst])
theorem Z5j {t u e ty : TypeId} {d : TypeDesc} {i : TypeInfo} {z : Value} (ht : P.underlying t = some (.slice e)) (hu : P.underlying u = some d) (hd : ∀ k, d ≠ .int k) (hi : P.info? e = some i) (hz : i.zero = some z) {base : Option Addr} {sLen sCap m : Nat} {x : Value} {olds news : Array Value}
  (hlx : (Builtin.lenOf x).run P w = .ok m w) (hfo : (Builtin.firstCells i.size sLen (.slice base sLen sCap)).run P w.drew = .ok olds w.drew) (hf : (Builtin.firstCells i.size m x).run P w.drew = .ok news w.drew) (hg : sCap < sLen + m)
  (h63 : ((sLen + m : Nat) : Int) ≤ 9223372036854775807) (hfit : Builtin.nextslicecap (sLen + m) sCap * i.bytes ≤ 281474976710656) :
  (Builtin.append_ #[t, u] ty #[.slice base sLen sCap, x]).run P w =
   .ok (.slice (some ⟨w.heap.size, 0, none⟩) (sLen + m) (grownCap w (sLen + m) sCap e)) (w.drew.alloc (.cells (olds ++ news ++ Builtin.zeroCells z.cells (grownCap w (sLen + m) sCap e - (sLen + m))) e)) := by
 have hn : ¬ (sLen + m ≤ sCap) := by omega
 have h63' : ¬ (9223372036854775807 < ((sLen : Int) + (m : Int))) := by omega
 have h48' : ¬ (281474976710656 < Builtin.nextslicecap (sLen + m) sCap * i.bytes) := by omega
 unfold Builtin.append_
 simp [run_underlying ht, run_underlying hu, sizeOf, typeInfo, zeroValue, hi, hz, hlx, hn, h63', h48']
 try (cases d <;> first | exact absurd rfl (hd _) | simp [hlx, hn, h63', h48', Question.forced, hf, hfo, newRow, grownCap, zeroValue, typeInfo, hi, hz])
theorem Z5k (σ : Zc) (b b' : Nat) (x y : Zb) : Zf (Ze σ b x) b b' y = Zf σ b b' y := by
 induction σ with
 | nil => rfl
 | cons p σ ih =>
  obtain ⟨a, z⟩ := p
  simp only [Ze, Zf]
  split
  ·rename_i h; simp [Zf, h]
  ·rename_i h; simp [Zf, h, ih]
theorem Z5l {σ : Zc} {b : Nat} {x y : Zb} (h : Zd σ b = some x) : Zd (Ze σ b y) b = some y := by
 induction σ with
 | nil => simp [Zd] at h
 | cons p σ ih =>
  obtain ⟨a, z⟩ := p
  simp only [Zd] at h
  simp only [Ze]
  split
  ·rename_i e; simp [Zd, e]
  ·rename_i e; rw [if_neg e] at h; simp only [Zd, if_neg e]; exact ih h
theorem Z5m {t u e ty : TypeId} {d : TypeDesc} {i : TypeInfo} {z : Value} {za : Z0} (ht : P.underlying t = some (.slice e)) (hu : P.underlying u = some d) (hd : ∀ k, d ≠ .int k) (hi : P.info? e = some i) (hz : i.zero = some z) (hza : Z2e z = some za) (hzl : za.cells.length = i.size)
  (h0 : 0 < i.size) (hb0 : 0 < i.bytes) {s : Z0} {sv x : Value} (hs : VR K s sv) {ys : List Z0} {vs : List Value} (hyv : Z1 K (flat ys) vs) (hye : ∀ y ∈ ys, y.elem i.size) (hlx : (Builtin.lenOf x).run P w = .ok ys.length w)
  (hf : (Builtin.firstCells i.size ys.length x).run P w = .ok vs.toArray w) (hfd : (Builtin.firstCells i.size ys.length x).run P w.drew = .ok vs.toArray w.drew)
  (h : eapp i.size i.bytes s ys σ R) (r : Rel K σ w) : Z31 K R ((Builtin.append_ #[t, u] ty #[sv, x]).run P w) := by
 have hzs : z.cells.size = i.size := by rw [← Array.length_toList, ← (Z2h (K := K) hza).1.cells.length, hzl]
 have hvl : vs.length = ys.length * i.size := by rw [← hyv.length, Z5 hye]
 have hlen63 : ∀ n : Nat, n * i.bytes ≤ 140737488355328 → n ≤ 140737488355328 := by
  intro n hn
  have : n * 1 ≤ n * i.bytes := Nat.mul_le_mul_left _ hb0
  omega
 have grow : ∀ (xs : List Z0) (olds : List Value) (base : Option Addr) (sCap : Nat), (∀ y ∈ xs, y.elem i.size) → Z1 K (flat xs) olds → sv = .slice base xs.length sCap → sCap < xs.length + ys.length →
   (Builtin.firstCells i.size xs.length (.slice base xs.length sCap)).run P w.drew = .ok olds.toArray w.drew → (xs.length + ys.length) * i.bytes ≤ 140737488355328 →
   (∀ b', fresh σ b' → ∃ σ', (∀ K' : Kr, ∀ w', Rel K' ((b', .cells i.size (xs ++ ys)) :: σ) w' → Rel K' σ' w') ∧ R (.arr i.size b' 0 (xs.length + ys.length)) σ') →
   Z31 K R ((Builtin.append_ #[t, u] ty #[sv, x]).run P w) := by
  intro xs olds base sCap hxe hxv hsv hg hfo hby hR
  subst hsv
  have hle := hlen63 _ hby
  rw [Z5j ht hu hd hi hz hlx hfo hfd hg (by omega) (growslice_fits hg hby)]
  have hge := grownCap_ge w (xs.length + ys.length) sCap e
  have hcm : grownCap w (xs.length + ys.length) sCap e ≤ maxLen := grownCap_le_maxLen w _ sCap e (by simp only [maxLen]; omega)
  have hol : olds.length = xs.length * i.size := by rw [← hxv.length, Z5 hxe]
  have hall : ∀ y ∈ xs ++ ys, y.elem i.size := by
   intro y hy
   rcases List.mem_append.1 hy with h | h
   ·exact hxe y h
   ·exact hye y h
  obtain ⟨σ', hsub, hRR⟩ := hR K.nn r.drew.fresh
  have hnew := r.drew.newOwned i.size (grownCap w (xs.length + ys.length) sCap e) (olds.toArray ++ vs.toArray ++ Builtin.zeroCells z.cells (grownCap w (xs.length + ys.length) sCap e - (xs.length + ys.length))) e (xs ++ ys) hall (by
   simp only [Array.size_append, List.size_toArray, size_zeroCells, hzs, hol, hvl, ← Nat.add_mul]
   congr 1
   omega) (by simpa using hge) hcm (by
   simp only [Array.toList_append, List.length_append, Nat.add_mul, Z4]
   rw [List.take_append_of_le_length (by simp [hol, hvl]), List.take_of_length_le (by simp [hol, hvl])]
   exact hxv.append hyv)
  refine ⟨_, _, σ', Kr.le_add r.drew _, hsub _ _ hnew, ?_, hRR⟩
  have := Z1.arr (K := K.add ⟨some w.drew.heap.size, i.size, grownCap w (xs.length + ys.length) sCap e⟩) (off := 0) (n := xs.length + ys.length) (cap := grownCap w (xs.length + ys.length) sCap e) (Kr.add_new _ _) (by omega) hge .nil
  simpa [VR] using this
 unfold eapp at h
 split at h
 ·rename_i zz xs
  obtain ⟨hby, hzz, h⟩ := h
  unfold VR at hs
  cases hs with
  | @slc0 _ _ a cap _ _ hcap _ =>
   have := hcap rfl
   subst this
   simp only at h
   by_cases hys : ys = []
   ·subst hys
    have hv0 : vs = [] := List.eq_nil_of_length_eq_zero (by simpa using hvl)
    subst hv0
    rw [Z5i ht hu hd hi hlx hf (by simp) (w' := w) (by
     cases a with
     | none => exact .inl ⟨rfl, rfl⟩
     | some a => exact .inr ⟨a, rfl, by simp [storeCells]⟩)]
    exact ⟨_, _, _, Kr.le_add r _, r.newNone i.size, Z1.arr0 (Kr.add_new _ _) .nil, h K.nn r.fresh⟩
   ·have hpos : 0 < ys.length := List.length_pos_iff.2 hys
    refine grow [] [] a 0 (by simp) .nil rfl (by simpa using hpos) (Z3m (P := P) (K := K) (by simp) Z1.nil (.inl rfl)) (by simpa using hby) (fun b' hb' => ⟨_, fun _ _ h => h, ?_⟩)
    simpa using h b' hb'
  | @slc _ _ _ a n cap vs' _ _ hn he hsp hm hxv hc hcap _ =>
   have := hcap rfl
   subst this
   subst hn
   cases xs with
   | nil =>
    simp only at h
    by_cases hys : ys = []
    ·subst hys
     have hv0 : vs = [] := List.eq_nil_of_length_eq_zero (by simpa using hvl)
     subst hv0
     rw [Z5i ht hu hd hi hlx hf (by simp) (w' := w) (.inr ⟨a, rfl, by simp [storeCells]⟩)]
     exact ⟨_, _, _, Kr.le_add r _, r.newNone i.size, Z1.arr0 (Kr.add_new _ _) .nil, h K.nn r.fresh⟩
    ·have hpos : 0 < ys.length := List.length_pos_iff.2 hys
     refine grow [] [] (some a) 0 (by simp) .nil rfl (by simpa using hpos) (Z3m (P := P) (K := K) (by simp) Z1.nil (.inl rfl)) (by simpa using hby) (fun b' hb' => ⟨_, fun _ _ h => h, ?_⟩)
     simpa using h b' hb'
   | cons x0 xs0 =>
    simp only at h
    have hzz' : zz = i.size := by rcases hzz with h | h; exact h; cases h
    by_cases hys : ys = []
    ·have hR := h.1 hys
     subst hys
     have hv0 : vs = [] := List.eq_nil_of_length_eq_zero (by simpa using hvl)
     subst hv0
     rw [Z5i ht hu hd hi hlx hf (by simp) (w' := w) (.inr ⟨a, rfl, by simp [storeCells]⟩)]
     exact ⟨K, _, σ, Kr.le.refl K, r, Z1.slc rfl he hsp hm hxv (by simp) (fun _ => by simp) .nil, hR⟩
    ·have hpos : 0 < ys.length := List.length_pos_iff.2 hys
     have hce := Z3b r.drew hsp hm
     refine grow (x0 :: xs0) vs' (some a) _ (by rw [← hzz']; exact he) hxv rfl (by omega) ?_ hby (fun b' hb' => ⟨_, fun _ _ h => h, ?_⟩)
     ·exact Z3m (P := P) (K := K) (by rw [← hzz']; exact he) hxv (.inr ⟨a, rfl, hsp, hce⟩)
     ·exact h.2 hys b' hb'
 ·rename_i s1 b n
  obtain ⟨xs, hg, hl, hby, h⟩ := h
  have hmem := Zk hg
  unfold VR at hs
  cases hs with
  | @arr _ _ _ cb _ pcap cap _ _ hloc ho hn _ =>
   subst hl
   obtain ⟨hss, hxe, hx, hm, hbase, cs, ty', hw, hsz, hxv, hc⟩ := r.ownCells hg hloc
   subst hss
   by_cases hfit : xs.length + ys.length ≤ cap
   ·have hcap : xs.length * i.size + ys.length * i.size ≤ cs.size := by
     rw [hsz, ← Nat.add_mul]; exact Nat.mul_le_mul_right _ (by omega)
    have hst := run_storeCells_at P cb (xs.length * i.size) ty' vs 0 cs w hw (by simp [hvl]; omega) (hyv.ones (Z9 hye))
    simp only [Nat.add_zero] at hst
    rw [Z5i ht hu hd hi hlx hf hfit (.inr ⟨_, rfl, by rw [Z3a _ _ rfl]; simp only [Nat.zero_mul, Nat.zero_add]; exact hst⟩)]
    have hall : ∀ y ∈ xs ++ ys, y.elem i.size := by
     intro y hy
     rcases List.mem_append.1 hy with h | h
     ·exact hxe y h
     ·exact hye y h
    have hwr := r.write hmem hloc hall (cs.toList.take (xs.length * i.size) ++ vs ++ cs.toList.drop (xs.length * i.size + vs.length)).toArray (by simp [hvl]; omega) (by simp; omega) (by
     simp only [List.length_append, Nat.add_mul, Z4]
     rw [List.take_append_of_le_length (by simp [hvl]; omega), List.take_of_length_le (by simp [hvl]; omega)]
     exact hxv.append hyv)
    have hmem' : (b, Zb.cells i.size (xs ++ ys)) ∈ Ze σ b (.cells i.size (xs ++ ys)) := by
     have hh : Zd (Ze σ b (.cells i.size (xs ++ ys))) b = some (.cells i.size (xs ++ ys)) := Z5l hg
     exact Zk hh
    have hrn := hwr.rename hmem' hloc
    rw [Z5k] at hrn
    refine ⟨_, _, _, Kr.le_add hwr _, hrn, ?_, h K.nn r.fresh⟩
    have := Z1.arr (K := K.add ⟨some cb, i.size, pcap⟩) (off := 0) (n := xs.length + ys.length) (cap := cap) (Kr.add_new _ _) (by omega) hfit .nil
    simpa [VR] using this
   ·have hce : Z39 w.drew ⟨cb, 0 * i.size, none⟩ (cs.toList.take (xs.length * i.size)) := by simp only [Nat.zero_mul]; exact fun j v e => hc j v e
    refine grow xs _ _ cap hxe hxv rfl (by omega) (Z3m (P := P) (K := K) hxe hxv (.inr ⟨_, rfl, rfl, hce⟩)) hby (fun b' hb' => ⟨Zf σ b b' (.cells i.size (xs ++ ys)), fun K' w' hr => ?_, h b' hb'⟩)
    exact hr.sub (Zs r.nd hb') (fun p hp => by
     obtain ⟨c, y⟩ := p
     rcases Zr r.nd hp with ⟨rfl, rfl⟩ | ⟨_, hp⟩
     ·simp
     ·exact List.mem_cons_of_mem _ hp)
  | @arr0 _ _ pcap a _ _ hloc _ =>
   have hxs : xs = [] := List.eq_nil_of_length_eq_zero hl
   subst hxs
   by_cases hys : ys = []
   ·subst hys
    have hv0 : vs = [] := List.eq_nil_of_length_eq_zero (by simpa using hvl)
    subst hv0
    rw [Z5i ht hu hd hi hlx hf (by simp) (w' := w) (by
     cases a with
     | none => exact .inl ⟨rfl, rfl⟩
     | some a => exact .inr ⟨a, rfl, by simp [storeCells]⟩)]
    have hsz' : s1 = i.size := by
     have ho := r.own b _ hmem
     rcases ho.2 with ⟨p, h1, _⟩ | ⟨cb', p, cs', ty', h1, _⟩
     ·rw [hloc] at h1; simp at h1; exact h1.1
     ·rw [hloc] at h1; simp at h1
    subst hsz'
    have hrn := r.rename hmem hloc
    exact ⟨_, _, _, Kr.le_add r _, hrn, Z1.arr0 (Kr.add_new _ _) .nil, by simpa using h K.nn r.fresh⟩
   ·have hpos : 0 < ys.length := List.length_pos_iff.2 hys
    refine grow [] [] a 0 (by simp) .nil rfl (by simpa using hpos) (Z3m (P := P) (K := K) (by simp) Z1.nil (.inl rfl)) (by simpa using hby) (fun b' hb' => ⟨Zf σ b b' (.cells i.size ([] ++ ys)), fun K' w' hr => ?_, h b' hb'⟩)
    exact hr.sub (Zs r.nd hb') (fun p hp => by
     obtain ⟨c, y⟩ := p
     rcases Zr r.nd hp with ⟨rfl, rfl⟩ | ⟨_, hp⟩
     ·simp
     ·exact List.mem_cons_of_mem _ hp)
 ·exact h.elim
end Go.Abs
namespace Go.Abs
open Go Go.RowKit
variable {P : Program} {K : Kr} {σ : Zc} {w : World} {R : Z0 → Zc → Prop}
theorem Z5n (K : Kr) (t : List UInt8) : Z1 K (flat (bytes t)) (t.map fun b => Value.int .u8 b.toNat) ∧ ∀ y ∈ bytes t, y.elem 1 := by
 induction t with
 | nil => exact ⟨.nil, by simp [bytes]⟩
 | cons b t ih =>
  refine ⟨.int ih.1, ?_⟩
  intro y hy
  rcases List.mem_cons.1 hy with rfl | hy
  ·exact ⟨rfl, by simp [Zx, Z0.cells, Z0.one]⟩
  ·exact ih.2 y hy
theorem Z5o {t u e ty : TypeId} {d : TypeDesc} {i : TypeInfo} {za : Z0} (ht : P.underlying t = some (.slice e)) (hu : P.underlying u = some d) (hd : ∀ k, d ≠ .int k) (hi : P.info? e = some i) (hza : i.zero.bind Z2e = some za) (hzl : za.cells.length = i.size)
  (h0 : 0 < i.size) (hb0 : 0 < i.bytes) {vs : List Z0} {p q : Value} (hv : Z1 K vs [p, q]) (h : Z1y i.size i.bytes vs σ R) (r : Rel K σ w) : Z31 K R ((Builtin.append_ #[t, u] ty #[p, q]).run P w) := by
 simp only [Option.bind_eq_some_iff] at hza
 obtain ⟨z, hz, hza⟩ := hza
 unfold Z1y at h
 split at h
 ·rename_i s x
  obtain ⟨ys, hy, h⟩ := h
  obtain ⟨u1, u2, e1, h1, h2⟩ := hv.two_inv
  simp at e1; obtain ⟨rfl, rfl⟩ := e1
  obtain ⟨a, cap, vs', rfl, h4, h5, h6, h7⟩ := Z3k r h2 hy
  exact Z5m ht hu hd hi hz hza hzl h0 hb0 h1 h4 h5 (by simp [Builtin.lenOf]) (Z3m (P := P) (K := K) h5 h4 h7) (Z3m (P := P) (K := K) h5 h4 (by
   rcases h7 with h | ⟨a', e1, e2, e3⟩
   ·exact .inl h
   ·exact .inr ⟨a', e1, e2, fun j v e => e3 j v e⟩)) h r
 ·exact h.elim
theorem Z5p {t u e ty : TypeId} {i : TypeInfo} {za : Z0} (ht : P.underlying t = some (.slice e)) (hu : P.underlying u = some .string) (hi : P.info? e = some i) (hza : i.zero.bind Z2e = some za) (hzl : za.cells.length = i.size)
  (h1s : i.size = 1) (h1b : i.bytes = 1) {vs : List Z0} {p q : Value} (hv : Z1 K vs [p, q]) (h : Z1z vs σ R) (r : Rel K σ w) : Z31 K R ((Builtin.append_ #[t, u] ty #[p, q]).run P w) := by
 simp only [Option.bind_eq_some_iff] at hza
 obtain ⟨z, hz, hza⟩ := hza
 unfold Z1z at h
 split at h
 ·rename_i s x
  obtain ⟨u1, u2, e1, h1, h2⟩ := hv.two_inv
  simp at e1; obtain ⟨rfl, rfl⟩ := e1
  rw [h2.str_inv]
  obtain ⟨hb1, hb2⟩ := Z5n K x
  have hsz : (⟨x.toArray⟩ : ByteArray).size = x.length := by simp [ByteArray.size]
  have hl : (bytes x).length = x.length := by simp [bytes]
  have hext : ((⟨x.toArray⟩ : ByteArray).extract 0 x.length).data = x.toArray := by
   apply Array.ext'
   simp [ByteArray.data_extract]
  have hfc : ∀ w : World, (Builtin.firstCells i.size (bytes x).length (.string ⟨x.toArray⟩)).run P w = .ok (x.map fun b => Value.int .u8 b.toNat).toArray w := by
   intro w
   simp only [Builtin.firstCells, Sem.run_pure, hl, hext]
   simp
  exact Z5m ht hu (fun k => by simp) hi hz hza hzl (by omega) (by omega) h1 hb1 (by rw [h1s]; exact hb2) (by simp [Builtin.lenOf, hsz, hl]) (hfc w) (hfc w.drew) (by rw [h1s, h1b]; exact h) r
 ·exact h.elim
theorem Z5q {σ : Zc} {b : Nat} {x : Zb} (h : Zd σ b = some x) : Ze σ b x = σ := by
 induction σ with
 | nil => rfl
 | cons p σ ih =>
  obtain ⟨k, y⟩ := p
  simp only [Zd] at h
  simp only [Ze]
  split at h
  ·rename_i e
   simp only [Option.some.injEq] at h
   subst h
   rw [if_pos e]
  ·rename_i e
   rw [if_neg e, ih h]
theorem Z5r : ∀ {l : List Z0} (n : Nat), (∀ x ∈ l, x.elem 1) → flat (l.drop n) = (flat l).drop n
 | [], n, _ => by simp
 | x :: l, 0, _ => by simp
 | x :: l, n + 1, h => by
  have hx := (h x (by simp)).1
  rw [List.drop_succ_cons, Z5r n (fun y hy => h y (by simp [hy])), Z3, List.drop_append, hx, List.drop_eq_nil_of_le (as := x.cells) (by omega)]
  rfl
theorem Z5s {t u e ty : TypeId} (ht : P.underlying t = some (.slice e)) (hs : (P.info? e).map (·.size) = some 1) {vs : List Z0} {p q : Value} (hv : Z1 K vs [p, q]) (h : ecpy 1 vs σ R) (r : Rel K σ w) : Z31 K R ((Builtin.copy_ #[t, u] ty #[p, q]).run P w) := by
 unfold ecpy at h
 split at h
 ·rename_i s b off n x
  obtain ⟨xs, ys, hg, hy, hle, hR⟩ := h
  obtain ⟨u1, u2, e1, h1, h2⟩ := hv.two_inv
  simp at e1; obtain ⟨rfl, rfl⟩ := e1
  obtain ⟨a, cap, vs', rfl, h4, h5, h6, h7⟩ := Z3k r h2 hy
  have hvl : vs'.length = ys.length := by rw [← h4.length, Z5 h5, Nat.mul_one]
  by_cases h0 : Nat.min ys.length n = 0
  ·unfold VR at h1
   have hp : ∃ d c, p = .slice d n c := by cases h1 <;> exact ⟨_, _, rfl⟩
   obtain ⟨d, c, rfl⟩ := hp
   refine Z31.same (x := .int .i64 (0 : Nat)) (run_copy_none w t u ty e d a n c ys.length cap ht hs h0) r VR.int ?_
   rw [h0] at hR
   have e3 : xs.take off ++ ys.take 0 ++ xs.drop (off + 0) = xs := by simp
   rw [e3, Z5q hg] at hR
   exact hR
  ·unfold VR at h1
   generalize hm : Nat.min ys.length n = m at *
   have hmn : m ≤ n := by rw [← hm]; exact Nat.min_le_right _ _
   have hmy : m ≤ ys.length := by rw [← hm]; exact Nat.min_le_left _ _
   cases h1 with
   | @arr _ _ _ cb s' pcap c _ _ hl ho hn _ =>
    obtain ⟨rfl, he, hx, hmx, hbase, cs, ty', hw, hsz, hvv, hc⟩ := r.ownCells hg hl
    rcases h7 with rfl | ⟨a', rfl, ha, hcell⟩
    ·simp at hmy; omega
    have hcl : (vs'.take m).length = m := by rw [List.length_take, hvl]; omega
    have hones : ∀ v ∈ vs'.take m, v.oneCell' = true := fun v hv => h4.ones (fun c hc => by
     obtain ⟨y, hy1, hy2⟩ := List.mem_flatMap.1 hc
     exact (h5 y hy1).2 c hy2) v (List.mem_of_mem_take hv)
    have hrun := run_copy_row (P := P) w t u ty e cb (off * 1) n c a' ys.length cap cs ty' (vs'.take m) ht hs hw (by rw [hcl]; exact hm.symm) (fun j v ej => by
     rw [List.getElem?_take] at ej
     split at ej
     ·exact hcell j v ej
     ·cases ej) (by rw [hcl, hsz]; omega) hones
    rw [hrun, hcl]
    refine ⟨K, _, _, Kr.le.refl K, ?_, VR.int, hR⟩
    have hxl : (xs.take off ++ ys.take m ++ xs.drop (off + m)).length = xs.length := by
     simp only [List.length_append, List.length_take, List.length_drop]; omega
    refine r.write (Zk hg) hl (fun y hy => ?_) _ ?_ (by rw [hxl]; exact hx) ?_
    ·simp only [List.mem_append] at hy
     rcases hy with (hy | hy) | hy
     ·exact he y (List.mem_of_mem_take hy)
     ·exact h5 y (List.mem_of_mem_take hy)
     ·exact he y (List.mem_of_mem_drop hy)
    ·simp only [List.size_toArray, List.length_append, List.length_take, List.length_drop, Array.length_toList, hvl, hsz]; omega
    ·rw [hxl]
     have hfl : (flat xs).length = xs.length := by rw [Z5 he, Nat.mul_one]
     have f1 : flat (xs.take off ++ ys.take m ++ xs.drop (off + m)) = (flat xs).take off ++ (flat ys).take m ++ (flat xs).drop (off + m) := by
      rw [Z4, Z4, Z7 he, Z7 h5, Nat.mul_one, Nat.mul_one]
      rw [Z5r (off + m) he]
     rw [f1, Nat.mul_one, Nat.mul_one]
     rw [Nat.mul_one] at hvv hsz
     have hcs : cs.toList.length = pcap := by rw [Array.length_toList]; exact hsz
     have e3 : (cs.toList.take off ++ vs'.take m ++ cs.toList.drop (off + m)).take xs.length =
       (cs.toList.take xs.length).take off ++ vs'.take m ++ (cs.toList.take xs.length).drop (off + m) := by
      rw [List.take_take, Nat.min_eq_left (by omega), List.take_append, List.take_of_length_le (by rw [List.length_append, List.length_take, hcl]; omega)]
      congr 1
      rw [List.drop_take]
      congr 1
      rw [List.length_append, List.length_take, hcl]
      omega
     rw [e3]
     exact ((hvv.take _).append (h4.take _)).append (hvv.drop _)
   | arr0 hl _ => omega
 ·exact h.elim
theorem Z5t {t e : TypeId} {sz : Nat} (ht : P.underlying t = some (.slice e)) (hs : Z2i P e = some sz) {vs : List Z0} {p q q' : Value} (hv : Z1 K vs [p, q, q']) (h : Z20 sz vs σ R) (r : Rel K σ w) : Z31 K R ((Instr.sliceAt t p none (some q) (some q')).run P w) := by
 have hat : (Instr.sliceAt t p none (some q) (some q')).run P w = (Instr.slice t p none (some q) (some q')).run P w := by
  unfold Instr.sliceAt
  simp only [Sem.run_bind, run_underlying ht, Result.andThen_ok]
 rw [hat]
 unfold Z20 at h
 split at h
 ·rename_i s b off n k hh k' m
  obtain ⟨xs, hg, hon, h0, rfl, hmn, hR⟩ := h
  obtain ⟨u1, u2, u3, e1, h1, h2, h3⟩ := hv.three_inv
  simp at e1; obtain ⟨rfl, rfl, rfl⟩ := e1
  have hmem := Zk hg
  have hsub : asub s false true true [.arr s b off n, .int k hh, .int k' hh] = some (.arr s b off hh.toNat) := by
   simp [asub, bnds]
   omega
  unfold VR at h1
  cases h1 with
  | @arr _ _ _ cb _ pcap cap _ _ hloc ho hn _ =>
   obtain ⟨hss, hxe, hx, hm, hbase, cs, ty', hw, hsz, hxv, hc⟩ := r.ownCells hg hloc
   subst hss
   have hr := Z3r (P := P) (K := K) (w := w) (isS := true) (len := n) (cap := cap) (lo := false) (hi := true) (mx := true) (l := [.int k hh, .int k' hh]) (vlo := none) (vhi := some q) (vmx := some q') (a := 0) (b := hh) (c := hh) hn (by simp [bnds]) rfl rfl rfl (by
    simpa using Z1.cons h2 (Z1.cons h3 .nil)) (by omega)
   have hrun : (Instr.slice t (.slice (some ⟨cb, off * s, none⟩) n cap) none (some q) (some q')).run P w = .ok (.slice (some ⟨cb, off * s, none⟩) hh.toNat hh.toNat) w := by
    simp only [Instr.slice, Sem.run_bind, run_underlying ht, Result.andThen_ok, hr, Z3g hs, if_true, Sem.run_pure]
    congr 2
    split
    ·rfl
    ·simp [Z3a]
   rw [hrun]
   obtain ⟨vs', hvs, hK, hR'⟩ := r.freeze hmem hloc
   refine ⟨_, _, _, hK, hR', ?_, hR⟩
   have he' : ∀ x ∈ (xs.drop off).take hh.toNat, x.elem s := fun y hy => hxe y (List.mem_of_mem_drop (List.mem_of_mem_take hy))
   refine VR.slc_of_arr (by simp; omega) he' (vs := (vs'.drop (off * s)).take (hh.toNat * s)) ?_ (off * s) (fun j v e => ?_) (Nat.le_refl _) (fun _ => rfl)
   ·rw [Z7 (fun y hy => hxe y (List.mem_of_mem_drop hy)), Z6 hxe]
    exact ((hvs.mono hK).drop _).take _
   ·rw [List.getElem?_take] at e
    split at e
    ·rw [List.getElem?_drop] at e
     simpa [Kr.addImm] using e
    ·cases e
  | @arr0 _ _ pcap a _ _ hloc _ =>
   have hh0 : hh = 0 := by omega
   subst hh0
   have hr := Z3r (P := P) (K := K) (w := w) (isS := true) (len := 0) (cap := 0) (lo := false) (hi := true) (mx := true) (l := [.int k 0, .int k' 0]) (vlo := none) (vhi := some q) (vmx := some q') (a := 0) (b := 0) (c := 0) (by omega) (by simp [bnds]) rfl rfl rfl (by
    simpa using Z1.cons h2 (Z1.cons h3 .nil)) (by omega)
   have hrun : (Instr.slice t (.slice a 0 0) none (some q) (some q')).run P w = .ok (.slice a 0 0) w := by
    simp only [Instr.slice, Sem.run_bind, run_underlying ht, Result.andThen_ok, hr, Z3g hs, if_true, Sem.run_pure]
    simp
   rw [hrun]
   refine ⟨K, _, _, Kr.le.refl K, r.sub ((Zq σ b).nodup r.nd) (fun p hp => (Zp r.nd hp).2), ?_, hR⟩
   simp only [Int.toNat_zero, List.take_zero]
   exact Z1.slc0 (fun _ => rfl) .nil
 ·obtain ⟨v, hsub, hR⟩ := h
  have hh := Z43 (P := P) (w := w) ht hs (lo := false) (hi := true) (mx := true) (vlo := none) (vhi := some q) (vmx := some q') (u := p) rfl rfl rfl (by simpa using hv) hsub r
  obtain ⟨u, w', K', e1, h1, h2, h3⟩ := hh
  rw [e1]
  exact ⟨K', v, σ, h1, h2, h3, hR⟩
theorem Z5u {f : FuncId} (h : Z21 P f = true) (args : Array Value) : (callFunc f args).run P w = .ok (.enter f args) w := by
 unfold Z21 at h
 split at h
 ·rename_i fn hf
  simp only [Bool.and_eq_true, Bool.not_eq_true'] at h
  obtain ⟨h1, h2⟩ := h
  have hb : fn.body.isNone = false := by
   cases hfb : fn.body <;> simp [hfb] at h1 ⊢
  unfold callFunc
  simp only [Sem.run_bind, run_program, Result.andThen_ok, hf, h2, Bool.false_eq_true, if_false, hb, Sem.run_pure]
 ·cases h
theorem Z5v {f : FuncId} (hg : Z21 P f = true) {vs : List Z0} {args : Array Value} (hv : Z1 K vs args.toList) (h : Z1s P f vs σ R) (r : Rel K σ w) : Good P K R ((callFunc f args).run P w) := by
 rw [Z5u hg]
 have := h K w args.toList r hv
 simpa [Good] using this
theorem Z5w {res : Result Next} {x : Z0} (h : Z4o P K σ w x res) (hR : R x σ) : Good P K R res := by
 obtain ⟨v, w', K', e, h1, h2, h3⟩ := h
 rw [e]
 exact ⟨K', x, σ, h1, h2, h3, hR⟩
theorem Z5x {fl : Bool} {o : Oper} {k : AK} {xs : List Operand} (hk : kOf P fl o = some (k, xs)) {ρ : Operand → Value} (hρc : ∀ v, ρ (.const v) = v) (hρf : ∀ f, ρ (.func f) = .func (.func f) #[] #[]) {vs : List Z0} (hv : Z1 K vs (xs.map ρ)) (r : Rel K σ w) (h : Z26 P k vs σ R) : Good P K R ((execOp ρ o).run P w) := by
 by_cases hq : k.quiet = true
 ·have hx : ∃ x, Z1r k σ vs = some x ∧ R x σ := by
   cases k <;> first | exact h | (simp [AK.quiet] at hq)
  obtain ⟨x, hx, hR⟩ := hx
  exact Z5w (Z54 hk hq hv r hx) hR
 obtain ⟨dst, op, type, pos, after, guard⟩ := o
 cases op <;> simp only [kOf, reduceCtorEq, Option.some.injEq, Prod.mk.injEq] at hk
 case move y => obtain ⟨rfl, rfl⟩ := hk; exact absurd rfl hq
 case assign y => obtain ⟨rfl, rfl⟩ := hk; exact absurd rfl hq
 case pick c a b => obtain ⟨rfl, rfl⟩ := hk; exact absurd rfl hq
 case alloc e =>
  simp only [Option.bind_eq_bind, Option.bind_eq_some_iff, Option.pure_def, Option.some.injEq, Prod.mk.injEq] at hk
  obtain ⟨z, hz, rfl, rfl⟩ := hk
  obtain ⟨_, hone, h⟩ := h
  exact Good.value (Z58 hz hone h r)
 case box e y =>
  simp only [Option.bind_eq_bind, Option.bind_eq_some_iff, Option.pure_def, Option.some.injEq, Prod.mk.injEq] at hk
  obtain ⟨s, hs, rfl, rfl⟩ := hk
  exact Good.value (Z59 hs hv h r)
 case build t parts =>
  simp only [Option.bind_eq_bind, Option.bind_eq_some_iff, Option.pure_def] at hk
  obtain ⟨z, hz, ps, hp, hk⟩ := hk
  split at hk
  ·split at hk
   ·simp only [Option.some.injEq, Prod.mk.injEq] at hk; obtain ⟨rfl, rfl⟩ := hk; exact absurd rfl hq
   ·cases hk
  ·cases hk
 case buildSlice t n parts =>
  simp only [Option.bind_eq_bind, Option.bind_eq_some_iff, Option.pure_def] at hk
  obtain ⟨e, he, s, hs, z, hz, hk⟩ := hk
  split at hk
  ·rename_i hc
   simp only [Option.some.injEq, Prod.mk.injEq] at hk
   obtain ⟨rfl, rfl⟩ := hk
   cases fl
   ·exact absurd rfl hq
   ·obtain ⟨c1, c2, c3⟩ := hc
    have hlen : (parts.toList.map (·.2)).length = n := by
     have := congrArg List.length c1
     simpa using this
    have hzip : (parts.map fun (i, x) => (i, ρ x)) = ((List.range n).zip ((parts.toList.map (·.2)).map ρ)).toArray := by
     rw [← c1]
     apply Array.ext'
     rw [Array.toList_map]
     exact Z51 ρ parts.toList
    have := Z5a (P := P) (Z4p he) hs hz hv (by simpa using hlen) c3 c2 h r
    rw [← hzip] at this
    exact Good.value this
  ·cases hk
 case load t y =>
  simp only [Option.bind_eq_bind, Option.bind_eq_some_iff, Option.pure_def, Option.some.injEq, Prod.mk.injEq] at hk
  obtain ⟨g, hg, s, hs, rfl, rfl⟩ := hk
  cases fl <;> exact absurd rfl hq
 case store t y z =>
  simp only [Option.bind_eq_bind, Option.bind_eq_some_iff, Option.pure_def, Option.some.injEq, Prod.mk.injEq] at hk
  obtain ⟨s, hs, rfl, rfl⟩ := hk
  obtain ⟨w', K', σ', e, h1, h2, h3⟩ := Z57 (P := P) hs hv h r
  exact Good.skip e h1 h2 h3
 case nilCheck y => obtain ⟨rfl, rfl⟩ := hk; exact absurd rfl hq
 case binOp op t y z yt =>
  split at hk
  ·split at hk <;> simp only [Option.some.injEq, Prod.mk.injEq, reduceCtorEq] at hk <;> obtain ⟨rfl, rfl⟩ := hk <;> exact absurd rfl hq
  ·split at hk
   ·simp only [Option.some.injEq, Prod.mk.injEq] at hk; obtain ⟨rfl, rfl⟩ := hk; exact absurd rfl hq
   ·split at hk
    ·rename_i h4
     obtain ⟨e, he⟩ := Z4y h4
     split at hk <;> simp only [Option.some.injEq, Prod.mk.injEq, reduceCtorEq] at hk <;> obtain ⟨rfl, rfl⟩ := hk
     ·have hv' : Z1 K vs [ρ y, .slice none 0 0] := by rw [← hρc (.slice none 0 0)]; exact hv
      have hg := Z5d (P := P) (.inl ⟨rfl, rfl⟩) he y (.const (.slice none 0 0)) hv' h r
      rw [← hρc (.slice none 0 0)] at hg
      exact Good.value hg
     ·have hv' : Z1 K vs [ρ y, .slice none 0 0] := by rw [← hρc (.slice none 0 0)]; exact hv
      have hg := Z5d (P := P) (.inr ⟨rfl, rfl⟩) he y (.const (.slice none 0 0)) hv' h r
      rw [← hρc (.slice none 0 0)] at hg
      exact Good.value hg
    ·cases hk
 case unOp op t y =>
  split at hk <;> simp only [Option.some.injEq, Prod.mk.injEq, reduceCtorEq] at hk <;> obtain ⟨rfl, rfl⟩ := hk <;> exact absurd rfl hq
 case convert src dst y =>
  split at hk
  ·simp only [Option.some.injEq, Prod.mk.injEq] at hk; obtain ⟨rfl, rfl⟩ := hk; exact absurd rfl hq
  ·simp only [Option.some.injEq, Prod.mk.injEq] at hk; obtain ⟨rfl, rfl⟩ := hk; exact absurd rfl hq
  ·split at hk
   ·simp only [Option.some.injEq, Prod.mk.injEq] at hk; obtain ⟨rfl, rfl⟩ := hk; cases fl <;> exact absurd rfl hq
   ·cases hk
  ·rename_i e e' h1 h2
   split at hk
   ·rename_i h3
    split at hk
    ·rename_i hc
     obtain ⟨rfl, hsz⟩ := hc
     simp only [Option.some.injEq, Prod.mk.injEq] at hk
     obtain ⟨rfl, rfl⟩ := hk
     exact Good.value (Z5b h1 h3 hv h r)
    ·cases hk
   ·cases hk
  ·cases hk
 case makeInterface t y =>
  split at hk
  ·cases hk
  ·simp only [Option.some.injEq, Prod.mk.injEq] at hk; obtain ⟨rfl, rfl⟩ := hk; exact absurd rfl hq
  ·cases hk
 case makeFunc fn first captured =>
  cases fn <;> simp only [kOf, reduceCtorEq, Option.some.injEq, Prod.mk.injEq] at hk
  obtain ⟨rfl, rfl⟩ := hk
  exact absurd rfl hq
 case makeSlice t l c =>
  simp only [Option.bind_eq_bind, Option.bind_eq_some_iff, Option.pure_def] at hk
  obtain ⟨e, he, i, hi, z, hz, hk⟩ := hk
  split at hk
  ·rename_i hc
   simp only [Option.some.injEq, Prod.mk.injEq] at hk
   obtain ⟨rfl, rfl⟩ := hk
   have hz' : i.zero.bind Z2e = some z := by simpa [Option.bind_eq_some_iff] using hz
   exact Good.value (Z5h (Z4p he) hi hz' hc.1 hc.2 hv h r)
  ·cases hk
 case slice t y lo hi mx =>
  split at hk
  ·rename_i e he
   simp only [Option.bind_eq_bind, Option.bind_eq_some_iff, Option.pure_def] at hk
   obtain ⟨s, hs, hk⟩ := hk
   split at hk
   ·simp only [Option.some.injEq, Prod.mk.injEq] at hk
    obtain ⟨rfl, rfl⟩ := hk
    exact Good.value (Z5t he hs hv h r)
   ·simp only [Option.some.injEq, Prod.mk.injEq] at hk; obtain ⟨rfl, rfl⟩ := hk; exact absurd rfl hq
  ·split at hk
   ·simp only [Option.some.injEq, Prod.mk.injEq] at hk; obtain ⟨rfl, rfl⟩ := hk; exact absurd rfl hq
   ·cases hk
  ·cases hk
 case fieldAddr t y i =>
  simp only [Option.bind_eq_bind, Option.bind_eq_some_iff, Option.pure_def] at hk
  obtain ⟨f, hf, s, hs, hk⟩ := hk
  split at hk
  ·cases hk
  ·simp only [Option.some.injEq, Prod.mk.injEq] at hk; obtain ⟨rfl, rfl⟩ := hk; exact absurd rfl hq
 case field t y i =>
  simp only [Option.bind_eq_bind, Option.bind_eq_some_iff, Option.pure_def, Option.some.injEq, Prod.mk.injEq] at hk
  obtain ⟨f, hf, g, hg, s, hs, rfl, rfl⟩ := hk
  exact absurd rfl hq
 case indexAddr t y i =>
  simp only [Option.bind_eq_bind, Option.bind_eq_some_iff, Option.pure_def, Option.some.injEq, Prod.mk.injEq] at hk
  obtain ⟨e, he, s, hs, rfl, rfl⟩ := hk
  exact absurd rfl hq
 case index t y i =>
  split at hk
  ·simp only [Option.some.injEq, Prod.mk.injEq] at hk; obtain ⟨rfl, rfl⟩ := hk; exact absurd rfl hq
  ·cases hk
 case panic y => obtain ⟨rfl, rfl⟩ := hk; exact absurd rfl hq
 case extract t i => obtain ⟨rfl, rfl⟩ := hk; exact absurd rfl hq
 case call c =>
  obtain ⟨callee, args, ats⟩ := c
  cases callee with
  | value f =>
   cases f <;> simp only [kOf, reduceCtorEq, Option.some.injEq, Prod.mk.injEq] at hk
   ·rename_i t
    obtain ⟨rfl, rfl⟩ := hk
    cases vs with
    | nil => cases hv
    | cons a l =>
     obtain ⟨h1, h2⟩ := hv.inv
     simp only [Z26, Z22] at h
     split at h
     ·rename_i f first caps l' e
      simp only [List.cons.injEq] at e
      obtain ⟨rfl, rfl⟩ := e
      obtain ⟨hg, _, h⟩ := h
      obtain ⟨v1, v2, e1, h3, h4⟩ := h1.fn_inv
      have hargs : Z1 K (first ++ l ++ caps) ((v1.toArray ++ args.map ρ) ++ v2.toArray).toList := by
       have := (h3.append h2).append h4
       simpa using this
      have := Z5v hg hargs h r
      simp only [execOp, resolve, e1, Deferred.ofValue, Sem.run_bind, Sem.run_pure, Result.andThen_ok, invoke]
      exact this
     ·exact h.elim
   ·rename_i f
    split at hk
    ·rename_i hg
     simp only [Option.some.injEq, Prod.mk.injEq] at hk
     obtain ⟨rfl, rfl⟩ := hk
     have hargs : Z1 K vs ((#[] ++ args.map ρ) ++ #[] : Array Value).toList := by simpa using hv
     have := Z5v hg hargs h.2 r
     simp only [execOp, resolve, hρf, Deferred.ofValue, Sem.run_bind, Sem.run_pure, Result.andThen_ok, invoke]
     exact this
    ·cases hk
  | invoke a b => simp only [kOf, reduceCtorEq] at hk
  | builtin b =>
   cases b <;> simp only [kOf, reduceCtorEq, Option.some.injEq, Prod.mk.injEq] at hk
   case append =>
    simp only [Option.bind_eq_bind, Option.bind_eq_some_iff, Option.pure_def] at hk
    obtain ⟨t, ht, u, hu, e, he, i, hi, z, hz, hk⟩ := hk
    split at hk
    ·cases hk
    ·rename_i hc
     simp only [not_or, ne_eq, Decidable.not_not] at hc
     obtain ⟨c1, c2, c3, c4⟩ := hc
     obtain ⟨y1, y2, hy⟩ := Z53 (l := args.toList) (by simpa using c1)
     have hargs : args.map ρ = #[ρ y1, ρ y2] := by apply Array.ext'; simp [hy]
     have hats : ∀ s x : Value, Builtin.append_ ats type #[s, x] = Builtin.append_ #[t, u] type #[s, x] := by
      intro s x
      simp only [Builtin.append_, ht, hu]
      rfl
     have hz' : i.zero.bind Z2e = some z := by simpa [Option.bind_eq_some_iff] using hz
     have hgood : ∀ res : Z31 K R ((Builtin.append_ #[t, u] type #[ρ y1, ρ y2]).run P w), Good P K R ((execOp ρ ⟨dst, .call ⟨.builtin .append, args, ats⟩, type, pos, after, guard⟩).run P w) := by
      intro res
      rw [← hats, ← hargs] at res
      exact Good.value res
     split at hk
     ·rename_i h4
      simp only [Option.some.injEq, Prod.mk.injEq] at hk
      obtain ⟨rfl, rfl⟩ := hk
      obtain ⟨e', he'⟩ := Z4y h4
      rw [hy] at hv
      exact hgood (Z5o (Z4p he) he' (fun k => by simp) hi hz' c2 (by omega) (by omega) hv h r)
     ·split at hk
      ·rename_i h4
       simp only [Option.some.injEq, Prod.mk.injEq] at hk
       obtain ⟨rfl, rfl⟩ := hk
       have hus : P.underlying u = some .string := by
        have := h4.1
        unfold Z2k at this
        split at this <;> first | assumption | (simp at this)
       rw [hy] at hv
       exact hgood (Z5p (Z4p he) hus hi hz' c2 h4.2.1 h4.2.2 hv h r)
      ·cases hk
   case copy =>
    simp only [Option.bind_eq_bind, Option.bind_eq_some_iff, Option.pure_def] at hk
    obtain ⟨t, ht, u, hu, e, he, i, hi, hk⟩ := hk
    split at hk
    ·cases hk
    ·rename_i hc
     simp only [not_or, ne_eq, Decidable.not_not] at hc
     obtain ⟨c1, c2⟩ := hc
     simp only [Option.some.injEq, Prod.mk.injEq] at hk
     obtain ⟨rfl, rfl⟩ := hk
     obtain ⟨y1, y2, hy⟩ := Z53 (l := args.toList) (by simpa using c1)
     have hargs : args.map ρ = #[ρ y1, ρ y2] := by apply Array.ext'; simp [hy]
     have hats : ∀ s x : Value, Builtin.copy_ ats type #[s, x] = Builtin.copy_ #[t, u] type #[s, x] := by
      intro s x
      simp only [Builtin.copy_, ht, hu]
      rfl
     rw [hy] at hv
     have res := Z5s (ty := type) (u := u) (Z4p he) (by rw [hi, Option.map_some, c2]) hv h r
     rw [← hats, ← hargs] at res
     exact Good.value res
   case len =>
    simp only [Option.bind_eq_bind, Option.bind_eq_some_iff, Option.pure_def] at hk
    obtain ⟨t, ht, hk⟩ := hk
    split at hk
    ·cases hk
    ·split at hk
     ·simp only [Option.some.injEq, Prod.mk.injEq] at hk; obtain ⟨rfl, rfl⟩ := hk; exact absurd rfl hq
     ·split at hk
      ·simp only [Option.some.injEq, Prod.mk.injEq] at hk; obtain ⟨rfl, rfl⟩ := hk; exact absurd rfl hq
      ·cases hk
   case min => obtain ⟨rfl, rfl⟩ := hk; exact absurd rfl hq
   case max => obtain ⟨rfl, rfl⟩ := hk; exact absurd rfl hq
end Go.Abs
namespace Go.Abs
open Go Go.RowKit
variable {P : Program} {K : Kr} {σ : Zc} {w : World} {N : Nat} {rd : Option Nat}
def fen (rd : Option Nat) : Fence := { Fence.wide with round := rd }
theorem Z5y (rd : Option Nat) : (fen rd).depth.isSome = true → 1 ≤ 0 := fun h => by simp [fen, Fence.wide] at h
theorem Z5z {f : FuncId} {args : Array Value} {R : Ending → World → Prop} (h : Calls P f args w R) (n : Nat) : CallsIn (fen rd) n P f args w R := callsIn_wide.2 h
structure FRel (K : Kr) (N : Nat) (F : Z27) (tmps : Array Value) : Prop where
 size : tmps.size = N
 at_ : ∀ i x, F i = some x → VR K x (tmps.getD i undef)
theorem VR.mono {K K' : Kr} {x : Z0} {v : Value} (h : VR K x v) (hK : K.le K') : VR K' x v := Z1.mono hK h
theorem FRel.mono {F : Z27} {tmps : Array Value} (h : FRel K N F tmps) {K' : Kr} (hK : K.le K') : FRel K' N F tmps := ⟨h.size, fun i x e => (h.at_ i x e).mono hK⟩
def Z60 (K0 K : Kr) (l : List Deferred) : Prop :=
 l.Nodup ∧ ∀ d ∈ l, ∃ D, d = { target := .collected D, args := #[] } ∧ K0.w0.heap.size ≤ D ∧ K0.wo.heap.size ≤ D ∧ K.wo.heap[D]? = some (.deferred (some []))
theorem Z60.nil (K0 K : Kr) : Z60 K0 K [] := ⟨List.nodup_nil, fun d hd => by cases hd⟩
theorem Z60.mono {K0 K K' : Kr} {l : List Deferred} (h : Z60 K0 K l) (hk : K.le K') : Z60 K0 K' l :=
 ⟨h.1, fun d hd => by
  obtain ⟨D, h1, h2, h3, h4⟩ := h.2 d hd
  exact ⟨D, h1, h2, h3, hk.wo.same D _ h4 (fun _ _ _ e => by cases e)⟩⟩
def St (K0 : Kr) (N : Nat) (Q : Z27 → Zc → Prop) (a : Act) (w : World) : Prop :=
 ∃ K F σ, K0.le K ∧ Rel K σ w ∧ FRel K N F a.tmps ∧ Z60 K0 K a.defers ∧ Q F σ
theorem St.mono {K0 : Kr} {Q Q' : Z27 → Zc → Prop} {a : Act} (h : St K0 N Q a w) (hQ : ∀ F σ, Q F σ → Q' F σ) : St K0 N Q' a w := by
 obtain ⟨K, F, σ, h1, h2, h3, h4, h5⟩ := h
 exact ⟨K, F, σ, h1, h2, h3, h4, hQ _ _ h5⟩
theorem St.drew {K0 : Kr} {Q : Z27 → Zc → Prop} {a : Act} (h : St K0 N Q a w) : St K0 N Q a w.drew := by
 obtain ⟨K, F, σ, h1, h2, h3, h4, h5⟩ := h
 exact ⟨K, F, σ, h1, h2.drew, h3, h4, h5⟩
theorem Z61 {F : Z27} {a : Act} (hF : FRel K N F a.tmps) {x : Operand} {y : Zw} (h : opdA x = some y) {v : Z0} (he : ev F y = some v) : VR K v (a.eval x) := by
 unfold opdA at h
 split at h
 ·simp only [Option.some.injEq] at h; subst h
  exact hF.at_ _ _ he
 ·rename_i u
  simp only [Option.map_eq_some_iff] at h
  obtain ⟨z, hz, rfl⟩ := h
  simp only [ev, Option.some.injEq] at he; subst he
  exact (Z2h hz).1
 ·simp only [Option.some.injEq] at h; subst h
  simp only [ev, Option.some.injEq] at he; subst he
  exact Z1.fn (v1 := []) (v2 := []) .nil .nil .nil
 ·cases h
theorem Z62 {F : Z27} {y : Zw} {l : List Zw} {vs : List Z0} (h : evs F (y :: l) = some vs) : ∃ v vs', ev F y = some v ∧ evs F l = some vs' ∧ vs = v :: vs' := by
 simp only [evs] at h
 split at h
 ·rename_i v vs' h1 h2
  simp only [Option.some.injEq] at h
  exact ⟨v, vs', h1, h2, h.symm⟩
 ·cases h
theorem Z63 {F : Z27} {a : Act} (hF : FRel K N F a.tmps) : ∀ {xs : List Operand} {l : List Zw} {vs : List Z0}, xs.mapM opdA = some l → evs F l = some vs → Z1 K vs (xs.map a.eval)
 | [], l, vs, h, he => by
  simp at h; subst h
  simp [evs] at he; subst he
  exact .nil
 | x :: xs, l, vs, h, he => by
  simp only [List.mapM_cons, Option.bind_eq_bind, Option.bind_eq_some_iff, Option.pure_def, Option.some.injEq] at h
  obtain ⟨y, hy, l', hl, rfl⟩ := h
  obtain ⟨v, vs', h1, h2, rfl⟩ := Z62 he
  exact .cons (Z61 hF hy h1) (Z63 hF hl h2)
theorem FRel.put {F : Z27} {a : Act} (hF : FRel K N F a.tmps) (dst : Option Nat) (hd : ∀ d, dst = some d → d < N) {r : Z0} {v : Value} (h : VR K r v) : FRel K N (fput dst (some r) F) (a.put dst v).tmps := by
 cases dst with
 | none => exact hF
 | some d =>
  refine ⟨by simp [Act.put, hF.size], fun i x e => ?_⟩
  simp only [fput, fset] at e
  simp only [Act.put]
  split at e
  ·rename_i hi
   subst hi
   simp only [Option.some.injEq] at e; subst e
   have := hd i rfl
   simp [hF.size, this]
   exact h
  ·rename_i hi
   have := hF.at_ i x e
   simpa [Array.getElem?_setIfInBounds_ne (fun e => hi e.symm)] using this
theorem VR.undef : VR K (.tup []) undef := Z1.tup (vs := []) .nil .nil
theorem FRel.putNone {F : Z27} {a : Act} (hF : FRel K N F a.tmps) (dst : Option Nat) : FRel K N (fput dst (some (.tup [])) F) (a.put dst undef).tmps := by
 cases dst with
 | none => exact hF
 | some d =>
  refine ⟨by simp [Act.put, hF.size], fun i x e => ?_⟩
  simp only [fput, fset] at e
  simp only [Act.put]
  split at e
  ·rename_i hi
   subst hi
   simp only [Option.some.injEq] at e; subst e
   have : (a.tmps.setIfInBounds i undef).getD i undef = undef := by by_cases hlt : i < a.tmps.size <;> simp [hlt]
   rw [this]
   exact VR.undef
  ·rename_i hi
   have := hF.at_ i x e
   simpa [Array.getElem?_setIfInBounds_ne (fun e => hi e.symm)] using this
theorem Z64 {ops : Array Oper} {fl : Bool} {o : Oper} {ao : Z2b} (h : Z2q P N ops fl o = some ao) :
  ∃ xs, kOf P fl o = some (ao.k, xs) ∧ xs.mapM opdA = some ao.args ∧ ao.dst = o.dst ∧ (∀ d, o.dst = some d → d < N) ∧
   (o.guard = none ∧ ao.guard = none ∨ ∃ j want g, o.guard = some (j, want) ∧ (ops[j]?).bind (·.dst) = some g ∧ ao.guard = some (g, want)) := by
 unfold Z2q at h
 simp only [Option.bind_eq_some_iff] at h
 obtain ⟨⟨k, xs⟩, hk, args, ha, g, hg, h⟩ := h
 simp only at ha h
 split at h
 ·rename_i hd
  simp only [Option.some.injEq] at h
  subst h
  refine ⟨xs, hk, ha, rfl, ?_, ?_⟩
  ·intro d e
   rw [e] at hd
   simpa [Z2p] using hd
  ·cases e : o.guard with
   | none =>
    rw [e] at hg
    simp only [Z2o, Option.some.injEq] at hg
    exact .inl ⟨rfl, hg.symm⟩
   | some p =>
    obtain ⟨j, want⟩ := p
    rw [e] at hg
    simp only [Z2o, Option.map_eq_some_iff] at hg
    obtain ⟨g', hg', rfl⟩ := hg
    exact .inr ⟨j, want, g', rfl, hg', rfl⟩
 ·cases h
theorem Z65 {ops : Array Oper} {F : Z27} {a : Act} (hF : FRel K N F a.tmps) {j g : Nat} (hj : (ops[j]?).bind (·.dst) = some g) {b : Bool} (hg : F g = some (.bool b)) : yielded ops a.tmps j = some b := by
 have h := (hF.at_ g _ hg).bool_inv
 unfold yielded
 have e : a.tmps[g]? = some (.bool b) := by
  by_cases hlt : g < a.tmps.size
  ·simp [hlt] at h ⊢; exact h
  ·simp [hlt] at h
   simp [undef] at h
 rw [hj]
 simp [e]
theorem Z66 {ops : Array Oper} {F : Z27} {a : Act} (hF : FRel K N F a.tmps) {j g : Nat} (hj : (ops[j]?).bind (·.dst) = some g) {b : Option Bool} (hg : gval (F g) = some b) : yielded ops a.tmps j = b := by
 cases hb : b with
 | some b' =>
  subst hb
  refine Z65 hF hj ?_
  unfold gval at hg
  split at hg
  ·rename_i b2 e2
   simp only [Option.some.injEq] at hg
   subst hg
   exact e2
  ·simp at hg
  ·simp at hg
 | none =>
  subst hb
  have hg' : F g = some (.tup []) := by
   unfold gval at hg
   split at hg
   ·simp at hg
   ·rename_i e2; exact e2
   ·simp at hg
  have h := hF.at_ g _ hg'
  unfold yielded
  rw [hj]
  have e : a.tmps.getD g undef = .tuple #[] := by
   generalize a.tmps.getD g undef = v at h
   unfold VR at h
   cases h with
   | tup hv r => rw [hv.nil_inv]
  by_cases hlt : g < a.tmps.size
  ·simp [hlt] at e
   simp [hlt, e]
  ·simp [hlt]
theorem Z67 {F : Z27} : ∀ {l m : List Zw} {ws : List Z0}, evs F (l ++ m) = some ws → ∃ vs us, ws = vs ++ us ∧ evs F l = some vs ∧ evs F m = some us ∧ vs.length = l.length
 | [], m, ws, h => ⟨[], ws, rfl, rfl, h, rfl⟩
 | x :: l, m, ws, h => by
  simp only [List.cons_append, evs] at h
  cases hx : ev F x with
  | none => rw [hx] at h; simp at h
  | some v =>
   rw [hx] at h
   cases hl : evs F (l ++ m) with
   | none => rw [hl] at h; simp at h
   | some vs' =>
    rw [hl] at h
    simp only [Option.some.injEq] at h
    subst h
    obtain ⟨vs, us, rfl, h1, h2, h3⟩ := Z67 hl
    exact ⟨v :: vs, us, rfl, by simp only [evs, hx, h1], h2, by simp [h3]⟩
theorem Z68 {F : Z27} : ∀ {l : List Zw} {vs : List Z0}, evs F l = some vs → vs.length = l.length
 | [], vs, h => by simp only [evs, Option.some.injEq] at h; subst h; rfl
 | x :: l, vs, h => by
  simp only [evs] at h
  split at h
  ·rename_i v ws _ hw
   simp only [Option.some.injEq] at h
   subst h
   rw [List.length_cons, List.length_cons, Z68 hw]
  ·cases h
theorem Z69 {fl : Bool} {gs : List Nat} {o : Z2b} {F : Z27} {σ : Zc} {Q : Z27 → Zc → Prop} (h : arun P (modA fl gs o) F σ Q) : arun P o F σ Q := by
 unfold modA at h
 split at h
 ·rename_i f hf
  split at h
  ·obtain ⟨vs, hvs, h⟩ := h
   refine ⟨vs, hvs, ?_⟩
   rw [hf]
   obtain ⟨v, h1, h2⟩ := h
   exact ⟨⟨v, σ, h2⟩, (h1 σ).mono fun r τ ⟨e1, e2⟩ => by rw [e1, e2]; exact h2⟩
  ·split at h
   ·exact h
   ·obtain ⟨ws, hws, h⟩ := h
    obtain ⟨vs, us, rfl, h1, h2, h3⟩ := Z67 hws
    refine ⟨vs, h1, ?_⟩
    rw [hf]
    obtain ⟨⟨r, σ', _, h4⟩, h5⟩ := h
    rw [List.take_append_of_le_length (by omega), List.take_of_length_le (by omega)] at h5
    exact ⟨⟨r, σ', h4⟩, h5.mono fun r τ h => h.2⟩
 ·rename_i ag sz hf
  split at h
  ·exact h
  ·obtain ⟨ws, hws, h⟩ := h
   obtain ⟨vs, us, rfl, h1, h2, h3⟩ := Z67 hws
   refine ⟨vs, h1, ?_⟩
   rw [hf]
   obtain ⟨v, h4, h5⟩ := h
   refine ⟨v, ?_, h5⟩
   have hu : us.length = 1 := Z68 h2
   simp only [Z1r] at h4 ⊢
   unfold Z1q at h4
   split at h4
   ·rename_i b i o w e
    have hl := congrArg List.length e
    rw [List.length_append, hu] at hl
    simp only [List.length_cons, List.length_nil] at hl
    match vs, hl with
    | [x], _ =>
    match us, hu with
    | [y], _ =>
    simp only [List.cons_append, List.nil_append, List.cons.injEq, and_true] at e
    obtain ⟨rfl, rfl⟩ := e
    split at h4
    ·exact h4
    ·cases h4
   ·cases h4
 ·exact h
theorem Z6a (fl : Bool) (gs : List Nat) (o : Z2b) : (modA fl gs o).dst = o.dst := by
 unfold modA; repeat' split <;> try rfl
theorem Z6b (fl : Bool) (gs : List Nat) (o : Z2b) : (modA fl gs o).guard = o.guard := by
 unfold modA; repeat' split <;> try rfl
theorem Z6c {fl : Bool} {gs : List Nat} {o : Z2b} {F : Z27} {σ : Zc} {Q : Z27 → Zc → Prop} (h : aop P (modA fl gs o) F σ Q) : aop P o F σ Q := by
 unfold aop at h ⊢
 rw [Z6b] at h
 split at h
 ·exact Z69 h
 ·obtain ⟨b, h1, h2, h3⟩ := h
  rw [Z6a] at h3
  exact ⟨b, h1, fun e => Z69 (h2 e), h3⟩
theorem Z6d {ops : Array Oper} {fl : Bool} {o : Oper} {ao : Z2b} (ho : Z2q P N ops fl o = some ao) {K0 : Kr} {Q : Z27 → Zc → Prop} {a : Act} {Qc : Exit → Act → World → Prop} (h : St K0 N (fun F σ => aop P ao F σ Q) a w) :
  if Region.wanted o (yielded ops a.tmps) then o.wpIn (fen rd) 0 P a w (St K0 N Q) Qc else St K0 N Q (a.put o.dst undef) w := by
 obtain ⟨K, F, σ, hK, hr, hF, hd, h⟩ := h
 obtain ⟨xs, hk, hxs, hdst, hdN, hg⟩ := Z64 ho
 have run : arun P ao F σ Q → o.wpIn (fen rd) 0 P a w (St K0 N Q) Qc := by
  rintro ⟨vs, hvs, hst⟩
  have hv := Z63 hF hxs hvs
  have hgood := Z5x hk (ρ := a.eval) (fun v => rfl) (fun f => rfl) hv hr hst
  unfold Oper.wpIn
  refine ⟨fun _ _ => trivial, ?_⟩
  rw [Oper.semAt_eq _ _ _ (fun c e => by simp [kOf, e] at hk)]
  cases hres : (execOp a.eval o).run P w with
  | halt y w' => rw [hres] at hgood; exact hgood.elim
  | ok n w' =>
   rw [hres] at hgood
   cases n <;> simp only [Good] at hgood
   case value v =>
    obtain ⟨K', r, σ', h1, h2, h3, h4⟩ := hgood
    refine ⟨K', _, σ', hK.trans h1, h2, ?_, ?_, h4⟩
    ·rw [hdst]
     exact (hF.mono h1).put _ hdN h3
    ·cases o.dst <;> exact hd.mono h1
   case skip =>
    obtain ⟨K', σ', h1, h2, h4⟩ := hgood
    refine ⟨K', _, σ', hK.trans h1, h2, ?_, ?_, h4⟩
    ·rw [hdst]
     exact (hF.mono h1).put _ hdN (Z1.tup (vs := []) .nil .nil)
    ·cases o.dst <;> exact hd.mono h1
   case enter f args =>
    simp only [Oper.uponIn]
    refine ⟨Z5y rd, Z5z ?_ _⟩
    refine hgood.mono fun e w'' ⟨v, K', r, σ', he, h1, h2, h3, h4⟩ => ?_
    subst he
    refine ⟨K', _, σ', hK.trans h1, h2, ?_, ?_, h4⟩
    ·rw [hdst]
     exact (hF.mono h1).put _ hdN h3
    ·cases o.dst <;> exact hd.mono h1
 unfold aop at h
 rcases hg with ⟨e1, e2⟩ | ⟨j, want, g, e1, e2, e3⟩
 ·rw [e2] at h
  rw [if_pos (by simp [Region.wanted, e1])]
  exact run h
 ·rw [e3] at h
  obtain ⟨b, hb, h1, h2⟩ := h
  have hy := Z66 hF e2 hb
  have hw : Region.wanted o (yielded ops a.tmps) = (b == some want) := by
   simp [Region.wanted, e1, hy]
  rw [hw]
  by_cases hbw : b = some want
  ·subst hbw
   simp only [beq_self_eq_true, if_true]
   exact run (h1 rfl)
  ·have : (b == some want) = false := by simpa using hbw
   rw [this]
   simp only [Bool.false_eq_true, if_false]
   refine ⟨K, _, σ, hK, hr, ?_, ?_, h2 hbw⟩
   ·rw [hdst]; exact hF.putNone _
   ·cases o.dst <;> exact hd
theorem Z6e {ops : Array Oper} {fl : List Nat} {K0 : Kr} {Q : Z27 → Zc → Prop} {Qc : Exit → Act → World → Prop} (hQ : ∀ a w, St K0 N Q a w → Qc .normal a w) : ∀ (l : List Oper) (i : Nat) (al : List Z2b) (a : Act) (w : World),
  Z2y P N ops fl i l = some al → St K0 N (fun F σ => aops P al F σ Q) a w → wpListIn (fen rd) 0 P ops Qc l a w
 | [], i, al, a, w, h, hs => by
  simp [Z2y] at h; subst h
  exact hQ a w hs
 | o :: l, i, al, a, w, h, hs => by
  simp only [Z2y, Option.bind_eq_bind, Option.bind_eq_some_iff, Option.pure_def, Option.some.injEq] at h
  obtain ⟨ao, ho, al', hl, rfl⟩ := h
  have hs' : St K0 N (fun F σ => aop P ao F σ fun F σ => aops P al' F σ Q) a w := by
   obtain ⟨K, F, σ, h1, h2, h3, h4, h5⟩ := hs
   exact ⟨K, F, σ, h1, h2, h3, h4, Z6c h5⟩
  have hstep := Z6d (rd := rd) (Q := fun F σ => aops P al' F σ Q) (Qc := Qc) ho hs'
  unfold wpListIn
  split
  ·rename_i hw
   rw [if_pos hw] at hstep
   exact Oper.wpIn_mono (fun a' w' h' => Z6e hQ l (i + 1) al' a' w' hl h') hstep
  ·rename_i hw
   rw [if_neg hw] at hstep
   exact ⟨fun _ _ => trivial, Z6e hQ l (i + 1) al' _ w hl hstep⟩
theorem Z6f {id : Nat} {ops : Array Oper} {fl : List Nat} {al : List Z2b} (hc : Z2y P N ops fl 0 ops.toList = some al) {K0 : Kr} {Q : Z27 → Zc → Prop} {Qc : Exit → Act → World → Prop} {a : Act} (hQ : ∀ a w, St K0 N Q a w → Qc .normal a w)
  (h : St K0 N (fun F σ => aops P al F σ Q) a w) : (Code.region id ops false).wpIn (fen rd) 0 P Qc a w :=
 wpIn_region_list (Z6e hQ ops.toList 0 al a w hc h)
end Go.Abs
namespace Go.Abs
open Go Go.RowKit
variable {P : Program} {N : Nat}
theorem Z6g {k : AK} {vs : List Z0} {σ : Zc} {R R' : Z0 → Zc → Prop} (hR : ∀ r σ', R r σ' → R' r σ') (h : Z26 P k vs σ R) : Z26 P k vs σ R' := by
 have hnew : ∀ {sz : Nat} {xs : List Z0} {f : Nat → Z0}, enew sz xs σ (fun b σ' => R (f b) σ') → enew sz xs σ (fun b σ' => R' (f b) σ') := fun h b hb => hR _ _ (h b hb)
 have happ : ∀ {sz byt : Nat} {s : Z0} {ys : List Z0}, eapp sz byt s ys σ R → eapp sz byt s ys σ R' := by
  intro sz byt s ys h
  unfold eapp at h ⊢
  split at h
  ·rename_i z xs
   obtain ⟨h1, h2, h3⟩ := h
   refine ⟨h1, h2, ?_⟩
   cases xs with
   | nil => exact hnew h3
   | cons x xs => exact ⟨fun e => hR _ _ (h3.1 e), fun e => hnew (h3.2 e)⟩
  ·obtain ⟨xs, h1, h2, h3, h4⟩ := h
   exact ⟨xs, h1, h2, h3, fun b' hb' => hR _ _ (h4 b' hb')⟩
  ·exact h.elim
 cases k <;> simp only [Z26] at h ⊢
 case store sz =>
  unfold Z1u at h ⊢
  split at h
  ·obtain ⟨s, xs, x, h1, h2, h3, h4, h5, h6⟩ := h
   exact ⟨s, xs, x, h1, h2, h3, h4, h5, hR _ _ h6⟩
  ·exact h.elim
 case alloc z => exact ⟨h.1, h.2.1, hnew h.2.2⟩
 case box sz =>
  unfold ebox at h ⊢
  split at h
  ·exact ⟨h.1, hnew h.2⟩
  ·exact h.elim
 case bslo sz => exact ⟨h.1, hnew h.2⟩
 case strish sz =>
  unfold Z1w at h ⊢
  split at h
  ·obtain ⟨xs, h1, h2, h3, h4⟩ := h
   exact ⟨xs, h1, h2, h3, hR _ _ h4⟩
  ·exact h.elim
 case isnil neg =>
  unfold Z1x at h ⊢
  split at h
  ·exact ⟨fun e => hR _ _ (h.1 e), fun e t => hR _ _ (h.2 e t)⟩
  ·exact ⟨fun e => hR _ _ (h.1 e), fun e t => hR _ _ (h.2 e t)⟩
  ·exact h.elim
 case mks sz byt z =>
  unfold emks at h ⊢
  split at h
  ·obtain ⟨h1, h2, h3, h4, h5, h6⟩ := h
   exact ⟨h1, h2, h3, h4, h5, hnew h6⟩
  ·exact h.elim
 case app sz byt =>
  unfold Z1y at h ⊢
  split at h
  ·obtain ⟨ys, h1, h2⟩ := h
   exact ⟨ys, h1, happ h2⟩
  ·exact h.elim
 case apps =>
  unfold Z1z at h ⊢
  split at h
  ·exact happ h
  ·exact h.elim
 case cpy sz =>
  unfold ecpy at h ⊢
  split at h
  ·obtain ⟨xs, ys, h1, h2, h3, h4⟩ := h
   exact ⟨xs, ys, h1, h2, h3, hR _ _ h4⟩
  ·exact h.elim
 case clip sz =>
  unfold Z20 at h ⊢
  split at h
  ·obtain ⟨xs, h1, h2, h3, h4, h5, h6⟩ := h
   exact ⟨xs, h1, h2, h3, h4, h5, hR _ _ h6⟩
  ·obtain ⟨v, h1, h2⟩ := h
   exact ⟨v, h1, hR _ _ h2⟩
 case call f =>
  obtain ⟨⟨r, σ', h1⟩, h2⟩ := h
  exact ⟨⟨r, σ', hR _ _ h1⟩, h2.mono hR⟩
 case callv =>
  unfold Z22 at h ⊢
  split at h
  ·obtain ⟨h0, ⟨r, σ', h1⟩, h2⟩ := h
   exact ⟨h0, ⟨r, σ', hR _ _ h1⟩, h2.mono hR⟩
  ·exact h.elim
 case callk f n =>
  obtain ⟨⟨r, σ', h0, h1⟩, h2⟩ := h
  exact ⟨⟨r, σ', h0, hR _ _ h1⟩, h2.mono fun r σ' h => ⟨h.1, hR _ _ h.2⟩⟩
 all_goals (obtain ⟨v, h1, h2⟩ := h; exact ⟨v, h1, hR _ _ h2⟩)
theorem Z6h (σ : Zc) (n : Nat) : ∃ b, fresh σ b ∧ b ≠ n := by
 have h : ∀ l : List Nat, ∃ m, ∀ x ∈ l, x < m := by
  intro l
  induction l with
  | nil => exact ⟨0, by simp⟩
  | cons a l ih =>
   obtain ⟨m, hm⟩ := ih
   refine ⟨max m (a + 1), fun x hx => ?_⟩
   rcases List.mem_cons.1 hx with rfl | hx
   ·omega
   ·have := hm x hx; omega
 obtain ⟨m, hm⟩ := h (n :: Zh σ)
 exact ⟨m, fun hk => Nat.lt_irrefl _ (hm m (List.mem_cons_of_mem _ hk)), fun e => by have := hm n (by simp); omega⟩
theorem Z6i {k : AK} {vs : List Z0} {σ : Zc} {R : Z0 → Zc → Prop} (h : Z26 P k vs σ R) : ∃ r σ', R r σ' := by
 have hnew : ∀ {sz : Nat} {xs : List Z0} {f : Nat → Z0}, enew sz xs σ (fun b σ' => R (f b) σ') → ∃ r σ', R r σ' := fun h => by
  obtain ⟨b, hb, _⟩ := Z6h σ 0
  exact ⟨_, _, h b hb⟩
 have happ : ∀ {sz byt : Nat} {s : Z0} {ys : List Z0}, eapp sz byt s ys σ R → ∃ r σ', R r σ' := by
  intro sz byt s ys h
  unfold eapp at h
  split at h
  ·rename_i z xs
   obtain ⟨h1, h2, h3⟩ := h
   cases xs with
   | nil => exact hnew h3
   | cons x xs =>
    by_cases e : ys = []
    ·exact ⟨_, _, h3.1 e⟩
    ·exact hnew (h3.2 e)
  ·obtain ⟨xs, h1, h2, h3, h4⟩ := h
   obtain ⟨b, hb, _⟩ := Z6h σ 0
   exact ⟨_, _, h4 b hb⟩
  ·exact h.elim
 cases k <;> simp only [Z26] at h
 case store sz =>
  unfold Z1u at h
  split at h
  ·obtain ⟨s, xs, x, h1, h2, h3, h4, h5, h6⟩ := h
   exact ⟨_, _, h6⟩
  ·exact h.elim
 case alloc z => exact hnew h.2.2
 case box sz =>
  unfold ebox at h
  split at h
  ·exact hnew h.2
  ·exact h.elim
 case bslo sz => exact hnew h.2
 case strish sz =>
  unfold Z1w at h
  split at h
  ·obtain ⟨xs, h1, h2, h3, h4⟩ := h
   exact ⟨_, _, h4⟩
  ·exact h.elim
 case isnil neg =>
  unfold Z1x at h
  split at h
  ·rename_i s xs f s'
   by_cases e : xs = []
   ·exact ⟨_, _, h.2 e true⟩
   ·exact ⟨_, _, h.1 e⟩
  ·rename_i s b o n s'
   by_cases e : n = 0
   ·exact ⟨_, _, h.2 e true⟩
   ·exact ⟨_, _, h.1 (by omega)⟩
  ·exact h.elim
 case mks sz byt z =>
  unfold emks at h
  split at h
  ·obtain ⟨h1, h2, h3, h4, h5, h6⟩ := h
   exact hnew h6
  ·exact h.elim
 case app sz byt =>
  unfold Z1y at h
  split at h
  ·obtain ⟨ys, h1, h2⟩ := h
   exact happ h2
  ·exact h.elim
 case apps =>
  unfold Z1z at h
  split at h
  ·exact happ h
  ·exact h.elim
 case cpy sz =>
  unfold ecpy at h
  split at h
  ·obtain ⟨xs, ys, h1, h2, h3, h4⟩ := h
   exact ⟨_, _, h4⟩
  ·exact h.elim
 case clip sz =>
  unfold Z20 at h
  split at h
  ·obtain ⟨xs, h1, h2, h3, h4, h5, h6⟩ := h
   exact ⟨_, _, h6⟩
  ·obtain ⟨v, h1, h2⟩ := h
   exact ⟨_, _, h2⟩
 case call f => exact h.1
 case callv =>
  unfold Z22 at h
  split at h
  ·exact h.2.1
  ·exact h.elim
 case callk f n =>
  obtain ⟨⟨r, σ', h0, h1⟩, h2⟩ := h
  exact ⟨r, σ', h1⟩
 all_goals (obtain ⟨v, h1, h2⟩ := h; exact ⟨_, _, h2⟩)
def Z6j : List Z0 → Option Nat
 | [.ptr b _ _] => some b
 | [.arr _ b _ _] => some b
 | [.ptr b _ _, _] => some b
 | _ => none
theorem Z6k {k : AK} {vs : List Z0} {σ σ' : Zc} (h : ∀ b, Z6j vs = some b → Zd σ b = Zd σ' b) : Z1r k σ vs = Z1r k σ' vs := by
 cases k <;> try rfl
 case load ag sz =>
  simp only [Z1r]
  unfold Z1l
  split <;> try rfl
  rename_i b i o
  rw [h b rfl]
 case loadg ag sz =>
  simp only [Z1r]
  unfold Z1q
  split <;> try rfl
  rename_i b i o w
  unfold Z1l
  simp only
  rw [h b rfl]
 case b2s =>
  simp only [Z1r]
  unfold ab2s
  split <;> try rfl
  rename_i x
  have : Z1m σ 1 x = Z1m σ' 1 x := by
   unfold Z1m
   split <;> try rfl
   rename_i s b o n
   rw [h b rfl]
  rw [this]
theorem Z6l {k : AK} (h : k.reads = false) {vs : List Z0} {σ σ' : Zc} : Z1r k σ vs = Z1r k σ' vs := by
 cases k <;> first | rfl | (simp [AK.reads] at h)
theorem Z6m {k : AK} {vs : List Z0} {σ : Zc} {x : Z0} (hr : k.reads = true) (h : Z1r k σ vs = some x) : ∀ b, Z6j vs = some b → ∃ y, Zd σ b = some y := by
 intro b hb
 unfold Z6j at hb
 split at hb <;> simp only [Option.some.injEq, reduceCtorEq] at hb <;> subst hb
 ·cases k <;> simp only [AK.reads, Bool.false_eq_true] at hr
  ·simp only [Z1r, Z1l] at h
   split at h
   ·exact ⟨_, by assumption⟩
   ·cases h
  ·simp [Z1r, Z1q] at h
  ·simp [Z1r, ab2s, Z1m] at h
 ·cases k <;> simp only [AK.reads, Bool.false_eq_true] at hr
  ·simp [Z1r, Z1l] at h
  ·simp [Z1r, Z1q] at h
  ·simp only [Z1r, ab2s, Z1m] at h
   split at h
   ·exact ⟨_, by assumption⟩
   ·simp at h
 ·cases k <;> simp only [AK.reads, Bool.false_eq_true] at hr
  ·simp [Z1r, Z1l] at h
  ·simp only [Z1r, Z1q] at h
   split at h
   ·simp only [Z1l] at h
    split at h
    ·exact ⟨_, by assumption⟩
    ·cases h
   ·cases h
  ·simp [Z1r, ab2s] at h
theorem Z6n {σ : Zc} (nd : (Zh σ).Nodup) {b b' : Nat} {y : Zb} {n : Nat} (hb' : n ≠ b') (hn : n ≠ b) : Zd (Zf σ b b' y) n = Zd σ n := by
 induction σ with
 | nil => rfl
 | cons p σ ih =>
  obtain ⟨a, x⟩ := p
  simp only [Zj, List.nodup_cons] at nd
  simp only [Zf]
  split
  ·rename_i e
   subst e
   simp only [Zd]
   rw [if_neg (fun e => hb' e.symm), if_neg (fun e => hn e.symm)]
  ·simp only [Zd, ih nd.2]
theorem Z6o {σ : Zc} (nd : (Zh σ).Nodup) {b b' : Nat} {y z : Zb} {n : Nat} (hb' : n ≠ b') (h : Zd (Zf σ b b' y) n = some z) : n ≠ b := by
 rintro rfl
 rcases Zr nd (Zk h) with h | h
 ·exact hb' h.1
 ·exact h.1 rfl
end Go.Abs
namespace Go.Abs
open Go Go.RowKit
variable {P : Program} {N : Nat} {rd : Option Nat}
theorem Z6p {k : AK} (hq : k.quiet = true) {vs : List Z0} {σ : Zc} {R : Z0 → Zc → Prop} : Z26 P k vs σ R ↔ ∃ v, Z1r k σ vs = some v ∧ R v σ := by
 cases k <;> first | exact Iff.rfl | (simp [AK.quiet] at hq)
theorem Z6q {ky : AK} (hky : ky.quiet = true) {us : List Z0} {σ : Zc} {blk : Zb} {T : Nat → Z0 → Prop} (H : ∀ b, fresh σ b → ∃ s, Z1r ky ((b, blk) :: σ) us = some s ∧ T b s) :
  ∃ s0, Z1r ky σ us = some s0 ∧ ∀ b, fresh σ b → T b s0 := by
 have hsame : ∀ b, fresh σ b → Z1r ky ((b, blk) :: σ) us = Z1r ky σ us := by
  by_cases hr : ky.reads = true
  ·intro b hb
   refine Z6k fun n hn => ?_
   obtain ⟨b1, hb1, hne⟩ := Z6h σ n
   obtain ⟨s, hs, _⟩ := H b1 hb1
   obtain ⟨y, hy⟩ := Z6m hr hs n hn
   simp only [Zd, if_neg hne] at hy
   have hbn : b ≠ n := by
    rintro rfl
    exact hb (Zl (Zk hy))
   simp only [Zd, if_neg hbn]
  ·intro b hb
   exact Z6l (by simpa using hr)
 obtain ⟨b, hb, _⟩ := Z6h σ 0
 obtain ⟨s, hs, _⟩ := H b hb
 rw [hsame b hb] at hs
 refine ⟨s, hs, fun b' hb' => ?_⟩
 obtain ⟨s', hs', ht⟩ := H b' hb'
 rw [hsame b' hb', hs] at hs'
 simp only [Option.some.injEq] at hs'
 rw [hs']
 exact ht
theorem Z6r {ky : AK} (hky : ky.quiet = true) {us : List Z0} {σ : Zc} (nd : (Zh σ).Nodup) {b0 : Nat} {blk : Zb} {T : Nat → Z0 → Prop} (H : ∀ b, fresh σ b → ∃ s, Z1r ky (Zf σ b0 b blk) us = some s ∧ T b s) :
  ∃ s0, Z1r ky σ us = some s0 ∧ ∀ b, fresh σ b → T b s0 := by
 have hsame : ∀ b, fresh σ b → Z1r ky (Zf σ b0 b blk) us = Z1r ky σ us := by
  by_cases hr : ky.reads = true
  ·intro b hb
   refine Z6k fun n hn => ?_
   obtain ⟨b1, hb1, hne⟩ := Z6h σ n
   obtain ⟨s, hs, _⟩ := H b1 hb1
   obtain ⟨y, hy⟩ := Z6m hr hs n hn
   have hn0 := Z6o nd (fun e => hne e.symm) hy
   rw [Z6n nd (fun e => hne e.symm) hn0] at hy
   have hbn : n ≠ b := by
    rintro rfl
    exact hb (Zl (Zk hy))
   exact Z6n nd hbn hn0
  ·intro b hb
   exact Z6l (by simpa using hr)
 obtain ⟨b, hb, _⟩ := Z6h σ 0
 obtain ⟨s, hs, _⟩ := H b hb
 rw [hsame b hb] at hs
 refine ⟨s, hs, fun b' hb' => ?_⟩
 obtain ⟨s', hs', ht⟩ := H b' hb'
 rw [hsame b' hb', hs] at hs'
 simp only [Option.some.injEq] at hs'
 rw [hs']
 exact ht
theorem Z6s {k : AK} {vs : List Z0} {σ : Zc} {r : Z0} (h : Z1r k σ vs = some r) {b : Nat} (hb : fresh σ b) (blk : Zb) : Z1r k ((b, blk) :: σ) vs = some r := by
 rw [← h]
 by_cases hr : k.reads = true
 ·refine Z6k fun n hn => ?_
  obtain ⟨y, hy⟩ := Z6m hr h n hn
  have hbn : b ≠ n := by
   rintro rfl
   exact hb (Zl (Zk hy))
  simp only [Zd, if_neg hbn]
 ·exact Z6l (by simpa using hr)
theorem Z6t {ky : AK} (hq : ky.quiet = true) {us : List Z0} {σ : Zc} (nd : (Zh σ).Nodup) {sz byt : Nat} {s : Z0} {ys : List Z0} {Q : Z0 → Z0 → Zc → Prop}
  (H : eapp sz byt s ys σ fun r σ1 => ∃ v, Z1r ky σ1 us = some v ∧ Q r v σ1) : ∃ v, Z1r ky σ us = some v ∧ eapp sz byt s ys σ fun r σ1 => Q r v σ1 := by
 unfold eapp at H ⊢
 split at H
 ·rename_i z xs
  obtain ⟨h1, h2, h3⟩ := H
  cases xs with
  | nil =>
   obtain ⟨s0, e0, h⟩ := Z6q hq h3
   exact ⟨s0, e0, h1, h2, h⟩
  | cons x xs =>
   by_cases e : ys = []
   ·obtain ⟨v, hv, hQ⟩ := h3.1 e
    exact ⟨v, hv, h1, h2, fun _ => hQ, fun he => absurd e he⟩
   ·obtain ⟨s0, e0, h⟩ := Z6q hq (h3.2 e)
    exact ⟨s0, e0, h1, h2, fun he => absurd he e, fun _ => h⟩
 ·obtain ⟨xs, h1, h2, h3, h4⟩ := H
  obtain ⟨s0, e0, h⟩ := Z6r hq nd h4
  exact ⟨s0, e0, xs, h1, h2, h3, h⟩
 ·exact H.elim
theorem Z6u {σ : Zc} (nd : (Zh σ).Nodup) {b : Nat} {x : Zb} : Zd σ b = some x ↔ (b, x) ∈ σ := ⟨Zk, Zm nd⟩
theorem Z6v {σ τ : Zc} (p : σ.Perm τ) (nd : (Zh σ).Nodup) : (Zh τ).Nodup := (p.map Prod.fst).nodup_iff.1 nd
theorem Z6w {σ τ : Zc} (nd : (Zh σ).Nodup) (p : σ.Perm τ) (b : Nat) : Zd τ b = Zd σ b := by
 cases h : Zd σ b with
 | some x => exact (Z6u (Z6v p nd)).2 (p.subset ((Z6u nd).1 h))
 | none =>
  cases h' : Zd τ b with
  | none => rfl
  | some x =>
   have := (Z6u nd).2 (p.symm.subset ((Z6u (Z6v p nd)).1 h'))
   rw [h] at this; cases this
theorem Z6x {σ τ : Zc} (p : σ.Perm τ) (b : Nat) (y : Zb) : (Zh σ).Nodup → (Ze σ b y).Perm (Ze τ b y) := by
 induction p with
 | nil => intro _; exact List.Perm.refl _
 | cons x p ih =>
  intro nd
  obtain ⟨a, z⟩ := x
  simp only [Zj, List.nodup_cons] at nd
  simp only [Ze]
  split
  ·exact p.cons _
  ·exact (ih nd.2).cons _
 | swap x z l =>
  intro nd
  obtain ⟨a, u⟩ := x
  obtain ⟨c, v⟩ := z
  simp only [Zj, List.nodup_cons, List.mem_cons, not_or] at nd
  have hne := nd.1.1
  simp only [Ze]
  by_cases h1 : c = b
  ·subst h1
   rw [if_pos rfl, if_neg (fun e => hne e.symm), if_pos rfl]
   exact List.Perm.swap _ _ _
  ·rw [if_neg h1, if_neg h1]
   split <;> exact List.Perm.swap _ _ _
 | trans p1 p2 ih1 ih2 => intro nd; exact (ih1 nd).trans (ih2 (Z6v p1 nd))
theorem Z6y {σ τ : Zc} (p : σ.Perm τ) (b b' : Nat) (y : Zb) : (Zh σ).Nodup → (Zf σ b b' y).Perm (Zf τ b b' y) := by
 induction p with
 | nil => intro _; exact List.Perm.refl _
 | cons x p ih =>
  intro nd
  obtain ⟨a, z⟩ := x
  simp only [Zj, List.nodup_cons] at nd
  simp only [Zf]
  split
  ·exact p.cons _
  ·exact (ih nd.2).cons _
 | swap x z l =>
  intro nd
  obtain ⟨a, u⟩ := x
  obtain ⟨c, v⟩ := z
  simp only [Zj, List.nodup_cons, List.mem_cons, not_or] at nd
  have hne := nd.1.1
  simp only [Zf]
  by_cases h1 : c = b
  ·subst h1
   rw [if_pos rfl, if_neg (fun e => hne e.symm), if_pos rfl]
   exact List.Perm.swap _ _ _
  ·rw [if_neg h1, if_neg h1]
   split <;> exact List.Perm.swap _ _ _
 | trans p1 p2 ih1 ih2 => intro nd; exact (ih1 nd).trans (ih2 (Z6v p1 nd))
theorem Z6z {σ τ : Zc} (p : σ.Perm τ) (b : Nat) : (Zh σ).Nodup → (Zg σ b).Perm (Zg τ b) := by
 induction p with
 | nil => intro _; exact List.Perm.refl _
 | cons x p ih =>
  intro nd
  obtain ⟨a, z⟩ := x
  simp only [Zj, List.nodup_cons] at nd
  simp only [Zg]
  split
  ·exact p
  ·exact (ih nd.2).cons _
 | swap x z l =>
  intro nd
  obtain ⟨a, u⟩ := x
  obtain ⟨c, v⟩ := z
  simp only [Zj, List.nodup_cons, List.mem_cons, not_or] at nd
  have hne := nd.1.1
  simp only [Zg]
  by_cases h1 : c = b
  ·subst h1
   rw [if_pos rfl, if_neg (fun e => hne e.symm), if_pos rfl]
  ·rw [if_neg h1, if_neg h1]
   split
   ·exact List.Perm.refl _
   ·exact List.Perm.swap _ _ _
 | trans p1 p2 ih1 ih2 => intro nd; exact (ih1 nd).trans (ih2 (Z6v p1 nd))
def clo (R : Z0 → Zc → Prop) : Z0 → Zc → Prop := fun r σ => ∃ τ, τ.Perm σ ∧ R r τ
theorem Z70 {σ τ : Zc} (nd : (Zh σ).Nodup) (p : σ.Perm τ) (sz : Nat) (x : Z0) : Z1m τ sz x = Z1m σ sz x := by
 unfold Z1m
 split <;> try rfl
 rw [Z6w nd p]
theorem Z71 {k : AK} (hc : k.calls = false) {vs : List Z0} {σ τ : Zc} (nd : (Zh σ).Nodup) (p : σ.Perm τ) {R : Z0 → Zc → Prop} (h : Z26 P k vs σ R) : Z26 P k vs τ (clo R) := by
 have hfr : ∀ {b : Nat}, fresh τ b → fresh σ b := fun hb hm => hb ((p.map Prod.fst).subset hm)
 have hnew : ∀ {sz : Nat} {xs : List Z0} {f : Nat → Z0}, enew sz xs σ (fun b σ' => R (f b) σ') → enew sz xs τ (fun b σ' => clo R (f b) σ') := fun h b hb => ⟨_, p.cons _, h b (hfr hb)⟩
 have happ : ∀ {sz byt : Nat} {s : Z0} {ys : List Z0}, eapp sz byt s ys σ R → eapp sz byt s ys τ (clo R) := by
  intro sz byt s ys h
  unfold eapp at h ⊢
  split at h
  ·rename_i z xs
   obtain ⟨h1, h2, h3⟩ := h
   refine ⟨h1, h2, ?_⟩
   cases xs with
   | nil => exact hnew h3
   | cons x xs => exact ⟨fun e => ⟨_, p, h3.1 e⟩, fun e => hnew (h3.2 e)⟩
  ·obtain ⟨xs, h1, h2, h3, h4⟩ := h
   exact ⟨xs, by rw [Z6w nd p]; exact h1, h2, h3, fun b' hb' => ⟨_, Z6y p _ _ _ nd, h4 b' (hfr hb')⟩⟩
  ·exact h.elim
 cases k <;> simp only [AK.calls, Bool.true_eq_false] at hc <;> simp only [Z26] at h ⊢
 case store sz =>
  unfold Z1u at h ⊢
  split at h
  ·obtain ⟨s, xs, x, h1, h2, h3, h4, h5, h6⟩ := h
   exact ⟨s, xs, x, by rw [Z6w nd p]; exact h1, h2, h3, h4, h5, ⟨_, Z6x p _ _ nd, h6⟩⟩
  ·exact h.elim
 case alloc z => exact ⟨h.1, h.2.1, hnew h.2.2⟩
 case box sz =>
  unfold ebox at h ⊢
  split at h
  ·exact ⟨h.1, hnew h.2⟩
  ·exact h.elim
 case bslo sz => exact ⟨h.1, hnew h.2⟩
 case strish sz =>
  unfold Z1w at h ⊢
  split at h
  ·obtain ⟨xs, h1, h2, h3, h4⟩ := h
   exact ⟨xs, by rw [Z6w nd p]; exact h1, h2, h3, ⟨_, Z6z p _ nd, h4⟩⟩
  ·exact h.elim
 case isnil neg =>
  unfold Z1x at h ⊢
  split at h
  ·exact ⟨fun e => ⟨_, p, h.1 e⟩, fun e t => ⟨_, p, h.2 e t⟩⟩
  ·exact ⟨fun e => ⟨_, p, h.1 e⟩, fun e t => ⟨_, p, h.2 e t⟩⟩
  ·exact h.elim
 case mks sz byt z =>
  unfold emks at h ⊢
  split at h
  ·obtain ⟨h1, h2, h3, h4, h5, h6⟩ := h
   exact ⟨h1, h2, h3, h4, h5, hnew h6⟩
  ·exact h.elim
 case app sz byt =>
  unfold Z1y at h ⊢
  split at h
  ·obtain ⟨ys, h1, h2⟩ := h
   exact ⟨ys, by rw [Z70 nd p]; exact h1, happ h2⟩
  ·exact h.elim
 case apps =>
  unfold Z1z at h ⊢
  split at h
  ·exact happ h
  ·exact h.elim
 case cpy sz =>
  unfold ecpy at h ⊢
  split at h
  ·obtain ⟨xs, ys, h1, h2, h3, h4⟩ := h
   exact ⟨xs, ys, by rw [Z6w nd p]; exact h1, by rw [Z70 nd p]; exact h2, h3, ⟨_, Z6x p _ _ nd, h4⟩⟩
  ·exact h.elim
 case clip sz =>
  unfold Z20 at h ⊢
  split at h
  ·obtain ⟨xs, h1, h2, h3, h4, h5, h6⟩ := h
   exact ⟨xs, by rw [Z6w nd p]; exact h1, h2, h3, h4, h5, ⟨_, Z6z p _ nd, h6⟩⟩
  ·obtain ⟨v, h1, h2⟩ := h
   exact ⟨v, h1, ⟨_, p, h2⟩⟩
 case callp f =>
  obtain ⟨v, h1, h2⟩ := h
  exact ⟨v, h1, ⟨_, p, h2⟩⟩
 all_goals (
  obtain ⟨v, h1, h2⟩ := h
  exact ⟨v, by rw [← h1]; exact (Z6k fun b _ => (Z6w nd p b).symm).symm, ⟨_, p, h2⟩⟩)
theorem Z72 {kx ky : AK} (hx : kx.makes = true) (hy : ky.makes = true) {vs us : List Z0} {σ : Zc} {Q : Z0 → Z0 → Zc → Prop} (H : Z26 P kx vs σ fun r σ1 => Z26 P ky us σ1 fun s σ2 => Q r s σ2) :
  Z26 P ky us σ fun s σ1 => Z26 P kx vs σ1 fun r σ2 => ∃ τ, τ.Perm σ2 ∧ Q r s τ := by
 have form : ∀ {k : AK}, k.makes = true → ∀ (vs : List Z0) , (∃ (C : Prop) (sz : Nat) (xs : List Z0) (f : Nat → Z0), ∀ (σ : Zc) (R : Z0 → Zc → Prop), Z26 P k vs σ R ↔ C ∧ enew sz xs σ fun b σ' => R (f b) σ') := by
  intro k hk vs
  cases k <;> simp only [AK.makes, Bool.false_eq_true] at hk
  case alloc z => exact ⟨vs = [] ∧ ∀ c ∈ z.cells, c.one = true, _, _, _, fun σ R => by simp only [Z26, and_assoc]; exact Iff.rfl⟩
  case box sz =>
   match vs with
   | [v] => exact ⟨v.elem sz, _, _, _, fun σ R => Iff.rfl⟩
   | [] => exact ⟨False, 0, [], fun _ => .nilp, fun σ R => by simp [Z26, ebox]⟩
   | _ :: _ :: _ => exact ⟨False, 0, [], fun _ => .nilp, fun σ R => by simp [Z26, ebox]⟩
  case bslo sz => exact ⟨∀ v ∈ vs, v.elem sz, _, _, _, fun σ R => Iff.rfl⟩
  case mks sz byt z =>
   by_cases h : ∃ l c, vs = [.int .i64 l, .int .i64 c]
   ·obtain ⟨l, c, rfl⟩ := h
    exact ⟨z.elem sz ∧ 0 ≤ l ∧ l ≤ c ∧ c ≤ 9223372036854775807 ∧ byt * c ≤ 281474976710656, sz, List.replicate l.toNat z, fun b => .arr sz b 0 l.toNat, fun σ R => by simp only [Z26, emks, and_assoc]⟩
   ·refine ⟨False, 0, [], fun _ => .nilp, fun σ R => ?_⟩
    simp only [Z26, false_and, iff_false]
    unfold emks
    split
    ·exact absurd ⟨_, _, rfl⟩ h
    ·exact fun h => h
 obtain ⟨Cx, sx, xs, fx, hfx⟩ := form hx vs
 obtain ⟨Cy, sy, ys, fy, hfy⟩ := form hy us
 rw [hfx] at H
 obtain ⟨h1, H⟩ := H
 rw [hfy]
 have h2 : Cy := by
  obtain ⟨b, hb, _⟩ := Z6h σ 0
  exact ((hfy _ _).1 (H b hb)).1
 refine ⟨h2, fun b2 hb2 => ?_⟩
 refine (hfx _ _).2 ⟨h1, fun b1 hb1 => ?_⟩
 have hb1' : fresh σ b1 ∧ b1 ≠ b2 := by
  unfold fresh at hb1 ⊢
  simp only [Zj, List.mem_cons, not_or] at hb1
  exact ⟨hb1.2, hb1.1⟩
 have := (hfy _ _).1 (H b1 hb1'.1)
 have hb2' : fresh ((b1, Zb.cells sx xs) :: σ) b2 := by
  unfold fresh at hb2 ⊢
  simp only [Zj, List.mem_cons, not_or]
  exact ⟨fun e => hb1'.2 e.symm, hb2⟩
 exact ⟨_, List.Perm.swap _ _ _, this.2 b2 hb2'⟩
theorem Z73 {k : AK} (hk : k.makes = true) (vs : List Z0) : ∃ (C : Prop) (sz : Nat) (xs : List Z0) (f : Nat → Z0), ∀ (σ : Zc) (R : Z0 → Zc → Prop), Z26 P k vs σ R ↔ C ∧ enew sz xs σ fun b σ' => R (f b) σ' := by
 cases k <;> simp only [AK.makes, Bool.false_eq_true] at hk
 case alloc z => exact ⟨vs = [] ∧ ∀ c ∈ z.cells, c.one = true, _, _, _, fun σ R => by simp only [Z26, and_assoc]; exact Iff.rfl⟩
 case box sz =>
  match vs with
  | [v] => exact ⟨v.elem sz, _, _, _, fun σ R => Iff.rfl⟩
  | [] => exact ⟨False, 0, [], fun _ => .nilp, fun σ R => by simp [Z26, ebox]⟩
  | _ :: _ :: _ => exact ⟨False, 0, [], fun _ => .nilp, fun σ R => by simp [Z26, ebox]⟩
 case bslo sz => exact ⟨∀ v ∈ vs, v.elem sz, _, _, _, fun σ R => Iff.rfl⟩
 case mks sz byt z =>
  by_cases h : ∃ l c, vs = [.int .i64 l, .int .i64 c]
  ·obtain ⟨l, c, rfl⟩ := h
   exact ⟨z.elem sz ∧ 0 ≤ l ∧ l ≤ c ∧ c ≤ 9223372036854775807 ∧ byt * c ≤ 281474976710656, sz, List.replicate l.toNat z, fun b => .arr sz b 0 l.toNat, fun σ R => by simp only [Z26, emks, and_assoc]⟩
  ·refine ⟨False, 0, [], fun _ => .nilp, fun σ R => ?_⟩
   simp only [Z26, false_and, iff_false]
   unfold emks
   split
   ·exact absurd ⟨_, _, rfl⟩ h
   ·exact fun h => h
theorem Z74 {σ : Zc} {b n : Nat} {blk y : Zb} (hb : fresh σ b) (h : Zd σ n = some y) : Zd ((b, blk) :: σ) n = some y := by
 have : b ≠ n := fun e => hb (by rw [e]; exact Zl (Zk h))
 simp only [Zd, if_neg this]
 exact h
theorem Z75 {σ : Zc} {sz : Nat} {x : Z0} {zs : List Z0} (h : Z1m σ sz x = some zs) {b : Nat} (hb : fresh σ b) (blk : Zb) : Z1m ((b, blk) :: σ) sz x = some zs := by
 unfold Z1m at h ⊢
 split <;> simp only at h <;> try exact h
 rename_i s n o m
 split at h
 ·rename_i y e
  rw [Z74 hb e]
  exact h
 ·cases h
theorem Z76 {σ : Zc} {b c b' : Nat} {blk y : Zb} (h : b ≠ c) : Zf ((b, blk) :: σ) c b' y = (b, blk) :: Zf σ c b' y := by
 simp only [Zf, if_neg h]
theorem Z77 {σ : Zc} (nd : (Zh σ).Nodup) {b c b' : Nat} {y : Zb} (hb : fresh σ b) (h : b ≠ b') : fresh (Zf σ c b' y) b := by
 intro hm
 obtain ⟨z, hz⟩ : ∃ z, (b, z) ∈ Zf σ c b' y := by
  obtain ⟨⟨a, z⟩, h1, h2⟩ := List.mem_map.1 hm
  exact ⟨z, by simp only at h2; rw [← h2]; exact h1⟩
 rcases Zr nd hz with h | h
 ·exact absurd h.1 (by intro e; exact absurd e ‹b ≠ b'›)
 ·exact hb (Zl h.2)
theorem Z78 {sz byt : Nat} {ky : AK} (hy : ky.makes = true) {vs us : List Z0} {σ : Zc} (nd : (Zh σ).Nodup) {Q : Z0 → Z0 → Zc → Prop} (H : Z26 P (.app sz byt) vs σ fun r σ1 => Z26 P ky us σ1 fun s σ2 => Q r s σ2) :
  Z26 P ky us σ fun s σ1 => Z26 P (.app sz byt) vs σ1 fun r σ2 => ∃ τ, τ.Perm σ2 ∧ Q r s τ := by
 obtain ⟨C, sy, ys, fy, hfy⟩ := Z73 (P := P) hy us
 obtain ⟨r0, σ0, h0⟩ := Z6i H
 have hC : C := ((hfy _ _).1 h0).1
 have H' : Z1y sz byt vs σ fun r σ1 => enew sy ys σ1 fun b σ2 => Q r (fy b) σ2 := Z6g (k := .app sz byt) (P := P) (fun r σ1 h => ((hfy _ _).1 h).2) H
 clear H h0
 rw [hfy]
 refine ⟨hC, fun b hb => ?_⟩
 show Z1y sz byt vs ((b, .cells sy ys) :: σ) _
 unfold Z1y at H' ⊢
 split at H'
 ·obtain ⟨zs, h1, h2⟩ := H'
  refine ⟨zs, Z75 h1 hb _, ?_⟩
  have new : ∀ {sz : Nat} {xs : List Z0} {r : Nat → Z0}, (enew sz xs σ fun b' σ' => enew sy ys σ' fun b σ2 => Q (r b') (fy b) σ2) → enew sz xs ((b, .cells sy ys) :: σ) fun b' σ2 => ∃ τ, τ.Perm σ2 ∧ Q (r b') (fy b) τ := by
   intro sz xs r h b' hb'
   have hb1 : fresh σ b' ∧ b' ≠ b := by
    unfold fresh at hb' ⊢
    simp only [Zj, List.mem_cons, not_or] at hb'
    exact ⟨hb'.2, hb'.1⟩
   have hb2 : fresh ((b', Zb.cells sz xs) :: σ) b := by
    unfold fresh at hb ⊢
    simp only [Zj, List.mem_cons, not_or]
    exact ⟨fun e => hb1.2 e.symm, hb⟩
   exact ⟨_, List.Perm.swap _ _ _, h b' hb1.1 b hb2⟩
  unfold eapp at h2 ⊢
  split at h2
  ·rename_i z xs
   obtain ⟨g1, g2, g3⟩ := h2
   cases xs with
   | nil => exact ⟨g1, g2, new g3⟩
   | cons x xs => exact ⟨g1, g2, fun e => ⟨_, List.Perm.refl _, g3.1 e b hb⟩, fun e => new (g3.2 e)⟩
  ·rename_i s' c n
   obtain ⟨xs, g1, g2, g3, g4⟩ := h2
   have hbc : b ≠ c := fun e => hb (by rw [e]; exact Zl (Zk g1))
   refine ⟨xs, Z74 hb g1, g2, g3, fun b' hb' => ?_⟩
   have hb1 : fresh σ b' ∧ b' ≠ b := by
    unfold fresh at hb' ⊢
    simp only [Zj, List.mem_cons, not_or] at hb'
    exact ⟨hb'.2, hb'.1⟩
   refine ⟨_, ?_, g4 b' hb1.1 b (Z77 nd hb fun e => hb1.2 e.symm)⟩
   rw [Z76 hbc]
  ·exact h2.elim
 ·exact H'.elim
theorem Z79 {nc : Bool} {kx ky : AK} (hc : ((kx.quiet && ky.quiet) || (kx.quiet && !kx.reads) || (ky.quiet && !ky.reads) || (ky.quiet && (kx.makes || (nc && kx.apps?))) || (kx.quiet && ky.makes)) = true) {vs us : List Z0} {σ : Zc} (nd : nc = true → (Zh σ).Nodup)
  {Q : Z0 → Z0 → Zc → Prop} (H : Z26 P kx vs σ fun r σ1 => Z26 P ky us σ1 fun s σ2 => Q r s σ2) :
  Z26 P ky us σ fun s σ1 => Z26 P kx vs σ1 fun r σ2 => Q r s σ2 := by
 simp only [Bool.or_eq_true, Bool.and_eq_true, Bool.not_eq_true'] at hc
 rcases hc with (((⟨hx, hy⟩ | ⟨hx, hxr⟩) | ⟨hy, hyr⟩) | ⟨hy, hxm⟩) | ⟨hx, hym⟩
 ·rw [Z6p hx] at H
  obtain ⟨r, hr, H⟩ := H
  rw [Z6p hy] at H
  obtain ⟨s, hs, H⟩ := H
  rw [Z6p hy]
  exact ⟨s, hs, by rw [Z6p hx]; exact ⟨r, hr, H⟩⟩
 ·rw [Z6p hx] at H
  obtain ⟨r, hr, H⟩ := H
  refine Z6g (fun s σ1 hQ => ?_) H
  rw [Z6p hx]
  exact ⟨r, by rw [← hr]; exact Z6l hxr, hQ⟩
 ·have H' : Z26 P kx vs σ fun r σ1 => ∃ s, Z1r ky σ us = some s ∧ Q r s σ1 := Z6g (fun r σ1 h => by
   rw [Z6p hy] at h
   obtain ⟨s, hs, hQ⟩ := h
   exact ⟨s, by rw [← hs]; exact Z6l hyr, hQ⟩) H
  obtain ⟨r0, σ0, s0, hs0, _⟩ := Z6i H'
  rw [Z6p hy]
  refine ⟨s0, hs0, Z6g (fun r σ1 h => ?_) H'⟩
  obtain ⟨s, hs, hQ⟩ := h
  rw [hs0] at hs
  simp only [Option.some.injEq] at hs
  rw [hs]
  exact hQ
 ·have H' : Z26 P kx vs σ fun r σ1 => ∃ s, Z1r ky σ1 us = some s ∧ Q r s σ1 := Z6g (fun r σ1 h => by rwa [Z6p hy] at h) H
  rw [Z6p hy]
  cases kx <;> simp only [AK.makes, AK.apps?, Bool.false_eq_true, or_self, or_false, false_or, and_false, and_true] at hxm <;> simp only [Z26] at H' ⊢
  case alloc z =>
   obtain ⟨h1, h2, h3⟩ := H'
   obtain ⟨s0, e0, h⟩ := Z6q hy h3
   exact ⟨s0, e0, h1, h2, h⟩
  case box sz =>
   unfold ebox at H' ⊢
   split at H'
   ·obtain ⟨h1, h3⟩ := H'
    obtain ⟨s0, e0, h⟩ := Z6q hy h3
    exact ⟨s0, e0, h1, h⟩
   ·exact H'.elim
  case bslo sz =>
   obtain ⟨h1, h3⟩ := H'
   obtain ⟨s0, e0, h⟩ := Z6q hy h3
   exact ⟨s0, e0, h1, h⟩
  case mks sz byt z =>
   unfold emks at H' ⊢
   split at H'
   ·obtain ⟨h1, h2, h3, h4, h5, h6⟩ := H'
    obtain ⟨s0, e0, h⟩ := Z6q hy h6
    exact ⟨s0, e0, h1, h2, h3, h4, h5, h⟩
   ·exact H'.elim
  case app sz byt =>
   unfold Z1y at H' ⊢
   split at H'
   ·obtain ⟨ys, h1, h2⟩ := H'
    obtain ⟨s0, e0, h⟩ := Z6t hy (nd hxm) h2
    exact ⟨s0, e0, ys, h1, h⟩
   ·exact H'.elim
  case apps =>
   unfold Z1z at H' ⊢
   split at H'
   ·obtain ⟨s0, e0, h⟩ := Z6t hy (nd hxm) H'
    exact ⟨s0, e0, h⟩
   ·exact H'.elim
 ·rw [Z6p hx] at H
  obtain ⟨r, hr, H⟩ := H
  have key : ∀ {sz : Nat} {xs : List Z0} {f : Nat → Z0}, enew sz xs σ (fun b σ' => Q r (f b) σ') → enew sz xs σ (fun b σ' => Z26 P kx vs σ' fun r σ2 => Q r (f b) σ2) := by
   intro sz xs f h b hb
   rw [Z6p hx]
   exact ⟨r, Z6s hr hb _, h b hb⟩
  cases ky <;> simp only [AK.makes, Bool.false_eq_true] at hym <;> simp only [Z26] at H ⊢
  case alloc z => exact ⟨H.1, H.2.1, key H.2.2⟩
  case box sz =>
   unfold ebox at H ⊢
   split at H
   ·exact ⟨H.1, key H.2⟩
   ·exact H.elim
  case bslo sz => exact ⟨H.1, key H.2⟩
  case mks sz byt z =>
   unfold emks at H ⊢
   split at H
   ·obtain ⟨h1, h2, h3, h4, h5, h6⟩ := H
    exact ⟨h1, h2, h3, h4, h5, key h6⟩
   ·exact H.elim
theorem Z7a {F F' : Z27} : ∀ {l : List Zw}, (∀ i, .t i ∈ l → F i = F' i) → evs F l = evs F' l
 | [], _ => rfl
 | x :: l, h => by
  have h1 : ev F x = ev F' x := by
   cases x with
   | t i => exact h i (by simp)
   | c v => rfl
  simp only [evs, h1, Z7a (l := l) (fun i hi => h i (by simp [hi]))]
theorem Z7b {dst : Option Nat} {v : Option Z0} {F : Z27} {i : Nat} (h : dst ≠ some i) : fput dst v F i = F i := by
 cases dst with
 | none => rfl
 | some d =>
  simp only [fput, fset]
  rw [if_neg (fun e => h (by rw [e]))]
theorem Z7c {d1 d2 : Option Nat} (h : ∀ d, d1 = some d → d2 ≠ some d) (v1 v2 : Option Z0) (F : Z27) : fput d1 v1 (fput d2 v2 F) = fput d2 v2 (fput d1 v1 F) := by
 cases d1 <;> cases d2 <;> try rfl
 rename_i a b
 have hab : a ≠ b := fun e => h a rfl (by rw [e])
 funext i
 simp only [fput, fset]
 by_cases h1 : i = a
 ·subst h1
  rw [if_pos rfl, if_neg hab, if_pos rfl]
 ·rw [if_neg h1, if_neg h1]
theorem Z7d {o : Z2b} {i : Nat} (h : Zw.t i ∈ o.args) : i ∈ o.looks := by
 unfold Z2b.looks
 refine List.mem_append.2 (.inl (List.mem_filterMap.2 ⟨_, h, rfl⟩))
theorem Z7e {o : Z2b} {g : Nat} {b : Bool} (h : o.guard = some (g, b)) : g ∈ o.looks := by
 unfold Z2b.looks
 rw [h]
 simp
theorem Z7f {o : Z2b} {dst : Option Nat} (h : ∀ d, dst = some d → d ∉ o.looks) (v : Option Z0) (F : Z27) : evs (fput dst v F) o.args = evs F o.args :=
 Z7a fun i hi => Z7b (fun e => h i e (Z7d hi))
theorem Z7g {o : Z2b} {dst : Option Nat} (h : ∀ d, dst = some d → d ∉ o.looks) (hd : ∀ d, dst = some d → o.dst ≠ some d) (v : Option Z0) {F : Z27} {σ : Zc} {Q : Z27 → Zc → Prop} :
  arun P o (fput dst v F) σ Q ↔ arun P o F σ fun F' σ' => Q (fput dst v F') σ' := by
 unfold arun
 rw [Z7f h]
 have e : ∀ r : Z0, fput o.dst (some r) (fput dst v F) = fput dst v (fput o.dst (some r) F) := fun r => (Z7c hd v (some r) F).symm
 simp only [e]
theorem Z7h {o : Z2b} {dst : Option Nat} (h : ∀ d, dst = some d → d ∉ o.looks) (hd : ∀ d, dst = some d → o.dst ≠ some d) (v : Option Z0) {F : Z27} {σ : Zc} {Q : Z27 → Zc → Prop} :
  aop P o (fput dst v F) σ Q ↔ aop P o F σ fun F' σ' => Q (fput dst v F') σ' := by
 unfold aop
 split
 ·exact Z7g h hd v
 ·rename_i g want hg
  have e1 : fput dst v F g = F g := Z7b (fun e => h g e (Z7e hg))
  rw [e1, Z7c (fun d e => hd d e) v (some (.tup [])) F |>.symm]
  simp only [Z7g h hd v]
theorem Z7i {x y : Z2b} (h : Z2u x y = true) : (∀ d, x.dst = some d → d ∉ y.looks) ∧ (∀ d, x.dst = some d → y.dst ≠ some d) ∧ (∀ d, y.dst = some d → d ∉ x.looks) := by
 unfold Z2u at h
 rw [Bool.and_eq_true] at h
 obtain ⟨h1, h2⟩ := h
 refine ⟨fun d e => ?_, fun d e => ?_, fun d e => ?_⟩
 ·rw [e] at h1
  simp at h1
  exact h1.1
 ·rw [e] at h1
  simp at h1
  exact h1.2
 ·rw [e] at h2
  simpa using h2
theorem Z7j {o : Z2b} {F : Z27} {σ : Zc} {Q Q' : Z27 → Zc → Prop} (hQ : ∀ F σ, Q F σ → Q' F σ) (h : arun P o F σ Q) : arun P o F σ Q' := by
 obtain ⟨vs, hvs, h⟩ := h
 exact ⟨vs, hvs, Z6g (fun r σ' h => hQ _ _ h) h⟩
theorem Z7k {o : Z2b} {F : Z27} {σ : Zc} {Q Q' : Z27 → Zc → Prop} (hQ : ∀ F σ, Q F σ → Q' F σ) (h : aop P o F σ Q) : aop P o F σ Q' := by
 unfold aop at h ⊢
 split at h
 ·exact Z7j hQ h
 ·obtain ⟨b, h1, h2, h3⟩ := h
  exact ⟨b, h1, fun e => Z7j hQ (h2 e), fun e => hQ _ _ (h3 e)⟩
def gate (o : Z2b) (F : Z27) : Option Bool :=
 match o.guard with
 | none => some true
 | some (g, want) => (gval (F g)).map fun b => b == some want
theorem Z7l {o : Z2b} {F : Z27} {σ : Zc} {Q : Z27 → Zc → Prop} : aop P o F σ Q ↔ (gate o F = some true ∧ arun P o F σ Q) ∨ (gate o F = some false ∧ Q (fput o.dst (some (.tup [])) F) σ) := by
 unfold aop gate
 cases o.guard with
 | none => simp
 | some gw =>
  obtain ⟨g, want⟩ := gw
  simp only
  constructor
  ·rintro ⟨b, hb, h1, h2⟩
   rw [hb]
   by_cases h : b = some want
   ·exact .inl ⟨by simp [h], h1 h⟩
   ·exact .inr ⟨by simp [h], h2 h⟩
  ·intro h
   cases hb : gval (F g) with
   | none => rw [hb] at h; simp at h
   | some b =>
    rw [hb] at h
    simp only [Option.map_some, Option.some.injEq, beq_iff_eq, beq_eq_false_iff_ne] at h
    rcases h with ⟨h1, h2⟩ | ⟨h1, h2⟩
    ·exact ⟨b, rfl, fun _ => h2, fun e => absurd h1 e⟩
    ·exact ⟨b, rfl, fun e => absurd e h1, fun _ => h2⟩
theorem Z7m {o : Z2b} {dst : Option Nat} (h : ∀ d, dst = some d → d ∉ o.looks) (v : Option Z0) (F : Z27) : gate o (fput dst v F) = gate o F := by
 unfold gate
 cases hg : o.guard with
 | none => rfl
 | some gw =>
  obtain ⟨g, want⟩ := gw
  simp only
  rw [Z7b (fun e => h g e (Z7e hg))]
theorem Z7n {kx ky : AK} (hx : kx.callp? = true) {vs us : List Z0} {σ : Zc} {Q : Z0 → Z0 → Zc → Prop} (H : Z26 P kx vs σ fun r σ1 => Z26 P ky us σ1 fun s σ2 => Q r s σ2) :
  Z26 P ky us σ fun s σ1 => Z26 P kx vs σ1 fun r σ2 => Q r s σ2 := by
 cases kx <;> simp only [AK.callp?, Bool.false_eq_true] at hx
 obtain ⟨v, h1, h2⟩ := H
 exact Z6g (fun s σ1 h => ⟨v, h1, h⟩) h2
theorem Z7o {kx ky : AK} (hx : kx.quiet = true) (hy : ky.callp? = true) {vs us : List Z0} {σ : Zc} {Q : Z0 → Z0 → Zc → Prop} (H : Z26 P kx vs σ fun r σ1 => Z26 P ky us σ1 fun s σ2 => Q r s σ2) :
  Z26 P ky us σ fun s σ1 => Z26 P kx vs σ1 fun r σ2 => Q r s σ2 := by
 cases ky <;> simp only [AK.callp?, Bool.false_eq_true] at hy
 rw [Z6p hx] at H
 obtain ⟨r, h1, v, h2, h3⟩ := H
 exact ⟨v, h2, (Z6p hx).2 ⟨r, h1, h3⟩⟩
theorem Z7p {F : Z27} {a : Nat} {v : Z0} (ha : F a = some v) : ∀ {l : List Zw} {vs : List Z0} {n : Nat}, evs F l = some vs → .t a ∈ l.drop n → v ∈ vs.drop n
 | [], vs, n, _, h => by simp at h
 | x :: l, vs, n, hl, h => by
  simp only [evs] at hl
  cases hx : ev F x with
  | none => rw [hx] at hl; simp at hl
  | some u =>
   rw [hx] at hl
   cases hr : evs F l with
   | none => rw [hr] at hl; simp at hl
   | some us =>
    rw [hr] at hl
    simp only [Option.some.injEq] at hl
    subst hl
    cases n with
    | succ n => simp only [List.drop_succ_cons] at h ⊢; exact Z7p ha hr h
    | zero =>
     simp only [List.drop_zero] at h ⊢
     rcases List.mem_cons.1 h with e | h
     ·subst e
      simp only [ev, ha, Option.some.injEq] at hx
      subst hx; simp
     ·have := Z7p (n := 0) ha hr (by simpa using h)
      simp only [List.drop_zero] at this
      exact List.mem_cons_of_mem _ this
theorem Z7q {x y : Z2b} (hc : Z2v x y = true) {F : Z27} {vs us : List Z0} (hvs : evs F x.args = some vs) (hus : evs F y.args = some us) {σ : Zc} {Q : Z0 → Z0 → Zc → Prop}
  (H : Z26 P x.k vs σ fun r σ1 => Z26 P y.k us σ1 fun s σ2 => Q r s σ2) : Z26 P y.k us σ fun s σ1 => Z26 P x.k vs σ1 fun r σ2 => Q r s σ2 := by
 unfold Z2v at hc
 split at hc
 ·rename_i ag sz a f n ex ea ey
  rw [ex] at H ⊢
  rw [ey] at H ⊢
  rw [ea] at hvs
  obtain ⟨r, h1, ⟨s, σ', g1, g2⟩, h2⟩ := H
  have hF : ∃ v, F a = some v ∧ vs = [v] := by
   simp only [evs, ev] at hvs
   cases hF : F a with
   | none => rw [hF] at hvs; simp at hvs
   | some v => rw [hF] at hvs; simp at hvs; exact ⟨v, rfl, hvs.symm⟩
  obtain ⟨v, hF, rfl⟩ := hF
  have hmem : v ∈ us.drop n := by
   refine Z7p hF hus ?_
   rw [List.any_eq_true] at hc
   obtain ⟨z, hz, hc⟩ := hc
   cases z with
   | t b => simp only [beq_iff_eq] at hc; subst hc; exact hz
   | c v => simp at hc
  have key : ∀ σ1, Z24 (us.drop n) σ σ1 → Z1r (.load ag sz) σ1 [v] = some r := by
   intro σ1 hk
   rw [← h1]
   refine Z6k fun b hb => ?_
   unfold Z6j at hb
   split at hb <;> simp only [Option.some.injEq, reduceCtorEq] at hb
   ·rename_i e; simp only [List.cons.injEq, and_true] at e; subst e hb; exact hk _ hmem _ rfl
   ·rename_i e; simp only [List.cons.injEq, and_true] at e; subst e hb; exact hk _ hmem _ rfl
   ·rename_i e; simp at e
  exact ⟨⟨s, σ', g1, r, key σ' g1, g2⟩, h2.mono fun s σ1 h => ⟨h.1, r, key σ1 h.1, h.2⟩⟩
 ·rename_i ag sz z0 a f n ex ea ey
  rw [ex] at H ⊢
  rw [ey] at H ⊢
  rw [ea] at hvs
  obtain ⟨r, h1, ⟨s, σ', g1, g2⟩, h2⟩ := H
  have hF : ∃ v w, F a = some w ∧ vs = [v, w] := by
   simp only [evs] at hvs
   cases h0 : ev F z0 with
   | none => rw [h0] at hvs; simp at hvs
   | some v =>
    rw [h0] at hvs
    simp only [ev] at hvs
    cases hF : F a with
    | none => rw [hF] at hvs; simp at hvs
    | some w => rw [hF] at hvs; simp at hvs; exact ⟨v, w, rfl, hvs.symm⟩
  obtain ⟨v, w, hF, rfl⟩ := hF
  have hmem : w ∈ us.drop n := by
   refine Z7p hF hus ?_
   rw [List.any_eq_true] at hc
   obtain ⟨z, hz, hc⟩ := hc
   cases z with
   | t b => simp only [beq_iff_eq] at hc; subst hc; exact hz
   | c v => simp at hc
  have key : ∀ σ1, Z24 (us.drop n) σ σ1 → Z1r (.loadg ag sz) σ1 [v, w] = some r := by
   intro σ1 hk
   have h1' := h1
   simp only [Z1r, Z1q] at h1'
   split at h1'
   ·rename_i b i o w' e
    simp only [List.cons.injEq, and_true] at e
    obtain ⟨rfl, rfl⟩ := e
    split at h1'
    ·rename_i hg
     rw [← h1]
     refine Z6k fun b' hb => ?_
     simp only [Z6j, Option.some.injEq] at hb
     subst hb
     exact hk _ hmem _ hg
    ·cases h1'
   ·cases h1'
  exact ⟨⟨s, σ', g1, r, key σ' g1, g2⟩, h2.mono fun s σ1 h => ⟨h.1, r, key σ1 h.1, h.2⟩⟩
 ·cases hc
theorem Z7r {nc : Bool} {x y : Z2b} (hc : Z2w nc x y = true) {F : Z27} {σ : Zc} (nd : nc = true → (Zh σ).Nodup) {Q : Z27 → Zc → Prop} (H : aop P x F σ fun F1 σ1 => aop P y F1 σ1 Q) :
  aop P y F σ fun F1 σ1 => aop P x F1 σ1 fun F2 σ2 => Q F2 σ2 ∨ (nc = true ∧ ∃ τ, τ.Perm σ2 ∧ Q F2 τ) := by
 unfold Z2w at hc
 rw [Bool.and_eq_true] at hc
 obtain ⟨hap, hk⟩ := hc
 obtain ⟨a1, a2, a3⟩ := Z7i hap
 have a2' : ∀ d, y.dst = some d → x.dst ≠ some d := fun d e e' => a2 d e' e
 rw [Z7l] at H
 rcases H with ⟨gx, vs, hvs, H⟩ | ⟨gx, H⟩
 ·have H' : Z26 P x.k vs σ fun r σ1 => (gate y F = some true ∧ ∃ us, evs F y.args = some us ∧ Z26 P y.k us σ1 fun s σ2 => Q (fput x.dst (some r) (fput y.dst (some s) F)) σ2) ∨ (gate y F = some false ∧ Q (fput x.dst (some r) (fput y.dst (some (.tup [])) F)) σ1) := by
   refine Z6g (fun r σ1 h => ?_) H
   replace h : aop P y (fput x.dst (some r) F) σ1 Q := h
   rw [Z7h a1 a2, Z7l] at h
   rcases h with ⟨h1, h2⟩ | ⟨h1, h2⟩
   ·exact .inl ⟨h1, h2⟩
   ·exact .inr ⟨h1, h2⟩
  obtain ⟨r0, σ0, h0⟩ := Z6i H'
  rw [Z7l]
  rcases h0 with ⟨gy, us, hus, _⟩ | ⟨gy, _⟩
  ·refine .inl ⟨gy, us, hus, ?_⟩
   have h2 : Z26 P x.k vs σ fun r σ1 => Z26 P y.k us σ1 fun s σ2 => Q (fput x.dst (some r) (fput y.dst (some s) F)) σ2 := Z6g (fun r σ1 h => by
    rcases h with ⟨_, us', hus', h⟩ | ⟨h1, _⟩
    ·rw [hus] at hus'
     simp only [Option.some.injEq] at hus'
     rw [hus']
     exact h
    ·rw [gy] at h1; simp at h1) H'
   have h3 : Z26 P y.k us σ fun s σ1 => Z26 P x.k vs σ1 fun r σ2 => Q (fput x.dst (some r) (fput y.dst (some s) F)) σ2 ∨ (nc = true ∧ ∃ τ, τ.Perm σ2 ∧ Q (fput x.dst (some r) (fput y.dst (some s) F)) τ) := by
    have inl : (Z26 P y.k us σ fun s σ1 => Z26 P x.k vs σ1 fun r σ2 => Q (fput x.dst (some r) (fput y.dst (some s) F)) σ2) → Z26 P y.k us σ fun s σ1 => Z26 P x.k vs σ1 fun r σ2 => Q (fput x.dst (some r) (fput y.dst (some s) F)) σ2 ∨ (nc = true ∧ ∃ τ, τ.Perm σ2 ∧ Q (fput x.dst (some r) (fput y.dst (some s) F)) τ) :=
     fun h => Z6g (fun s σ1 h => Z6g (fun r σ2 h => .inl h) h) h
    rw [Bool.or_eq_true, Bool.or_eq_true, Bool.or_eq_true, Bool.or_eq_true] at hk
    rcases hk with (((hk | hk) | hk) | hk) | hk
    ·exact inl (Z7q hk hvs hus h2)
    ·exact inl (Z7n hk h2)
    ·rw [Bool.and_eq_true] at hk
     exact inl (Z7o hk.1 hk.2 h2)
    ·simp only [Bool.and_eq_true] at hk
     obtain ⟨⟨hnc, hkx⟩, hky⟩ := hk
     rw [Bool.or_eq_true] at hkx
     rcases hkx with hkx | hkx
     ·exact Z6g (fun s σ1 h => Z6g (fun r σ2 h => .inr ⟨hnc, h⟩) h) (Z72 hkx hky h2)
     ·have : ∃ sz byt, x.k = .app sz byt := by
       cases e : x.k <;> rw [e] at hkx <;> simp only [AK.app1?, Bool.false_eq_true] at hkx
       exact ⟨_, _, rfl⟩
      obtain ⟨sz, byt, e⟩ := this
      rw [e] at h2 ⊢
      exact Z6g (fun s σ1 h => Z6g (fun r σ2 h => .inr ⟨hnc, h⟩) h) (Z78 hky (nd hnc) h2)
    ·exact inl (Z79 hk nd (Q := fun r s σ2 => Q (fput x.dst (some r) (fput y.dst (some s) F)) σ2) h2)
   refine Z6g (fun s σ1 h => ?_) h3
   show aop P x (fput y.dst (some s) F) σ1 _
   rw [Z7l, Z7m a3]
   exact .inl ⟨gx, vs, by rw [Z7f a3]; exact hvs, h⟩
  ·refine .inr ⟨gy, ?_⟩
   rw [Z7l, Z7m a3]
   refine .inl ⟨gx, vs, by rw [Z7f a3]; exact hvs, Z6g (fun r σ1 h => ?_) H'⟩
   rcases h with ⟨h1, _⟩ | ⟨_, h⟩
   ·rw [gy] at h1; simp at h1
   ·exact .inl h
 ·rw [Z7h a1 a2, Z7l] at H
  rw [Z7l]
  rcases H with ⟨gy, us, hus, H⟩ | ⟨gy, H⟩
  ·refine .inl ⟨gy, us, hus, Z6g (fun s σ1 h => ?_) H⟩
   show aop P x (fput y.dst (some s) F) σ1 _
   rw [Z7l, Z7m a3]
   exact .inr ⟨gx, .inl h⟩
  ·refine .inr ⟨gy, ?_⟩
   rw [Z7l, Z7m a3]
   exact .inr ⟨gx, .inl H⟩
theorem Z7s {o : Z2b} (hc : o.k.calls = false) {F : Z27} {σ : Zc} (nd : (Zh σ).Nodup) {Q : Z27 → Zc → Prop} (h : aop P o F σ Q) : aop P o F σ fun F' σ' => (Zh σ').Nodup ∧ Q F' σ' := by
 have hrun : arun P o F σ Q → arun P o F σ fun F' σ' => (Zh σ').Nodup ∧ Q F' σ' := by
  rintro ⟨vs, hvs, h⟩
  refine ⟨vs, hvs, ?_⟩
  generalize hR : (fun r σ' => Q (fput o.dst (some r) F) σ') = R at h
  have hgoal : (fun (r : Z0) (σ' : Zc) => (Zh σ').Nodup ∧ Q (fput o.dst (some r) F) σ') = fun r σ' => (Zh σ').Nodup ∧ R r σ' := by
   funext r σ'; rw [← hR]
  rw [hgoal]
  clear hgoal hR
  have hnew : ∀ {sz : Nat} {xs : List Z0} {f : Nat → Z0}, enew sz xs σ (fun b σ' => R (f b) σ') → enew sz xs σ (fun b σ' => (Zh σ').Nodup ∧ R (f b) σ') := fun h b hb => ⟨by simp only [Zj, List.nodup_cons]; exact ⟨hb, nd⟩, h b hb⟩
  have happ : ∀ {sz byt : Nat} {s : Z0} {ys : List Z0}, eapp sz byt s ys σ R → eapp sz byt s ys σ fun r σ' => (Zh σ').Nodup ∧ R r σ' := by
   intro sz byt s ys h
   unfold eapp at h ⊢
   split at h
   ·rename_i z xs
    obtain ⟨h1, h2, h3⟩ := h
    refine ⟨h1, h2, ?_⟩
    cases xs with
    | nil => exact hnew h3
    | cons x xs => exact ⟨fun e => ⟨nd, h3.1 e⟩, fun e => hnew (h3.2 e)⟩
   ·obtain ⟨xs, h1, h2, h3, h4⟩ := h
    exact ⟨xs, h1, h2, h3, fun b' hb' => ⟨Zs nd hb', h4 b' hb'⟩⟩
   ·exact h.elim
  generalize o.k = k at h hc
  cases k <;> simp only [AK.calls, Bool.true_eq_false] at hc <;> simp only [Z26] at h ⊢
  case store sz =>
   unfold Z1u at h ⊢
   split at h
   ·obtain ⟨s, xs, x, h1, h2, h3, h4, h5, h6⟩ := h
    exact ⟨s, xs, x, h1, h2, h3, h4, h5, by rw [Zn]; exact nd, h6⟩
   ·exact h.elim
  case alloc z => exact ⟨h.1, h.2.1, hnew h.2.2⟩
  case box sz =>
   unfold ebox at h ⊢
   split at h
   ·exact ⟨h.1, hnew h.2⟩
   ·exact h.elim
  case bslo sz => exact ⟨h.1, hnew h.2⟩
  case strish sz =>
   unfold Z1w at h ⊢
   split at h
   ·obtain ⟨xs, h1, h2, h3, h4⟩ := h
    exact ⟨xs, h1, h2, h3, (Zq σ _).nodup nd, h4⟩
   ·exact h.elim
  case isnil neg =>
   unfold Z1x at h ⊢
   split at h
   ·exact ⟨fun e => ⟨nd, h.1 e⟩, fun e t => ⟨nd, h.2 e t⟩⟩
   ·exact ⟨fun e => ⟨nd, h.1 e⟩, fun e t => ⟨nd, h.2 e t⟩⟩
   ·exact h.elim
  case mks sz byt z =>
   unfold emks at h ⊢
   split at h
   ·obtain ⟨h1, h2, h3, h4, h5, h6⟩ := h
    exact ⟨h1, h2, h3, h4, h5, hnew h6⟩
   ·exact h.elim
  case app sz byt =>
   unfold Z1y at h ⊢
   split at h
   ·obtain ⟨ys, h1, h2⟩ := h
    exact ⟨ys, h1, happ h2⟩
   ·exact h.elim
  case apps =>
   unfold Z1z at h ⊢
   split at h
   ·exact happ h
   ·exact h.elim
  case cpy sz =>
   unfold ecpy at h ⊢
   split at h
   ·obtain ⟨xs, ys, h1, h2, h3, h4⟩ := h
    exact ⟨xs, ys, h1, h2, h3, by rw [Zn]; exact nd, h4⟩
   ·exact h.elim
  case clip sz =>
   unfold Z20 at h ⊢
   split at h
   ·obtain ⟨xs, h1, h2, h3, h4, h5, h6⟩ := h
    exact ⟨xs, h1, h2, h3, h4, h5, (Zq σ _).nodup nd, h6⟩
   ·obtain ⟨v, h1, h2⟩ := h
    exact ⟨v, h1, nd, h2⟩
  all_goals (obtain ⟨v, h1, h2⟩ := h; exact ⟨v, h1, nd, h2⟩)
 unfold aop at h ⊢
 split at h
 ·exact hrun h
 ·obtain ⟨b, h1, h2, h3⟩ := h
  exact ⟨b, h1, fun e => hrun (h2 e), fun e => ⟨nd, h3 e⟩⟩
def aAny (P : Program) (ops : Array Oper) (l : List Z2b) (Q : Z27 → Zc → Prop) : Nat → Array Bool → Z27 → Zc → Prop
 | 0, listed, F, σ => Region.ready .any ops listed = [] ∧ Q F σ
 | fuel + 1, listed, F, σ => (Region.ready .any ops listed = [] → Q F σ) ∧ ∀ i ∈ Region.ready .any ops listed, ∀ o, l[i]? = some o → aop P o F σ (aAny P ops l Q fuel (listed.setIfInBounds i true))
theorem Z7t {o : Z2b} (hc : o.k.calls = false) {F : Z27} {σ τ : Zc} (nd : (Zh σ).Nodup) (p : σ.Perm τ) {Q : Z27 → Zc → Prop} (h : aop P o F σ Q) : aop P o F τ fun F' σ' => ∃ ρ, ρ.Perm σ' ∧ Q F' ρ := by
 have hrun : arun P o F σ Q → arun P o F τ fun F' σ' => ∃ ρ, ρ.Perm σ' ∧ Q F' ρ := by
  rintro ⟨vs, hvs, h⟩
  exact ⟨vs, hvs, Z6g (fun r σ' h => h) (Z71 hc nd p h)⟩
 unfold aop at h ⊢
 split at h
 ·exact hrun h
 ·obtain ⟨b, h1, h2, h3⟩ := h
  exact ⟨b, h1, fun e => hrun (h2 e), fun e => ⟨_, p, h3 e⟩⟩
def Z7u (Q : Z27 → Zc → Prop) : Prop := ∀ F σ τ, (Zh σ).Nodup → σ.Perm τ → Q F σ → Q F τ
theorem Z7v {ops : Array Oper} {l : List Z2b} (hnc : ∀ o ∈ l, o.k.calls = false) {Q : Z27 → Zc → Prop} (hQ : Z7u Q) : ∀ (fuel : Nat) (listed : Array Bool), Z7u (aAny P ops l Q fuel listed)
 | 0, listed => fun F σ τ nd p h => ⟨h.1, hQ F σ τ nd p h.2⟩
 | fuel + 1, listed => fun F σ τ nd p h => by
  refine ⟨fun e => hQ F σ τ nd p (h.1 e), fun i hi o ho => ?_⟩
  have hc := hnc o (List.mem_of_getElem? ho)
  refine Z7k (fun F' σ' h' => ?_) (Z7t hc nd p (Z7s hc nd (h.2 i hi o ho)))
  obtain ⟨ρ, h1, h2, h3⟩ := h'
  exact Z7v hnc hQ fuel _ F' ρ σ' h2 h1 h3
theorem Z7w {ops : Array Oper} {fl : Nat → Bool} {l : List Z2b} {gs : Nat → List Nat} (hl : ∀ (i : Nat) o, ops[i]? = some o → ∃ ao, l[i]? = some (modA (fl i) (gs i) ao) ∧ Z2q P N ops (fl i) o = some ao) {K0 : Kr} {Q : Z27 → Zc → Prop} {Qc : Exit → Act → World → Prop} (hQ : ∀ a w, St K0 N Q a w → Qc .normal a w) :
  ∀ (fuel : Nat) (listed : Array Bool) (a : Act) (w : World), St K0 N (fun F σ => aAny P ops l Q fuel listed F σ) a w → wpAnyIn (fen rd) 0 P .any ops Qc fuel listed a w
 | 0, listed, a, w, h => by
  obtain ⟨K, F, σ, h1, h2, h3, h4, h5⟩ := h
  exact ⟨h5.1, hQ _ _ ⟨K, F, σ, h1, h2, h3, h4, h5.2⟩⟩
 | fuel + 1, listed, a, w, h => by
  obtain ⟨K, F, σ, h1, h2, h3, h4, h5⟩ := h
  have h6 := h5.1
  have h7 := h5.2
  refine ⟨fun e => hQ _ _ ⟨K, F, σ, h1, h2, h3, h4, h6 e⟩, fun i hi => ?_⟩
  obtain ⟨_, o, ho, _⟩ := mem_ready.1 hi
  obtain ⟨ao, hao, hop⟩ := hl i o ho
  have hstep := Z6d (rd := rd) (Qc := Qc) hop (K0 := K0) (Q := fun F σ => aAny P ops l Q fuel (listed.setIfInBounds i true) F σ) ⟨K, F, σ, h1, h2, h3, h4, Z6c (h7 i hi _ hao)⟩
  unfold wpOpIn
  rw [ho]
  simp only
  split
  ·rename_i hw
   rw [if_pos hw] at hstep
   exact Oper.wpIn_mono (fun a' w' h' => Z7w hl hQ fuel _ a' w' h') hstep
  ·rename_i hw
   rw [if_neg hw] at hstep
   exact ⟨fun _ _ => trivial, Z7w hl hQ fuel _ _ _ hstep⟩
inductive Z7x (ops : Array Oper) : Nat → Nat → Prop
 | edge {i j : Nat} {o : Oper} (h : ops[j]? = some o) (he : i ∈ Z2s o) : Z7x ops i j
 | trans {i m j : Nat} {o : Oper} (h : ops[j]? = some o) (he : m ∈ Z2s o) (ha : Z7x ops i m) : Z7x ops i j
theorem Z7y {o : Oper} {i : Nat} : i ∈ Z2s o ↔ ∃ e ∈ o.after, Region.binds .any e = true ∧ e.on = i := by
 unfold Z2s
 simp only [List.mem_map, List.mem_filter, Array.mem_toList_iff]
 constructor
 ·rintro ⟨e, ⟨h1, h2⟩, h3⟩; exact ⟨e, h1, h2, h3⟩
 ·rintro ⟨e, h1, h2, h3⟩; exact ⟨e, ⟨h1, h2⟩, h3⟩
def Z7z (ops : Array Oper) (listed : Array Bool) : Prop := ∀ j, listed.getD j false = true → ∀ o, ops[j]? = some o → ∀ i ∈ Z2s o, listed.getD i false = true
theorem Z80 {ops : Array Oper} {listed : Array Bool} {j : Nat} (h : j ∈ Region.ready .any ops listed) {o : Oper} (ho : ops[j]? = some o) : ∀ i ∈ Z2s o, listed.getD i false = true := by
 obtain ⟨_, o', ho', hall⟩ := mem_ready.1 h
 rw [ho] at ho'
 simp only [Option.some.injEq] at ho'; subst ho'
 intro i hi
 obtain ⟨e, he, hb, rfl⟩ := Z7y.1 hi
 exact hall e he hb
theorem Z7z.ahead {ops : Array Oper} {listed : Array Bool} (hok : Z7z ops listed) {i j : Nat} (h : Z7x ops i j) : listed.getD j false = true → listed.getD i false = true := by
 induction h with
 | edge h he => exact fun hj => hok _ hj _ h _ he
 | trans h he _ ih => exact fun hj => ih (hok _ hj _ h _ he)
theorem Z81 {ops : Array Oper} {listed : Array Bool} (hok : Z7z ops listed) {i j : Nat} (h : Z7x ops i j) (hi : listed.getD i false = false) : j ∉ Region.ready .any ops listed := by
 intro hj
 cases h with
 | edge h he =>
  have := Z80 hj h _ he
  rw [hi] at this; cases this
 | trans h he ha =>
  have := hok.ahead ha (Z80 hj h _ he)
  rw [hi] at this; cases this
theorem Z7z.set {ops : Array Oper} {listed : Array Bool} (hok : Z7z ops listed) {i : Nat} (hi : i ∈ Region.ready .any ops listed) : Z7z ops (listed.setIfInBounds i true) := by
 intro j hj o ho m hm
 by_cases e : j = i
 ·subst e
  exact getD_set_true (Z80 hi ho m hm)
 ·rw [getD_set_ne false (fun h => e h.symm)] at hj
  exact getD_set_true (hok j hj o ho m hm)
theorem Z82 {listed : Array Bool} {i : Nat} (h : listed.getD i true = false) : listed.getD i false = false := by
 by_cases hlt : i < listed.size
 ·simp [hlt] at h ⊢; exact h
 ·simp [hlt] at h
theorem Z83 (listed : Array Bool) (i j : Nat) : (listed.setIfInBounds i true).setIfInBounds j true = (listed.setIfInBounds j true).setIfInBounds i true := by
 by_cases h : i = j
 ·subst h; rfl
 ·exact Array.setIfInBounds_comm _ _ h
def Z84 (ops : Array Oper) (listed : Array Bool) : Nat := ((List.range ops.size).filter fun i => !listed.getD i true).length
theorem Z85 {p : Nat → Bool} {j : Nat} : ∀ {L : List Nat}, L.Nodup → j ∈ L → p j = true → (L.filter fun i => p i && !(i == j)).length + 1 = (L.filter p).length
 | [], _, hj, _ => by cases hj
 | a :: L, nd, hj, hp => by
  simp only [List.nodup_cons] at nd
  by_cases e : a = j
  ·subst e
   have : (L.filter fun i => p i && !(i == a)) = L.filter p := by
    apply List.filter_congr
    intro i hi
    have : i ≠ a := fun e => nd.1 (e ▸ hi)
    simp [this]
   simp [List.filter_cons, hp, this]
  ·have hj' : j ∈ L := by
    rcases List.mem_cons.1 hj with h | h
    ·exact absurd h.symm e
    ·exact h
   have := Z85 nd.2 hj' hp
   simp only [List.filter_cons]
   have e' : (a == j) = false := by simpa using e
   rw [e']
   cases p a <;> simp <;> omega
theorem Z86 {ops : Array Oper} {listed : Array Bool} {j : Nat} (hj : j ∈ Region.ready .any ops listed) : Z84 ops (listed.setIfInBounds j true) + 1 = Z84 ops listed := by
 obtain ⟨h1, o, ho, _⟩ := mem_ready.1 hj
 have hlt : j < ops.size := (Array.getElem?_eq_some_iff.1 ho).1
 have hls : j < listed.size := by
  by_cases h : j < listed.size
  ·exact h
  ·simp [h] at h1
 unfold Z84
 rw [← Z85 (p := fun i => !listed.getD i true) (j := j) List.nodup_range (List.mem_range.2 hlt) (by simp only [h1, Bool.not_false])]
 congr 2
 apply List.filter_congr
 intro i _
 by_cases e : i = j
 ·subst e
  simp [hls]
 ·have e' : (i == j) = false := by simpa using e
  rw [getD_set_ne true (fun h => e h.symm), e']
  simp
theorem Z87 {ops : Array Oper} {listed : Array Bool} {i j : Nat} (hi : i ∈ Region.ready .any ops listed) (hj : j ∈ Region.ready .any ops listed) (h1 : Z84 ops listed = 1) : i = j := by
 have hm : ∀ {m}, m ∈ Region.ready .any ops listed → m ∈ (List.range ops.size).filter fun i => !listed.getD i true := by
  intro m hm
  obtain ⟨h1, o, ho, _⟩ := mem_ready.1 hm
  exact List.mem_filter.2 ⟨List.mem_range.2 (Array.getElem?_eq_some_iff.1 ho).1, by simp only [h1, Bool.not_false]⟩
 obtain ⟨a, ha⟩ := Z52 h1
 have h2 := hm hi
 have h3 := hm hj
 rw [ha] at h2 h3
 simp at h2 h3
 rw [h2, h3]
theorem Z88 {ops : Array Oper} {l : List Z2b} {nc : Bool} (hnc : nc = true → ∀ o ∈ l, o.k.calls = false) {Q : Z27 → Zc → Prop} (hQ : Z7u Q) {k : Nat} {x : Z2b} (hk : l[k]? = some x)
  (hcom : ∀ j y, l[j]? = some y → j ≠ k → Z7x ops k j ∨ j < k ∨ Z2w nc x y = true) :
  ∀ (fuel : Nat) (listed : Array Bool) (F : Z27) (σ : Zc), (nc = true → (Zh σ).Nodup) → Z7z ops listed → (∀ j, j < k → listed.getD j false = true) → k ∈ Region.ready .any ops listed →
   Z84 ops listed = fuel + 1 → aop P x F σ (aAny P ops l Q fuel (listed.setIfInBounds k true)) → aAny P ops l Q (fuel + 1) listed F σ := by
 intro fuel
 induction fuel with
 | zero =>
  intro listed F σ nd hok hlow hr hz H
  refine ⟨fun e => (by rw [e] at hr; cases hr), fun j hj o ho => ?_⟩
  have hjk := Z87 hj hr hz
  subst hjk
  rw [hk] at ho; simp only [Option.some.injEq] at ho; subst ho
  exact H
 | succ fuel ih =>
  intro listed F σ nd hok hlow hr hz H
  refine ⟨fun e => (by rw [e] at hr; cases hr), fun j hj o ho => ?_⟩
  by_cases hjk : j = k
  ·subst hjk
   rw [hk] at ho; simp only [Option.some.injEq] at ho; subst ho
   exact H
  ·have hknot := Z82 (mem_ready.1 hr).1
   have hcomm : Z2w nc x o = true := by
    rcases hcom j o ho hjk with h | h | h
    ·exact absurd hj (Z81 hok h hknot)
    ·have h1 := hlow j h
     have h2 := Z82 (mem_ready.1 hj).1
     rw [h1] at h2; cases h2
    ·exact h
   have H1 : aop P x F σ fun F1 σ1 => aop P o F1 σ1 (aAny P ops l Q fuel ((listed.setIfInBounds k true).setIfInBounds j true)) := Z7k (fun F1 σ1 h => h.2 j (ready_mono hj hjk) o ho) H
   have H2' := Z7r hcomm nd H1
   have H2 : aop P o F σ fun F1 σ1 => aop P x F1 σ1 (aAny P ops l Q fuel ((listed.setIfInBounds k true).setIfInBounds j true)) := by
    cases hnc' : nc with
    | false => exact Z7k (fun F1 σ1 h => Z7k (fun F2 σ2 h => h.elim id fun h => by rw [hnc'] at h; cases h.1) h) H2'
    | true =>
     have ho' := hnc hnc' o (List.mem_of_getElem? ho)
     have hx' := hnc hnc' x (List.mem_of_getElem? hk)
     refine Z7k (fun F1 σ1 h => ?_) (Z7s ho' (nd hnc') H2')
     refine Z7k (fun F2 σ2 h => ?_) (Z7s hx' h.1 h.2)
     rcases h with ⟨h1, h2 | ⟨_, ρ, h3, h4⟩⟩
     ·exact h2
     ·exact Z7v (hnc hnc') hQ _ _ F2 ρ σ2 (Z6v h3.symm h1) h3 h4
   rw [Z83] at H2
   have step : ∀ F1 σ1, (nc = true → (Zh σ1).Nodup) → aop P x F1 σ1 (aAny P ops l Q fuel ((listed.setIfInBounds j true).setIfInBounds k true)) → aAny P ops l Q (fuel + 1) (listed.setIfInBounds j true) F1 σ1 := by
    intro F1 σ1 nd1 h
    refine ih (listed.setIfInBounds j true) F1 σ1 nd1 (hok.set hj) (fun m hm => getD_set_true (hlow m hm)) (ready_mono hr (fun e => hjk e.symm)) (by have := Z86 hj; omega) h
   cases hnc' : nc with
   | false => exact Z7k (fun F1 σ1 h => step F1 σ1 (fun e => by rw [hnc'] at e; cases e) h) H2
   | true =>
    have H3 := Z7s (hnc hnc' o (List.mem_of_getElem? ho)) (nd hnc') H2
    exact Z7k (fun F1 σ1 h => step F1 σ1 (fun _ => h.1) h.2) H3
theorem Z89 {ops : Array Oper} {l : List Z2b} (hlen : l.length = ops.size) (hlow : ∀ (j : Nat) o, ops[j]? = some o → ∀ i ∈ Z2s o, i < j) {nc : Bool} (hnc : nc = true → ∀ o ∈ l, o.k.calls = false)
  (hcom : ∀ i j x y, i < j → l[i]? = some x → l[j]? = some y → Z7x ops i j ∨ Z2w nc x y = true) {Q : Z27 → Zc → Prop} (hQ : Z7u Q) :
  ∀ (n k : Nat) (listed : Array Bool) (F : Z27) (σ : Zc), k + n = ops.size → (nc = true → (Zh σ).Nodup) → listed.size = ops.size → (∀ j, j < k → listed.getD j false = true) → (∀ j, k ≤ j → j < ops.size → listed.getD j true = false) →
   aops P (l.drop k) F σ Q → aAny P ops l Q n listed F σ := by
 intro n
 induction n with
 | zero =>
  intro k listed F σ hk nd hs h1 h2 h
  have hd : l.drop k = [] := List.drop_of_length_le (by omega)
  rw [hd] at h
  refine ⟨?_, h⟩
  apply List.eq_nil_iff_forall_not_mem.2
  intro j hj
  obtain ⟨h3, o, ho, _⟩ := mem_ready.1 hj
  have hlt : j < ops.size := (Array.getElem?_eq_some_iff.1 ho).1
  have h4 := h1 j (by omega)
  have h5 := Z82 h3
  rw [h4] at h5; cases h5
 | succ n ih =>
  intro k listed F σ hk nd hs h1 h2 h
  have hkl : k < l.length := by omega
  have hx : l[k]? = some l[k] := List.getElem?_eq_getElem hkl
  rw [List.drop_eq_getElem_cons hkl] at h
  simp only [aops] at h
  have hok : Z7z ops listed := by
   intro j hj o ho i hi
   have hjk : j < k := by
    by_cases hh : j < k
    ·exact hh
    ·have hlt : j < ops.size := (Array.getElem?_eq_some_iff.1 ho).1
     have := Z82 (h2 j (by omega) hlt)
     rw [this] at hj; cases hj
   exact h1 i (by have := hlow j o ho i hi; omega)
  have hkr : k ∈ Region.ready .any ops listed := by
   rw [mem_ready]
   have hlt : k < ops.size := by omega
   refine ⟨h2 k (Nat.le_refl _) hlt, ops[k], Array.getElem?_eq_getElem hlt, fun e he hb => ?_⟩
   exact h1 e.on (hlow k ops[k] (Array.getElem?_eq_getElem hlt) e.on (Z7y.2 ⟨e, he, hb, rfl⟩))
  have hun : Z84 ops listed = n + 1 := by
   unfold Z84
   have e : (List.range ops.size).filter (fun i => !listed.getD i true) = (List.range' k (n + 1)) := by
    have e1 : List.range ops.size = List.range k ++ List.range' k (n + 1) := by
     rw [← hk, List.range_eq_range', List.range_eq_range', ← List.range'_append_1]
     simp
    rw [e1, List.filter_append]
    have e2 : (List.range k).filter (fun i => !listed.getD i true) = [] := by
     apply List.filter_eq_nil_iff.2
     intro i hi
     have h3 := h1 i (List.mem_range.1 hi)
     have hlt : i < listed.size := by
      by_cases hh : i < listed.size
      ·exact hh
      ·simp [hh] at h3
     simp [hlt] at h3 ⊢
     exact h3
    have e3 : (List.range' k (n + 1)).filter (fun i => !listed.getD i true) = List.range' k (n + 1) := by
     apply List.filter_eq_self.2
     intro i hi
     simp only [List.mem_range'_1] at hi
     rw [h2 i hi.1 (by omega)]
     rfl
    rw [e2, e3]
    rfl
   rw [e]
   simp
  refine Z88 hnc hQ hx (fun j y hy hjk => ?_) n listed F σ nd hok h1 hkr hun ?_
  ·by_cases hlt : j < k
   ·exact .inr (.inl hlt)
   ·rcases hcom k j _ y (by omega) hx hy with h | h
    ·exact .inl h
    ·exact .inr (.inr h)
  ·have step : ∀ F1 σ1, (nc = true → (Zh σ1).Nodup) → aops P (l.drop (k + 1)) F1 σ1 Q → aAny P ops l Q n (listed.setIfInBounds k true) F1 σ1 := by
    intro F1 σ1 nd1 h'
    refine ih (k + 1) _ F1 σ1 (by omega) nd1 (by simp [hs]) (fun j hj => ?_) (fun j hj hlt => ?_) h'
    ·by_cases e : j = k
     ·subst e
      have : j < listed.size := by omega
      simp [this]
     ·exact getD_set_true (h1 j (by omega))
    ·rw [getD_set_ne true (by omega)]
     exact h2 j (by omega) hlt
   cases hnc' : nc with
   | false => exact Z7k (fun F1 σ1 h => step F1 σ1 (fun e => by rw [hnc'] at e; cases e) h) h
   | true =>
    have h3 := Z7s (hnc hnc' l[k] (List.getElem_mem hkl)) (nd hnc') h
    exact Z7k (fun F1 σ1 h => step F1 σ1 (fun _ => h.1) h.2) h3
theorem Z8a (ops : Array Oper) : ∀ n, (Z2t ops n).length = n
 | 0 => rfl
 | n + 1 => by simp [Z2t, Z8a ops n]
theorem Z8b {l : List Nat} {i : Nat} : ∀ {es : List Nat}, (es.foldr (fun j m => (2 ^ j ||| l.getD j 0) ||| m) 0).testBit i = true → ∃ j ∈ es, j = i ∨ (l.getD j 0).testBit i = true
 | [], h => by simp at h
 | e :: es, h => by
  simp only [List.foldr_cons, Nat.testBit_or, Nat.testBit_two_pow, Bool.or_eq_true, decide_eq_true_eq] at h
  rcases h with (h | h) | h
  ·exact ⟨e, by simp, .inl h⟩
  ·exact ⟨e, by simp, .inr h⟩
  ·obtain ⟨j, hj, h⟩ := Z8b h
   exact ⟨j, by simp [hj], h⟩
theorem Z8c (ops : Array Oper) : ∀ (n j : Nat), j < n → ∀ i, ((Z2t ops n).getD j 0).testBit i = true → Z7x ops i j
 | 0, j, h, _, _ => by omega
 | n + 1, j, h, i, hi => by
  simp only [Z2t] at hi
  by_cases hj : j < n
  ·rw [List.getD_eq_getElem?_getD, List.getElem?_append_left (by rw [Z8a]; exact hj), ← List.getD_eq_getElem?_getD] at hi
   exact Z8c ops n j hj i hi
  ·have : j = n := by omega
   subst this
   rw [List.getD_eq_getElem?_getD, List.getElem?_append_right (by rw [Z8a]; exact Nat.le_refl _), Z8a, Nat.sub_self] at hi
   simp only [List.getElem?_cons_zero, Option.getD_some] at hi
   cases ho : ops[j]? with
   | none => rw [ho] at hi; simp at hi
   | some o =>
    rw [ho] at hi
    obtain ⟨m, hm, rfl | hi⟩ := Z8b hi
    ·exact .edge ho hm
    ·by_cases hmj : m < j
     ·exact .trans ho hm (Z8c ops j m hmj i hi)
     ·rw [List.getD_eq_getElem?_getD, List.getElem?_eq_none (by rw [Z8a]; omega)] at hi
      simp at hi
theorem Z8d {Q Q' : Z27 → Zc → Prop} (hQ : ∀ F σ, Q F σ → Q' F σ) : ∀ {l : List Z2b} {F : Z27} {σ : Zc}, aops P l F σ Q → aops P l F σ Q'
 | [], _, _, h => hQ _ _ h
 | _ :: _, _, _, h => Z7k (fun _ _ h' => Z8d hQ h') h
theorem Z8e {ops : Array Oper} {fl : List Nat} : ∀ {l : List Oper} {i : Nat} {al : List Z2b}, Z2y P N ops fl i l = some al → al.length = l.length
 | [], i, al, h => by simp [Z2y] at h; subst h; rfl
 | o :: l, i, al, h => by
  simp only [Z2y, Option.bind_eq_bind, Option.bind_eq_some_iff, Option.pure_def, Option.some.injEq] at h
  obtain ⟨ao, ho, al', hl, rfl⟩ := h
  simp [Z8e hl]
theorem Z8f {ops : Array Oper} {fl : List Nat} : ∀ {l : List Oper} {i : Nat} {al : List Z2b}, Z2y P N ops fl i l = some al → ∀ (j : Nat) o, l[j]? = some o → ∃ ao, al[j]? = some (modA (fl.contains (i + j)) (Z2r fl (i + j)) ao) ∧ Z2q P N ops (fl.contains (i + j)) o = some ao
 | [], i, al, h, j, o, ho => by simp at ho
 | o' :: l, i, al, h, j, o, ho => by
  simp only [Z2y, Option.bind_eq_bind, Option.bind_eq_some_iff, Option.pure_def, Option.some.injEq] at h
  obtain ⟨ao, ho', al', hl, rfl⟩ := h
  cases j with
  | zero => simp at ho; subst ho; exact ⟨ao, by simp, ho'⟩
  | succ j =>
   obtain ⟨a, h1, h2⟩ := Z8f hl j o (by simpa using ho)
   exact ⟨a, by rw [show i + (j + 1) = i + 1 + j by omega]; simpa using h1, by rw [← h2]; congr 2; omega⟩
theorem Z8g (hm : P.follows .mixedOrders = true) {id : Nat} {ops : Array Oper} {fl : List Nat} {al : List Z2b} (hc : Z2y P N ops fl 0 ops.toList = some al) (hd : Z2x ops al = true) {K0 : Kr} {Q : Z27 → Zc → Prop} {Qc : Exit → Act → World → Prop} {a : Act} {w : World}
  (hQ : ∀ a w, St K0 N Q a w → Qc .normal a w) (h : St K0 N (fun F σ => aops P al F σ Q) a w) : (Code.region id ops true).wpIn (fen rd) 0 P Qc a w := by
 have hlen : al.length = ops.size := by rw [Z8e hc]; simp
 unfold Z2x at hd
 simp only [List.all_eq_true, List.mem_range] at hd
 refine wpIn_region_any hm ?_
 have hQ' : ∀ a w, St K0 N (fun F σ => ∃ τ, τ.Perm σ ∧ Q F τ) a w → Qc .normal a w := fun a w hs => by
  obtain ⟨K, F, σ, h1, h2, h3, h4, τ, h5, h6⟩ := hs
  exact hQ a w ⟨K, F, τ, h1, h2.sub ((h5.map Prod.fst).nodup_iff.2 h2.nd) (fun p hp => h5.subset hp), h3, h4, h6⟩
 refine Z7w (fl := fun i => fl.contains (0 + i)) (gs := fun i => Z2r fl (0 + i)) (fun i o ho => Z8f hc i o (by simpa using ho)) hQ' ops.size _ a w.drew ?_
 obtain ⟨K, F, σ, h1, h2, h3, h4, h5⟩ := h.drew
 refine ⟨K, F, σ, h1, h2, h3, h4, ?_⟩
 refine Z89 (nc := al.all fun o => !o.k.calls) hlen (fun j o ho i hi => ?_) (fun e o ho => ?_) (fun i j x y hij hx hy => ?_) (fun F σ τ nd p h => by obtain ⟨ρ, h1, h2⟩ := h; exact ⟨ρ, h1.trans p, h2⟩) ops.size 0 _ F σ (by omega) (fun _ => h2.nd) (by simp) (fun j hj => by omega) (fun j _ hlt => by simp [hlt]) (Z8d (fun F σ h => ⟨σ, List.Perm.refl _, h⟩) (by simpa using h5))
 ·have hlt : j < ops.size := (Array.getElem?_eq_some_iff.1 ho).1
  have := hd j hlt
  rw [ho] at this
  split at this
  ·rename_i oj aj e1 e2
   simp only [Option.some.injEq] at e1; subst e1
   rw [Bool.and_eq_true] at this
   exact of_decide_eq_true (List.all_eq_true.1 this.1 i hi)
  ·cases this
 ·have := List.all_eq_true.1 e o ho
  simpa using this
 ·have hlt : j < ops.size := by rw [← hlen]; exact (List.getElem?_eq_some_iff.1 hy).1
  have hj := hd j hlt
  rw [hy] at hj
  split at hj
  ·rename_i oj aj e1 e2
   simp only [Option.some.injEq] at e2; subst e2
   rw [Bool.and_eq_true] at hj
   have := List.all_eq_true.1 hj.2 i (List.mem_range.2 hij)
   rw [hx] at this
   simp only [Bool.or_eq_true] at this
   rcases this with h | h
   ·exact .inl (Z8c ops ops.size j hlt i h)
   ·exact .inr h
  ·cases hj
end Go.Abs
namespace Go.Abs
open Go Go.RowKit
variable {P : Program} {N : Nat}
inductive Z8h where
 | normal
 | exit (id : Nat)
 | ret
abbrev Z8i := Z8h → Z27 → Zc → Prop
def CQ (K0 : Kr) (N : Nat) (Q : Z8i) : Exit → Act → World → Prop
 | .normal, a, w => St K0 N (Q .normal) a w
 | .exit id, a, w => St K0 N (Q (.exit id)) a w
 | .ret, a, w => St K0 N (Q .ret) a w
 | _, _, _ => False
def Z2c.ranges : Z2c → Bool
 | .seq a b | .cond _ a b => a.ranges || b.ranges
 | .block _ a | .loop a => a.ranges
 | .range _ _ _ _ => true
 | _ => false
def AWp (P : Program) (N : Nat) (a : Z2c) (Q : Z8i) (F : Z27) (σ : Zc) : Prop :=
 P.follows .mixedOrders = true → ∀ hs c, comp P N hs c = some a.erase → ∀ (rd : Option Nat), (rd = none ∨ a.ranges = false) → ∀ (K0 K : Kr) (act : Act) (w : World), K0.le K → Rel K σ w → FRel K N F act.tmps → Z60 K0 K act.defers → c.wpIn (fen rd) 0 P (CQ K0 N Q) act w
theorem CQ.mono {K0 : Kr} {Q Q' : Z8i} (h : ∀ e F σ, Q e F σ → Q' e F σ) : ∀ e a w, CQ K0 N Q e a w → CQ K0 N Q' e a w
 | .normal, _, _, h' => St.mono h' (h _)
 | .exit _, _, _, h' => St.mono h' (h _)
 | .ret, _, _, h' => St.mono h' (h _)
 | .goto _, _, _, h' => h'.elim
 | .panic _, _, _, h' => h'.elim
 | .outgrown, _, _, h' => h'.elim
theorem Z8j {a : Z2c} {Q Q' : Z8i} {F : Z27} {σ : Zc} (h : AWp P N a Q F σ) (hQ : ∀ e F σ, Q e F σ → Q' e F σ) : AWp P N a Q' F σ :=
 fun hm hs c hc rd hrd K0 K act w h1 h2 h3 h4 => wpIn_mono (h hm hs c hc rd hrd K0 K act w h1 h2 h3 h4) (CQ.mono hQ)
theorem awp_vs {a : Z2c} {Q : Z8i} {F G : Z27} {σ τ : Zc} (hv : ∀ K w tmps, Rel K σ w → FRel K N F tmps → ∃ K', K.le K' ∧ Rel K' τ w ∧ FRel K' N G tmps) (h : AWp P N a Q G τ) : AWp P N a Q F σ :=
 fun hm hs c hc rd hrd K0 K act w h1 h2 h3 h4 => by
  obtain ⟨K', h5, h6, h7⟩ := hv K w act.tmps h2 h3
  exact h hm hs c hc rd hrd K0 K' act w (h1.trans h5) h6 h7 (h4.mono h5)
theorem Z8k {a : Z2c} {Q : Z8i} {F : Z27} {σ : Zc} (h : (Zh σ).Nodup → AWp P N a Q F σ) : AWp P N a Q F σ :=
 fun hm hs c hc rd hrd K0 K act w h1 h2 h3 h4 => h h2.nd hm hs c hc rd hrd K0 K act w h1 h2 h3 h4
def FSub (G F : Z27) : Prop := ∀ i x, G i = some x → F i = some x
def HSub (τ σ : Zc) : Prop := ∀ K w, Rel K σ w → Rel K τ w
theorem HSub.refl (σ : Zc) : HSub σ σ := fun _ _ h => h
theorem HSub.trans {a b c : Zc} (h : HSub a b) (h' : HSub b c) : HSub a c := fun K w r => h K w (h' K w r)
theorem HSub.of_sublist {τ σ : Zc} (h : τ.Sublist σ) : HSub τ σ := fun K w r => r.sub ((h.map Prod.fst).nodup r.nd) (fun p hp => h.subset hp)
theorem HSub.of_perm {τ σ : Zc} (h : τ.Perm σ) : HSub τ σ := fun K w r => r.sub ((h.map Prod.fst).nodup_iff.2 r.nd) (fun p hp => h.subset hp)
theorem HSub.tail (p : Nat × Zb) (σ : Zc) : HSub σ (p :: σ) := .of_sublist (List.sublist_cons_self _ _)
theorem HSub.drop {τ σ : Zc} (h : HSub τ σ) (p : Nat × Zb) : HSub τ (p :: σ) := h.trans (HSub.tail p σ)
theorem HSub.keep {τ σ : Zc} (h : τ.Sublist σ) (p : Nat × Zb) : HSub (p :: τ) (p :: σ) := .of_sublist (h.cons_cons p)
theorem HSub.swap (p q : Nat × Zb) (σ : Zc) : HSub (p :: q :: σ) (q :: p :: σ) := .of_perm (List.Perm.swap _ _ _)
theorem FSub.refl (F : Z27) : FSub F F := fun _ _ h => h
theorem FRel.sub {K : Kr} {F G : Z27} {t : Array Value} (h : FRel K N F t) (hs : FSub G F) : FRel K N G t := ⟨h.size, fun i x e => h.at_ i x (hs i x e)⟩
theorem FSub.none (F : Z27) : FSub Z28 F := fun i x h => by cases h
theorem FSub.set {F G : Z27} {d : Nat} {v : Option Z0} (h : FSub G F) (hd : ∀ x, v = some x → F d = some x) : FSub (fset d v G) F := by
 intro i x e
 simp only [fset] at e
 split at e
 ·rename_i hi; subst hi; exact hd x e
 ·exact h i x e
theorem FSub.keep (F : Z27) : ∀ l : List Nat, FSub (Z29 l F) F
 | [] => FSub.none F
 | i :: l => FSub.set (FSub.keep F l) (fun x e => e)
theorem Z8l {a : Z2c} {Q : Z8i} {F G : Z27} {σ τ : Zc} (hF : FSub G F) (hσ : HSub τ σ) (h : AWp P N a Q G τ) : AWp P N a Q F σ :=
 awp_vs (fun K w tmps h1 h2 => ⟨K, Kr.le.refl K, hσ K w h1, h2.sub hF⟩) h
theorem Z8m {Q : Z8i} {F : Z27} {σ : Zc} (h : Q .normal F σ) : AWp P N .skip Q F σ := by
 intro hm hs c hc rd hrd K0 K act w h1 h2 h3 h4
 cases c <;> simp only [comp, Z2c.erase, Option.bind_eq_bind, Option.bind_eq_some_iff, Option.pure_def, Option.some.injEq, reduceCtorEq, and_false, exists_false] at hc
 ·exact Go.wpIn_skip ⟨K, F, σ, h1, h2, h3, h4, h⟩
 ·obtain ⟨l, _, hc⟩ := hc
  split at hc <;> simp at hc
theorem Z8n {id : Nat} {Q : Z8i} {F : Z27} {σ : Zc} (h : Q (.exit id) F σ) : AWp P N (.exit id) Q F σ := by
 intro hm hs c hc rd hrd K0 K act w h1 h2 h3 h4
 cases c <;> simp only [comp, Z2c.erase, Option.bind_eq_bind, Option.bind_eq_some_iff, Option.pure_def, Option.some.injEq, reduceCtorEq, and_false, exists_false, Z2c.exit.injEq] at hc
 ·obtain ⟨l, _, hc⟩ := hc
  split at hc <;> simp at hc
 ·subst hc
  exact Go.wpIn_exit ⟨K, F, σ, h1, h2, h3, h4, h⟩
theorem Z8o {Q : Z8i} {F : Z27} {σ : Zc} (h : Q .ret F σ) : AWp P N .ret Q F σ := by
 intro hm hs c hc rd hrd K0 K act w h1 h2 h3 h4
 cases c <;> simp only [comp, Z2c.erase, Option.bind_eq_bind, Option.bind_eq_some_iff, Option.pure_def, Option.some.injEq, reduceCtorEq, and_false, exists_false] at hc
 ·obtain ⟨l, _, hc⟩ := hc
  split at hc <;> simp at hc
 ·exact Go.wpIn_ret ⟨K, F, σ, h1, h2, h3, h4, h⟩
theorem awp_region {ops : List Z2b} {keep : List Nat} {Q : Z8i} {F : Z27} {σ : Zc} (h : aops P ops F σ fun F' σ' => Q .normal F' σ') : AWp P N (.region ops keep) Q F σ := by
 intro hm hs c hc rd hrd K0 K act w h1 h2 h3 h4
 have hst : St K0 N (fun F σ => aops P ops F σ fun F' σ' => Q .normal F' σ') act w := ⟨K, F, σ, h1, h2, h3, h4, h⟩
 have hQ : ∀ a w, St K0 N (fun F' σ' => Q .normal F' σ') a w → CQ K0 N Q .normal a w := fun a w h => h
 cases c <;> simp only [comp, Z2c.erase, Option.bind_eq_bind, Option.bind_eq_some_iff, Option.pure_def, Option.some.injEq, reduceCtorEq, and_false, exists_false] at hc
 rename_i id ops' draw
 obtain ⟨l, hl, hc⟩ := hc
 split at hc
 ·simp at hc
 ·rename_i hd
  simp only [Option.some.injEq, Z2c.region.injEq, and_true] at hc
  subst hc
  cases draw with
  | false => exact Z6f hl hQ hst
  | true => exact Z8g hm hl (by simpa using hd) hQ hst
def Z8p (P : Program) (N : Nat) (b : Z2c) (Q : Z8i) : Z8i
 | .normal, F, σ => AWp P N b Q F σ
 | e, F, σ => Q e F σ
theorem Ks {a b : Z2c} {Q : Z8i} {F : Z27} {σ : Zc} (h : AWp P N a (Z8p P N b Q) F σ) : AWp P N (.seq a b) Q F σ := by
 intro hm hs c hc rd hrd K0 K act w h1 h2 h3 h4
 cases c <;> simp only [comp, Z2c.erase, Option.bind_eq_bind, Option.bind_eq_some_iff, Option.pure_def, Option.some.injEq, reduceCtorEq, and_false, exists_false, Z2c.seq.injEq] at hc
 ·obtain ⟨l, _, hc⟩ := hc
  split at hc <;> simp at hc
 ·obtain ⟨x, hx, y, hy, rfl, rfl⟩ := hc
  refine Go.wpIn_seq (wpIn_mono (h hm hs _ hx rd (hrd.imp id fun e => by simp only [Z2c.ranges, Bool.or_eq_false_iff] at e; exact e.1) K0 K act w h1 h2 h3 h4) ?_)
  intro e a' w' hq
  cases e with
  | normal =>
   obtain ⟨K', F', σ', g1, g2, g3, g4, g5⟩ := hq
   exact g5 hm hs _ hy rd (hrd.imp id fun e => by simp only [Z2c.ranges, Bool.or_eq_false_iff] at e; exact e.2) K0 K' a' w' g1 g2 g3 g4
  | exit id => exact hq
  | ret => exact hq
  | goto l => exact hq.elim
  | panic l => exact hq.elim
  | outgrown => exact hq.elim
theorem Z8q {x : Zw} {a b : Z2c} {Q : Z8i} {F : Z27} {σ : Zc} {t : Bool} (hx : ev F x = some (.bool t)) (h1 : t = true → AWp P N a Q F σ) (h2 : t = false → AWp P N b Q F σ) : AWp P N (.cond x a b) Q F σ := by
 intro hm hs c hc rd hrd K0 K act w g1 g2 g3 g4
 cases c <;> simp only [comp, Z2c.erase, Option.bind_eq_bind, Option.bind_eq_some_iff, Option.pure_def, Option.some.injEq, reduceCtorEq, and_false, exists_false, Z2c.cond.injEq] at hc
 ·obtain ⟨l, _, hc⟩ := hc
  split at hc <;> simp at hc
 ·obtain ⟨o, ho, y, hy, z, hz, rfl, rfl, rfl⟩ := hc
  have he := (Z61 g3 ho hx).bool_inv
  refine Go.wpIn_cond he ?_
  cases t with
  | true => exact h1 rfl hm hs _ hy rd (hrd.imp id fun e => by simp only [Z2c.ranges, Bool.or_eq_false_iff] at e; exact e.1) K0 K act w g1 g2 g3 g4
  | false => exact h2 rfl hm hs _ hz rd (hrd.imp id fun e => by simp only [Z2c.ranges, Bool.or_eq_false_iff] at e; exact e.2) K0 K act w g1 g2 g3 g4
def Z8r (id : Nat) (Q : Z8i) : Z8i
 | .exit id', F, σ => if id' = id then Q .normal F σ else Q (.exit id') F σ
 | e, F, σ => Q e F σ
theorem Z8s {id : Nat} {a : Z2c} {Q : Z8i} {F : Z27} {σ : Zc} (h : AWp P N a (Z8r id Q) F σ) : AWp P N (.block id a) Q F σ := by
 intro hm hs c hc rd hrd K0 K act w h1 h2 h3 h4
 cases c <;> simp only [comp, Z2c.erase, Option.bind_eq_bind, Option.bind_eq_some_iff, Option.pure_def, Option.some.injEq, reduceCtorEq, and_false, exists_false, Z2c.block.injEq] at hc
 ·obtain ⟨l, _, hc⟩ := hc
  split at hc <;> simp at hc
 ·obtain ⟨x, hx, rfl, rfl⟩ := hc
  refine Go.wpIn_block (wpIn_mono (h hm hs _ hx rd hrd K0 K act w h1 h2 h3 h4) ?_)
  intro e a' w' hq
  cases e with
  | normal => exact hq
  | exit id' =>
   simp only [CQ] at hq
   simp only [Exit.inBlock]
   split
   ·rename_i e
    refine St.mono hq fun F σ h => ?_
    simpa [Z8r, e] using h
   ·rename_i e
    refine St.mono hq fun F σ h => ?_
    simpa [Z8r, e] using h
  | ret => exact hq
  | goto l => exact hq.elim
  | panic l => exact hq.elim
  | outgrown => exact hq.elim
def Z8t (I : Z27 → Zc → Prop) (μ : Z27 → Zc → Nat) (n : Nat) (Q : Z8i) : Z8i
 | .normal, F, σ => ∃ G τ, FSub G F ∧ HSub τ σ ∧ I G τ ∧ μ G τ < n
 | e, F, σ => Q e F σ
theorem Z8u {a : Z2c} {Q : Z8i} {F : Z27} {σ : Zc} (I : Z27 → Zc → Prop) (μ : Z27 → Zc → Nat) (h0 : I F σ) (round : ∀ F σ, I F σ → AWp P N a (Z8t I μ (μ F σ) Q) F σ) : AWp P N (.loop a) Q F σ := by
 intro hm hs c hc rd hrd K0 K act w h1 h2 h3 h4
 cases c <;> simp only [comp, Z2c.erase, Option.bind_eq_bind, Option.bind_eq_some_iff, Option.pure_def, Option.some.injEq, reduceCtorEq, and_false, exists_false, Z2c.loop.injEq] at hc
 ·obtain ⟨l, _, hc⟩ := hc
  split at hc <;> simp at hc
 ·rename_i c
  obtain ⟨x, hx, rfl⟩ := hc
  intro b k cs hro hb hr
  have key : ∀ (n : Nat) (K : Kr) (F : Z27) (σ : Zc) (a' : Act) (w : World), μ F σ = n → K0.le K → Rel K σ w → FRel K N F a'.tmps → Z60 K0 K a'.defers → I F σ →
    ∃ e a'' w', CQ K0 N Q e a'' w' ∧ ArrivesIn (Machine.fenced P (fen rd)) P (lone (b.atR a' (.code c :: .inLoop c :: k)) cs w) b k cs e a'' w' := by
   intro n
   induction n using Nat.strongRecOn with
   | _ n ih =>
    intro K F σ a' w hn g1 g2 g3 g4 hI
    obtain ⟨e, a₁, w₁, hq, harr⟩ := round F σ hI hm hs _ hx rd hrd K0 K a' w g1 g2 g3 g4 b (.inLoop c :: k) cs hro hb hr
    cases e with
    | normal =>
     obtain ⟨K1, F1, σ1, q1, q2, q3, q4, G, τ, q5, q6, q7, q8⟩ := hq
     obtain ⟨e₂, a₂, w₂, hq₂, harr₂⟩ := ih (μ G τ) (by omega) K1 G τ a₁ w₁ rfl q1 (q6 K1 w₁ q2) (q3.sub q5) q4 q7
     exact ⟨e₂, a₂, w₂, hq₂, .of_steps (StepsIn.trans harr (.one (fenced_calm hb hr rfl) stepR_inLoop)) harr₂⟩
    | exit id => exact ⟨.exit id, a₁, w₁, hq, .pass (x := .inLoop c) rfl (fun _ _ => .inl (by simp)) harr⟩
    | ret => exact ⟨.ret, a₁, w₁, hq, .pass (x := .inLoop c) rfl (fun _ _ => .inl (by simp)) harr⟩
    | goto l => exact hq.elim
    | panic ch => exact hq.elim
    | outgrown => exact hq.elim
  obtain ⟨e, a', w', hq, harr⟩ := key _ K F σ act w rfl h1 h2 h3 h4 h0
  exact ⟨e, a', w', hq, .of_steps (.one (fenced_calm hb hr rfl) stepR_loop) harr⟩
def Z8v (F : Z27) (σ : Zc) : ARes → Option Z0
 | .t i => F i
 | .cell i ag sz => match F i with
  | some p => Z1l σ ag sz [p]
  | none => none
def Z8w (F : Z27) (σ : Zc) : List ARes → Option (List Z0)
 | [] => some []
 | r :: l => match Z8v F σ r, Z8w F σ l with
  | some v, some vs => some (v :: vs)
  | _, _ => none
def Z8x : List Z0 → Z0
 | [v] => v
 | vs => .tup vs
def Z8y (r : Z0) (σ : Zc) (r' : Z0) (τ : Zc) : Prop := ∀ K w v, Rel K σ w → VR K r v → ∃ K', K.le K' ∧ Rel K' τ w ∧ VR K' r' v
theorem Z8y.refl (r : Z0) (σ : Zc) : Z8y r σ r σ := fun K w v h1 h2 => ⟨K, Kr.le.refl K, h1, h2⟩
theorem Z8y.of_sub {r : Z0} {σ τ : Zc} (h : HSub τ σ) : Z8y r σ r τ := fun K w v h1 h2 => ⟨K, Kr.le.refl K, h K w h1, h2⟩
theorem Z8y.trans {r r' r'' : Z0} {σ σ' σ'' : Zc} (h : Z8y r σ r' σ') (h' : Z8y r' σ' r'' σ'') : Z8y r σ r'' σ'' := fun K w v h1 h2 => by
 obtain ⟨K1, a, b, c⟩ := h K w v h1 h2
 obtain ⟨K2, a', b', c'⟩ := h' K1 w v b c
 exact ⟨K2, a.trans a', b', c'⟩
def ARet (res : List ARes) (R : Z0 → Zc → Prop) : Z8i
 | .normal, F, σ => ∃ vs, Z8w F σ res = some vs ∧ ∃ r τ, Z8y (Z8x vs) σ r τ ∧ R r τ
 | .ret, F, σ => ∃ vs, Z8w F σ res = some vs ∧ ∃ r τ, Z8y (Z8x vs) σ r τ ∧ R r τ
 | .exit _, _, _ => False
theorem ares {res : List ARes} {R : Z0 → Zc → Prop} {F : Z27} {σ : Zc} {vs : List Z0} (h : Z8w F σ res = some vs) {τ : Zc} (hs : HSub τ σ) (hR : R (Z8x vs) τ) : ARet res R .ret F σ :=
 ⟨vs, h, _, τ, Z8y.of_sub hs, hR⟩
def Z8z (tmps : Array Value) : ResultVar → Sem Value
 | .tmp t => pure (tmps.getD t undef)
 | .cell a t => do loadVar t (← asAddr (tmps.getD a undef))
theorem Z90 (fn : Func) (tmps : Array Value) : results fn tmps = (do let vs ← fn.results.mapM (Z8z tmps); pure (if h : vs.size = 1 then vs[0] else .tuple vs)) := by
 unfold results
 congr 1
theorem Z91 {fn : Func} : ∀ {rs : List ResultVar} {res : List ARes} {K : Kr} {F : Z27} {σ : Zc} {w : World} {tmps : Array Value} {vs : List Z0}, rs.mapM (resA P) = some res → Rel K σ w → FRel K N F tmps → Z8w F σ res = some vs →
  ∃ us, (rs.mapM (Z8z tmps)).run P w = .ok us w ∧ Z1 K vs us
 | [], res, K, F, σ, w, tmps, vs, h, hr, hF, hv => by
  simp at h; subst h
  simp [Z8w] at hv; subst hv
  exact ⟨[], by simp, .nil⟩
 | r :: rs, res, K, F, σ, w, tmps, vs, h, hr, hF, hv => by
  simp only [List.mapM_cons, Option.bind_eq_bind, Option.bind_eq_some_iff, Option.pure_def, Option.some.injEq] at h
  obtain ⟨ar, har, res', hres, rfl⟩ := h
  simp only [Z8w] at hv
  split at hv
  ·rename_i v vs' h1 h2
   simp only [Option.some.injEq] at hv; subst hv
   obtain ⟨us, hrun, hus⟩ := Z91 (fn := fn) hres hr hF h2
   have hone : ∃ u, (Z8z tmps r).run P w = .ok u w ∧ VR K v u := by
    cases r with
    | tmp t =>
     simp only [resA, Option.some.injEq] at har; subst har
     exact ⟨_, rfl, hF.at_ t v h1⟩
    | cell a t =>
     simp only [resA, Option.bind_eq_bind, Option.bind_eq_some_iff, Option.pure_def, Option.some.injEq] at har
     obtain ⟨g, hg, s, hs, rfl⟩ := har
     simp only [Z8v] at h1
     split at h1
     ·rename_i p hp
      rw [Z3j] at h1
      simp only [Option.bind_eq_some_iff] at h1
      obtain ⟨cs, h3, h4⟩ := h1
      obtain ⟨ad, ms, e, h5, h6, h7⟩ := Z3d hr (hF.at_ a p hp) h3
      obtain ⟨u, hu, hvu⟩ := Z3i (P := P) hg hs h4 h5 h7 h6
      refine ⟨u, ?_, hvu⟩
      simp only [Z8z, Sem.run_bind, e, asAddr, Sem.run_pure, Result.andThen_ok, hu]
     ·cases h1
   obtain ⟨u, hu, hvu⟩ := hone
   refine ⟨u :: us, ?_, .cons hvu hus⟩
   simp only [List.mapM_cons, Sem.run_bind, hu, Result.andThen_ok, hrun, Sem.run_pure]
  ·cases hv
def Z92 : List Value → Value
 | [u] => u
 | us => .tuple us.toArray
theorem Z1.same {K K' : Kr} (hi : K'.imm = K.imm) (hl : K'.loc = K.loc) {l : List Z0} {m : List Value} (r : Z1 K l m) : Z1 K' l m :=
 Z1.mono2 (fun _ _ _ h => by rw [hi]; exact h) (fun _ _ h => by rw [hl]; exact h) r
theorem Rel.put {K : Kr} {σ : Zc} {w : World} (r : Rel K σ w) {D : Nat} {o o' : Obj} (ho : w.heap[D]? = some o) (hc : ∀ cs ty fr, o ≠ .cells cs ty fr) (hD : K.w0.heap.size ≤ D) : Rel { K with wo := w.putObj D o' } σ (w.putObj D o') := by
 have hother : ∀ k, k ≠ D → (w.putObj D o').heap[k]? = w.heap[k]? := fun k hk => World.putObj_heap_other hk
 have hlt := (Array.getElem?_eq_some_iff.1 ho).1
 have hcell : ∀ b v x, w.cell? ⟨b, x, none⟩ = some v → b ≠ D := by
  rintro b v x h rfl
  unfold World.cell? at h
  rw [ho] at h
  cases o <;> simp at h
  exact hc _ _ _ rfl
 refine ⟨r.ext.trans ⟨rfl, rfl, rfl, by simp [World.putObj], fun k hk => hother k (by omega)⟩, Oth.refl _, fun b x v h => ?_, r.nd, r.bnd, fun b L cb h hb => ?_, fun b blk h => ?_, r.inj⟩
 ·have h1 := r.imm b x v h
  rw [Zv (w := w) (hother b (hcell _ _ _ h1))]
  exact h1
 ·have := r.lit b L cb h hb
  simpa [World.putObj] using this
 ·cases blk with
  | cells sz xs =>
   have h1 := r.own b _ h
   refine ⟨h1.1, ?_⟩
   rcases h1.2 with h2 | ⟨cb, pcap, cs, ty, g1, g2, g3, g4, g5, g6, g7, g8⟩
   ·exact .inl h2
   ·refine .inr ⟨cb, pcap, cs, ty, g1, g2, g3, ?_, g5, g6, g7, Z1.same (K := K) (K' := { K with wo := w.putObj D o' }) rfl rfl g8⟩
    rw [hother cb (fun e => by subst e; rw [ho] at g4; simp only [Option.some.injEq] at g4; exact hc _ _ _ g4)]
    exact g4
theorem Rel.now {K : Kr} {σ : Zc} {w : World} (r : Rel K σ w) : K.le { K with wo := w } ∧ Rel { K with wo := w } σ w := by
 have hle : K.le { K with wo := w } := ⟨rfl, r.oth, fun _ _ _ h => h, fun _ _ h => h, Nat.le_refl _⟩
 exact ⟨hle, r.ext, Oth.refl _, r.imm, r.nd, r.bnd, r.lit, fun b blk h => (r.own b blk h).keep hle fun cb s c _ => ⟨rfl, fun h => h⟩, r.inj⟩
theorem Z93 {fn : Func} {tmps : Array Value} {R : Ending → World → Prop} {K0 : Kr} {σ : Zc} : ∀ (ds : List Deferred) (K : Kr) (w : World), ds.Nodup →
  (∀ d ∈ ds, ∃ D, d = { target := .collected D, args := #[] } ∧ K0.w0.heap.size ≤ D ∧ K0.wo.heap.size ≤ D ∧ w.heap[D]? = some (.deferred (some []))) → K0.le K → Rel K σ w →
  (∀ K' w', K'.imm = K.imm → K'.loc = K.loc → K0.le K' → Rel K' σ w' → ∃ v, (results fn tmps).run P w' = .ok v w' ∧ R (.returned v) w') → LeavesInM Fence.wide 0 P fn tmps R ds .returning w
 | [], K, w, _, _, hle, hr, h => h K w rfl rfl hle hr
 | d :: ds, K, w, hnd, hm, hle, hr, h => by
  obtain ⟨D, rfl, h1, h2, h3⟩ := hm d (by simp)
  obtain ⟨hn, hnd'⟩ := List.nodup_cons.1 hnd
  refine ⟨by simp, .inl ⟨D, _, rfl, run_takeDeferred h3, ?_⟩⟩
  have hput := hr.put (o' := .deferred none) h3 (fun _ _ _ e => by cases e) (by rw [hle.w0]; exact h1)
  refine Z93 ds _ _ hnd' (fun d' hd' => ?_) ?_ hput (fun K' w' e1 e2 => h K' w' e1 e2)
  ·obtain ⟨D', rfl, g1, g2, g3⟩ := hm d' (List.mem_cons_of_mem _ hd')
   refine ⟨D', rfl, g1, g2, ?_⟩
   rw [World.putObj_heap_other (fun e => hn (by subst e; exact hd'))]
   exact g3
  ·refine ⟨hle.w0, ?_, hle.imm, hle.loc, hle.nn⟩
   have h0 : Oth K0.wo w := hle.wo.trans hr.oth
   refine ⟨by simpa [World.putObj] using h0.size, fun k o hk ho => ?_⟩
   have hlt := (Array.getElem?_eq_some_iff.1 hk).1
   rw [World.putObj_heap_other (show k ≠ D by omega)]
   exact h0.same k o hk ho
theorem Z94 {hs : List (Nat × Nat)} {f : FuncId} {af : Z2z} (hm : P.follows .mixedOrders = true) (hf : Z30 P hs f = some af.erase) {args : List Z0} (hn : args.length ≤ af.n) {σ : Zc} {R : Z0 → Zc → Prop}
  (h : AWp P af.n af.code (ARet af.res R) (Z2a args) σ) : Z1s P f args σ R := by
 intro K w vs hr hv
 unfold Z30 at hf
 simp only [Option.bind_eq_bind, Option.bind_eq_some_iff, Option.pure_def, Option.some.injEq] at hf
 obtain ⟨fn, hfn, c, hc, a, ha, rs, hrs, e⟩ := hf
 have e1 : fn.ntmps = af.n := congrArg Z2z.n e
 have e2 : a = af.code.erase := congrArg Z2z.code e
 have e3 : rs = af.res := congrArg Z2z.res e
 subst e2 e3
 refine (callsIn_wide (n := 0)).1 (callsIn_of_wp_marks hfn hc trivial ?_)
 have hlen : vs.length = args.length := hv.length.symm
 have hF : FRel K af.n (Z2a args) (vs.toArray ++ Array.replicate (fn.ntmps - vs.toArray.size) undef) := by
  refine ⟨by simp; omega, fun i x e => ?_⟩
  obtain ⟨v, h1, h2⟩ := hv.get (i := i) (a := x) e
  have hlt := (List.getElem?_eq_some_iff.1 h1).1
  have : (vs.toArray ++ Array.replicate (fn.ntmps - vs.toArray.size) undef).getD i undef = v := by
   simp [Array.getElem?_append, hlt, List.getElem?_eq_getElem hlt]
   have := (List.getElem?_eq_some_iff.1 h1).2
   exact this
  rw [this]
  exact h2
 rw [e1] at ha hF ⊢
 refine wpIn_mono (h hm hs c ha none (.inl rfl) K K { tmps := vs.toArray ++ Array.replicate (af.n - vs.toArray.size) undef, defers := [] } w (Kr.le.refl K) hr hF (Z60.nil K K)) ?_
 have fin : ∀ (act : Act) (w' : World), St K af.n (fun F σ => ∃ vs, Z8w F σ af.res = some vs ∧ ∃ r τ, Z8y (Z8x vs) σ r τ ∧ R r τ) act w' →
   LeavesInM Fence.wide 0 P fn act.tmps (fun e w' => ∃ v K' r σ', e = .returned v ∧ K.le K' ∧ Rel K' σ' w' ∧ VR K' r v ∧ R r σ') act.defers .returning w' := by
  rintro act w0' ⟨K0', F, σ1, g1, g2, g3, g4, ms, hms, r, τ, hsh, hR⟩
  obtain ⟨n1, n2⟩ := g2.now
  refine Z93 act.defers _ w0' (g4.mono n1).1 (g4.mono n1).2 (g1.trans n1) n2 ?_
  intro K1 w' e1 e2 g1 g2
  have g3 : FRel K1 af.n F act.tmps := ⟨g3.size, fun i x e => Z1.same (K := K0') e1 e2 (g3.at_ i x e)⟩
  obtain ⟨us, hrun, hus⟩ := Z91 (fn := fn) (P := P) hrs g2 g3 hms
  have hres : (results fn act.tmps).run P w' = .ok (Z92 us) w' := by
   rw [Z90, Array.mapM_eq_mapM_toList]
   simp only [Sem.run_bind, Sem.run_map]
   rw [hrun]
   simp only [Result.andThen_ok, Sem.run_pure]
   match us with
   | [] => rfl
   | [u] => rfl
   | u :: u' :: us => rfl
  have hvr : VR K1 (Z8x ms) (Z92 us) := by
   match ms, us, hus with
   | [], us, hus => rw [hus.nil_inv]; exact Z1.tup .nil .nil
   | [m], us, hus =>
    obtain ⟨u, rfl, h1⟩ := hus.one_inv
    exact h1
   | m :: m' :: ms, us, hus =>
    obtain ⟨u, us1, rfl, h1, h2⟩ := hus.ex
    obtain ⟨u', us2, rfl, h3, h4⟩ := h2.ex
    exact Z1.tup hus .nil
  obtain ⟨K2, k1, k2, k3⟩ := hsh K1 w' _ g2 hvr
  exact ⟨_, hres, _, K2, r, τ, rfl, g1.trans k1, k2, k3, hR⟩
 intro e act w' hq
 cases e with
 | normal => exact fin act w' hq
 | ret => exact fin act w' hq
 | exit id => obtain ⟨_, _, _, _, _, _, _, hf⟩ := hq; exact hf.elim
 | goto l => exact hq.elim
 | panic l => exact hq.elim
 | outgrown => exact hq.elim
end Go.Abs
namespace Go.Abs
open Go Go.RowKit
variable {P : Program} {N : Nat} {l : List Z2b} {F : Z27} {σ : Zc} {Q : Z27 → Zc → Prop}
theorem Kq {d : Nat} {k : AK} {args : List Zw} {vs : List Z0} {v : Z0} (h1 : evs F args = some vs) (h2 : Z1r k σ vs = some v) (hq : k.quiet = true)
  (h : aops P l (fset d (some v) F) σ Q) : aops P (⟨some d, k, args, none⟩ :: l) F σ Q := by
 refine ⟨vs, h1, ?_⟩
 rw [Z6p hq]
 exact ⟨v, h2, h⟩
theorem Z95 {dst : Option Nat} {k : AK} {args : List Zw} {vs : List Z0} (h1 : evs F args = some vs) (h : Z26 P k vs σ fun r σ' => aops P l (fput dst (some r) F) σ' Q) : aops P (⟨dst, k, args, none⟩ :: l) F σ Q :=
 ⟨vs, h1, h⟩
theorem Z96 {dst : Option Nat} {k : AK} {args : List Zw} {g : Nat} {want : Bool} (h1 : F g = some (.bool want)) (h : aops P (⟨dst, k, args, none⟩ :: l) F σ Q) : aops P (⟨dst, k, args, some (g, want)⟩ :: l) F σ Q :=
 ⟨some want, by rw [h1]; rfl, fun _ => h, fun e => absurd rfl e⟩
theorem Z97 {dst : Option Nat} {k : AK} {args : List Zw} {g : Nat} {want : Bool} (h1 : F g = some (.bool (!want))) (h : aops P l (fput dst (some (.tup [])) F) σ Q) : aops P (⟨dst, k, args, some (g, want)⟩ :: l) F σ Q :=
 ⟨some (!want), by rw [h1]; rfl, fun e => by cases want <;> simp at e, fun _ => h⟩
theorem Z98 {dst : Option Nat} {k : AK} {args : List Zw} {g : Nat} {want : Bool} (h1 : F g = some (.tup [])) (h : aops P l (fput dst (some (.tup [])) F) σ Q) : aops P (⟨dst, k, args, some (g, want)⟩ :: l) F σ Q :=
 ⟨none, by rw [h1]; rfl, fun e => (by cases e), fun _ => h⟩
theorem Z99 (h : Q F σ) : aops P [] F σ Q := h
@[simp] theorem Z9a {b : Nat} {x : Zb} {σ : Zc} : Zd ((b, x) :: σ) b = some x := by simp [Zd]
theorem Z9b {a b : Nat} {x : Zb} {σ : Zc} {y : Option Zb} (h : a ≠ b) (h' : Zd σ b = y) : Zd ((a, x) :: σ) b = y := by simp only [Zd, if_neg h]; exact h'
theorem Z9c {d : Nat} {ag : Bool} {sz : Nat} {args : List Zw} {b i o s : Nat} {xs : List Z0} {x v : Z0} (h1 : evs F args = some [.ptr b i o]) (hg : Zd σ b = some (.cells s xs)) (hx : xs[i]? = some x) (hp : Z19 ag sz (x.cells.drop o) = some v)
  (h : aops P l (fset d (some v) F) σ Q) : aops P (⟨some d, .load ag sz, args, none⟩ :: l) F σ Q :=
 Kq h1 (by simp [Z1r, Z1l, hg, hx, hp]) rfl h
theorem Z9d {d sz : Nat} {args : List Zw} {xs : List Z0} {f : Bool} {k : IntKind} {i : Int} {x : Z0} (h1 : evs F args = some [.slc sz xs f, .int k i]) (h0 : 0 ≤ i) (hx : xs[i.toNat]? = some x)
  (h : aops P l (fset d (some (.iptr x.cells)) F) σ Q) : aops P (⟨some d, .iad sz, args, none⟩ :: l) F σ Q :=
 Kq h1 (by simp [Z1r, aiad, h0, hx]) rfl h
theorem Z9e {d sz : Nat} {args : List Zw} {b off n : Nat} {k : IntKind} {i : Int} (h1 : evs F args = some [.arr sz b off n, .int k i]) (h0 : 0 ≤ i ∧ i < n)
  (h : aops P l (fset d (some (.ptr b (off + i.toNat) 0)) F) σ Q) : aops P (⟨some d, .iad sz, args, none⟩ :: l) F σ Q :=
 Kq h1 (by simp [Z1r, aiad, h0]) rfl h
theorem Z9f {d : Nat} {args : List Zw} {k k' : IntKind} {a b : Int} (h1 : evs F args = some [.int k a, .int k' b]) (h0 : 0 ≤ b)
  (h : aops P l (fset d (some (.int k (k.wrap (a * 2 ^ (Nat.min b.toNat k.bits))))) F) σ Q) : aops P (⟨some d, .bin .shl, args, none⟩ :: l) F σ Q :=
 Kq h1 (by simp [Z1r, abin, Z14, Z11]; omega) rfl h
theorem Z9g {sz : Nat} {args : List Zw} {b i o s : Nat} {xs : List Z0} {x v : Z0} (h1 : evs F args = some [.ptr b i o, v]) (hg : Zd σ b = some (.cells s xs)) (hx : xs[i]? = some x) (ho : o + sz ≤ s) (hv : v.elem sz) (h1' : x.one = true → o = 0 ∧ sz = 1)
  {σ' : Zc} (hs : Ze σ b (.cells s (xs.set i (Z1t x o v.cells))) = σ') (h : aops P l F σ' Q) : aops P (⟨none, .store sz, args, none⟩ :: l) F σ Q := by
 subst hs
 exact ⟨_, h1, s, xs, x, hg, hx, ho, hv, h1', h⟩
theorem Z9h {b : Nat} {x y : Zb} {σ : Zc} : Ze ((b, x) :: σ) b y = (b, y) :: σ := by simp [Ze]
theorem Z9i {a b : Nat} {x y : Zb} {σ σ' : Zc} (h : a ≠ b) (h' : Ze σ b y = σ') : Ze ((a, x) :: σ) b y = (a, x) :: σ' := by simp only [Ze, if_neg h, h']
theorem Z9j {b b' : Nat} {x y : Zb} {σ : Zc} : Zf ((b, x) :: σ) b b' y = (b', y) :: σ := by simp [Zf]
theorem Z9k {a b b' : Nat} {x y : Zb} {σ σ' : Zc} (h : a ≠ b) (h' : Zf σ b b' y = σ') : Zf ((a, x) :: σ) b b' y = (a, x) :: σ' := by simp only [Zf, if_neg h, h']
theorem Z9l {b : Nat} {x : Zb} {σ : Zc} : Zg ((b, x) :: σ) b = σ := by simp [Zg]
theorem Z9m {a b : Nat} {x : Zb} {σ σ' : Zc} (h : a ≠ b) (h' : Zg σ b = σ') : Zg ((a, x) :: σ) b = (a, x) :: σ' := by simp only [Zg, if_neg h, h']
theorem Z9n {d sz : Nat} {args : List Zw} {v : Z0} (h1 : evs F args = some [v]) (hv : v.elem sz) (h : ∀ b, b ∉ Zh σ → aops P l (fset d (some (.ptr b 0 0)) F) ((b, .cells sz [v]) :: σ) Q) : aops P (⟨some d, .box sz, args, none⟩ :: l) F σ Q :=
 ⟨_, h1, hv, fun b hb => h b hb⟩
theorem Z9o {d : Nat} {z : Z0} (hz : ∀ c ∈ z.cells, c.one = true) (h : ∀ b, b ∉ Zh σ → aops P l (fset d (some (.ptr b 0 0)) F) ((b, .cells z.cells.length [z]) :: σ) Q) : aops P (⟨some d, .alloc z, [], none⟩ :: l) F σ Q :=
 ⟨[], rfl, rfl, hz, fun b hb => h b hb⟩
theorem Z9p {d sz byt : Nat} {z : Z0} {args : List Zw} {n c : Int} (h1 : evs F args = some [.int .i64 n, .int .i64 c]) (hz : z.elem sz) (h0 : 0 ≤ n) (h2 : n ≤ c) (h3 : c ≤ 9223372036854775807) (h4 : byt * c ≤ 281474976710656)
  (h : ∀ b, b ∉ Zh σ → aops P l (fset d (some (.arr sz b 0 n.toNat)) F) ((b, .cells sz (List.replicate n.toNat z)) :: σ) Q) : aops P (⟨some d, .mks sz byt z, args, none⟩ :: l) F σ Q :=
 ⟨_, h1, hz, h0, h2, h3, h4, fun b hb => h b hb⟩
theorem Z9q {d sz byt s b n : Nat} {args : List Zw} {x : Z0} {xs ys : List Z0} (h1 : evs F args = some [.arr s b 0 n, x]) (hg : Zd σ b = some (.cells sz xs)) (hn : xs.length = n) (hy : Z1m σ sz x = some ys) (hb : (xs.length + ys.length) * byt ≤ 140737488355328)
  (h : ∀ b', b' ∉ Zh σ → aops P l (fset d (some (.arr sz b' 0 (xs.length + ys.length))) F) (Zf σ b b' (.cells sz (xs ++ ys))) Q) : aops P (⟨some d, .app sz byt, args, none⟩ :: l) F σ Q :=
 ⟨_, h1, ys, hy, xs, hg, hn, hb, fun b' hb' => h b' hb'⟩
theorem Z9r {d sz byt z : Nat} {args : List Zw} {x : Z0} {ys : List Z0} (h1 : evs F args = some [.slc z [] true, x]) (hy : Z1m σ sz x = some ys) (hb : ys.length * byt ≤ 140737488355328)
  (h : ∀ b', b' ∉ Zh σ → aops P l (fset d (some (.arr sz b' 0 ys.length)) F) ((b', .cells sz ys) :: σ) Q) : aops P (⟨some d, .app sz byt, args, none⟩ :: l) F σ Q :=
 ⟨_, h1, ys, hy, by simpa using hb, .inr rfl, fun b' hb' => h b' hb'⟩
theorem Z9s {d sz s b off n : Nat} {args : List Zw} {k k' : IntKind} {m : Int} {xs : List Z0} (h1 : evs F args = some [.arr s b off n, .int k m, .int k' m]) (hg : Zd σ b = some (.cells sz xs)) (ho : off + n ≤ xs.length) (h0 : 0 ≤ m) (hm : m ≤ n) {σ' : Zc} (hd : Zg σ b = σ')
  (h : aops P l (fset d (some (.slc sz ((xs.drop off).take m.toNat) true)) F) σ' Q) : aops P (⟨some d, .clip sz, args, none⟩ :: l) F σ Q := by
 subst hd
 exact ⟨_, h1, xs, hg, ho, h0, rfl, hm, h⟩
theorem Z9t {d sz : Nat} {args : List Zw} {k k' : IntKind} {m : Int} {xs : List Z0} {f : Bool} (h1 : evs F args = some [.slc sz xs f, .int k m, .int k' m]) (h0 : 0 ≤ m) (hm : m ≤ xs.length)
  (h : aops P l (fset d (some (.slc sz (xs.take m.toNat) true)) F) σ Q) : aops P (⟨some d, .clip sz, args, none⟩ :: l) F σ Q :=
 ⟨_, h1, .slc sz (xs.take m.toNat) true, by simp [asub, bnds, h0, hm], by simpa [fput] using h⟩
theorem Z9u {d : Nat} {f : FuncId} {args : List Zw} {vs : List Z0} {C : Z0 → Zc → Prop} (h1 : evs F args = some vs) (hc : Z1s P f vs σ C) (hne : ∃ r σ', C r σ') (h : ∀ r σ', C r σ' → aops P l (fset d (some r) F) σ' Q) : aops P (⟨some d, .call f, args, none⟩ :: l) F σ Q := by
 refine ⟨_, h1, ?_, hc.mono h⟩
 obtain ⟨r, σ', hC⟩ := hne
 exact ⟨r, σ', h r σ' hC⟩
theorem Z9v {d : Nat} {f : FuncId} {args : List Zw} {vs : List Z0} {v : Z0} {τ : Zc} (h1 : evs F args = some vs) (hc : Z1s P f vs σ fun r σ' => r = v ∧ σ' = τ) (h : aops P l (fset d (some v) F) τ Q) : aops P (⟨some d, .call f, args, none⟩ :: l) F σ Q :=
 Z9u h1 hc ⟨v, τ, rfl, rfl⟩ fun r σ' ⟨e1, e2⟩ => by subst e1 e2; exact h
def KP (keep : List Nat) (F : Z27) (Φ : Z27 → Prop) : Prop := ∃ G, FSub G F ∧ Φ G
theorem Z9w {F : Z27} {Φ : Z27 → Prop} (h : Φ Z28) : KP [] F Φ := ⟨_, FSub.none F, h⟩
theorem Z9x {i : Nat} {l : List Nat} {F : Z27} {Φ : Z27 → Prop} {x : Z0} (h : F i = some x) (h' : KP l F fun G => Φ (fset i (some x) G)) : KP (i :: l) F Φ := by
 obtain ⟨G, h1, h2⟩ := h'
 exact ⟨_, FSub.set h1 (fun y e => by cases e; exact h), h2⟩
theorem Z9y {i : Nat} {l : List Nat} {F : Z27} {Φ : Z27 → Prop} (h' : KP l F Φ) : KP (i :: l) F Φ := by
 obtain ⟨G, h1, h2⟩ := h'
 exact ⟨G, h1, h2⟩
theorem Z9z {Q Q' : Z27 → Zc → Prop} (hQ : ∀ F σ, Q F σ → Q' F σ) : ∀ {l : List Z2b} {F : Z27} {σ : Zc}, aops P l F σ Q → aops P l F σ Q'
 | [], _, _, h => hQ _ _ h
 | _ :: _, _, _, h => Z7k (fun _ _ h' => Z9z hQ h') h
theorem Za0 {keep : List Nat} {b : Z2c} {R : Z8i} {F : Z27} {σ : Zc} (h : KP keep F fun G => AWp P N b R G σ) : AWp P N b R F σ := by
 obtain ⟨G, h1, h2⟩ := h
 exact Z8l h1 (HSub.refl σ) h2
theorem Za1 {ops : List Z2b} {keep : List Nat} {b : Z2c} {R : Z8i} {F : Z27} {σ : Zc} (h : aops P ops F σ fun F' σ' => KP keep F' fun G => AWp P N b R G σ') : AWp P N (.seq (.region ops keep) b) R F σ :=
 Ks (awp_region (Z9z (fun _ _ h => Za0 h) h))
theorem Za2 {x : Zw} {a b : Z2c} {R : Z8i} {F : Z27} {σ : Zc} {p : Prop} [Decidable p] (hx : ev F x = some (.bool (decide p))) (h1 : p → AWp P N a R F σ) (h2 : ¬ p → AWp P N b R F σ) : AWp P N (.cond x a b) R F σ :=
 Z8q hx (fun e => h1 (of_decide_eq_true e)) (fun e => h2 (of_decide_eq_false e))
theorem Za3 {c : Z2c} {R : Z8i} {F : Z27} {σ : Zc} (h : AWp P N c R F σ) : AWp P N .skip (Z8p P N c R) F σ := Z8m h
end Go.Abs
namespace Go.Abs
open Go Go.RowKit
variable {P : Program} {N : Nat} {l : List Z2b} {F : Z27} {σ : Zc} {Q : Z27 → Zc → Prop}
def Z2c.snd : Z2c → Nat → Z2c
 | c, 0 => c
 | .seq _ b, n + 1 => b.snd n
 | c, _ + 1 => c
def Z2c.body : Z2c → Z2c
 | .block _ a => a
 | .loop a => a
 | c => c
theorem Za4 {p : Nat → Prop} : ∀ n, p n → ∃ m, p m ∧ ∀ k, p k → m ≤ k := by
 intro n
 induction n using Nat.strongRecOn with
 | _ n ih =>
  intro hn
  by_cases h : ∃ k, p k ∧ k < n
  ·obtain ⟨k, h1, h2⟩ := h
   exact ih k h2 h1
  ·exact ⟨n, hn, fun k hk => Nat.le_of_not_lt fun h' => h ⟨k, hk, h'⟩⟩
def Za5 (I : Nat → Z27 → Zc → Prop) (n : Nat) (Q : Z8i) : Z8i
 | .normal, F, σ => ∃ G τ m, FSub G F ∧ HSub τ σ ∧ I m G τ ∧ m < n
 | e, F, σ => Q e F σ
theorem Za6 {a : Z2c} {Q : Z8i} {F : Z27} {σ : Zc} (I : Nat → Z27 → Zc → Prop) {n : Nat} (h0 : I n F σ) (round : ∀ n F σ, I n F σ → AWp P N a (Za5 I n Q) F σ) : AWp P N (.loop a) Q F σ := by
 classical
 let J : Z27 → Zc → Prop := fun F σ => ∃ n, I n F σ
 let μ : Z27 → Zc → Nat := fun F σ => if h : J F σ then Classical.choose (Za4 (p := fun n => I n F σ) h.choose h.choose_spec) else 0
 have hμ : ∀ F σ, J F σ → I (μ F σ) F σ ∧ ∀ k, I k F σ → μ F σ ≤ k := fun F σ h => by
  have := Classical.choose_spec (Za4 (p := fun n => I n F σ) h.choose h.choose_spec)
  simp only [μ, dif_pos h]
  exact this
 refine Z8u J μ ⟨n, h0⟩ fun F σ hJ => Z8j (round (μ F σ) F σ (hμ F σ hJ).1) ?_
 intro e G τ h
 cases e with
 | normal =>
  obtain ⟨G', τ', m, h1, h2, h3, h4⟩ := h
  exact ⟨G', τ', h1, h2, ⟨m, h3⟩, Nat.lt_of_le_of_lt ((hμ G' τ' ⟨m, h3⟩).2 m h3) h4⟩
 | exit id => exact h
 | ret => exact h
theorem Za7 {keep : List Nat} {I : Nat → Z27 → Zc → Prop} {n : Nat} {F : Z27} {σ : Zc} (h : KP keep F fun G => ∃ τ m, HSub τ σ ∧ I m G τ ∧ m < n) : ∃ G τ m, FSub G F ∧ HSub τ σ ∧ I m G τ ∧ m < n := by
 obtain ⟨G, h1, τ, m, h2, h3, h4⟩ := h
 exact ⟨G, τ, m, h1, h2, h3, h4⟩
theorem Za8 {ops : List Z2b} {keep : List Nat} {b : Z2c} {R : Z8i} {F : Z27} {σ : Zc} (M : Z27 → Zc → Prop) (h : aops P ops F σ M) (h' : ∀ F σ, M F σ → AWp P N b R F σ) : AWp P N (.region ops keep) (Z8p P N b R) F σ :=
 awp_region (Z9z h' h)
theorem Za9 {σ τ : Zc} {b : Nat} (h : b ∉ Zh σ) : Zd (σ ++ τ) b = Zd τ b := by
 induction σ with
 | nil => rfl
 | cons p σ ih =>
  obtain ⟨a, x⟩ := p
  simp only [Zj, List.mem_cons, not_or] at h
  simp only [List.cons_append, Zd, if_neg (fun e : a = b => h.1 e.symm)]
  exact ih h.2
theorem Zaa {σ τ : Zc} {b : Nat} {y : Zb} (h : b ∉ Zh σ) : Ze (σ ++ τ) b y = σ ++ Ze τ b y := by
 induction σ with
 | nil => rfl
 | cons p σ ih =>
  obtain ⟨a, x⟩ := p
  simp only [Zj, List.mem_cons, not_or] at h
  simp only [List.cons_append, Ze, if_neg (fun e : a = b => h.1 e.symm)]
  rw [ih h.2]
theorem Zab (σ : Zc) (b : Nat) (x y : Zb) : Ze (Ze σ b x) b y = Ze σ b y := by
 induction σ with
 | nil => rfl
 | cons p σ ih =>
  obtain ⟨a, z⟩ := p
  by_cases h : a = b <;> simp [Ze, h, ih]
theorem Z1s.sub {f : FuncId} {args : List Z0} {σ τ : Zc} {R : Z0 → Zc → Prop} (hs : HSub τ σ) (h : Z1s P f args τ R) : Z1s P f args σ R :=
 fun K w vs hr hv => h K w vs (hs K w hr) hv
theorem Zac (l : List UInt8) : (bytes l).length = l.length := by simp [bytes]
theorem Zad (l : List UInt8) (i : Nat) : (bytes l)[i]? = (l[i]?).map Zx := by simp [bytes]
theorem Zae (l : List UInt8) : Zz (bytes l) = some l := by
 induction l with
 | nil => rfl
 | cons a l ih =>
  have : Zz (bytes (a :: l)) = (Zy (Zx a)).bind fun x => (Zz (bytes l)).bind fun y => some (x :: y) := by simp [Zz, bytes, List.mapM_cons]
  rw [this, ih]
  simp [Zy, Zx]
def Grow (v : Z0) (xs : List UInt8) (β : Zc) : Prop := ((∃ z, v = .slc z [] true) ∧ xs = [] ∧ β = []) ∨ ∃ b, v = .arr 1 b 0 xs.length ∧ β = [(b, .cells 1 (bytes xs))]
theorem Grow.nil (z : Nat) : Grow (.slc z [] true) [] [] := .inl ⟨⟨z, rfl⟩, rfl, rfl⟩
theorem Grow.lens {v : Z0} {xs : List UInt8} {β : Zc} (h : Grow v xs β) : Z1h [v] = some (.int .i64 xs.length) := by
 rcases h with ⟨⟨z, rfl⟩, rfl, rfl⟩ | ⟨b, rfl, rfl⟩ <;> rfl
theorem Grow.elems {v : Z0} {xs : List UInt8} {β τ : Zc} (h : Grow v xs β) : Z1m (β ++ τ) 1 v = some (bytes xs) := by
 rcases h with ⟨⟨z, rfl⟩, rfl, rfl⟩ | ⟨b, rfl, rfl⟩
 ·simp [Z1m, bytes]
 ·have e : (bytes xs).take xs.length = bytes xs := List.take_of_length_le (by simp [Zac])
  simp [Z1m, Zd, Zac, e]
theorem Zaf {d : Nat} {args : List Zw} {v x : Z0} (h1 : evs F args = some [v]) (h2 : Z1h [v] = some x) (h : aops P l (fset d (some x) F) σ Q) : aops P (⟨some d, .lens, args, none⟩ :: l) F σ Q :=
 Kq h1 h2 rfl h
def VRle (l l' : List Z0) : Prop := ∀ K vs, Z1 K l vs → Z1 K l' vs
theorem VRle.refl (l : List Z0) : VRle l l := fun _ _ h => h
theorem VRle.cons {a a' : Z0} {l l' : List Z0} (h1 : VRle [a] [a']) (h2 : VRle l l') : VRle (a :: l) (a' :: l') := fun K vs h => by
 cases vs with
 | nil => exact absurd h.length (by simp)
 | cons v vs' => exact Z1.cons (h1 K _ h.inv.1) (h2 K _ h.inv.2)
theorem VRle.same {a : Z0} {l l' : List Z0} (h2 : VRle l l') : VRle (a :: l) (a :: l') := VRle.cons (VRle.refl _) h2
theorem VRle.tup {l l' : List Z0} (h : VRle l l') : VRle [.tup l] [.tup l'] := fun K vs hv => by
 cases hv with
 | tup hv r => exact .tup (h K _ hv) r
theorem VRle.nil_slc (z z' : Nat) (f : Bool) : VRle [.slc z [] f] [.slc z' [] f] := fun K vs hv => by
 cases hv with
 | slc0 hf r => exact .slc0 hf r
 | slc hn he hs hm hv hc hf r =>
  simp only [List.length_nil] at hn
  subst hn
  exact .slc0 hf r
theorem Z8y.of_le {r r' : Z0} {σ τ : Zc} (h : VRle [r] [r']) (hs : HSub τ σ) : Z8y r σ r' τ := fun K w v h1 h2 => ⟨K, Kr.le.refl K, hs K w h1, h K _ h2⟩
theorem Z1s.args {f : FuncId} {as as' : List Z0} {σ : Zc} {R : Z0 → Zc → Prop} (h : VRle as as') (hc : Z1s P f as' σ R) : Z1s P f as σ R :=
 fun K w vs hr hv => hc K w vs hr (h K _ hv)
theorem Zag {res : List ARes} {R : Z0 → Zc → Prop} {F : Z27} {σ : Zc} {vs : List Z0} (h : Z8w F σ res = some vs) {r : Z0} {τ : Zc} (hv : VRle [Z8x vs] [r]) (hs : HSub τ σ) (hR : R r τ) : ARet res R .ret F σ :=
 ⟨vs, h, r, τ, Z8y.of_le hv hs, hR⟩
theorem w64 (n : Int) (h : -9223372036854775808 ≤ n) (h' : n ≤ 9223372036854775807) : IntKind.wrap .i64 n = n := by
 simp [IntKind.wrap, IntKind.bits, IntKind.signed]; omega
end Go.Abs
namespace Go.Abs
open Go Go.RowKit Go.ChangeShapes Go.WideShapes
def K0 (W : World) : Kr := { w0 := W, wo := W, imm := fun b o => W.cell? ⟨b, o, none⟩, loc := fun _ => none, nn := 0 }
theorem rel0 (W : World) : Rel (K0 W) [] W where
 ext := Below.refl _ _
 oth := Oth.refl _
 imm := fun b o v h => h
 nd := by simp [Zh]
 bnd := fun b L h => absurd (show (none : Option Loc) = some L from h) (by simp)
 lit := fun b L cb h => absurd (show (none : Option Loc) = some L from h) (by simp)
 own := fun b blk h => absurd h (by simp)
 inj := fun b1 blk1 b2 blk2 cb s1 c1 s2 c2 h => absurd h (by simp)
theorem Zah {P : Program} {f : FuncId} {args : List Z0} {vs : List Value} {W : World} (h : Z1s P f args [] fun r _ => r = .bool true) (hv : Z1 (K0 W) args vs) :
  Calls P f vs.toArray W fun e W' => e = .returned (.bool true) ∧ Below W.heap.size W W' := by
 refine (h (K0 W) W vs (rel0 W) hv).mono ?_
 rintro e W' ⟨v, K', r, σ', rfl, h1, h2, h3, rfl⟩
 have e1 := h3.bool_inv
 subst e1
 refine ⟨rfl, ?_⟩
 have := h2.ext
 rw [h1.w0] at this
 exact this
variable {H : Type} {enc : TypeId × Value → H} {P : Program}
end Go.Abs
namespace Go.Abs
open Go Go.RowKit
variable {P : Program}
theorem Z1s.freeze {f : FuncId} {b sz : Nat} {xs : List Z0} {rest : List Z0} {τ : Zc} {R : Z0 → Zc → Prop} (h : Z1s P f (.slc sz xs false :: rest) τ R) : Z1s P f (.arr sz b 0 xs.length :: rest) ((b, .cells sz xs) :: τ) R := by
 intro K w vs hr hv
 obtain ⟨v, vs', rfl, h1, h2⟩ := hv.ex
 have hmem : (b, Zb.cells sz xs) ∈ (b, Zb.cells sz xs) :: τ := by simp
 have hown := hr.own b _ hmem
 have hsub : HSub τ ((b, Zb.cells sz xs) :: τ) := HSub.tail _ _
 unfold VR at h1
 generalize hn : xs.length = n at h1
 cases h1 with
 | arr0 hl r =>
  have : xs = [] := List.length_eq_zero_iff.1 hn
  subst this
  exact h K w _ (hsub K w hr) (Z1.cons (Z1.slc0 (by simp) .nil) h2)
 | @arr _ _ _ cb _ pcap cap _ _ hl ho hc r =>
  obtain ⟨vs0, g1, g2, g3⟩ := hr.freeze hmem hl
  rw [Z9l] at g3
  have hval : VR (K.addImm cb vs0) (.slc sz xs false) (.slice (some ⟨cb, 0 * sz, none⟩) n cap) := by
   refine Z1.slc (vs := vs0) hn hown.1 rfl ?_ (Z1.mono g2 g1) hc (by simp) .nil
   intro j v hj
   simp only [Kr.addImm, Nat.zero_mul, Nat.zero_add, if_true]
   exact hj
  refine (h _ w _ g3 (Z1.cons hval (Z1.mono g2 h2))).mono ?_
  rintro e w' ⟨v, K', r, σ', he, k1, k2, k3, k4⟩
  exact ⟨v, K', r, σ', he, g2.trans k1, k2, k3, k4⟩
theorem Zai {N : Nat} {a : Z2c} {Q : Z8i} {F : Z27} {b sz d : Nat} {xs : List Z0} {τ : Zc} (hF : F d = some (.arr sz b 0 xs.length)) (h : AWp P N a Q (fset d (some (.slc sz xs false)) F) τ) : AWp P N a Q F ((b, .cells sz xs) :: τ) := by
 refine awp_vs (fun K w tmps hr hfr => ?_) h
 have h1 := hfr.at_ d _ hF
 have hmem : (b, Zb.cells sz xs) ∈ (b, Zb.cells sz xs) :: τ := by simp
 have hown := hr.own b _ hmem
 have hsub : HSub τ ((b, Zb.cells sz xs) :: τ) := HSub.tail _ _
 have key : ∀ K', K.le K' → Rel K' τ w → VR K' (.slc sz xs false) (tmps.getD d undef) → ∃ K', K.le K' ∧ Rel K' τ w ∧ FRel K' N (fset d (some (.slc sz xs false)) F) tmps := by
  intro K' k1 k2 k3
  refine ⟨K', k1, k2, hfr.size, fun i x e => ?_⟩
  simp only [fset] at e
  split at e
  ·rename_i hi
   subst hi
   simp only [Option.some.injEq] at e
   subst e
   exact k3
  ·exact (hfr.at_ i x e).mono k1
 unfold VR at h1
 generalize hv : tmps.getD d undef = v at h1 key
 generalize hn : xs.length = n at h1
 cases h1 with
 | arr0 hl r =>
  have : xs = [] := List.length_eq_zero_iff.1 hn
  subst this
  exact key K (Kr.le.refl K) (hsub K w hr) (Z1.slc0 (by simp) .nil)
 | @arr _ _ _ cb _ pcap cap _ _ hl ho hc r =>
  obtain ⟨vs0, g1, g2, g3⟩ := hr.freeze hmem hl
  rw [Z9l] at g3
  refine key (K.addImm cb vs0) g2 g3 ?_
  refine Z1.slc (vs := vs0) hn hown.1 rfl ?_ (Z1.mono g2 g1) hc (by simp) .nil
  intro j v hj
  simp only [Kr.addImm, Nat.zero_mul, Nat.zero_add, if_true]
  exact hj
theorem Zaj {N : Nat} {a : Z2c} {Q : Z8i} {F : Z27} {b sz d : Nat} {cs : List Z0} {τ : Zc} (hF : F d = some (.ptr b 0 0)) (h : AWp P N a Q (fset d (some (.iptr cs)) F) τ) : AWp P N a Q F ((b, .cells sz [.agg cs]) :: τ) := by
 refine awp_vs (fun K w tmps hr hfr => ?_) h
 have h1 := hfr.at_ d _ hF
 have hmem : (b, Zb.cells sz [.agg cs]) ∈ (b, Zb.cells sz [.agg cs]) :: τ := by simp
 have hown := hr.own b _ hmem
 unfold VR at h1
 generalize hv : tmps.getD d undef = v at h1
 cases h1 with
 | @ptr _ _ _ cb sz' pcap _ _ hl r =>
  obtain rfl : sz' = sz := by
   rcases hown.2 with ⟨p, k1, _⟩ | ⟨cb', p, cs', ty, k1, _⟩ <;> rw [hl] at k1 <;> simp at k1
   exact k1.2.1
  obtain ⟨vs0, g1, g2, g3⟩ := hr.freeze hmem hl
  rw [Z9l] at g3
  refine ⟨K.addImm cb vs0, g2, g3, hfr.size, fun i x e => ?_⟩
  simp only [fset] at e
  split at e
  ·rename_i hi
   subst hi
   simp only [Option.some.injEq] at e
   subst e
   rw [hv]
   refine Z1.iptr (vs := vs0) rfl ?_ ?_ ?_ .nil
   ·have := (hown.1 (.agg cs) (by simp)).2
    simpa [Z0.cells] using this
   ·intro j v hj
    simp only [Kr.addImm, Nat.zero_mul, Nat.zero_add, if_true]
    exact hj
   ·have := Z1.mono g2 g1
    simpa [Z0.cells] using this
  ·exact (hfr.at_ i x e).mono g2
theorem Zak {N : Nat} {a : Z2c} {Q : Z8i} {F : Z27} {β γ σ : Zc} (h : AWp P N a Q F (γ ++ (β ++ σ))) : AWp P N a Q F (β ++ (γ ++ σ)) := by
 refine Z8l (FSub.refl F) (HSub.of_perm ?_) h
 rw [← List.append_assoc, ← List.append_assoc]
 exact List.Perm.append_right _ List.perm_append_comm
theorem Zal {f : FuncId} {args : List Z0} {σ : Zc} {R R' : Z0 → Zc → Prop} (h : Z1s P f args σ R) (hs : ∀ r σ', R r σ' → ∃ r' τ, Z8y r σ' r' τ ∧ R' r' τ) : Z1s P f args σ R' := by
 intro K w vs hr hv
 refine (h K w vs hr hv).mono ?_
 rintro e w' ⟨v, K', r, σ', he, k1, k2, k3, k4⟩
 obtain ⟨r', τ, h1, h2⟩ := hs r σ' k4
 obtain ⟨K2, g1, g2, g3⟩ := h1 K' w' v k2 k3
 exact ⟨v, K2, r', τ, he, k1.trans g1, g2, g3, h2⟩
def Zam (l : List Z0) (σ : Zc) (l' : List Z0) (τ : Zc) : Prop := ∀ K w vs, Rel K σ w → Z1 K l vs → ∃ K', K.le K' ∧ Rel K' τ w ∧ Z1 K' l' vs
theorem Zam.refl (l : List Z0) (σ : Zc) : Zam l σ l σ := fun K w v h1 h2 => ⟨K, Kr.le.refl K, h1, h2⟩
theorem Zam.trans {l l' l'' : List Z0} {σ σ' σ'' : Zc} (h : Zam l σ l' σ') (h' : Zam l' σ' l'' σ'') : Zam l σ l'' σ'' := fun K w v h1 h2 => by
 obtain ⟨K1, a1, a2, a3⟩ := h K w v h1 h2
 obtain ⟨K2, b1, b2, b3⟩ := h' K1 w v a2 a3
 exact ⟨K2, a1.trans b1, b2, b3⟩
theorem Zam.one {r r' : Z0} {σ τ : Zc} (h : Zam [r] σ [r'] τ) : Z8y r σ r' τ := fun K w v h1 h2 => h K w [v] h1 h2
theorem Zam.tup {l l' : List Z0} {σ τ : Zc} (h : Zam l σ l' τ) : Z8y (.tup l) σ (.tup l') τ := by
 intro K w v h1 h2
 unfold VR at h2
 cases h2 with
 | tup hv r =>
  obtain ⟨K', a1, a2, a3⟩ := h K w _ h1 hv
  exact ⟨K', a1, a2, .tup a3 .nil⟩
theorem Zam.keep {a : Z0} {l l' : List Z0} {σ τ : Zc} (h : Zam l σ l' τ) : Zam (a :: l) σ (a :: l') τ := by
 intro K w vs h1 h2
 obtain ⟨v, vs', rfl, g1, g2⟩ := h2.ex
 obtain ⟨K', a1, a2, a3⟩ := h K w _ h1 g2
 exact ⟨K', a1, a2, Z1.cons (Z1.mono a1 g1) a3⟩
theorem Zam.first {a a' : Z0} {l : List Z0} {σ τ : Zc} (h : Zam [a] σ [a'] τ) : Zam (a :: l) σ (a' :: l) τ := by
 intro K w vs h1 h2
 obtain ⟨v, vs', rfl, g1, g2⟩ := h2.ex
 obtain ⟨K', a1, a2, a3⟩ := h K w [v] h1 g1
 exact ⟨K', a1, a2, Z1.cons a3 (Z1.mono a1 g2)⟩
theorem Zam.le {l l' : List Z0} {σ τ : Zc} (h : VRle l l') (hs : HSub τ σ) : Zam l σ l' τ := fun K w v h1 h2 => ⟨K, Kr.le.refl K, hs K w h1, h K v h2⟩
theorem Zam.drop {l : List Z0} {σ τ : Zc} (hs : HSub τ σ) : Zam l σ l τ := Zam.le (VRle.refl _) hs
theorem Zam.freeze {b sz n : Nat} {xs : List Z0} {τ : Zc} (hn : xs.length = n) : Zam [.arr sz b 0 n] ((b, .cells sz xs) :: τ) [.slc sz xs false] τ := by
 intro K w vs hr hv
 obtain ⟨v, vs', rfl, h1, h2⟩ := hv.ex
 have := h2.nil_inv
 subst this
 have hmem : (b, Zb.cells sz xs) ∈ (b, Zb.cells sz xs) :: τ := by simp
 have hown := hr.own b _ hmem
 have hsub : HSub τ ((b, Zb.cells sz xs) :: τ) := HSub.tail _ _
 unfold VR at h1
 cases h1 with
 | arr0 hl r =>
  have : xs = [] := List.length_eq_zero_iff.1 hn
  subst this
  exact ⟨K, Kr.le.refl K, hsub K w hr, Z1.slc0 (by simp) .nil⟩
 | @arr _ _ _ cb _ pcap cap _ _ hl ho hc r =>
  obtain ⟨vs0, g1, g2, g3⟩ := hr.freeze hmem hl
  rw [Z9l] at g3
  refine ⟨_, g2, g3, ?_⟩
  refine Z1.slc (vs := vs0) hn hown.1 rfl ?_ (Z1.mono g2 g1) hc (by simp) .nil
  intro j v hj
  simp only [Kr.addImm, Nat.zero_mul, Nat.zero_add, if_true]
  exact hj
theorem Zam.grow {v : Z0} {xs : List UInt8} {β τ : Zc} (h : Grow v xs β) : Zam [v] (β ++ τ) [.slc 1 (bytes xs) false] τ := by
 rcases h with ⟨⟨z, rfl⟩, rfl, rfl⟩ | ⟨b, rfl, rfl⟩
 ·refine Zam.le (fun K vs hv => ?_) (HSub.refl _)
  cases hv with
  | slc0 hf r => exact .slc0 (by simp) r
  | slc hn he hs hm hv hc hf r =>
   simp only [List.length_nil] at hn
   subst hn
   exact .slc0 (by simp) r
 ·exact Zam.freeze (Zac _)
end Go.Abs
namespace Go.Abs
open Go Go.RowKit Go.ChangeShapes Go.WideShapes Go.Deep
inductive Has (P : Program) : TypeId → Z0 → Prop
 | bool {t : TypeId} {b : Bool} (h : P.underlying t = some .bool) : Has P t (.bool b)
 | int {t : TypeId} {k : IntKind} {i : Int} (h : P.underlying t = some (.int k)) (hw : (Lit.int k i).wf = true) : Has P t (.int k i)
 | str {t : TypeId} {s : List UInt8} (h : P.underlying t = some .string) (hl : s.length ≤ maxLen) : Has P t (.str s)
 | slc {t e : TypeId} {xs : List Z0} (h : P.underlying t = some (.slice e)) (hl : xs.length ≤ maxLen) (hx : ∀ x ∈ xs, Has P e x) : Has P t (.slc (P.cellsOf e) xs false)
 | agg {t : TypeId} {fs : Array Field} {ys : List Z0} (h : P.underlying t = some (.struct fs)) (hn : ys.length = fs.size) (hy : ∀ (j : Nat) (f : Field) (y : Z0), fs[j]? = some f → ys[j]? = some y → Has P f.type y) : Has P t (.agg (flat ys))
def Zan (P : Program) : Nat → List Field → Nat → Bool
 | o, [], n => o == n
 | o, f :: fs, n => f.offset == o && Zan P (o + P.cellsOf f.type) fs n
def Zao (P : Program) (S : List TypeId) (t : TypeId) : Bool :=
 match P.underlying t with
 | some .bool | some (.int _) | some .string => P.cellsOf t == 1
 | some (.slice e) => S.contains e && (P.cellsOf t == 1) && decide (0 < P.cellsOf e)
 | some (.struct fs) => Zan P 0 fs.toList (P.cellsOf t) && fs.toList.all fun f => S.contains f.type
 | _ => false
def Zap (P : Program) (S : List TypeId) : Bool := S.all (Zao P S)
variable {H : Type} {enc : TypeId × Value → H} {P : Program} {W : World}
def Zaq (P : Program) (W : World) (t : TypeId) (cs : List Value) : Prop :=
 ∃ a : Z0, Has P t a ∧ a.elem (P.cellsOf t) ∧ Z1 (K0 W) a.cells cs
theorem Zar {P : Program} {W : World} {e : TypeId} {b o sz : Nat} {c : Nat → List Value} (hsz : P.cellsOf e = sz) : ∀ n, (∀ i, i < n → Zaq P W e (c i) ∧ ∀ j, j < sz → W.cell? ⟨b, o + i * sz + j, none⟩ = (c i)[j]?) →
  ∃ (xs : List Z0) (vs : List Value), xs.length = n ∧ (∀ x ∈ xs, Has P e x) ∧ (∀ x ∈ xs, x.elem sz) ∧ Z1 (K0 W) (flat xs) vs ∧ ∀ j v, vs[j]? = some v → W.cell? ⟨b, o + j, none⟩ = some v
 | 0, _ => ⟨[], [], rfl, by simp, by simp, .nil, by simp⟩
 | n + 1, h => by
  obtain ⟨xs, vs, h1, h2, h3, h4, h5⟩ := Zar hsz n fun i hi => h i (by omega)
  obtain ⟨⟨a, ha, he, hv⟩, hc⟩ := h n (by omega)
  rw [hsz] at he
  have hl : vs.length = n * sz := by rw [← h4.length, Z5 h3, h1]
  have hcl : (c n).length = sz := by rw [← hv.length, he.1]
  refine ⟨xs ++ [a], vs ++ c n, by simp [h1], ?_, ?_, ?_, ?_⟩
  ·intro x hx
   rcases List.mem_append.1 hx with hx | hx
   ·exact h2 x hx
   ·rw [List.mem_singleton.1 hx]; exact ha
  ·intro x hx
   rcases List.mem_append.1 hx with hx | hx
   ·exact h3 x hx
   ·rw [List.mem_singleton.1 hx]; exact he
  ·rw [Z4, Z3, Z2, List.append_nil]
   exact h4.append hv
  ·intro j v hj
   rw [List.getElem?_append] at hj
   split at hj
   ·exact h5 j v hj
   ·rename_i hjl
    have hlt := (List.getElem?_eq_some_iff.1 hj).1
    have := hc (j - vs.length) (by omega)
    rw [hj, hl] at this
    rw [← this]
    congr 2
    rw [hl] at hjl
    omega
theorem Zas {P : Program} {W : World} {cs : List Value} : ∀ (fs : List Field) (o n : Nat), Zan P o fs n = true → cs.length = n → o ≤ n → (∀ f ∈ fs, Zaq P W f.type ((cs.drop f.offset).take (P.cellsOf f.type))) →
  ∃ ys : List Z0, ys.length = fs.length ∧ (∀ (j : Nat) (f : Field) (y : Z0), fs[j]? = some f → ys[j]? = some y → Has P f.type y) ∧ (∀ c ∈ flat ys, c.one = true) ∧ Z1 (K0 W) (flat ys) (cs.drop o)
 | [], o, n, h, hc, ho, _ => by
  simp only [Zan, beq_iff_eq] at h
  refine ⟨[], rfl, by simp, by simp, ?_⟩
  rw [List.drop_of_length_le (by omega)]
  exact .nil
 | f :: fs, o, n, h, hc, ho, hf => by
  simp only [Zan, Bool.and_eq_true, beq_iff_eq] at h
  obtain ⟨h1, h2⟩ := h
  obtain ⟨a, ha, he, hv⟩ := hf f (by simp)
  rw [h1] at hv
  have hle : o + P.cellsOf f.type ≤ n := by
   have := hv.length
   rw [he.1, List.length_take, List.length_drop, hc] at this
   omega
  obtain ⟨ys, k1, k2, k3, k4⟩ := Zas fs (o + P.cellsOf f.type) n h2 hc hle fun g hg => hf g (by simp [hg])
  refine ⟨a :: ys, by simp [k1], ?_, ?_, ?_⟩
  ·intro j g y hj hy
   cases j with
   | zero => simp at hj hy; subst hj hy; exact ha
   | succ j => exact k2 j g y (by simpa using hj) (by simpa using hy)
  ·intro c hc'
   rw [Z3] at hc'
   rcases List.mem_append.1 hc' with h | h
   ·exact he.2 c h
   ·exact k3 c h
  ·rw [Z3]
   have e : cs.drop o = (cs.drop o).take (P.cellsOf f.type) ++ cs.drop (o + P.cellsOf f.type) := by
    rw [← List.drop_drop, List.take_append_drop]
   rw [e]
   exact hv.append k4
theorem Zat {S : List TypeId} (hS : Zap P S = true) : ∀ (fuel : Nat) (t : TypeId), t ∈ S → ∀ (cs : List Value) x, DataW.trod enc P W 0 (fun _ => true) true fuel t cs = some x → Zaq P W t cs := by
 intro fuel
 induction fuel with
 | zero => intro t _ cs x h; simp [DataW.trod] at h
 | succ n ih =>
  intro t ht cs x h
  have hp := List.all_eq_true.1 hS t ht
  unfold Zao at hp
  cases hu : P.underlying t with
  | none => rw [hu] at hp; simp at hp
  | some u =>
   rw [hu] at hp
   cases u with
   | bool =>
    obtain ⟨b, rfl, _⟩ := DataW.trod_bool hu h
    simp only [beq_iff_eq] at hp
    exact ⟨.bool b, .bool hu, ⟨by rw [hp]; rfl, by simp [Z0.cells, Z0.one]⟩, .bool .nil⟩
   | int k =>
    obtain ⟨i, rfl, _, hw⟩ := DataW.trod_int hu h
    simp only [beq_iff_eq] at hp
    exact ⟨.int k i, .int hu hw, ⟨by rw [hp]; rfl, by simp [Z0.cells, Z0.one]⟩, .int .nil⟩
   | string =>
    obtain ⟨s, rfl, _, hl⟩ := DataW.trod_string hu h
    simp only [beq_iff_eq] at hp
    refine ⟨.str s.data.toList, .str hu (by simpa using hl), ⟨by rw [hp]; rfl, by simp [Z0.cells, Z0.one]⟩, ?_⟩
    exact Z1.str (K := K0 W) (s := s.data.toList) Z1.nil
   | slice e =>
    simp only [Bool.and_eq_true, beq_iff_eq, decide_eq_true_eq] at hp
    obtain ⟨⟨he, h1⟩, hz⟩ := hp
    have heS : e ∈ S := by simpa using he
    rcases DataW.trod_slice hu h with ⟨rfl, _⟩ | ⟨a, len, cap, elems, rest, m, hm, rfl, rfl, hb, hl, hmx, hlen, hel, _, _⟩
    ·exact ⟨.slc (P.cellsOf e) [] false, .slc hu (by simp) (by simp), ⟨by rw [h1]; rfl, by simp [Z0.cells, Z0.one]⟩, .slc0 (by simp) .nil⟩
    ·obtain rfl : n = m := by omega
     have hcell : ∀ i, i < len → ∃ cs', W.cells? 0 (a.add (i * P.cellsOf e)) (P.cellsOf e) = some cs' ∧ Zaq P W e cs' := by
      intro i hi
      have := hel i hi
      rw [List.getElem?_eq_getElem (by omega)] at this
      obtain ⟨cs', g1, g2⟩ := Option.bind_eq_some_iff.1 this
      exact ⟨cs', g1, ih e heS cs' _ g2⟩
     by_cases h0 : len = 0
     ·subst h0
      exact ⟨.slc (P.cellsOf e) [] false, .slc hu (by simp) (by simp), ⟨by rw [h1]; rfl, by simp [Z0.cells, Z0.one]⟩, .slc0 (by simp) .nil⟩
     have hsp : a.spot = none := by
      obtain ⟨cs', g1, g2⟩ := hcell 0 (by omega)
      obtain ⟨_, g3, g4⟩ := World.cells?_some g1
      have g5 := g4 0 hz
      rw [List.getElem?_eq_getElem (by omega)] at g5
      cases hs : a.spot with
      | none => rfl
      | some s =>
       rw [Nat.zero_mul, Addr.add, if_pos rfl, Addr.add, if_pos rfl] at g5
       unfold World.cell? at g5
       split at g5
       ·simp [hs] at g5
       ·cases g5
     have hx : ∀ i, a.add i = ⟨a.block, a.off + i, none⟩ := by
      intro i
      unfold Addr.add
      split
      ·rename_i h; subst h
       cases a; simp at hsp; simp [hsp]
      ·rfl
     have hch : ∃ c : Nat → List Value, ∀ i, i < len → Zaq P W e (c i) ∧ ∀ j, j < P.cellsOf e → W.cell? ⟨a.block, a.off + i * P.cellsOf e + j, none⟩ = (c i)[j]? := by
      refine choose_lt (p := fun i ci => Zaq P W e ci ∧ ∀ j, j < P.cellsOf e → W.cell? ⟨a.block, a.off + i * P.cellsOf e + j, none⟩ = ci[j]?) fun i hi => ?_
      obtain ⟨cs', g1, g2⟩ := hcell i hi
      obtain ⟨_, g3, g4⟩ := World.cells?_some g1
      refine ⟨cs', g2, fun j hj => ?_⟩
      have := g4 j hj
      rw [add_add, hx] at this
      rw [← this, Nat.add_assoc]
     obtain ⟨c, hc⟩ := hch
     obtain ⟨xs, vs, k1, k2, k3, k4, k5⟩ := Zar (b := a.block) (o := a.off) (c := c) rfl len hc
     refine ⟨.slc (P.cellsOf e) xs false, .slc hu (by omega) k2, ⟨by rw [h1]; rfl, by simp [Z0.cells, Z0.one]⟩, ?_⟩
     exact Z1.slc k1 k3 hsp (fun j v hj => k5 j v hj) k4 hl (by simp) .nil
   | struct fs =>
    simp only [Bool.and_eq_true] at hp
    obtain ⟨hc, hall⟩ := hp
    obtain ⟨xs, m, hm, rfl, hlen, hxl, hf⟩ := DataW.trod_struct hu h
    obtain rfl : n = m := by omega
    obtain ⟨ys, k1, k2, k3, k4⟩ := Zas (P := P) (W := W) (cs := cs) fs.toList 0 _ hc hlen (Nat.zero_le _) (by
     intro f hfm
     obtain ⟨i, hi, rfl⟩ := List.getElem_of_mem hfm
     have h1 := hf i fs.toList[i] (by simp)
     have hi' : i < fs.size := by simpa using hi
     rw [List.getElem?_eq_getElem (by omega)] at h1
     exact ih _ (by simpa using List.all_eq_true.1 hall _ hfm) _ _ h1)
    refine ⟨.agg (flat ys), .agg hu (by simpa using k1) (fun j f y hj hy => k2 j f y (by simpa using hj) hy), ⟨?_, k3⟩, by simpa [Z0.cells] using k4⟩
    have := k4.length
    simp only [List.drop_zero] at this
    simpa [Z0.cells] using this.trans hlen
   | _ => simp at hp
theorem Zau {S : List TypeId} (hS : Zap P S = true) {t : TypeId} (ht : t ∈ S) {v : Value} {d : DataW H} {ps : List MemPlace} {r : Reach} {b : Nat} (hv : Value.okWide P W r b t v) (h : DataW.Trod enc P W 0 (fun _ => true) true t v d ps) : ∃ a : Z0, Has P t a ∧ VR (K0 W) a v := by
 obtain ⟨fuel, h⟩ := h
 obtain ⟨a, h1, h2, h3⟩ := Zat hS fuel t ht _ _ h
 refine ⟨a, h1, ?_⟩
 cases h1 with
 | bool hu => obtain ⟨b, rfl⟩ := okWide_bool hu hv; exact h3
 | int hu _ => obtain ⟨b, rfl⟩ := okWide_int hu hv; exact h3
 | str hu _ => obtain ⟨b, rfl⟩ := okWide_string hu hv; exact h3
 | slc hu _ _ => obtain ⟨a, l, c, rfl⟩ := okWide_slice hu hv; exact h3
 | agg hu _ _ =>
  obtain ⟨cs, rfl, _⟩ := okWide_struct hu hv
  have := Z1.agg (K := K0 W) h2.2 (show Z1 (K0 W) _ cs.toList from h3) .nil
  simpa [VR, Z0.cells] using this
inductive HasL (P : Program) : List TypeId → List Z0 → Prop
 | nil : HasL P [] []
 | cons {t : TypeId} {a : Z0} {ts : List TypeId} {l : List Z0} (h : Has P t a) (r : HasL P ts l) : HasL P (t :: ts) (a :: l)
theorem Zav {S : List TypeId} (hS : Zap P S = true) {r : Reach} {b : Nat} : ∀ (ts : List TypeId) (vs : List Value) (ds : List (DataW H)) (ps : List MemPlace), (∀ t ∈ ts, t ∈ S) → (∀ (j : Nat) t v, ts[j]? = some t → vs[j]? = some v → Value.okWide P W r b t v) → DataW.TrodAll enc P W 0 (fun _ => true) true ts vs ds ps →
  ∃ as, HasL P ts as ∧ Z1 (K0 W) as vs
 | [], [], [], _, _, _, _ => ⟨[], .nil, .nil⟩
 | t :: ts, v :: vs, d :: ds, ps, hts, hv, h => by
  obtain ⟨p, q, h1, h2, _⟩ := h
  obtain ⟨as, g1, g2⟩ := Zav hS ts vs ds q (fun t ht => hts t (by simp [ht])) (fun j t v e1 e2 => hv (j + 1) t v (by simpa using e1) (by simpa using e2)) h2
  obtain ⟨a, g3, g4⟩ := Zau hS (hts t (by simp)) (hv 0 t v rfl rfl) h1
  exact ⟨a :: as, .cons g3 g1, Z1.cons g4 g2⟩
 | [], _ :: _, _, _, _, _, h => absurd h (by simp [DataW.TrodAll])
 | [], [], _ :: _, _, _, _, h => absurd h (by simp [DataW.TrodAll])
 | _ :: _, [], _, _, _, _, h => absurd h (by simp [DataW.TrodAll])
 | _ :: _, _ :: _, [], _, _, _, h => absurd h (by simp [DataW.TrodAll])
theorem Zaw (hl : laidOutB P = true) {W' : World} (hb : Below W.heap.size W W') : ∀ (ts : List TypeId) (vs : List Value) (ds : List (DataW H)) (ps : List MemPlace), (∀ t ∈ ts, P.readableRec t = true ∧ t < P.types.size) → DataW.TrodAll enc P W 0 (fun _ => true) true ts vs ds ps →
  DataW.TrodAll enc P W' 0 (fun b => decide (b < W.heap.size)) true ts vs ds ps
 | [], [], [], _, _, h => h
 | t :: ts, v :: vs, d :: ds, ps, hts, h => by
  obtain ⟨p, q, h1, h2, rfl⟩ := h
  have hlt : ∀ x ∈ p, x.block < W.heap.size := by obtain ⟨m, hm⟩ := h1; exact DataW.trod_lt m _ _ _ hm
  exact ⟨p, q, Below.trod hl (hts t (by simp)).1 (hts t (by simp)).2 h1 hb hlt, Zaw hl hb ts vs ds q (fun t ht => hts t (by simp [ht])) h2, rfl⟩
 | [], _ :: _, _, _, _, h => absurd h (by simp [DataW.TrodAll])
 | [], [], _ :: _, _, _, h => absurd h (by simp [DataW.TrodAll])
 | _ :: _, [], _, _, _, h => absurd h (by simp [DataW.TrodAll])
 | _ :: _, _ :: _, [], _, _, h => absurd h (by simp [DataW.TrodAll])
theorem Zax {base : Nat} {spare : Nat → Bool} {held : Bool} : ∀ {ts : List TypeId} {vs : List Value} {ds : List (DataW H)} {ps : List MemPlace}, DataW.TrodAll enc P W base spare held ts vs ds ps → ds.length = ts.length
 | [], [], [], _, _ => rfl
 | t :: ts, v :: vs, d :: ds, ps, h => by
  obtain ⟨p, q, h1, h2, rfl⟩ := h
  simp [Zax h2]
 | [], _ :: _, _, _, h => absurd h (by simp [DataW.TrodAll])
 | [], [], _ :: _, _, h => absurd h (by simp [DataW.TrodAll])
 | _ :: _, [], _, _, h => absurd h (by simp [DataW.TrodAll])
 | _ :: _, _ :: _, [], _, h => absurd h (by simp [DataW.TrodAll])
theorem Has.bool_inv {t : TypeId} {a : Z0} (hu : P.underlying t = some .bool) (h : Has P t a) : ∃ b, a = .bool b := by
 cases h with
 | bool _ => exact ⟨_, rfl⟩
 | int h _ | str h _ | slc h _ _ | agg h _ _ => rw [hu] at h; cases h
theorem Has.int_inv {t : TypeId} {a : Z0} {k : IntKind} (hu : P.underlying t = some (.int k)) (h : Has P t a) : ∃ i, a = .int k i ∧ (Lit.int k i).wf = true := by
 cases h with
 | int h hw => rw [hu] at h; cases h; exact ⟨_, rfl, hw⟩
 | bool h | str h _ | slc h _ _ | agg h _ _ => rw [hu] at h; cases h
theorem Has.str_inv {t : TypeId} {a : Z0} (hu : P.underlying t = some .string) (h : Has P t a) : ∃ s, a = .str s ∧ s.length ≤ maxLen := by
 cases h with
 | str h hl => exact ⟨_, rfl, hl⟩
 | bool h | int h _ | slc h _ _ | agg h _ _ => rw [hu] at h; cases h
theorem Has.slc_inv {t e : TypeId} {a : Z0} (hu : P.underlying t = some (.slice e)) (h : Has P t a) : ∃ xs, a = .slc (P.cellsOf e) xs false ∧ xs.length ≤ maxLen ∧ ∀ x ∈ xs, Has P e x := by
 cases h with
 | slc h hl hx => rw [hu] at h; cases h; exact ⟨_, rfl, hl, hx⟩
 | bool h | int h _ | str h _ | agg h _ _ => rw [hu] at h; cases h
theorem Has.agg_inv {t : TypeId} {fs : Array Field} {a : Z0} (hu : P.underlying t = some (.struct fs)) (h : Has P t a) : ∃ ys, a = .agg (flat ys) ∧ HasL P (fs.toList.map Field.type) ys := by
 cases h with
 | agg h hn hy =>
  rw [hu] at h; cases h
  refine ⟨_, rfl, ?_⟩
  have key : ∀ (l : List Field) (ys : List Z0), ys.length = l.length → (∀ (j : Nat) (f : Field) (y : Z0), l[j]? = some f → ys[j]? = some y → Has P f.type y) → HasL P (l.map Field.type) ys := by
   intro l
   induction l with
   | nil => intro ys h _; rw [List.length_eq_zero_iff.1 h]; exact .nil
   | cons f l ih =>
    intro ys h hy
    cases ys with
    | nil => simp at h
    | cons y ys => exact .cons (hy 0 f y rfl rfl) (ih ys (by simpa using h) fun j f y e1 e2 => hy (j + 1) f y (by simpa using e1) (by simpa using e2))
  exact key _ _ (by simpa using hn) fun j f y e1 e2 => hy j f y (by simpa using e1) e2
 | bool h | int h _ | str h _ | slc h _ _ => rw [hu] at h; cases h
theorem HasL.nil_inv {as : List Z0} (h : HasL P [] as) : as = [] := by cases h; rfl
theorem HasL.cons_inv {t : TypeId} {ts : List TypeId} {as : List Z0} (h : HasL P (t :: ts) as) : ∃ a l, as = a :: l ∧ Has P t a ∧ HasL P ts l := by
 cases h with
 | cons h r => exact ⟨_, _, rfl, h, r⟩
theorem Zay {i : Int} (h : (Lit.int .i64 i).wf = true) : -9223372036854775808 ≤ i ∧ i ≤ 9223372036854775807 := by simpa [Lit.wf, IntKind.min, IntKind.max, IntKind.signed, IntKind.bits] using h
theorem Zaz {i : Int} (h : (Lit.int .u8 i).wf = true) : 0 ≤ i ∧ i ≤ 255 := by simpa [Lit.wf, IntKind.min, IntKind.max, IntKind.signed, IntKind.bits] using h
theorem Zb0 {α : Type} {f : α → Z0} {p : α → Prop} : ∀ {xs : List Z0}, (∀ x ∈ xs, ∃ a, x = f a ∧ p a) → ∃ l : List α, xs = l.map f ∧ ∀ a ∈ l, p a
 | [], _ => ⟨[], rfl, by simp⟩
 | x :: xs, h => by
  obtain ⟨a, rfl, ha⟩ := h x (by simp)
  obtain ⟨l, rfl, hl⟩ := Zb0 (xs := xs) fun y hy => h y (by simp [hy])
  exact ⟨a :: l, rfl, fun b hb => by rcases List.mem_cons.1 hb with rfl | hb; exact ha; exact hl b hb⟩
theorem Has.bytes_inv {t e : TypeId} {a : Z0} (hu : P.underlying t = some (.slice e)) (he : P.underlying e = some (.int .u8)) (hc : P.cellsOf e = 1) (h : Has P t a) : ∃ bs : List UInt8, a = .slc 1 (bytes bs) false ∧ bs.length ≤ maxLen := by
 obtain ⟨xs, rfl, hl, hx⟩ := h.slc_inv hu
 rw [hc]
 obtain ⟨bs, rfl, _⟩ := Zb0 (f := Zx) (p := fun _ => True) fun x hm => by
  obtain ⟨i, rfl, hw⟩ := (hx x hm).int_inv he
  have := Zaz hw
  refine ⟨UInt8.ofNat i.toNat, ?_, trivial⟩
  rw [Zx, UInt8.toNat_ofNat']
  congr 1; omega
 exact ⟨bs, rfl, by simpa using hl⟩
end Go.Abs
namespace Go.Abs
open Go Go.RowKit
variable {P : Program} {N : Nat} {l : List Z2b} {F : Z27} {σ : Zc} {Q : Z27 → Zc → Prop}
def Z2c.fst : Z2c → Z2c
 | .seq a _ => a
 | c => c
theorem Zb1 {ops : List Z2b} {keep : List Nat} {c : Z2c} {R R' : Z8i} {F : Z27} {σ : Zc} (hR : ∀ F σ, R .normal F σ = AWp P N c R' F σ) (h : aops P ops F σ fun F' σ' => KP keep F' fun G => AWp P N c R' G σ') : AWp P N (.region ops keep) R F σ :=
 awp_region (Z9z (fun F σ h => by rw [hR]; exact Za0 h) h)
theorem Zb2 {c : Z2c} {R R' : Z8i} {F : Z27} {σ : Zc} (hR : ∀ F σ, R .normal F σ = AWp P N c R' F σ) (h : AWp P N c R' F σ) : AWp P N .skip R F σ := Z8m (by rw [hR]; exact h)
theorem Zb3 {c : Z2c} {id : Nat} {R R' : Z8i} {F : Z27} {σ : Zc} (hR : ∀ F σ, R (.exit id) F σ = AWp P N c R' F σ) (h : AWp P N c R' F σ) : AWp P N (.exit id) R F σ := Z8n (by rw [hR]; exact h)
theorem Zb4 {ops : List Z2b} {keep : List Nat} {I : Nat → Z27 → Zc → Prop} {n : Nat} {Q : Z8i} {F : Z27} {σ : Zc} (h : aops P ops F σ fun F' σ' => KP keep F' fun G => ∃ τ m, HSub τ σ' ∧ I m G τ ∧ m < n) : AWp P N (.region ops keep) (Za5 I n Q) F σ :=
 awp_region (Z9z (fun _ _ h => Za7 h) h)
def Zb5 (sz : Nat) (v : Z0) (xs : List Z0) (β : Zc) : Prop := ((∃ z, v = .slc z [] true) ∧ xs = [] ∧ β = []) ∨ ∃ b, v = .arr sz b 0 xs.length ∧ β = [(b, .cells sz xs)]
theorem Zb5.nil (sz z : Nat) : Zb5 sz (.slc z [] true) [] [] := .inl ⟨⟨z, rfl⟩, rfl, rfl⟩
theorem Zb5.mk {sz b : Nat} {xs : List Z0} : Zb5 sz (.arr sz b 0 xs.length) xs [(b, .cells sz xs)] := .inr ⟨b, rfl, rfl⟩
theorem Zb5.ex (sz : Nat) (xs : List Z0) : ∃ v β, Zb5 sz v xs β := ⟨_, _, .inr ⟨0, rfl, rfl⟩⟩
theorem Zb5.lens {sz : Nat} {v : Z0} {xs : List Z0} {β : Zc} (h : Zb5 sz v xs β) : Z1h [v] = some (.int .i64 xs.length) := by
 rcases h with ⟨⟨z, rfl⟩, rfl, rfl⟩ | ⟨b, rfl, rfl⟩ <;> rfl
theorem Zb5.elems {sz : Nat} {v : Z0} {xs : List Z0} {β τ : Zc} (h : Zb5 sz v xs β) : Z1m (β ++ τ) sz v = some xs := by
 rcases h with ⟨⟨z, rfl⟩, rfl, rfl⟩ | ⟨b, rfl, rfl⟩
 ·simp [Z1m]
 ·simp [Z1m, Zd]
theorem Zb5.arr {sz : Nat} {v : Z0} {xs : List Z0} {β : Zc} (h : Zb5 sz v xs β) (hx : xs ≠ []) : ∃ b, v = .arr sz b 0 xs.length ∧ β = [(b, .cells sz xs)] := by
 rcases h with ⟨_, h, _⟩ | h
 ·exact absurd h hx
 ·exact h
theorem Zb6 {d sz byt : Nat} {args : List Zw} {v x : Z0} {xs ys : List Z0} {β τ : Zc} (ho : Zb5 sz v xs β) (h1 : evs F args = some [v, x]) (hy : Z1m (β ++ τ) sz x = some ys) (hb : (xs.length + ys.length) * byt ≤ 140737488355328)
  (h : ∀ b', b' ∉ Zh (β ++ τ) → aops P l (fset d (some (.arr sz b' 0 (xs ++ ys).length)) F) ((b', .cells sz (xs ++ ys)) :: τ) Q) : aops P (⟨some d, .app sz byt, args, none⟩ :: l) F (β ++ τ) Q := by
 rcases ho with ⟨⟨z, rfl⟩, rfl, rfl⟩ | ⟨b, rfl, rfl⟩
 ·refine Z9r h1 hy (by simpa using hb) fun b' hb' => ?_
  have := h b' hb'
  simpa using this
 ·refine Z9q h1 (xs := xs) (ys := ys) (sz := sz) (by simp) rfl hy hb fun b' hb' => ?_
  have := h b' hb'
  simpa [Zf] using this
theorem Zam.growG {sz : Nat} {v : Z0} {xs : List Z0} {β τ : Zc} (h : Zb5 sz v xs β) : Zam [v] (β ++ τ) [.slc sz xs false] τ := by
 rcases h with ⟨⟨z, rfl⟩, rfl, rfl⟩ | ⟨b, rfl, rfl⟩
 ·refine Zam.le (fun K vs hv => ?_) (HSub.refl _)
  cases hv with
  | slc0 hf r => exact .slc0 (by simp) r
  | slc hn he hs hm hv hc hf r =>
   simp only [List.length_nil] at hn
   subst hn
   exact .slc0 (by simp) r
 ·exact Zam.freeze rfl
theorem Zb7 {a : Z2c} {R : Z8i} {F : Z27} {σ τ : Zc} {d : Nat} {v v' : Z0} (hF : F d = some v) (hs : Zam [v] σ [v'] τ) (h : AWp P N a R (fset d (some v') F) τ) : AWp P N a R F σ := by
 refine awp_vs (fun K w tmps hr hfr => ?_) h
 have h1 := hfr.at_ d _ hF
 obtain ⟨K', k1, k2, k3⟩ := hs K w [_] hr h1
 refine ⟨K', k1, k2, hfr.size, fun i x e => ?_⟩
 simp only [fset] at e
 split at e
 ·rename_i hi
  subst hi
  simp only [Option.some.injEq] at e
  subst e
  exact k3
 ·exact (hfr.at_ i x e).mono k1
theorem Zb8 {res : List ARes} {R : Z0 → Zc → Prop} {F : Z27} {σ : Zc} {vs : List Z0} (h : Z8w F σ res = some vs) {r : Z0} {τ : Zc} (hv : Z8y (Z8x vs) σ r τ) (hR : R r τ) : ARet res R .ret F σ :=
 ⟨vs, h, r, τ, hv, hR⟩
theorem VRle.full {sz : Nat} {xs : List Z0} {f : Bool} : VRle [.slc sz xs f] [.slc sz xs false] := fun K vs hv => by
 cases hv with
 | slc0 hf r => exact .slc0 (by simp) r
 | slc hn he hs hm hv hc hf r => exact .slc hn he hs hm hv hc (by simp) r
theorem VRle.cells {sz : Nat} {xs ys : List Z0} {f : Bool} (hl : ys.length = xs.length) (he : ∀ y ∈ ys, y.elem sz) (h : VRle (flat xs) (flat ys)) : VRle [.slc sz xs f] [.slc sz ys f] := fun K vs hv => by
 cases hv with
 | slc0 hf r =>
  have : ys = [] := List.length_eq_zero_iff.1 (by simpa using hl)
  subst this
  exact .slc0 hf r
 | slc hn he' hs hm hv hc hf r => exact .slc (hl.trans hn) he hs hm (h K _ hv) hc hf r
theorem VRle.agg {cs ds : List Z0} (h1 : ∀ c ∈ ds, c.one = true) (h : VRle cs ds) : VRle [.agg cs] [.agg ds] := fun K vs hv => by
 cases hv with
 | agg _ hv r => exact .agg h1 (h K _ hv) r
theorem VRle.app {a a' b b' : List Z0} (h1 : VRle a a') (h2 : VRle b b') : VRle (a ++ b) (a' ++ b') := fun K vs hv => by
 obtain ⟨m1, m2, rfl, g1, g2⟩ := hv.split
 exact (h1 K _ g1).append (h2 K _ g2)
theorem VRle.trans {a b c : List Z0} (h1 : VRle a b) (h2 : VRle b c) : VRle a c := fun K vs hv => h2 K _ (h1 K _ hv)
theorem Zb9 {d : Nat} {f : FuncId} {args : List Zw} {vs : List Z0} {v : Z0} (h1 : evs F args = some vs) (hc : ∀ σ, Z1s P f vs σ fun r σ' => r = v ∧ σ' = σ) (h : aops P l (fset d (some v) F) σ Q) : aops P (⟨some d, .callp f, args, none⟩ :: l) F σ Q :=
 ⟨_, h1, v, hc, h⟩
theorem Z23.le {f : FuncId} {vs : List Z0} {v v' : Z0} {σ : Zc} (h : Z1s P f vs σ fun r σ' => r = v ∧ σ' = σ) (hv : VRle [v] [v']) : Z1s P f vs σ fun r σ' => r = v' ∧ σ' = σ :=
 Zal h fun r σ' ⟨e1, e2⟩ => ⟨v', σ, by rw [e1, e2]; exact Z8y.of_le hv (HSub.refl _), rfl, rfl⟩
theorem Rel.content {K : Kr} {w : World} {b sz : Nat} {xs ys : List Z0} {σ : Zc} (r : Rel K ((b, .cells sz xs) :: σ) w) (hl : ys.length = xs.length) (he : ∀ y ∈ ys, y.elem sz) (hv : ∀ vs, Z1 K (flat xs) vs → Z1 K (flat ys) vs) : Rel K ((b, .cells sz ys) :: σ) w := by
 have hk : Zh ((b, Zb.cells sz ys) :: σ) = Zh ((b, Zb.cells sz xs) :: σ) := rfl
 refine ⟨r.ext, r.oth, r.imm, by rw [hk]; exact r.nd, r.bnd, r.lit, fun c blk hc => ?_, ?_⟩
 ·rcases List.mem_cons.1 hc with e | hc
  ·cases e
   have ho := r.own b (.cells sz xs) (by simp)
   refine ⟨he, ?_⟩
   rcases ho.2 with ⟨p, h1, h2⟩ | ⟨cb, p, cs, ty, h1, h2, h3, h4, h5, h6, h7, h8⟩
   ·exact .inl ⟨p, h1, List.length_eq_zero_iff.1 (by rw [hl, h2]; rfl)⟩
   ·exact .inr ⟨cb, p, cs, ty, h1, h2, h3, h4, h5, by omega, h7, by rw [hl]; exact hv _ h8⟩
  ·exact r.own c blk (List.mem_cons_of_mem _ hc)
 ·intro b1 z1 b2 z2 cb s1 c1 s2 c2 m1 m2 l1 l2
  have key : ∀ {c z}, (c, z) ∈ (b, Zb.cells sz ys) :: σ → ∃ z', (c, z') ∈ (b, Zb.cells sz xs) :: σ := by
   intro c z h
   rcases List.mem_cons.1 h with e | h
   ·cases e; exact ⟨.cells sz xs, by simp⟩
   ·exact ⟨z, List.mem_cons_of_mem _ h⟩
  obtain ⟨y1, n1⟩ := key m1
  obtain ⟨y2, n2⟩ := key m2
  exact r.inj _ _ _ _ _ _ _ _ _ n1 n2 l1 l2
def HShift (σ τ : Zc) : Prop := ∀ K w, Rel K σ w → ∃ K', K.le K' ∧ Rel K' τ w
theorem Zba {a : Z2c} {R : Z8i} {F : Z27} {σ τ : Zc} (hs : HShift σ τ) (h : AWp P N a R F τ) : AWp P N a R F σ := by
 refine awp_vs (fun K w tmps hr hfr => ?_) h
 obtain ⟨K', k1, k2⟩ := hs K w hr
 exact ⟨K', k1, k2, hfr.mono k1⟩
theorem HShift.sub {σ τ : Zc} (h : HSub τ σ) : HShift σ τ := fun K w r => ⟨K, Kr.le.refl K, h K w r⟩
theorem HShift.trans {a b c : Zc} (h : HShift a b) (h' : HShift b c) : HShift a c := fun K w r => by
 obtain ⟨K1, k1, k2⟩ := h K w r
 obtain ⟨K2, k3, k4⟩ := h' K1 w k2
 exact ⟨K2, k1.trans k3, k4⟩
theorem HShift.inner {b sz bk s : Nat} {xs ys ks : List Z0} {σ : Zc} (hl : ys.length = xs.length) (he : ∀ y ∈ ys, y.elem sz)
  (hv : ∀ K : Kr, (∀ v, VR K (.arr s bk 0 ks.length) v → VR K (.slc s ks false) v) → ∀ vs, Z1 K (flat xs) vs → Z1 K (flat ys) vs) : HShift ((b, .cells sz xs) :: (bk, .cells s ks) :: σ) ((b, .cells sz ys) :: σ) := by
 intro K w r
 have hmem : (bk, Zb.cells s ks) ∈ (b, Zb.cells sz xs) :: (bk, Zb.cells s ks) :: σ := by simp
 have hown := r.own bk _ hmem
 have hne : b ≠ bk := by
  have := r.nd
  simp only [Zj, List.nodup_cons, List.mem_cons, not_or] at this
  exact this.1.1
 rcases hown.2 with ⟨p, h1, h2⟩ | ⟨cb, p, cs, ty, h1, h2, h3, h4, h5, h6, h7, h8⟩
 ·subst h2
  refine ⟨K, Kr.le.refl K, Rel.content (xs := xs) (HSub.of_sublist (List.Sublist.cons_cons _ (List.sublist_cons_self _ _)) K w r) hl he (hv K fun v hv => ?_)⟩
  unfold VR at hv ⊢
  cases hv with
  | arr hl ho hn r => exact .slc0 (by simp) r
  | arr0 hl r => exact .slc0 (by simp) r
 ·obtain ⟨vs0, g1, g2, g3⟩ := r.freeze hmem h1
  rw [Z9m hne Z9l] at g3
  refine ⟨_, g2, Rel.content g3 hl he (hv _ fun v hv => ?_)⟩
  unfold VR at hv ⊢
  generalize hn : ks.length = n at hv
  cases hv with
  | @arr _ _ _ cb' _ pcap cap _ _ hl' ho hc r =>
   have hl'' : K.loc bk = some ⟨some cb', s, pcap⟩ := hl'
   rw [h1] at hl''
   simp only [Option.some.injEq, Loc.mk.injEq, true_and] at hl''
   obtain ⟨rfl, rfl⟩ := hl''
   refine Z1.slc (vs := vs0) hn hown.1 rfl ?_ (Z1.mono g2 g1) hc (by simp) r
   intro j v hj
   simp only [Kr.addImm, Nat.zero_mul, Nat.zero_add, if_true]
   exact hj
  | arr0 hl' r =>
   have hl'' : K.loc bk = some ⟨none, s, _⟩ := hl'
   rw [h1] at hl''
   simp at hl''
end Go.Abs
namespace Go.Abs
open Go Go.RowKit
variable {P : Program} {N : Nat} {l : List Z2b} {F : Z27} {σ : Zc} {Q : Z27 → Zc → Prop}
theorem Zbb {d : Nat} {args : List Zw} {bs : List UInt8} {f : Bool} {s : Nat} (h1 : evs F args = some [.slc s (bytes bs) f]) (hs : s = 1) (h : aops P l (fset d (some (.str bs)) F) σ Q) : aops P (⟨some d, .b2s, args, none⟩ :: l) F σ Q :=
 Kq h1 (by subst hs; simp [Z1r, ab2s, Z1m, Zae]) rfl h
theorem Zbc {F : Z27} {σ : Zc} {r : ARes} {l : List ARes} {v : Z0} {vs : List Z0} (h1 : Z8v F σ r = some v) (h2 : Z8w F σ l = some vs) : Z8w F σ (r :: l) = some (v :: vs) := by simp [Z8w, h1, h2]
theorem Zbd {F : Z27} {σ : Zc} {b s i sz : Nat} {cs xs : List Z0} (hF : F i = some (.ptr b 0 0)) (hg : Zd σ b = some (.cells s (.agg cs :: xs))) (hl : cs.length = sz) : Z8v F σ (.cell i true sz) = some (.agg cs) := by
 subst hl
 simp [Z8v, hF, Z1l, hg, Z19, Z0.cells]
theorem Zbe {a a' b b' : Z0} {l l' : List Z0} (h1 : VRle [a] [a']) (h2 : VRle (b :: l) (b' :: l')) : VRle (a :: b :: l) (a' :: b' :: l') := VRle.cons h1 h2
theorem Zbf {z z' : Nat} {f : Bool} : VRle [.slc z [] f] [.slc z' [] false] := (VRle.nil_slc z z' f).trans VRle.full
theorem Zbg {sz : Nat} {xs ys : List Z0} {f : Bool} (hl : ys.length = xs.length) (he : ys.all (Z0.fit sz) = true) (h : VRle (flat xs) (flat ys)) : VRle [.slc sz xs f] [.slc sz ys false] :=
 (VRle.cells hl (fun y hy => Z0.fit_iff.1 (List.all_eq_true.1 he y hy)) h).trans VRle.full
theorem Zbh {cs ds : List Z0} (h1 : ds.all Z0.one = true) (h : VRle cs ds) : VRle [.agg cs] [.agg ds] := VRle.agg (fun c hc => List.all_eq_true.1 h1 c hc) h
theorem HShift.view {b sz : Nat} {xs ys : List Z0} {σ : Zc} (hl : ys.length = xs.length) (he : ys.all (Z0.fit sz) = true) (hv : VRle (flat xs) (flat ys)) : HShift ((b, .cells sz xs) :: σ) ((b, .cells sz ys) :: σ) :=
 fun K w r => ⟨K, Kr.le.refl K, r.content hl (fun y hy => Z0.fit_iff.1 (List.all_eq_true.1 he y hy)) (hv K)⟩
end Go.Abs

