/-
  A program logic over abstract states, part V: arguments of any plain type, opened.
-/
import Derived.Test.YtgmefkhincnajaaDoorAbsR
import Derived.Test.YtgmefkhincnajaaDoorAbsU
import Derived.Deep.Slices
import Derived.Carry
namespace Go.Abs
open Go Go.RowKit Go.ChangeShapes Go.WideShapes Go.Deep

set_option linter.unusedVariables false
set_option linter.unusedSimpArgs false

/-- A value of a type of truths, numbers, texts, slices, structs. -/
inductive Has (P : Program) : TypeId → AVal → Prop
  | bool {t : TypeId} {b : Bool} (h : P.underlying t = some .bool) : Has P t (.bool b)
  | int {t : TypeId} {k : IntKind} {i : Int} (h : P.underlying t = some (.int k)) (hw : (Lit.int k i).wf = true) : Has P t (.int k i)
  | str {t : TypeId} {s : List UInt8} (h : P.underlying t = some .string) (hl : s.length ≤ maxLen) : Has P t (.str s)
  | slc {t e : TypeId} {xs : List AVal} (h : P.underlying t = some (.slice e)) (hl : xs.length ≤ maxLen) (hx : ∀ x ∈ xs, Has P e x) : Has P t (.slc (P.cellsOf e) xs false)
  | agg {t : TypeId} {fs : Array Field} {ys : List AVal} (h : P.underlying t = some (.struct fs)) (hn : ys.length = fs.size) (hy : ∀ (j : Nat) (f : Field) (y : AVal), fs[j]? = some f → ys[j]? = some y → Has P f.type y) : Has P t (.agg (flat ys))

def contig (P : Program) : Nat → List Field → Nat → Bool
  | o, [], n => o == n
  | o, f :: fs, n => f.offset == o && contig P (o + P.cellsOf f.type) fs n

def plainT (P : Program) (S : List TypeId) (t : TypeId) : Bool :=
  match P.underlying t with
  | some .bool | some (.int _) | some .string => P.cellsOf t == 1
  | some (.slice e) => S.contains e && (P.cellsOf t == 1) && decide (0 < P.cellsOf e)
  | some (.struct fs) => contig P 0 fs.toList (P.cellsOf t) && fs.toList.all fun f => S.contains f.type
  | _ => false

/-- The types of a program that are plain, closed under their parts. -/
def plainS (P : Program) (S : List TypeId) : Bool := S.all (plainT P S)

variable {H : Type} {enc : TypeId × Value → H} {P : Program} {W : World} {hT : TabW W}

def Opened (P : Program) {W : World} (hT : TabW W) (t : TypeId) (cs : List Value) : Prop :=
  ∃ a : AVal, Has P t a ∧ a.elem (P.cellsOf t) ∧ VRel (K0 hT) a.cells cs

theorem opened_row {P : Program} {W : World} {hT : TabW W} {e : TypeId} {b o sz : Nat} {c : Nat → List Value} (hsz : P.cellsOf e = sz) : ∀ n, (∀ i, i < n → Opened P hT e (c i) ∧ ∀ j, j < sz → W.cell? ⟨b, o + i * sz + j, none⟩ = (c i)[j]?) →
    ∃ (xs : List AVal) (vs : List Value), xs.length = n ∧ (∀ x ∈ xs, Has P e x) ∧ (∀ x ∈ xs, x.elem sz) ∧ VRel (K0 hT) (flat xs) vs ∧ ∀ j v, vs[j]? = some v → W.cell? ⟨b, o + j, none⟩ = some v
  | 0, _ => ⟨[], [], rfl, by simp, by simp, .nil, by simp⟩
  | n + 1, h => by
    obtain ⟨xs, vs, h1, h2, h3, h4, h5⟩ := opened_row hsz n fun i hi => h i (by omega)
    obtain ⟨⟨a, ha, he, hv⟩, hc⟩ := h n (by omega)
    rw [hsz] at he
    have hl : vs.length = n * sz := by rw [← h4.length, flat_length h3, h1]
    have hcl : (c n).length = sz := by rw [← hv.length, he.1]
    refine ⟨xs ++ [a], vs ++ c n, by simp [h1], ?_, ?_, ?_, ?_⟩
    · intro x hx
      rcases List.mem_append.1 hx with hx | hx
      · exact h2 x hx
      · rw [List.mem_singleton.1 hx]; exact ha
    · intro x hx
      rcases List.mem_append.1 hx with hx | hx
      · exact h3 x hx
      · rw [List.mem_singleton.1 hx]; exact he
    · rw [flat_append, flat_cons, flat_nil, List.append_nil]
      exact h4.append hv
    · intro j v hj
      rw [List.getElem?_append] at hj
      split at hj
      · exact h5 j v hj
      · rename_i hjl
        have hlt := (List.getElem?_eq_some_iff.1 hj).1
        have := hc (j - vs.length) (by omega)
        rw [hj, hl] at this
        rw [← this]
        congr 2
        rw [hl] at hjl
        omega

theorem opened_fields {P : Program} {W : World} {hT : TabW W} {cs : List Value} : ∀ (fs : List Field) (o n : Nat), contig P o fs n = true → cs.length = n → o ≤ n → (∀ f ∈ fs, Opened P hT f.type ((cs.drop f.offset).take (P.cellsOf f.type))) →
    ∃ ys : List AVal, ys.length = fs.length ∧ (∀ (j : Nat) (f : Field) (y : AVal), fs[j]? = some f → ys[j]? = some y → Has P f.type y) ∧ (∀ c ∈ flat ys, c.one = true) ∧ VRel (K0 hT) (flat ys) (cs.drop o)
  | [], o, n, h, hc, ho, _ => by
    simp only [contig, beq_iff_eq] at h
    refine ⟨[], rfl, by simp, by simp, ?_⟩
    rw [List.drop_of_length_le (by omega)]
    exact .nil
  | f :: fs, o, n, h, hc, ho, hf => by
    simp only [contig, Bool.and_eq_true, beq_iff_eq] at h
    obtain ⟨h1, h2⟩ := h
    obtain ⟨a, ha, he, hv⟩ := hf f (by simp)
    rw [h1] at hv
    have hle : o + P.cellsOf f.type ≤ n := by
      have := hv.length
      rw [he.1, List.length_take, List.length_drop, hc] at this
      omega
    obtain ⟨ys, k1, k2, k3, k4⟩ := opened_fields fs (o + P.cellsOf f.type) n h2 hc hle fun g hg => hf g (by simp [hg])
    refine ⟨a :: ys, by simp [k1], ?_, ?_, ?_⟩
    · intro j g y hj hy
      cases j with
      | zero => simp at hj hy; subst hj hy; exact ha
      | succ j => exact k2 j g y (by simpa using hj) (by simpa using hy)
    · intro c hc'
      rw [flat_cons] at hc'
      rcases List.mem_append.1 hc' with h | h
      · exact he.2 c h
      · exact k3 c h
    · rw [flat_cons]
      have e : cs.drop o = (cs.drop o).take (P.cellsOf f.type) ++ cs.drop (o + P.cellsOf f.type) := by
        rw [← List.drop_drop, List.take_append_drop]
      rw [e]
      exact hv.append k4

theorem opened {S : List TypeId} (hS : plainS P S = true) : ∀ (fuel : Nat) (t : TypeId), t ∈ S → ∀ (cs : List Value) x, DataW.trod enc P W 0 (fun _ => true) true fuel t cs = some x → Opened P hT t cs := by
  intro fuel
  induction fuel with
  | zero => intro t _ cs x h; simp [DataW.trod] at h
  | succ n ih =>
    intro t ht cs x h
    have hp := List.all_eq_true.1 hS t ht
    unfold plainT at hp
    cases hu : P.underlying t with
    | none => rw [hu] at hp; simp at hp
    | some u =>
      rw [hu] at hp
      cases u with
      | bool =>
        obtain ⟨b, rfl, _⟩ := DataW.trod_bool hu h
        simp only [beq_iff_eq] at hp
        exact ⟨.bool b, .bool hu, ⟨by rw [hp]; rfl, by simp [AVal.cells, AVal.one]⟩, .bool .nil⟩
      | int k =>
        obtain ⟨i, rfl, _, hw⟩ := DataW.trod_int hu h
        simp only [beq_iff_eq] at hp
        exact ⟨.int k i, .int hu hw, ⟨by rw [hp]; rfl, by simp [AVal.cells, AVal.one]⟩, .int .nil⟩
      | string =>
        obtain ⟨s, rfl, _, hl⟩ := DataW.trod_string hu h
        simp only [beq_iff_eq] at hp
        refine ⟨.str s.data.toList, .str hu (by simpa using hl), ⟨by rw [hp]; rfl, by simp [AVal.cells, AVal.one]⟩, ?_⟩
        exact VRel.str (K := K0 hT) (s := s.data.toList) VRel.nil
      | slice e =>
        simp only [Bool.and_eq_true, beq_iff_eq, decide_eq_true_eq] at hp
        obtain ⟨⟨he, h1⟩, hz⟩ := hp
        have heS : e ∈ S := by simpa using he
        rcases DataW.trod_slice hu h with ⟨rfl, _⟩ | ⟨a, len, cap, elems, rest, m, hm, rfl, rfl, hb, hl, hmx, hlen, hel, _, _⟩
        · exact ⟨.slc (P.cellsOf e) [] false, .slc hu (by simp) (by simp), ⟨by rw [h1]; rfl, by simp [AVal.cells, AVal.one]⟩, .slc0 (by simp) .nil⟩
        · obtain rfl : n = m := by omega
          have hcell : ∀ i, i < len → ∃ cs', W.cells? 0 (a.add (i * P.cellsOf e)) (P.cellsOf e) = some cs' ∧ Opened P hT e cs' := by
            intro i hi
            have := hel i hi
            rw [List.getElem?_eq_getElem (by omega)] at this
            obtain ⟨cs', g1, g2⟩ := Option.bind_eq_some_iff.1 this
            exact ⟨cs', g1, ih e heS cs' _ g2⟩
          by_cases h0 : len = 0
          · subst h0
            exact ⟨.slc (P.cellsOf e) [] false, .slc hu (by simp) (by simp), ⟨by rw [h1]; rfl, by simp [AVal.cells, AVal.one]⟩, .slc0 (by simp) .nil⟩
          have hsp : a.spot = none := by
            obtain ⟨cs', g1, g2⟩ := hcell 0 (by omega)
            obtain ⟨_, g3, g4⟩ := World.cells?_some g1
            have g5 := g4 0 hz
            rw [List.getElem?_eq_getElem (by omega)] at g5
            cases hs : a.spot with
            | none => rfl
            | some s =>
              rw [Nat.zero_mul, Addr.add, if_pos rfl, Addr.add, if_pos rfl] at g5
              unfold World.cell? at g5
              split at g5
              · simp [hs] at g5
              · cases g5
          have hx : ∀ i, a.add i = ⟨a.block, a.off + i, none⟩ := by
            intro i
            unfold Addr.add
            split
            · rename_i h; subst h
              cases a; simp at hsp; simp [hsp]
            · rfl
          have hch : ∃ c : Nat → List Value, ∀ i, i < len → Opened P hT e (c i) ∧ ∀ j, j < P.cellsOf e → W.cell? ⟨a.block, a.off + i * P.cellsOf e + j, none⟩ = (c i)[j]? := by
            refine choose_lt (p := fun i ci => Opened P hT e ci ∧ ∀ j, j < P.cellsOf e → W.cell? ⟨a.block, a.off + i * P.cellsOf e + j, none⟩ = ci[j]?) fun i hi => ?_
            obtain ⟨cs', g1, g2⟩ := hcell i hi
            obtain ⟨_, g3, g4⟩ := World.cells?_some g1
            refine ⟨cs', g2, fun j hj => ?_⟩
            have := g4 j hj
            rw [add_add, hx] at this
            rw [← this, Nat.add_assoc]
          obtain ⟨c, hc⟩ := hch
          obtain ⟨xs, vs, k1, k2, k3, k4, k5⟩ := opened_row (b := a.block) (o := a.off) (c := c) rfl len hc
          refine ⟨.slc (P.cellsOf e) xs false, .slc hu (by omega) k2, ⟨by rw [h1]; rfl, by simp [AVal.cells, AVal.one]⟩, ?_⟩
          exact VRel.slc k1 k3 hsp (fun j v hj => k5 j v hj) k4 hl (by simp) .nil
      | struct fs =>
        simp only [Bool.and_eq_true] at hp
        obtain ⟨hc, hall⟩ := hp
        obtain ⟨xs, m, hm, rfl, hlen, hxl, hf⟩ := DataW.trod_struct hu h
        obtain rfl : n = m := by omega
        obtain ⟨ys, k1, k2, k3, k4⟩ := opened_fields (P := P) (W := W) (cs := cs) fs.toList 0 _ hc hlen (Nat.zero_le _) (by
          intro f hfm
          obtain ⟨i, hi, rfl⟩ := List.getElem_of_mem hfm
          have h1 := hf i fs.toList[i] (by simp)
          have hi' : i < fs.size := by simpa using hi
          rw [List.getElem?_eq_getElem (by omega)] at h1
          exact ih _ (by simpa using List.all_eq_true.1 hall _ hfm) _ _ h1)
        refine ⟨.agg (flat ys), .agg hu (by simpa using k1) (fun j f y hj hy => k2 j f y (by simpa using hj) hy), ⟨?_, k3⟩, by simpa [AVal.cells] using k4⟩
        have := k4.length
        simp only [List.drop_zero] at this
        simpa [AVal.cells] using this.trans hlen
      | _ => simp at hp

/-- An argument. -/
theorem opened_arg {S : List TypeId} (hS : plainS P S = true) {t : TypeId} (ht : t ∈ S) {v : Value} {d : DataW H} {ps : List MemPlace} {r : Reach} {b : Nat} (hv : Value.okWide P W r b t v) (h : DataW.Trod enc P W 0 (fun _ => true) true t v d ps) : ∃ a : AVal, Has P t a ∧ VR (K0 hT) a v := by
  obtain ⟨fuel, h⟩ := h
  obtain ⟨a, h1, h2, h3⟩ := opened hS fuel t ht _ _ h
  refine ⟨a, h1, ?_⟩
  cases h1 with
  | bool hu => obtain ⟨b, rfl⟩ := okWide_bool hu hv; exact h3
  | int hu _ => obtain ⟨b, rfl⟩ := okWide_int hu hv; exact h3
  | str hu _ => obtain ⟨b, rfl⟩ := okWide_string hu hv; exact h3
  | slc hu _ _ => obtain ⟨a, l, c, rfl⟩ := okWide_slice hu hv; exact h3
  | agg hu _ _ =>
    obtain ⟨cs, rfl, _⟩ := okWide_struct hu hv
    have := VRel.agg (K := K0 hT) h2.2 (show VRel (K0 hT) _ cs.toList from h3) .nil
    simpa [VR, AVal.cells] using this

inductive HasL (P : Program) : List TypeId → List AVal → Prop
  | nil : HasL P [] []
  | cons {t : TypeId} {a : AVal} {ts : List TypeId} {l : List AVal} (h : Has P t a) (r : HasL P ts l) : HasL P (t :: ts) (a :: l)

theorem opened_all {S : List TypeId} (hS : plainS P S = true) {r : Reach} {b : Nat} : ∀ (ts : List TypeId) (vs : List Value) (ds : List (DataW H)) (ps : List MemPlace), (∀ t ∈ ts, t ∈ S) → (∀ (j : Nat) t v, ts[j]? = some t → vs[j]? = some v → Value.okWide P W r b t v) → DataW.TrodAll enc P W 0 (fun _ => true) true ts vs ds ps →
    ∃ as9, HasL P ts as9 ∧ VRel (K0 hT) as9 vs
  | [], [], [], _, _, _, _ => ⟨[], .nil, .nil⟩
  | t :: ts, v :: vs, d :: ds, ps, hts, hv, h => by
    obtain ⟨p, q, h1, h2, _⟩ := h
    obtain ⟨as9, g1, g2⟩ := opened_all hS ts vs ds q (fun t ht => hts t (by simp [ht])) (fun j t v e1 e2 => hv (j + 1) t v (by simpa using e1) (by simpa using e2)) h2
    obtain ⟨a, g3, g4⟩ := opened_arg hS (hts t (by simp)) (hv 0 t v rfl rfl) h1
    exact ⟨a :: as9, .cons g3 g1, VRel.cons g4 g2⟩
  | [], _ :: _, _, _, _, _, h => absurd h (by simp [DataW.TrodAll])
  | [], [], _ :: _, _, _, _, h => absurd h (by simp [DataW.TrodAll])
  | _ :: _, [], _, _, _, _, h => absurd h (by simp [DataW.TrodAll])
  | _ :: _, _ :: _, [], _, _, _, h => absurd h (by simp [DataW.TrodAll])

/-- The arguments afterwards. -/
theorem stays_all (hl : laidOutB P = true) {W' : World} (hb : Below W.heap.size W W') : ∀ (ts : List TypeId) (vs : List Value) (ds : List (DataW H)) (ps : List MemPlace), (∀ t ∈ ts, P.readableRec t = true ∧ t < P.types.size) → DataW.TrodAll enc P W 0 (fun _ => true) true ts vs ds ps →
    DataW.TrodAll enc P W' 0 (fun b => decide (b < W.heap.size)) true ts vs ds ps
  | [], [], [], _, _, h => h
  | t :: ts, v :: vs, d :: ds, ps, hts, h => by
    obtain ⟨p, q, h1, h2, rfl⟩ := h
    have hlt : ∀ x ∈ p, x.block < W.heap.size := by obtain ⟨m, hm⟩ := h1; exact DataW.trod_lt m _ _ _ hm
    exact ⟨p, q, Below.trod hl (hts t (by simp)).1 (hts t (by simp)).2 h1 hb hlt, stays_all hl hb ts vs ds q (fun t ht => hts t (by simp [ht])) h2, rfl⟩
  | [], _ :: _, _, _, _, h => absurd h (by simp [DataW.TrodAll])
  | [], [], _ :: _, _, _, h => absurd h (by simp [DataW.TrodAll])
  | _ :: _, [], _, _, _, h => absurd h (by simp [DataW.TrodAll])
  | _ :: _, _ :: _, [], _, _, h => absurd h (by simp [DataW.TrodAll])

theorem trodAll_len {base : Nat} {spare : Nat → Bool} {held : Bool} : ∀ {ts : List TypeId} {vs : List Value} {ds : List (DataW H)} {ps : List MemPlace}, DataW.TrodAll enc P W base spare held ts vs ds ps → ds.length = ts.length
  | [], [], [], _, _ => rfl
  | t :: ts, v :: vs, d :: ds, ps, h => by
    obtain ⟨p, q, h1, h2, rfl⟩ := h
    simp [trodAll_len h2]
  | [], _ :: _, _, _, h => absurd h (by simp [DataW.TrodAll])
  | [], [], _ :: _, _, h => absurd h (by simp [DataW.TrodAll])
  | _ :: _, [], _, _, h => absurd h (by simp [DataW.TrodAll])
  | _ :: _, _ :: _, [], _, h => absurd h (by simp [DataW.TrodAll])

/-! ### What a value of a type is -/

theorem Has.bool_inv {t : TypeId} {a : AVal} (hu : P.underlying t = some .bool) (h : Has P t a) : ∃ b, a = .bool b := by
  cases h with
  | bool _ => exact ⟨_, rfl⟩
  | int h _ | str h _ | slc h _ _ | agg h _ _ => rw [hu] at h; cases h
theorem Has.int_inv {t : TypeId} {a : AVal} {k : IntKind} (hu : P.underlying t = some (.int k)) (h : Has P t a) : ∃ i, a = .int k i ∧ (Lit.int k i).wf = true := by
  cases h with
  | int h hw => rw [hu] at h; cases h; exact ⟨_, rfl, hw⟩
  | bool h | str h _ | slc h _ _ | agg h _ _ => rw [hu] at h; cases h
theorem Has.str_inv {t : TypeId} {a : AVal} (hu : P.underlying t = some .string) (h : Has P t a) : ∃ s, a = .str s ∧ s.length ≤ maxLen := by
  cases h with
  | str h hl => exact ⟨_, rfl, hl⟩
  | bool h | int h _ | slc h _ _ | agg h _ _ => rw [hu] at h; cases h
theorem Has.slc_inv {t e : TypeId} {a : AVal} (hu : P.underlying t = some (.slice e)) (h : Has P t a) : ∃ xs, a = .slc (P.cellsOf e) xs false ∧ xs.length ≤ maxLen ∧ ∀ x ∈ xs, Has P e x := by
  cases h with
  | slc h hl hx => rw [hu] at h; cases h; exact ⟨_, rfl, hl, hx⟩
  | bool h | int h _ | str h _ | agg h _ _ => rw [hu] at h; cases h
theorem Has.agg_inv {t : TypeId} {fs : Array Field} {a : AVal} (hu : P.underlying t = some (.struct fs)) (h : Has P t a) : ∃ ys, a = .agg (flat ys) ∧ HasL P (fs.toList.map Field.type) ys := by
  cases h with
  | agg h hn hy =>
    rw [hu] at h; cases h
    refine ⟨_, rfl, ?_⟩
    have key : ∀ (l : List Field) (ys : List AVal), ys.length = l.length → (∀ (j : Nat) (f : Field) (y : AVal), l[j]? = some f → ys[j]? = some y → Has P f.type y) → HasL P (l.map Field.type) ys := by
      intro l
      induction l with
      | nil => intro ys h _; rw [List.length_eq_zero_iff.1 h]; exact .nil
      | cons f l ih =>
        intro ys h hy
        cases ys with
        | nil => simp at h
        | cons y ys => exact .cons (hy 0 f y rfl rfl) (ih ys (by simpa using h) fun j f y e1 e2 => hy (j + 1) f y (by simpa using e1) (by simpa using e2))
    exact key _ _ (by simpa using hn) fun j f y e1 e2 => hy j f y (by simpa using e1) e2
  | bool h | int h _ | str h _ | slc h _ _ => rw [hu] at h; cases h

theorem HasL.nil_inv {as9 : List AVal} (h : HasL P [] as9) : as9 = [] := by cases h; rfl
theorem HasL.cons_inv {t : TypeId} {ts : List TypeId} {as9 : List AVal} (h : HasL P (t :: ts) as9) : ∃ a l, as9 = a :: l ∧ Has P t a ∧ HasL P ts l := by
  cases h with
  | cons h r => exact ⟨_, _, rfl, h, r⟩

theorem wf_i64 {i : Int} (h : (Lit.int .i64 i).wf = true) : -9223372036854775808 ≤ i ∧ i ≤ 9223372036854775807 := by simpa [Lit.wf, IntKind.min, IntKind.max, IntKind.signed, IntKind.bits] using h
theorem wf_u8 {i : Int} (h : (Lit.int .u8 i).wf = true) : 0 ≤ i ∧ i ≤ 255 := by simpa [Lit.wf, IntKind.min, IntKind.max, IntKind.signed, IntKind.bits] using h
theorem wf_i8 {i : Int} (h : (Lit.int .i8 i).wf = true) : -128 ≤ i ∧ i ≤ 127 := by simpa [Lit.wf, IntKind.min, IntKind.max, IntKind.signed, IntKind.bits] using h

/-- A row whose elements are known one by one. -/
theorem map_ex {α : Type} {f : α → AVal} {p : α → Prop} : ∀ {xs : List AVal}, (∀ x ∈ xs, ∃ a, x = f a ∧ p a) → ∃ l : List α, xs = l.map f ∧ ∀ a ∈ l, p a
  | [], _ => ⟨[], rfl, by simp⟩
  | x :: xs, h => by
    obtain ⟨a, rfl, ha⟩ := h x (by simp)
    obtain ⟨l, rfl, hl⟩ := map_ex (xs := xs) fun y hy => h y (by simp [hy])
    exact ⟨a :: l, rfl, fun b hb => by rcases List.mem_cons.1 hb with rfl | hb; exact ha; exact hl b hb⟩

theorem Has.bytes_inv {t e : TypeId} {a : AVal} (hu : P.underlying t = some (.slice e)) (he : P.underlying e = some (.int .u8)) (hc : P.cellsOf e = 1) (h : Has P t a) : ∃ bs : List UInt8, a = .slc 1 (bytes bs) false ∧ bs.length ≤ maxLen := by
  obtain ⟨xs, rfl, hl, hx⟩ := h.slc_inv hu
  rw [hc]
  obtain ⟨bs, rfl, _⟩ := map_ex (f := byte) (p := fun _ => True) fun x hm => by
    obtain ⟨i, rfl, hw⟩ := (hx x hm).int_inv he
    have := wf_u8 hw
    refine ⟨UInt8.ofNat i.toNat, ?_, trivial⟩
    rw [byte, UInt8.toNat_ofNat']
    congr 1; omega
  exact ⟨bs, rfl, by simpa using hl⟩

end Go.Abs
