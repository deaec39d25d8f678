/-
  A program logic over abstract states, part G: every operation that keeps the state.
-/
import Derived.Test.YtgmefkhincnajaaDoorAbsF
namespace Go.Abs
open Go Go.RowKit

set_option linter.unusedVariables false
set_option linter.unusedSimpArgs false
variable {P : Program} {K : Kr} {σ : AHeap} {w : World}

/-- What a quiet operation must come to. -/
def QOk (P : Program) (K : Kr) (σ : AHeap) (w : World) (x : AVal) (res : Result Value) : Prop :=
  ∃ v w' K', res = .ok v w' ∧ K.le K' ∧ Rel K' σ w' ∧ VR K' x v

theorem QOk.same {x : AVal} {v : Value} {res : Result Value} (r : Rel K σ w) (e : res = .ok v w) (h : VR K x v) : QOk P K σ w x res :=
  ⟨v, w, K, e, Kr.le.refl K, r, h⟩

theorem q_mov {vs : List AVal} {m : List Value} (hv : VRel K vs m) {x : AVal} (h : amov vs = some x) : ∃ v, m = [v] ∧ VR K x v := by
  unfold amov at h
  split at h
  · simp only [Option.some.injEq] at h; subst h
    exact hv.one_inv
  · cases h

theorem q_pick {vs : List AVal} {c a b : Value} (hv : VRel K vs [c, a, b]) {x : AVal} (h : apick vs = some x) (r : Rel K σ w) :
    QOk P K σ w x ((do pure (if ← asBool c then a else b) : Sem Value).run P w) := by
  unfold apick at h
  split at h
  · rename_i t y z
    simp only [Option.some.injEq] at h; subst h
    obtain ⟨u1, u2, u3, e, h1, h2, h3⟩ := hv.three_inv
    simp at e; obtain ⟨rfl, rfl, rfl⟩ := e
    rw [h1.bool_inv]
    refine QOk.same r (by simp [asBool] <;> rfl) ?_
    cases t
    · exact h3
    · exact h2
  · cases h

theorem q_fad {t : TypeId} {i : Nat} {f : Field} {s : Nat} (hf : fieldA P t i = some f) (hs : sizeA P f.type = some s) (h0 : s ≠ 0) {vs : List AVal} {p : Value} (hv : VRel K vs [p]) {x : AVal} (h : afad f.offset vs = some x) (r : Rel K σ w) :
    QOk P K σ w x ((Instr.fieldAt t p i).run P w) := by
  have hu : ∃ fs, P.underlying t = some (.struct fs) ∧ fs[i]? = some f := by
    unfold fieldA at hf
    split at hf
    · exact ⟨_, by assumption, hf⟩
    · cases hf
  obtain ⟨fs, hu, hfs⟩ := hu
  unfold afad at h
  split at h
  · rename_i b j o
    simp only [Option.some.injEq] at h; subst h
    obtain ⟨u, e, h1⟩ := hv.one_inv
    simp at e; subst e
    unfold VR at h1
    cases h1 with
    | ptr hl _ =>
      refine QOk.same r (by simp [Instr.fieldAt, run_underlying hu, hfs, Instr.sureAddr, fieldPlace, run_sizeOf' hs, h0, addr_add] <;> rfl) ?_
      have := VRel.ptr (K := K) (i := j) (o := o + f.offset) hl .nil
      simpa [VR, Nat.add_assoc] using this
  · rename_i cs
    simp only [Option.some.injEq] at h; subst h
    obtain ⟨u, e, h1⟩ := hv.one_inv
    simp at e; subst e
    unfold VR at h1
    cases h1 with
    | @iptr _ a vs' _ _ hsp h1 hm hvv _ =>
      refine QOk.same r (by simp [Instr.fieldAt, run_underlying hu, hfs, Instr.sureAddr, fieldPlace, run_sizeOf' hs, h0, addr_add a _ hsp] <;> rfl) ?_
      refine VRel.iptr (vs := vs'.drop f.offset) rfl (fun c hc => h1 c (List.mem_of_mem_drop hc)) (fun j v e => ?_) (hvv.drop _) .nil
      rw [List.getElem?_drop] at e
      have := hm _ _ e
      simpa [Nat.add_assoc] using this
  · cases h

theorem run_part {t : TypeId} {ag : Bool} {sz off : Nat} (hag : aggA P t = some ag) (hsz : sizeA P t = some sz) {cs : List AVal} {vs : List Value} {x : AVal} (hp : part_ ag sz (cs.drop off) = some x)
    (hv : VRel K cs vs) (h1 : ∀ c ∈ cs, c.one = true) : ∃ v, (part t vs.toArray off).run P w = .ok v w ∧ VR K x v := by
  unfold part
  simp only [Sem.run_bind, run_isAgg hag, Result.andThen_ok]
  rcases part_cells hp (hv.drop off) (fun c hc => h1 c (List.mem_of_mem_drop hc)) with ⟨rfl, hl, hx⟩ | ⟨rfl, v, h0, hx⟩
  · refine ⟨_, by simp only [if_true, Sem.run_bind, run_sizeOf' hsz, Result.andThen_ok, Sem.run_pure]; rfl, ?_⟩
    have e : ((vs.drop off).take sz).toArray = vs.toArray.extract off (off + sz) := by
      apply Array.ext'
      simp [List.extract_eq_take_drop]
    rw [← e]
    exact hx
  · refine ⟨v, ?_, hx⟩
    have e : vs.toArray[off]? = some v := by simpa using h0
    simp [e]

theorem q_fld {t : TypeId} {i : Nat} {f : Field} {ag : Bool} {s : Nat} (hf : fieldA P t i = some f) (hg : aggA P f.type = some ag) (hs : sizeA P f.type = some s) {vs : List AVal} {p : Value} (hv : VRel K vs [p]) {x : AVal}
    (h : afld ag f.offset s vs = some x) (r : Rel K σ w) : QOk P K σ w x ((Instr.field t p i).run P w) := by
  have hu : ∃ fs, P.underlying t = some (.struct fs) ∧ fs[i]? = some f := by
    unfold fieldA at hf
    split at hf
    · exact ⟨_, by assumption, hf⟩
    · cases hf
  obtain ⟨fs, hu, hfs⟩ := hu
  unfold afld at h
  split at h
  · rename_i cs
    obtain ⟨u, e, h1⟩ := hv.one_inv
    simp at e; subst e
    obtain ⟨vs', rfl, h2, h3⟩ := h1.agg_inv
    obtain ⟨v, hr, hx⟩ := run_part (P := P) (w := w) hg hs h h2 h3
    refine QOk.same r ?_ hx
    simp [Instr.field, run_underlying hu, hfs, asAgg, hr]
  · cases h

theorem q_iad {t e : TypeId} {sz : Nat} (ht : P.underlying t = some (.slice e)) (hs : sizeA P e = some sz) {vs : List AVal} {p q : Value} (hv : VRel K vs [p, q]) {x : AVal}
    (h : aiad sz vs = some x) (r : Rel K σ w) : QOk P K σ w x ((Instr.indexAt t p q).run P w) := by
  unfold aiad at h
  split at h
  · rename_i s xs full k i
    split at h
    · rename_i hc
      obtain ⟨h0, rfl⟩ := hc
      simp only [Option.map_eq_some_iff] at h
      obtain ⟨y, hy, rfl⟩ := h
      obtain ⟨u1, u2, e1, h1, h2⟩ := hv.two_inv
      simp at e1; obtain ⟨rfl, rfl⟩ := e1
      rw [h2.int_inv]
      have hlt := (List.getElem?_eq_some_iff.1 hy).1
      unfold VR at h1
      cases h1 with
      | slc0 _ _ => simp at hy
      | @slc _ _ _ a n cap vs' _ _ hn he hsp hm hvv hc hf _ =>
        subst hn
        have hi : 0 ≤ i ∧ i < (xs.length : Int) := ⟨h0, by omega⟩
        refine QOk.same r (by simp [Instr.indexAt, asIntOf, run_underlying ht, hi, run_sizeOf' hs, addr_add a _ hsp] <;> rfl) ?_
        have hx := (VRel.at_ hvv he hy)
        refine VRel.iptr rfl (he y (List.mem_of_getElem? hy)).2 (fun j v e => ?_) hx .nil
        rw [List.getElem?_take] at e
        split at e
        · rw [List.getElem?_drop] at e
          have := hm _ _ e
          simpa [Nat.add_assoc] using this
        · cases e
    · cases h
  · rename_i s b off n k i
    split at h
    · rename_i hc
      obtain ⟨⟨h0, h9⟩, hss⟩ := hc
      simp only [Option.some.injEq] at h; subst h
      obtain ⟨u1, u2, e1, h1, h2⟩ := hv.two_inv
      simp at e1; obtain ⟨rfl, rfl⟩ := e1
      rw [h2.int_inv]
      unfold VR at h1
      cases h1 with
      | @arr _ _ _ cb s' pcap cap _ _ hl ho hn _ =>
        have hi : 0 ≤ i ∧ i < (n : Int) := ⟨h0, h9⟩
        refine QOk.same r (by simp [Instr.indexAt, asIntOf, run_underlying ht, hi, run_sizeOf' hs, addr_add] <;> rfl) ?_
        have := VRel.ptr (K := K) (i := off + i.toNat) (o := 0) hl .nil
        simpa [VR, Nat.add_mul, hss] using this
      | arr0 _ _ => simp at h9; omega
    · cases h
  · cases h

theorem q_conv {k : IntKind} {src dst : TypeId} (hd : P.underlying dst = some (.int k)) {d : TypeDesc} (hsrc : P.underlying src = some d) {vs : List AVal} {p : Value} (hv : VRel K vs [p]) {x : AVal} (h : aconv k vs = some x) (r : Rel K σ w) :
    QOk P K σ w x ((convert src dst p).run P w) := by
  unfold aconv at h
  split at h
  · simp only [Option.some.injEq] at h; subst h
    obtain ⟨u, e, h1⟩ := hv.one_inv
    simp at e; subst e
    rw [h1.int_inv]
    refine QOk.same r ?_ VR.int
    cases d <;> simp [convert, run_underlying hd, run_underlying hsrc, Conv.intToInt]
  · cases h

theorem q_bin {t : TypeId} {op : BinOp} (y z : Operand) {vs : List AVal} {p q : Value} (hv : VRel K vs [p, q]) {x : AVal} (h : abin op vs = some x) (r : Rel K σ w) :
    QOk P K σ w x ((do eqGuard op t y z p q; binOp op t p q : Sem Value).run P w) := by
  have h' := h
  unfold abin at h'
  split at h'
  · obtain ⟨u1, u2, e1, h1, h2⟩ := hv.two_inv
    simp at e1; obtain ⟨rfl, rfl⟩ := e1
    rw [h1.int_inv, h2.int_inv]
    obtain ⟨v, hr, hx⟩ := run_binOp_int (K := K) P op t _ _ _ _ x h w
    refine QOk.same r ?_ hx
    simp [run_eqGuard P op t y z _ _ w (.inl ⟨_, _, rfl⟩), hr]
  · obtain ⟨u1, u2, e1, h1, h2⟩ := hv.two_inv
    simp at e1; obtain ⟨rfl, rfl⟩ := e1
    rw [h1.str_inv, h2.str_inv]
    obtain ⟨v, hr, hx⟩ := run_binOp_str (K := K) P op t _ _ x h w
    refine QOk.same r ?_ hx
    simp [run_eqGuard P op t y z _ _ w (.inr (.inl ⟨_, rfl⟩)), hr]
  · cases h'

theorem q_binb {t : TypeId} {op : BinOp} (hk : kindA P t = 1) (y z : Operand) {vs : List AVal} {p q : Value} (hv : VRel K vs [p, q]) {x : AVal} (h : abinb op vs = some x) (r : Rel K σ w) :
    QOk P K σ w x ((do eqGuard op t y z p q; binOp op t p q : Sem Value).run P w) := by
  have ht : P.underlying t = some .bool := by
    unfold kindA at hk
    split at hk <;> first | assumption | (simp at hk)
  have h' := h
  unfold abinb at h'
  split at h'
  · obtain ⟨u1, u2, e1, h1, h2⟩ := hv.two_inv
    simp at e1; obtain ⟨rfl, rfl⟩ := e1
    rw [h1.bool_inv, h2.bool_inv]
    obtain ⟨v, hr, hx⟩ := run_binOp_bool (K := K) P op t ht _ _ x h w
    refine QOk.same r ?_ hx
    simp [run_eqGuard P op t y z _ _ w (.inr (.inr (.inl ⟨_, rfl⟩))), hr]
  · cases h'

theorem q_cstr {src dst : TypeId} (hs : P.underlying src = some .string) (hd : P.underlying dst = some .string) {vs : List AVal} {p : Value} (hv : VRel K vs [p]) {x : AVal} (h : acstr vs = some x) (r : Rel K σ w) :
    QOk P K σ w x ((convert src dst p).run P w) := by
  unfold acstr at h
  split at h
  · simp only [Option.some.injEq] at h; subst h
    obtain ⟨u, e, h1⟩ := hv.one_inv
    simp at e; subst e
    rw [h1.str_inv]
    exact QOk.same r (by simp [convert, run_underlying hs, run_underlying hd] <;> rfl) VR.str
  · cases h

theorem run_sub_q {sz : Nat} {t e : TypeId} (ht : P.underlying t = some (.slice e)) (hsz : sizeA P e = some sz) {lo hi mx : Bool} {vs : List AVal} {u : Value} {vlo vhi vmx : Option Value} (hlo : vlo.isSome = lo) (hhi : vhi.isSome = hi) (hmx : vmx.isSome = mx)
    (hv : VRel K vs (u :: (vlo.toList ++ vhi.toList ++ vmx.toList))) {x : AVal} (h : asub sz lo hi mx vs = some x) (r : Rel K σ w) : QOk P K σ w x ((Instr.slice t u vlo vhi vmx).run P w) := by
  cases vs with
  | nil => cases hv
  | cons y l =>
    obtain ⟨h1, h2⟩ := hv.inv
    obtain ⟨v, hr, hx⟩ := run_sub (P := P) (w := w) h h1 ht hsz hlo hhi hmx h2
    exact QOk.same r hr hx

theorem q_unot {vs : List AVal} {p : Value} (hv : VRel K vs [p]) {x : AVal} (h : aunot vs = some x) (r : Rel K σ w) : QOk P K σ w x ((Op.unary .not p).run P w) := by
  unfold aunot at h
  split at h
  · simp only [Option.some.injEq] at h; subst h
    obtain ⟨u, e, h1⟩ := hv.one_inv
    simp at e; subst e
    rw [h1.bool_inv]
    exact QOk.same r (by simp [Op.unary] <;> rfl) VR.bool
  · cases h
theorem q_uneg {vs : List AVal} {p : Value} (hv : VRel K vs [p]) {x : AVal} (h : auneg vs = some x) (r : Rel K σ w) : QOk P K σ w x ((Op.unary .neg p).run P w) := by
  unfold auneg at h
  split at h
  · simp only [Option.some.injEq] at h; subst h
    obtain ⟨u, e, h1⟩ := hv.one_inv
    simp at e; subst e
    rw [h1.int_inv]
    exact QOk.same r (by simp [Op.unary, Op.intArith] <;> rfl) VR.int
  · cases h
theorem q_ucpl {vs : List AVal} {p : Value} (hv : VRel K vs [p]) {x : AVal} (h : aucpl vs = some x) (r : Rel K σ w) : QOk P K σ w x ((Op.unary .xor p).run P w) := by
  unfold aucpl at h
  split at h
  · simp only [Option.some.injEq] at h; subst h
    obtain ⟨u, e, h1⟩ := hv.one_inv
    simp at e; subst e
    rw [h1.int_inv]
    exact QOk.same r (by simp only [Op.unary]; exact bits_eq .xor (by simp) P _ _ _ w) VR.int
  · cases h

theorem q_istr {t : TypeId} (hk : kindA P t = 3) {vs : List AVal} {p q : Value} (hv : VRel K vs [p, q]) {x : AVal} (h : aistr vs = some x) (r : Rel K σ w) : QOk P K σ w x ((Instr.index t p q).run P w) := by
  have ht : P.underlying t = some .string := by
    unfold kindA at hk
    split at hk <;> first | assumption | (simp at hk)
  unfold aistr at h
  split at h
  · rename_i s k i
    split at h
    · rename_i h0
      simp only [Option.map_eq_some_iff] at h
      obtain ⟨y, hy, rfl⟩ := h
      obtain ⟨u1, u2, e1, h1, h2⟩ := hv.two_inv
      simp at e1; obtain ⟨rfl, rfl⟩ := e1
      rw [h1.str_inv, h2.int_inv]
      have hlt := (List.getElem?_eq_some_iff.1 hy)
      obtain ⟨hlt, hy'⟩ := hlt
      have e : (⟨s.toArray⟩ : ByteArray)[i.toNat]? = some y := by
        have hsz : (⟨s.toArray⟩ : ByteArray).size = s.length := by simp [ByteArray.size]
        rw [getElem?_pos _ _ (by rw [hsz]; exact hlt)]
        simp only [Option.some.injEq]
        rw [← hy']
        simp [ByteArray.getElem_eq_getElem_data]
      refine QOk.same r (by simp [Instr.index, asIntOf, run_underlying ht, h0, e] <;> rfl) VR.int
    · cases h
  · cases h

theorem q_sstr {t : TypeId} (ht : P.underlying t = some .string) {lo hi : Bool} {y : AVal} {l : List AVal} {u : Value} (hy : VR K y u) {vlo vhi : Option Value} (hlo : vlo.isSome = lo) (hhi : vhi.isSome = hi)
    (hv : VRel K l (vlo.toList ++ vhi.toList)) {x : AVal} (h : asstr lo hi (y :: l) = some x) (r : Rel K σ w) : QOk P K σ w x ((Instr.slice t u vlo vhi none).run P w) := by
  unfold asstr at h
  split at h
  · rename_i s l' he
    simp only [List.cons.injEq] at he
    obtain ⟨rfl, rfl⟩ := he
    simp only [Option.bind_eq_some_iff] at h
    obtain ⟨⟨p, q, c⟩, hb, h⟩ := h
    simp only at h
    split at h
    · rename_i hc
      simp only [Option.some.injEq] at h; subst h
      rw [hy.str_inv]
      have hsz : (⟨s.toArray⟩ : ByteArray).size = s.length := by simp [ByteArray.size]
      have hcc : c = s.length := by
        cases lo <;> cases hi <;> simp only [bnds] at hb <;> split at hb <;> simp only [Option.some.injEq, Prod.mk.injEq, reduceCtorEq] at hb <;> exact hb.2.2.symm
      subst hcc
      have hr := run_sliceBounds (P := P) (w := w) (isS := false) (len := s.length) (cap := s.length) (Nat.le_refl _) hb hlo hhi (vmx := none) (by simp) (by simpa using hv) (by omega)
      refine QOk.same r (by simp [Instr.slice, run_underlying ht, hsz, hr] <;> rfl) ?_
      have e : (⟨s.toArray⟩ : ByteArray).extract p.toNat q.toNat = ⟨((s.drop p.toNat).take (q - p).toNat).toArray⟩ := by
        apply ByteArray.ext
        apply Array.ext'
        simp [ByteArray.data_extract, List.extract_eq_take_drop]
        rw [show q.toNat - p.toNat = (q - p).toNat by omega]
      rw [e]
      exact VR.str
    · cases h
  · cases h

theorem q_ext {i : Nat} {vs : List AVal} {p : Value} (hv : VRel K vs [p]) {x : AVal} (h : aext i vs = some x) (r : Rel K σ w) : QOk P K σ w x ((Instr.extract p i).run P w) := by
  unfold aext at h
  split at h
  · obtain ⟨u, e, h1⟩ := hv.one_inv
    simp at e; subst e
    obtain ⟨vs', rfl, h2⟩ := h1.tup_inv
    obtain ⟨v, hv', hx⟩ := h2.get h
    exact QOk.same r (by simp [Instr.extract, hv'] <;> rfl) hx
  · cases h

theorem q_lens {t ty : TypeId} {ats : Array TypeId} (h0 : ats[0]? = some t) (hk : kindA P t = 4) {vs : List AVal} {p : Value} (hv : VRel K vs [p]) {x : AVal} (h : alens vs = some x) (r : Rel K σ w) : QOk P K σ w x ((Builtin.len_ ats ty #[p]).run P w) := by
  have ht : ∃ e, P.underlying t = some (.slice e) := by
    unfold kindA at hk
    split at hk <;> first | exact ⟨_, by assumption⟩ | (simp at hk)
  obtain ⟨e, ht⟩ := ht
  unfold alens at h
  split at h
  · simp only [Option.some.injEq] at h; subst h
    obtain ⟨u, e, h1⟩ := hv.one_inv
    simp at e; subst e
    unfold VR at h1
    cases h1 with
    | slc0 _ _ => exact QOk.same r (by simp [Builtin.len_, h0, run_underlying ht] <;> rfl) VR.int
    | slc hn _ _ _ _ _ _ _ => subst hn; exact QOk.same r (by simp [Builtin.len_, h0, run_underlying ht] <;> rfl) VR.int
  · simp only [Option.some.injEq] at h; subst h
    obtain ⟨u, e, h1⟩ := hv.one_inv
    simp at e; subst e
    unfold VR at h1
    cases h1 with
    | arr _ _ _ _ => exact QOk.same r (by simp [Builtin.len_, h0, run_underlying ht] <;> rfl) VR.int
    | arr0 _ _ => exact QOk.same r (by simp [Builtin.len_, h0, run_underlying ht] <;> rfl) VR.int
  · cases h

theorem q_lent {t ty : TypeId} {ats : Array TypeId} (h0 : ats[0]? = some t) (hk : kindA P t = 3) {vs : List AVal} {p : Value} (hv : VRel K vs [p]) {x : AVal} (h : alent vs = some x) (r : Rel K σ w) : QOk P K σ w x ((Builtin.len_ ats ty #[p]).run P w) := by
  have ht : P.underlying t = some .string := by
    unfold kindA at hk
    split at hk <;> first | assumption | (simp at hk)
  unfold alent at h
  split at h
  · simp only [Option.some.injEq] at h; subst h
    obtain ⟨u, e, h1⟩ := hv.one_inv
    simp at e; subst e
    rw [h1.str_inv]
    exact QOk.same r (by simp [Builtin.len_, h0, run_underlying ht] <;> rfl) VR.int
  · cases h

theorem q_fold (f2 : AVal → AVal → Option AVal) (g2 : Value → Value → Sem Value) (hg : ∀ a b x u v, f2 a b = some x → VR K a u → VR K b v → ∃ y, (g2 u v).run P w = .ok y w ∧ VR K x y) :
    ∀ (l : List AVal) (m : List Value) (a x : AVal) (u : Value), VRel K l m → VR K a u → l.foldlM f2 a = some x → ∃ y, (m.foldlM g2 u).run P w = .ok y w ∧ VR K x y
  | [], m, a, x, u, hv, ha, h => by
    rw [hv.nil_inv]
    simp at h; subst h
    exact ⟨u, by simp, ha⟩
  | b :: l, m, a, x, u, hv, ha, h => by
    obtain ⟨v, m', rfl, h1, h2⟩ := hv.ex
    simp only [List.foldlM_cons, Option.bind_eq_bind, Option.bind_eq_some_iff] at h
    obtain ⟨c, hc, h⟩ := h
    obtain ⟨y, hy, hyv⟩ := hg _ _ _ _ _ hc ha h1
    obtain ⟨z, hz, hzv⟩ := q_fold f2 g2 hg l m' c x y h2 hyv h
    exact ⟨z, by simp [hy, hz], hzv⟩

theorem q_min {ats : Array TypeId} {ty : TypeId} {vs : List AVal} {m : List Value} (hv : VRel K vs m) {x : AVal} (h : amin vs = some x) (r : Rel K σ w) : QOk P K σ w x ((Builtin.min_ ats ty m.toArray).run P w) := by
  unfold amin at h
  split at h
  · cases h
  · rename_i a l
    obtain ⟨u, m', rfl, h1, h2⟩ := hv.ex
    obtain ⟨y, hy, hx⟩ := q_fold (P := P) (w := w) amin2 Builtin.min2 (fun a b x u v hf ha hb => by
      unfold amin2 at hf
      split at hf
      · simp only [Option.some.injEq] at hf; subst hf
        rw [ha.int_inv, hb.int_inv]
        exact ⟨_, by simp [Builtin.min2] <;> rfl, VR.int⟩
      · cases hf) l m' a x u h2 h1 h
    exact QOk.same r (by simp [Builtin.min_, hy]) hx

theorem q_max {ats : Array TypeId} {ty : TypeId} {vs : List AVal} {m : List Value} (hv : VRel K vs m) {x : AVal} (h : amax vs = some x) (r : Rel K σ w) : QOk P K σ w x ((Builtin.max_ ats ty m.toArray).run P w) := by
  unfold amax at h
  split at h
  · cases h
  · rename_i a l
    obtain ⟨u, m', rfl, h1, h2⟩ := hv.ex
    obtain ⟨y, hy, hx⟩ := q_fold (P := P) (w := w) amax2 Builtin.max2 (fun a b x u v hf ha hb => by
      unfold amax2 at hf
      split at hf
      · simp only [Option.some.injEq] at hf; subst hf
        rw [ha.int_inv, hb.int_inv]
        exact ⟨_, by simp [Builtin.max2] <;> rfl, VR.int⟩
      · cases hf) l m' a x u h2 h1 h
    exact QOk.same r (by simp [Builtin.max_, hy]) hx

theorem flat_of_bytes : ∀ {ys : List AVal} {bs : List UInt8}, toBytes ys = some bs → flat ys = ys
  | [], _, _ => rfl
  | y :: ys, bs, h => by
    simp only [toBytes, List.mapM_cons, Option.bind_eq_bind, Option.bind_eq_some_iff, Option.pure_def, Option.some.injEq] at h
    obtain ⟨u, hu, bs', hbs, rfl⟩ := h
    obtain ⟨n, rfl, rfl⟩ := toByte_some hu
    rw [flat_cons, flat_of_bytes hbs]
    rfl

theorem run_bytes {ys : List AVal} {bs : List UInt8} (hb : toBytes ys = some bs) {a : Option Addr} {n cap : Nat} {vs : List Value} (hn : n = ys.length) (hv : VRel K (flat ys) vs)
    (hc : ys = [] ∨ ∃ a', a = some a' ∧ a'.spot = none ∧ CellsAt w a' vs) : (Conv.bytesToString (.slice a n cap)).run P w = .ok (.string ⟨bs.toArray⟩) w := by
  subst hn
  rw [flat_of_bytes hb] at hv
  rcases hc with rfl | ⟨a', rfl, hs, hc⟩
  · simp [toBytes] at hb
    subst hb
    cases a with
    | none => rfl
    | some a =>
      have e := run_bytesToString (P := P) w a 0 cap [] (by simp; exact run_loadCells_zero P w a)
      exact e
  · obtain ⟨ns, rfl, rfl⟩ := toBytes_vals hb hv
    have hl := run_loadCells_list (P := P) w a' _ hc
    have hlen : ys.length = (ns.map (Value.int .u8)).length := hv.length
    have e := run_bytesToString (P := P) w a' ys.length cap ns (by rw [hlen]; simpa using hl)
    rw [e, foldl_push]
    simp

theorem q_b2s {src dst e : TypeId} (hs : P.underlying src = some (.slice e)) (hd : P.underlying dst = some .string) (he : P.underlying e = some (.int .u8)) {vs : List AVal} {p : Value} (hv : VRel K vs [p]) {x : AVal} (h : ab2s σ vs = some x) (r : Rel K σ w) :
    QOk P K σ w x ((convert src dst p).run P w) := by
  unfold ab2s at h
  split at h
  · rename_i y
    simp only [Option.map_eq_some_iff, Option.bind_eq_some_iff] at h
    obtain ⟨bs, ⟨ys, h1, h2⟩, rfl⟩ := h
    obtain ⟨u, e1, h3⟩ := hv.one_inv
    simp at e1; subst e1
    obtain ⟨a, cap, vs', rfl, h4, h5, h6, h7⟩ := elems_cells r h3 h1
    refine QOk.same r ?_ VR.str
    rw [run_convert_bytes_string w src dst e a ys.length cap hs he hd]
    exact run_bytes h2 rfl h4 h7
  · cases h

theorem ab2sp_ab2s {vs : List AVal} {x : AVal} (h : ab2sp vs = some x) (σ : AHeap) : ab2s σ vs = some x := by
  unfold ab2sp at h
  split at h
  · rename_i s xs f
    split at h
    · rename_i hc
      simpa [ab2s, elemsOf, hc] using h
    · cases h
  · cases h

theorem aloadp_aload {ag : Bool} {sz : Nat} {vs : List AVal} {x : AVal} (h : aloadp ag sz vs = some x) (σ : AHeap) : aload σ ag sz vs = some x := by
  unfold aloadp at h
  split at h
  · simpa [aload] using h
  · cases h

theorem q_load {t : TypeId} {ag : Bool} {sz : Nat} (hg : aggA P t = some ag) (hs : sizeA P t = some sz) {vs : List AVal} {p : Value} (hv : VRel K vs [p]) {x : AVal} (h : aload σ ag sz vs = some x) (r : Rel K σ w) :
    QOk P K σ w x ((Instr.loadAt t p).run P w) := by
  obtain ⟨y, rfl⟩ : ∃ y, vs = [y] := by
    have := hv.length
    match vs, this with
    | [y], _ => exact ⟨y, rfl⟩
  rw [aload_eq] at h
  simp only [Option.bind_eq_some_iff] at h
  obtain ⟨cs, h1, h2⟩ := h
  obtain ⟨u, e, h3⟩ := hv.one_inv
  simp at e; subst e
  obtain ⟨a, vs', rfl, h4, h5, h6⟩ := ptr_cells r h3 h1
  obtain ⟨v, hr, hx⟩ := run_loadVar (P := P) hg hs h2 h4 h6 h5
  exact QOk.same r (by simp [Instr.loadAt, Instr.sureAddr, hr]) hx

theorem q_anilc {vs : List AVal} {p : Value} (hv : VRel K vs [p]) {x : AVal} (h : anilc vs = some x) :
    VR K x p ∧ ((∃ a, p = .pointer (some a)) ∨ ∃ f a b, p = .func (.func f) a b) := by
  unfold anilc at h
  split at h <;> simp only [Option.some.injEq, reduceCtorEq] at h <;> subst h <;> obtain ⟨u, e, h1⟩ := hv.one_inv <;> simp at e <;> subst e <;> refine ⟨h1, ?_⟩ <;> unfold VR at h1 <;> cases h1
  · exact .inl ⟨_, rfl⟩
  · exact .inl ⟨_, rfl⟩
  · exact .inr ⟨_, _, _, rfl⟩

/-! ### Values made of parts -/

theorem fold_put (zs : List Value) (cs : Array Value) (off : Nat) (h : off + cs.size ≤ zs.length) :
    cs.zipIdx.foldl (fun (cs : Array Value) (p : Value × Nat) => cs.setIfInBounds (off + p.2) p.1) zs.toArray = (zs.take off ++ cs.toList ++ zs.drop (off + cs.size)).toArray := by
  have key : ∀ (l : List Value) (k : Nat) (acc : List Value), off + k + l.length ≤ acc.length →
      (l.zipIdx k).foldl (fun (cs : Array Value) (p : Value × Nat) => cs.setIfInBounds (off + p.2) p.1) acc.toArray = (acc.take (off + k) ++ l ++ acc.drop (off + k + l.length)).toArray := by
    intro l
    induction l with
    | nil => intro k acc _; simp
    | cons x l ih =>
      intro k acc hk
      simp only [List.zipIdx_cons, List.foldl_cons]
      have hk' : off + k < acc.length := by simp at hk; omega
      rw [List.setIfInBounds_toArray, ih (k + 1) (acc.set (off + k) x) (by simp at hk ⊢; omega)]
      congr 1
      have e := list_seg_step acc (off + k) x l (by simp at hk; omega)
      simpa [Nat.add_assoc] using e
  have := key cs.toList 0 zs (by simp; omega)
  rw [← Array.foldl_toList, Array.toList_zipIdx]
  simpa using this

theorem fill_sound (places : Nat → Option (Nat × Nat)) : ∀ (ps : List (Nat × Nat)) (ids : List Nat) (vs : List AVal) (us : List Value) (z : List AVal) (zs : List Value) (cs : List AVal),
    ps.length = ids.length → (∀ (j : Nat) i p, ids[j]? = some i → ps[j]? = some p → places i = some p) → VRel K vs us → VRel K z zs → (∀ c ∈ z, c.one = true) → putAll z ps vs = some cs →
    ∃ ws, Instr.fill places zs.toArray (ids.zip us) = some ws.toArray ∧ VRel K cs ws ∧ ∀ c ∈ cs, c.one = true
  | [], ids, vs, us, z, zs, cs, hl, hp, hv, hz, h1, h => by
    have hids : ids = [] := List.eq_nil_of_length_eq_zero (by simpa using hl.symm)
    subst hids
    cases vs with
    | cons _ _ => simp [putAll] at h
    | nil =>
      simp [putAll] at h; subst h
      exact ⟨zs, by simp [Instr.fill], hz, h1⟩
  | (off, sz) :: ps, ids, vs, us, z, zs, cs, hl, hp, hv, hz, h1, h => by
    cases ids with
    | nil => simp at hl
    | cons i ids =>
      cases vs with
      | nil => simp [putAll] at h
      | cons v vs =>
        obtain ⟨u, us', rfl, hvu, hvs⟩ := hv.ex
        simp only [putAll] at h
        split at h
        · rename_i hc
          obtain ⟨c1, c2, c3⟩ := hc
          have hpl := hp 0 i (off, sz) (by simp) (by simp)
          have hcells := hvu.cells
          have hul : u.cells.size = sz := by rw [← Array.length_toList, ← hcells.length]; exact c1
          have hzl : zs.length = z.length := hz.length.symm
          have hfold := fold_put zs u.cells off (by rw [hul]; omega)
          rw [hul] at hfold
          have hnew : VRel K (z.take off ++ v.cells ++ z.drop (off + sz)) (zs.take off ++ u.cells.toList ++ zs.drop (off + sz)) := ((hz.take off).append hcells).append (hz.drop _)
          have hone : ∀ c ∈ z.take off ++ v.cells ++ z.drop (off + sz), c.one = true := by
            intro c hc
            simp only [List.mem_append] at hc
            rcases hc with (hc | hc) | hc
            · exact h1 c (List.mem_of_mem_take hc)
            · exact List.all_eq_true.1 c3 c hc
            · exact h1 c (List.mem_of_mem_drop hc)
          obtain ⟨ws, hf, hw, ho⟩ := fill_sound places ps ids vs us' _ _ cs (by simpa using hl) (fun j i p e1 e2 => hp (j + 1) i p (by simpa using e1) (by simpa using e2)) hvs hnew hone h
          refine ⟨ws, ?_, hw, ho⟩
          simp only [List.zip_cons_cons, Instr.fill, hpl]
          rw [if_neg (by rw [hul]; simp; omega), hfold]
          exact hf
        · cases h

end Go.Abs
