/-
  A program logic over abstract states, part L: copy, clip, calls; any operation.
-/
import Derived.Test.YtgmefkhincnajaaDoorAbsK
import Derived.Laws.CopyRow
import Derived.Laws.IdiomCopy
namespace Go.Abs
open Go Go.RowKit

set_option linter.unusedVariables false
set_option linter.unusedSimpArgs false
variable {P : Program} {K : Kr} {σ : AHeap} {w : World} {R : AVal → AHeap → Prop}

theorem bytes_vals (K : Kr) (t : List UInt8) : VRel K (flat (bytes t)) (t.map fun b => Value.int .u8 b.toNat) ∧ ∀ y ∈ bytes t, y.elem 1 := by
  induction t with
  | nil => exact ⟨.nil, by simp [bytes]⟩
  | cons b t ih =>
    refine ⟨.int ih.1, ?_⟩
    intro y hy
    rcases List.mem_cons.1 hy with rfl | hy
    · exact ⟨rfl, by simp [byte, AVal.cells, AVal.one]⟩
    · exact ih.2 y hy

theorem e_appv {t u e ty : TypeId} {d : TypeDesc} {i : TypeInfo} {za : AVal} (ht : P.underlying t = some (.slice e)) (hu : P.underlying u = some d) (hd : ∀ k, d ≠ .int k) (hi : P.info? e = some i) (hza : i.zero.bind constA = some za) (hzl : za.cells.length = i.size)
    (h0 : 0 < i.size) (hb0 : 0 < i.bytes) {vs : List AVal} {p q : Value} (hv : VRel K vs [p, q]) (h : eappv i.size i.bytes vs σ R) (r : Rel K σ w) : GoodV K R ((Builtin.append_ #[t, u] ty #[p, q]).run P w) := by
  simp only [Option.bind_eq_some_iff] at hza
  obtain ⟨z, hz, hza⟩ := hza
  unfold eappv at h
  split at h
  · rename_i s x
    obtain ⟨ys, hy, h⟩ := h
    obtain ⟨u1, u2, e1, h1, h2⟩ := hv.two_inv
    simp at e1; obtain ⟨rfl, rfl⟩ := e1
    obtain ⟨a, cap, vs', rfl, h4, h5, h6, h7⟩ := elems_cells r h2 hy
    exact e_app ht hu hd hi hz hza hzl h0 hb0 h1 h4 h5 (by simp [Builtin.lenOf]) (run_firstCells (P := P) (K := K) h5 h4 h7) (run_firstCells (P := P) (K := K) h5 h4 (by
      rcases h7 with h | ⟨a', e1, e2, e3⟩
      · exact .inl h
      · exact .inr ⟨a', e1, e2, fun j v e => e3 j v e⟩)) h r
  · exact h.elim

theorem e_apps {t u e ty : TypeId} {i : TypeInfo} {za : AVal} (ht : P.underlying t = some (.slice e)) (hu : P.underlying u = some .string) (hi : P.info? e = some i) (hza : i.zero.bind constA = some za) (hzl : za.cells.length = i.size)
    (h1s : i.size = 1) (h1b : i.bytes = 1) {vs : List AVal} {p q : Value} (hv : VRel K vs [p, q]) (h : eapps vs σ R) (r : Rel K σ w) : GoodV K R ((Builtin.append_ #[t, u] ty #[p, q]).run P w) := by
  simp only [Option.bind_eq_some_iff] at hza
  obtain ⟨z, hz, hza⟩ := hza
  unfold eapps at h
  split at h
  · rename_i s x
    obtain ⟨u1, u2, e1, h1, h2⟩ := hv.two_inv
    simp at e1; obtain ⟨rfl, rfl⟩ := e1
    rw [h2.str_inv]
    obtain ⟨hb1, hb2⟩ := bytes_vals K x
    have hsz : (⟨x.toArray⟩ : ByteArray).size = x.length := by simp [ByteArray.size]
    have hl : (bytes x).length = x.length := by simp [bytes]
    have hext : ((⟨x.toArray⟩ : ByteArray).extract 0 x.length).data = x.toArray := by
      apply Array.ext'
      simp [ByteArray.data_extract]
    have hfc : ∀ w : World, (Builtin.firstCells i.size (bytes x).length (.string ⟨x.toArray⟩)).run P w = .ok (x.map fun b => Value.int .u8 b.toNat).toArray w := by
      intro w
      simp only [Builtin.firstCells, Sem.run_pure, hl, hext]
      simp
    exact e_app ht hu (fun k => by simp) hi hz hza hzl (by omega) (by omega) h1 hb1 (by rw [h1s]; exact hb2) (by simp [Builtin.lenOf, hsz, hl]) (hfc w) (hfc w.drew) (by rw [h1s, h1b]; exact h) r
  · exact h.elim

theorem hset_same {σ : AHeap} {b : Nat} {x : ABlk} (h : hget σ b = some x) : hset σ b x = σ := by
  induction σ with
  | nil => rfl
  | cons p σ ih =>
    obtain ⟨k, y⟩ := p
    simp only [hget] at h
    simp only [hset]
    split at h
    · rename_i e
      simp only [Option.some.injEq] at h
      subst h
      rw [if_pos e]
    · rename_i e
      rw [if_neg e, ih h]

theorem flat_drop1 : ∀ {l : List AVal} (n : Nat), (∀ x ∈ l, x.elem 1) → flat (l.drop n) = (flat l).drop n
  | [], n, _ => by simp
  | x :: l, 0, _ => by simp
  | x :: l, n + 1, h => by
    have hx := (h x (by simp)).1
    rw [List.drop_succ_cons, flat_drop1 n (fun y hy => h y (by simp [hy])), flat_cons, List.drop_append, hx, @List.drop_eq_nil_of_le _ x.cells _ (by omega)]
    rfl

theorem e_cpy {t u e ty : TypeId} (ht : P.underlying t = some (.slice e)) (hs : (P.info? e).map (·.size) = some 1) {vs : List AVal} {p q : Value} (hv : VRel K vs [p, q]) (h : ecpy 1 vs σ R) (r : Rel K σ w) : GoodV K R ((Builtin.copy_ #[t, u] ty #[p, q]).run P w) := by
  unfold ecpy at h
  split at h
  · rename_i s b off n x
    obtain ⟨xs, ys, hg, hy, hle, hR⟩ := h
    obtain ⟨u1, u2, e1, h1, h2⟩ := hv.two_inv
    simp at e1; obtain ⟨rfl, rfl⟩ := e1
    obtain ⟨a, cap, vs', rfl, h4, h5, h6, h7⟩ := elems_cells r h2 hy
    have hvl : vs'.length = ys.length := by rw [← h4.length, flat_length h5, Nat.mul_one]
    by_cases h0 : Nat.min ys.length n = 0
    · unfold VR at h1
      have hp : ∃ d c, p = .slice d n c := by cases h1 <;> exact ⟨_, _, rfl⟩
      obtain ⟨d, c, rfl⟩ := hp
      refine GoodV.same (x := .int .i64 (0 : Nat)) (run_copy_none w t u ty e d a n c ys.length cap ht hs h0) r VR.int ?_
      rw [h0] at hR
      have e3 : xs.take off ++ ys.take 0 ++ xs.drop (off + 0) = xs := by simp
      rw [e3, hset_same hg] at hR
      exact hR
    · unfold VR at h1
      generalize hm : Nat.min ys.length n = m at *
      have hmn : m ≤ n := by rw [← hm]; exact Nat.min_le_right _ _
      have hmy : m ≤ ys.length := by rw [← hm]; exact Nat.min_le_left _ _
      cases h1 with
      | @arr _ _ _ cb s' pcap c _ _ hl ho hn _ =>
        obtain ⟨rfl, he, hx, hmx, hbase, cs, ty', hw, hsz, hvv, hc⟩ := r.ownCells hg hl
        rcases h7 with rfl | ⟨a', rfl, ha, hcell⟩
        · simp at hmy; omega
        have hcl : (vs'.take m).length = m := by rw [List.length_take, hvl]; omega
        have hones : ∀ v ∈ vs'.take m, v.oneCell' = true := fun v hv => h4.ones (fun c hc => by
          obtain ⟨y, hy1, hy2⟩ := List.mem_flatMap.1 hc
          exact (h5 y hy1).2 c hy2) v (List.mem_of_mem_take hv)
        have hrun := run_copy_row (P := P) w t u ty e cb (off * 1) n c a' ys.length cap cs ty' (vs'.take m) ht hs hw (by rw [hcl]; exact hm.symm) (fun j v ej => by
          rw [List.getElem?_take] at ej
          split at ej
          · exact hcell j v ej
          · cases ej) (by rw [hcl, hsz]; omega) hones
        rw [hrun, hcl]
        refine ⟨K, _, _, Kr.le.refl K, ?_, VR.int, hR⟩
        have hxl : (xs.take off ++ ys.take m ++ xs.drop (off + m)).length = xs.length := by
          simp only [List.length_append, List.length_take, List.length_drop]; omega
        refine r.write (hget_mem hg) hl (fun y hy => ?_) _ ?_ (by rw [hxl]; exact hx) ?_
        · simp only [List.mem_append] at hy
          rcases hy with (hy | hy) | hy
          · exact he y (List.mem_of_mem_take hy)
          · exact h5 y (List.mem_of_mem_take hy)
          · exact he y (List.mem_of_mem_drop hy)
        · simp only [List.size_toArray, List.length_append, List.length_take, List.length_drop, Array.length_toList, hvl, hsz]; omega
        · rw [hxl]
          have hfl : (flat xs).length = xs.length := by rw [flat_length he, Nat.mul_one]
          have f1 : flat (xs.take off ++ ys.take m ++ xs.drop (off + m)) = (flat xs).take off ++ (flat ys).take m ++ (flat xs).drop (off + m) := by
            rw [flat_append, flat_append, flat_take he, flat_take h5, Nat.mul_one, Nat.mul_one]
            rw [flat_drop1 (off + m) he]
          rw [f1, Nat.mul_one, Nat.mul_one]
          rw [Nat.mul_one] at hvv hsz
          have hcs : cs.toList.length = pcap := by rw [Array.length_toList]; exact hsz
          have e3 : (cs.toList.take off ++ vs'.take m ++ cs.toList.drop (off + m)).take xs.length =
              (cs.toList.take xs.length).take off ++ vs'.take m ++ (cs.toList.take xs.length).drop (off + m) := by
            rw [List.take_take, Nat.min_eq_left (by omega), List.take_append, List.take_of_length_le (by rw [List.length_append, List.length_take, hcl]; omega)]
            congr 1
            rw [List.drop_take]
            congr 1
            rw [List.length_append, List.length_take, hcl]
            omega
          rw [e3]
          exact ((hvv.take _).append (h4.take _)).append (hvv.drop _)
      | arr0 hl _ => omega
  · exact h.elim

theorem e_clip {t e : TypeId} {sz : Nat} (ht : P.underlying t = some (.slice e)) (hs : sizeA P e = some sz) {vs : List AVal} {p q q' : Value} (hv : VRel K vs [p, q, q']) (h : eclip sz vs σ R) (r : Rel K σ w) : GoodV K R ((Instr.sliceAt t p none (some q) (some q')).run P w) := by
  have hat : (Instr.sliceAt t p none (some q) (some q')).run P w = (Instr.slice t p none (some q) (some q')).run P w := by
    unfold Instr.sliceAt
    simp only [Sem.run_bind, run_underlying ht, Result.andThen_ok]
  rw [hat]
  unfold eclip at h
  split at h
  · rename_i s b off n k hh k' m
    obtain ⟨xs, hg, hon, h0, rfl, hmn, hR⟩ := h
    obtain ⟨u1, u2, u3, e1, h1, h2, h3⟩ := hv.three_inv
    simp at e1; obtain ⟨rfl, rfl, rfl⟩ := e1
    have hmem := hget_mem hg
    have hsub : asub s false true true [.arr s b off n, .int k hh, .int k' hh] = some (.arr s b off hh.toNat) := by
      simp [asub, bnds]
      omega
    unfold VR at h1
    cases h1 with
    | @arr _ _ _ cb _ pcap cap _ _ hloc ho hn _ =>
      obtain ⟨hss, hxe, hx, hm, hbase, cs, ty', hw, hsz, hxv, hc⟩ := r.ownCells hg hloc
      subst hss
      have hr := run_sliceBounds (P := P) (K := K) (w := w) (isS := true) (len := n) (cap := cap) (lo := false) (hi := true) (mx := true) (l := [.int k hh, .int k' hh]) (vlo := none) (vhi := some q) (vmx := some q') (a := 0) (b := hh) (c := hh) hn (by simp [bnds]) rfl rfl rfl (by
        simpa using VRel.cons h2 (VRel.cons h3 .nil)) (by omega)
      have hrun : (Instr.slice t (.slice (some ⟨cb, off * s, none⟩) n cap) none (some q) (some q')).run P w = .ok (.slice (some ⟨cb, off * s, none⟩) hh.toNat hh.toNat) w := by
        simp only [Instr.slice, Sem.run_bind, run_underlying ht, Result.andThen_ok, hr, run_sizeOf' hs, if_true, Sem.run_pure]
        congr 2
        split
        · rfl
        · simp [addr_add]
      rw [hrun]
      obtain ⟨vs', hvs, hK, hR'⟩ := r.freeze hmem hloc
      refine ⟨_, _, _, hK, hR', ?_, hR⟩
      have he' : ∀ x ∈ (xs.drop off).take hh.toNat, x.elem s := fun y hy => hxe y (List.mem_of_mem_drop (List.mem_of_mem_take hy))
      refine VR.slc_of_arr (by simp; omega) he' (vs := (vs'.drop (off * s)).take (hh.toNat * s)) ?_ (off * s) (fun j v e => ?_) (Nat.le_refl _) (fun _ => rfl)
      · rw [flat_take (fun y hy => hxe y (List.mem_of_mem_drop hy)), flat_drop hxe]
        exact ((hvs.mono hK).drop _).take _
      · rw [List.getElem?_take] at e
        split at e
        · rw [List.getElem?_drop] at e
          simpa [Kr.addImm] using e
        · cases e
    | @arr0 _ _ pcap a _ _ hloc _ =>
      have hh0 : hh = 0 := by omega
      subst hh0
      have hr := run_sliceBounds (P := P) (K := K) (w := w) (isS := true) (len := 0) (cap := 0) (lo := false) (hi := true) (mx := true) (l := [.int k 0, .int k' 0]) (vlo := none) (vhi := some q) (vmx := some q') (a := 0) (b := 0) (c := 0) (by omega) (by simp [bnds]) rfl rfl rfl (by
        simpa using VRel.cons h2 (VRel.cons h3 .nil)) (by omega)
      have hrun : (Instr.slice t (.slice a 0 0) none (some q) (some q')).run P w = .ok (.slice a 0 0) w := by
        simp only [Instr.slice, Sem.run_bind, run_underlying ht, Result.andThen_ok, hr, run_sizeOf' hs, if_true, Sem.run_pure]
        simp
      rw [hrun]
      refine ⟨K, _, _, Kr.le.refl K, r.sub ((keys_hdel_sub σ b).nodup r.nd) (fun p hp => (mem_hdel r.nd hp).2), ?_, hR⟩
      simp only [Int.toNat_zero, List.take_zero]
      exact VRel.slc0 (fun _ => rfl) .nil
  · obtain ⟨v, hsub, hR⟩ := h
    have hh := run_sub_q (P := P) (w := w) ht hs (lo := false) (hi := true) (mx := true) (vlo := none) (vhi := some q) (vmx := some q') (u := p) rfl rfl rfl (by simpa using hv) hsub r
    obtain ⟨u, w', K', e1, h1, h2, h3⟩ := hh
    rw [e1]
    exact ⟨K', v, σ, h1, h2, h3, hR⟩

theorem run_callFunc {f : FuncId} (h : goodFn P f = true) (args : Array Value) : (callFunc f args).run P w = .ok (.enter f args) w := by
  unfold goodFn at h
  split at h
  · rename_i fn hf
    simp only [Bool.and_eq_true, Bool.not_eq_true'] at h
    obtain ⟨h1, h2⟩ := h
    have hb : fn.body.isNone = false := by
      cases hfb : fn.body <;> simp [hfb] at h1 ⊢
    unfold callFunc
    simp only [Sem.run_bind, run_program, Result.andThen_ok, hf, h2, Bool.false_eq_true, if_false, hb, Sem.run_pure]
  · cases h

theorem e_call {f : FuncId} (hg : goodFn P f = true) {vs : List AVal} {args : Array Value} (hv : VRel K vs args.toList) (h : ACalls P f vs σ R) (r : Rel K σ w) : Good P K R ((callFunc f args).run P w) := by
  rw [run_callFunc hg]
  have := h K w args.toList r hv
  simpa [Good] using this

theorem quiet_good {res : Result Next} {x : AVal} (h : QNext P K σ w x res) (hR : R x σ) : Good P K R res := by
  obtain ⟨v, w', K', e, h1, h2, h3⟩ := h
  rw [e]
  exact ⟨K', x, σ, h1, h2, h3, hR⟩

theorem op_sound {fl : Bool} {o : Oper} {k : AK} {xs : List Operand} (hk : kOf P fl o = some (k, xs)) {ρ : Operand → Value} (hρc : ∀ v, ρ (.const v) = v) (hρf : ∀ f, ρ (.func f) = .func (.func f) #[] #[]) {vs : List AVal} (hv : VRel K vs (xs.map ρ)) (r : Rel K σ w) (h : astep P k vs σ R) : Good P K R ((execOp ρ o).run P w) := by
  by_cases hq : k.quiet = true
  · have hx : ∃ x, aquiet k σ vs = some x ∧ R x σ := by
      cases k <;> first | exact h | (simp [AK.quiet] at hq)
    obtain ⟨x, hx, hR⟩ := hx
    exact quiet_good (quiet_sound hk hq hv r hx) hR
  obtain ⟨dst, op, type, pos, after, guard⟩ := o
  cases op <;> simp only [kOf, reduceCtorEq, Option.some.injEq, Prod.mk.injEq] at hk
  case move y => obtain ⟨rfl, rfl⟩ := hk; exact absurd rfl hq
  case assign y => obtain ⟨rfl, rfl⟩ := hk; exact absurd rfl hq
  case pick c a b => obtain ⟨rfl, rfl⟩ := hk; exact absurd rfl hq
  case alloc e =>
    simp only [Option.bind_eq_bind, Option.bind_eq_some_iff, Option.pure_def, Option.some.injEq, Prod.mk.injEq] at hk
    obtain ⟨z, hz, rfl, rfl⟩ := hk
    obtain ⟨_, hone, h⟩ := h
    exact Good.value (e_alloc hz hone h r)
  case box e y =>
    simp only [Option.bind_eq_bind, Option.bind_eq_some_iff, Option.pure_def, Option.some.injEq, Prod.mk.injEq] at hk
    obtain ⟨s, hs, rfl, rfl⟩ := hk
    exact Good.value (e_box hs hv h r)
  case build t parts =>
    simp only [Option.bind_eq_bind, Option.bind_eq_some_iff, Option.pure_def] at hk
    obtain ⟨z, hz, ps, hp, hk⟩ := hk
    split at hk
    · split at hk
      · simp only [Option.some.injEq, Prod.mk.injEq] at hk; obtain ⟨rfl, rfl⟩ := hk; exact absurd rfl hq
      · cases hk
    · cases hk
  case buildSlice t n parts =>
    simp only [Option.bind_eq_bind, Option.bind_eq_some_iff, Option.pure_def] at hk
    obtain ⟨e, he, s, hs, z, hz, hk⟩ := hk
    split at hk
    · rename_i hc
      simp only [Option.some.injEq, Prod.mk.injEq] at hk
      obtain ⟨rfl, rfl⟩ := hk
      cases fl
      · exact absurd rfl hq
      · obtain ⟨c1, c2, c3⟩ := hc
        have hlen : (parts.toList.map (·.2)).length = n := by
          have := congrArg List.length c1
          simpa using this
        have hzip : (parts.map fun (i, x) => (i, ρ x)) = ((List.range n).zip ((parts.toList.map (·.2)).map ρ)).toArray := by
          rw [← c1]
          apply Array.ext'
          rw [Array.toList_map]
          exact zip_parts ρ parts.toList
        have := e_bslo (P := P) (elemA_some he) hs hz hv (by simpa using hlen) c3 c2 h r
        rw [← hzip] at this
        exact Good.value this
    · cases hk
  case load t y =>
    simp only [Option.bind_eq_bind, Option.bind_eq_some_iff, Option.pure_def, Option.some.injEq, Prod.mk.injEq] at hk
    obtain ⟨g, hg, s, hs, rfl, rfl⟩ := hk
    cases fl <;> exact absurd rfl hq
  case store t y z =>
    simp only [Option.bind_eq_bind, Option.bind_eq_some_iff, Option.pure_def, Option.some.injEq, Prod.mk.injEq] at hk
    obtain ⟨s, hs, rfl, rfl⟩ := hk
    obtain ⟨w', K', σ', e, h1, h2, h3⟩ := e_store (P := P) hs hv h r
    exact Good.skip e h1 h2 h3
  case nilCheck y => obtain ⟨rfl, rfl⟩ := hk; exact absurd rfl hq
  case binOp op t y z yt =>
    split at hk
    · split at hk <;> simp only [Option.some.injEq, Prod.mk.injEq, reduceCtorEq] at hk <;> obtain ⟨rfl, rfl⟩ := hk <;> exact absurd rfl hq
    · split at hk
      · simp only [Option.some.injEq, Prod.mk.injEq] at hk; obtain ⟨rfl, rfl⟩ := hk; exact absurd rfl hq
      · split at hk
        · rename_i h4
          obtain ⟨e, he⟩ := kindA_slice h4
          split at hk <;> simp only [Option.some.injEq, Prod.mk.injEq, reduceCtorEq] at hk <;> obtain ⟨rfl, rfl⟩ := hk
          · have hv' : VRel K vs [ρ y, .slice none 0 0] := by rw [← hρc (.slice none 0 0)]; exact hv
            have hg := e_isnil (P := P) (.inl ⟨rfl, rfl⟩) he y (.const (.slice none 0 0)) hv' h r
            rw [← hρc (.slice none 0 0)] at hg
            exact Good.value hg
          · have hv' : VRel K vs [ρ y, .slice none 0 0] := by rw [← hρc (.slice none 0 0)]; exact hv
            have hg := e_isnil (P := P) (.inr ⟨rfl, rfl⟩) he y (.const (.slice none 0 0)) hv' h r
            rw [← hρc (.slice none 0 0)] at hg
            exact Good.value hg
        · cases hk
  case unOp op t y =>
    split at hk <;> simp only [Option.some.injEq, Prod.mk.injEq, reduceCtorEq] at hk <;> obtain ⟨rfl, rfl⟩ := hk <;> exact absurd rfl hq
  case convert src dst y =>
    split at hk
    · simp only [Option.some.injEq, Prod.mk.injEq] at hk; obtain ⟨rfl, rfl⟩ := hk; exact absurd rfl hq
    · simp only [Option.some.injEq, Prod.mk.injEq] at hk; obtain ⟨rfl, rfl⟩ := hk; exact absurd rfl hq
    · split at hk
      · simp only [Option.some.injEq, Prod.mk.injEq] at hk; obtain ⟨rfl, rfl⟩ := hk; cases fl <;> exact absurd rfl hq
      · cases hk
    · rename_i e e' h1 h2
      split at hk
      · rename_i h3
        split at hk
        · rename_i hc
          obtain ⟨rfl, hsz⟩ := hc
          simp only [Option.some.injEq, Prod.mk.injEq] at hk
          obtain ⟨rfl, rfl⟩ := hk
          exact Good.value (e_strish h1 h3 hv h r)
        · cases hk
      · cases hk
    · cases hk
  case makeInterface t y =>
    split at hk
    · cases hk
    · simp only [Option.some.injEq, Prod.mk.injEq] at hk; obtain ⟨rfl, rfl⟩ := hk; exact absurd rfl hq
    · cases hk
  case makeFunc fn first captured =>
    cases fn <;> simp only [kOf, reduceCtorEq, Option.some.injEq, Prod.mk.injEq] at hk
    obtain ⟨rfl, rfl⟩ := hk
    exact absurd rfl hq
  case makeSlice t l c =>
    simp only [Option.bind_eq_bind, Option.bind_eq_some_iff, Option.pure_def] at hk
    obtain ⟨e, he, i, hi, z, hz, hk⟩ := hk
    split at hk
    · rename_i hc
      simp only [Option.some.injEq, Prod.mk.injEq] at hk
      obtain ⟨rfl, rfl⟩ := hk
      have hz' : i.zero.bind constA = some z := by simpa [Option.bind_eq_some_iff] using hz
      exact Good.value (e_mks (elemA_some he) hi hz' hc.1 hc.2 hv h r)
    · cases hk
  case slice t y lo hi mx =>
    split at hk
    · rename_i e he
      simp only [Option.bind_eq_bind, Option.bind_eq_some_iff, Option.pure_def] at hk
      obtain ⟨s, hs, hk⟩ := hk
      split at hk
      · simp only [Option.some.injEq, Prod.mk.injEq] at hk
        obtain ⟨rfl, rfl⟩ := hk
        exact Good.value (e_clip he hs hv h r)
      · simp only [Option.some.injEq, Prod.mk.injEq] at hk; obtain ⟨rfl, rfl⟩ := hk; exact absurd rfl hq
    · split at hk
      · simp only [Option.some.injEq, Prod.mk.injEq] at hk; obtain ⟨rfl, rfl⟩ := hk; exact absurd rfl hq
      · cases hk
    · cases hk
  case fieldAddr t y i =>
    simp only [Option.bind_eq_bind, Option.bind_eq_some_iff, Option.pure_def] at hk
    obtain ⟨f, hf, s, hs, hk⟩ := hk
    split at hk
    · cases hk
    · simp only [Option.some.injEq, Prod.mk.injEq] at hk; obtain ⟨rfl, rfl⟩ := hk; exact absurd rfl hq
  case field t y i =>
    simp only [Option.bind_eq_bind, Option.bind_eq_some_iff, Option.pure_def, Option.some.injEq, Prod.mk.injEq] at hk
    obtain ⟨f, hf, g, hg, s, hs, rfl, rfl⟩ := hk
    exact absurd rfl hq
  case indexAddr t y i =>
    simp only [Option.bind_eq_bind, Option.bind_eq_some_iff, Option.pure_def, Option.some.injEq, Prod.mk.injEq] at hk
    obtain ⟨e, he, s, hs, rfl, rfl⟩ := hk
    exact absurd rfl hq
  case index t y i =>
    split at hk
    · simp only [Option.some.injEq, Prod.mk.injEq] at hk; obtain ⟨rfl, rfl⟩ := hk; exact absurd rfl hq
    · cases hk
  case panic y => obtain ⟨rfl, rfl⟩ := hk; exact absurd rfl hq
  case extract t i => obtain ⟨rfl, rfl⟩ := hk; exact absurd rfl hq
  case call c =>
    obtain ⟨callee, args, ats⟩ := c
    cases callee with
    | value f =>
      cases f <;> simp only [kOf, reduceCtorEq, Option.some.injEq, Prod.mk.injEq] at hk
      · rename_i t
        obtain ⟨rfl, rfl⟩ := hk
        cases vs with
        | nil => cases hv
        | cons a l =>
          obtain ⟨h1, h2⟩ := hv.inv
          simp only [astep, ecallv] at h
          split at h
          · rename_i f first caps l' e
            simp only [List.cons.injEq] at e
            obtain ⟨rfl, rfl⟩ := e
            obtain ⟨hg, _, h⟩ := h
            obtain ⟨v1, v2, e1, h3, h4⟩ := h1.fn_inv
            have hargs : VRel K (first ++ l ++ caps) ((v1.toArray ++ args.map ρ) ++ v2.toArray).toList := by
              have := (h3.append h2).append h4
              simpa using this
            have := e_call hg hargs h r
            simp only [execOp, resolve, e1, Deferred.ofValue, Sem.run_bind, Sem.run_pure, Result.andThen_ok, invoke]
            exact this
          · exact h.elim
      · rename_i f
        split at hk
        · rename_i hg
          simp only [Option.some.injEq, Prod.mk.injEq] at hk
          obtain ⟨rfl, rfl⟩ := hk
          have hargs : VRel K vs ((#[] ++ args.map ρ) ++ #[] : Array Value).toList := by simpa using hv
          have := e_call hg hargs h.2 r
          simp only [execOp, resolve, hρf, Deferred.ofValue, Sem.run_bind, Sem.run_pure, Result.andThen_ok, invoke]
          exact this
        · cases hk
    | invoke a b => simp only [kOf, reduceCtorEq] at hk
    | builtin b =>
      cases b <;> simp only [kOf, reduceCtorEq, Option.some.injEq, Prod.mk.injEq] at hk
      case append =>
        simp only [Option.bind_eq_bind, Option.bind_eq_some_iff, Option.pure_def] at hk
        obtain ⟨t, ht, u, hu, e, he, i, hi, z, hz, hk⟩ := hk
        split at hk
        · cases hk
        · rename_i hc
          simp only [not_or, ne_eq, Decidable.not_not] at hc
          obtain ⟨c1, c2, c3, c4⟩ := hc
          obtain ⟨y1, y2, hy⟩ := list_of_len2 (l := args.toList) (by simpa using c1)
          have hargs : args.map ρ = #[ρ y1, ρ y2] := by apply Array.ext'; simp [hy]
          have hats : ∀ s x : Value, Builtin.append_ ats type #[s, x] = Builtin.append_ #[t, u] type #[s, x] := by
            intro s x
            simp only [Builtin.append_, ht, hu]
            rfl
          have hz' : i.zero.bind constA = some z := by simpa [Option.bind_eq_some_iff] using hz
          have hgood : ∀ res : GoodV K R ((Builtin.append_ #[t, u] type #[ρ y1, ρ y2]).run P w), Good P K R ((execOp ρ ⟨dst, .call ⟨.builtin .append, args, ats⟩, type, pos, after, guard⟩).run P w) := by
            intro res
            rw [← hats, ← hargs] at res
            exact Good.value res
          split at hk
          · rename_i h4
            simp only [Option.some.injEq, Prod.mk.injEq] at hk
            obtain ⟨rfl, rfl⟩ := hk
            obtain ⟨e', he'⟩ := kindA_slice h4
            rw [hy] at hv
            exact hgood (e_appv (elemA_some he) he' (fun k => by simp) hi hz' c2 (by omega) (by omega) hv h r)
          · split at hk
            · rename_i h4
              simp only [Option.some.injEq, Prod.mk.injEq] at hk
              obtain ⟨rfl, rfl⟩ := hk
              have hus : P.underlying u = some .string := by
                have := h4.1
                unfold kindA at this
                split at this <;> first | assumption | (simp at this)
              rw [hy] at hv
              exact hgood (e_apps (elemA_some he) hus hi hz' c2 h4.2.1 h4.2.2 hv h r)
            · cases hk
      case copy =>
        simp only [Option.bind_eq_bind, Option.bind_eq_some_iff, Option.pure_def] at hk
        obtain ⟨t, ht, u, hu, e, he, i, hi, hk⟩ := hk
        split at hk
        · cases hk
        · rename_i hc
          simp only [not_or, ne_eq, Decidable.not_not] at hc
          obtain ⟨c1, c2⟩ := hc
          simp only [Option.some.injEq, Prod.mk.injEq] at hk
          obtain ⟨rfl, rfl⟩ := hk
          obtain ⟨y1, y2, hy⟩ := list_of_len2 (l := args.toList) (by simpa using c1)
          have hargs : args.map ρ = #[ρ y1, ρ y2] := by apply Array.ext'; simp [hy]
          have hats : ∀ s x : Value, Builtin.copy_ ats type #[s, x] = Builtin.copy_ #[t, u] type #[s, x] := by
            intro s x
            simp only [Builtin.copy_, ht, hu]
            rfl
          rw [hy] at hv
          have res := e_cpy (ty := type) (u := u) (elemA_some he) (by rw [hi, Option.map_some, c2]) hv h r
          rw [← hats, ← hargs] at res
          exact Good.value res
      case len =>
        simp only [Option.bind_eq_bind, Option.bind_eq_some_iff, Option.pure_def] at hk
        obtain ⟨t, ht, hk⟩ := hk
        split at hk
        · cases hk
        · split at hk
          · simp only [Option.some.injEq, Prod.mk.injEq] at hk; obtain ⟨rfl, rfl⟩ := hk; exact absurd rfl hq
          · split at hk
            · simp only [Option.some.injEq, Prod.mk.injEq] at hk; obtain ⟨rfl, rfl⟩ := hk; exact absurd rfl hq
            · cases hk
      case min => obtain ⟨rfl, rfl⟩ := hk; exact absurd rfl hq
      case max => obtain ⟨rfl, rfl⟩ := hk; exact absurd rfl hq

end Go.Abs
