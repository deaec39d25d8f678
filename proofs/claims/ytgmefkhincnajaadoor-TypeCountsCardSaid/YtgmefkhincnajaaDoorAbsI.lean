/-
  A program logic over abstract states, part I: an operation that keeps the state, whichever it is.
-/
import Derived.Test.YtgmefkhincnajaaDoorAbsH
namespace Go.Abs
open Go Go.RowKit

set_option linter.unusedVariables false
set_option linter.unusedSimpArgs false
variable {P : Program} {K : Kr} {σ : AHeap} {w : World}

theorem kindA_slice {t : TypeId} (h : kindA P t = 4) : ∃ e, P.underlying t = some (.slice e) := by
  unfold kindA at h
  split at h <;> first | exact ⟨_, by assumption⟩ | (simp at h)

theorem q_bsl {t e : TypeId} {sz n : Nat} {z : AVal} (ht : P.underlying t = some (.slice e)) (hs : sizeA P e = some sz) (hz : zeroA P e = some z) {vs : List AVal} {us : List Value} (hv : VRel K vs us) (hn : us.length = n)
    (hsz : n * sz ≤ 2 ^ 24) {x : AVal} (h : absl sz vs = some x) (r : Rel K σ w) : QOk P K σ w x ((Instr.buildSlice t n ((List.range n).zip us).toArray).run P w) := by
  unfold absl at h
  split at h
  · rename_i hc
    simp only [Option.some.injEq] at h; subst h
    have he : ∀ v ∈ vs, v.elem sz := fun v hv => AVal.fit_iff.1 (List.all_eq_true.1 hc v hv)
    obtain ⟨hf, hsize⟩ := flat_vals hv he
    obtain ⟨hK, hR⟩ := r.newImm (us.flatMap fun u => u.cells.toList).toArray e (0, 0)
    refine ⟨_, _, _, run_buildSlice ht hs hz hn hsize hsz, hK, hR, ?_⟩
    have hl : vs.length = n := by rw [hv.length, hn]
    by_cases hnil : vs = []
    · subst hnil
      simp at hl; subst hl
      exact VRel.slc0 (fun _ => rfl) .nil
    · refine VRel.slc hl he rfl (vs := us.flatMap fun u => u.cells.toList) (fun j v e => ?_) (by have := hf.mono hK; simpa [flat] using this) (Nat.le_refl _) (fun _ => rfl) .nil
      simpa [Kr.addImm] using e
  · cases h

theorem q_mki {t : TypeId} {d : TypeDesc} (ht : P.underlying t = some d) (hd : ∀ ms, d ≠ .interface ms) {vs : List AVal} {p : Value} (hv : VRel K vs [p]) {x : AVal} (h : amki t vs = some x) (r : Rel K σ w) :
    QOk P K σ w x ((Instr.makeInterface t p).run P w) := by
  unfold amki at h
  split at h
  · simp only [Option.some.injEq] at h; subst h
    obtain ⟨u, e, h1⟩ := hv.one_inv
    simp at e; subst e
    refine QOk.same r ?_ (VRel.iface h1 .nil)
    unfold Instr.makeInterface
    simp only [Sem.run_bind, run_underlying ht, Result.andThen_ok]
    cases d <;> first | rfl | exact absurd rfl (hd _)
  · cases h

theorem zip_parts {α β γ : Type} (f : β → γ) : ∀ l : List (α × β), (l.map fun (p : α × β) => (p.1, f p.2)) = (l.map (·.1)).zip ((l.map (·.2)).map f)
  | [] => rfl
  | p :: l => by simp only [List.map_cons, List.zip_cons_cons, zip_parts f l]

theorem list_of_len1 {α : Type} {l : List α} (h : l.length = 1) : ∃ a, l = [a] := by
  match l, h with
  | [a], _ => exact ⟨a, rfl⟩
theorem list_of_len2 {α : Type} {l : List α} (h : l.length = 2) : ∃ a b, l = [a, b] := by
  match l, h with
  | [a, b], _ => exact ⟨a, b, rfl⟩

theorem quiet_sound {fl : Bool} {o : Oper} {k : AK} {xs : List Operand} (hk : kOf P fl o = some (k, xs)) (hq : k.quiet = true) {ρ : Operand → Value} {vs : List AVal} (hv : VRel K vs (xs.map ρ)) (r : Rel K σ w) {x : AVal}
    (h : aquiet k σ vs = some x) : QNext P K σ w x ((execOp ρ o).run P w) := by
  obtain ⟨dst, op, type, pos, after, guard⟩ := o
  cases op <;> simp only [kOf, reduceCtorEq, Option.some.injEq, Prod.mk.injEq] at hk
  case move y =>
    obtain ⟨rfl, rfl⟩ := hk
    obtain ⟨v, e, h1⟩ := q_mov hv h
    simp at e; subst e
    exact ⟨ρ y, w, K, rfl, Kr.le.refl K, r, h1⟩
  case assign y =>
    obtain ⟨rfl, rfl⟩ := hk
    obtain ⟨v, e, h1⟩ := q_mov hv h
    simp at e; subst e
    exact ⟨ρ y, w, K, rfl, Kr.le.refl K, r, h1⟩
  case pick c a b =>
    obtain ⟨rfl, rfl⟩ := hk
    have := q_pick (P := P) hv h r
    obtain ⟨v, w', K', e, h1, h2, h3⟩ := this
    refine ⟨v, w', K', ?_, h1, h2, h3⟩
    simp only [Sem.run_bind, Sem.run_pure] at e
    simp only [execOp, Sem.run_bind, Sem.run_pure]
    cases hh : (asBool (ρ c)).run P w with
    | ok t w1 => rw [hh] at e; simp only [Result.andThen_ok, Result.ok.injEq] at e ⊢; obtain ⟨rfl, rfl⟩ := e; exact ⟨rfl, rfl⟩
    | halt y w1 => rw [hh] at e; simp at e
  case alloc e =>
    simp only [Option.bind_eq_bind, Option.bind_eq_some_iff, Option.pure_def, Option.some.injEq, Prod.mk.injEq] at hk
    obtain ⟨z, _, rfl, _⟩ := hk
    cases hq
  case box e y =>
    simp only [Option.bind_eq_bind, Option.bind_eq_some_iff, Option.pure_def, Option.some.injEq, Prod.mk.injEq] at hk
    obtain ⟨z, _, rfl, _⟩ := hk
    cases hq
  case build t parts =>
    simp only [Option.bind_eq_bind, Option.bind_eq_some_iff, Option.pure_def] at hk
    obtain ⟨z, hz, ps, hp, hk⟩ := hk
    split at hk
    · rename_i cs fs hu
      split at hk
      · rename_i hall
        simp only [Option.some.injEq, Prod.mk.injEq] at hk
        obtain ⟨rfl, rfl⟩ := hk
        have hzip : (parts.map fun (i, x) => (i, ρ x)) = ((parts.toList.map (·.1)).zip ((parts.toList.map (·.2)).map ρ)).toArray := by
          apply Array.ext'
          rw [Array.toList_map]
          exact zip_parts ρ parts.toList
        have := q_bld (P := P) hz hp (by rw [hu]; intro f hf; have := List.all_eq_true.1 hall f hf; simpa [Option.isSome_iff_exists] using this) ⟨fs, hu⟩ hv (by simp) h r
        rw [← hzip] at this
        exact this.next
      · cases hk
    · cases hk
  case buildSlice t n parts =>
    simp only [Option.bind_eq_bind, Option.bind_eq_some_iff, Option.pure_def] at hk
    obtain ⟨e, he, s, hs, z, hz, hk⟩ := hk
    split at hk
    · rename_i hc
      simp only [Option.some.injEq, Prod.mk.injEq] at hk
      obtain ⟨rfl, rfl⟩ := hk
      cases fl
      · obtain ⟨c1, c2, c3⟩ := hc
        have hlen : (parts.toList.map (·.2)).length = n := by
          have := congrArg List.length c1
          simpa using this
        have hzip : (parts.map fun (i, x) => (i, ρ x)) = ((List.range n).zip ((parts.toList.map (·.2)).map ρ)).toArray := by
          rw [← c1]
          apply Array.ext'
          rw [Array.toList_map]
          exact zip_parts ρ parts.toList
        have := q_bsl (P := P) (elemA_some he) hs hz hv (by simpa using hlen) c3 h r
        rw [← hzip] at this
        exact this.next
      · cases hq
    · cases hk
  case load t y =>
    simp only [Option.bind_eq_bind, Option.bind_eq_some_iff, Option.pure_def, Option.some.injEq, Prod.mk.injEq] at hk
    obtain ⟨g, hg, s, hs, rfl, rfl⟩ := hk
    cases fl
    · exact (q_load hg hs hv h r).next
    · exact (q_load hg hs hv (aloadp_aload h σ) r).next
  case store t y z =>
    simp only [Option.bind_eq_bind, Option.bind_eq_some_iff, Option.pure_def, Option.some.injEq, Prod.mk.injEq] at hk
    obtain ⟨s, hs, rfl, _⟩ := hk
    cases hq
  case nilCheck y =>
    obtain ⟨rfl, rfl⟩ := hk
    obtain ⟨h1, h2⟩ := q_anilc hv h
    refine ⟨ρ y, w, K, ?_, Kr.le.refl K, r, h1⟩
    rcases h2 with ⟨a, e⟩ | ⟨f, a, b, e⟩ <;> simp only [execOp, e, Sem.run_pure]
  case binOp op t y z yt =>
    split at hk
    · rename_i h1
      have : k = .binb op ∧ xs = [y, z] := by
        split at hk <;> simp only [Option.some.injEq, Prod.mk.injEq, reduceCtorEq] at hk
        · exact ⟨hk.1.symm, hk.2.symm⟩
        · exact ⟨hk.1.symm, hk.2.symm⟩
      obtain ⟨rfl, rfl⟩ := this
      exact (q_binb (P := P) h1 y z hv h r).next
    · split at hk
      · rename_i h0 h1
        simp only [Option.some.injEq, Prod.mk.injEq] at hk
        obtain ⟨rfl, rfl⟩ := hk
        exact (q_bin (P := P) y z hv h r).next
      · split at hk
        · split at hk <;> simp only [Option.some.injEq, Prod.mk.injEq, reduceCtorEq] at hk <;> obtain ⟨rfl, rfl⟩ := hk <;> cases hq
        · cases hk
  case unOp op t y =>
    split at hk <;> simp only [Option.some.injEq, Prod.mk.injEq, reduceCtorEq] at hk <;> obtain ⟨rfl, rfl⟩ := hk
    · exact (q_unot hv h r).next
    · exact (q_uneg hv h r).next
    · exact (q_ucpl hv h r).next
  case convert src dst y =>
    split at hk
    · rename_i k1 k2 h1 h2
      simp only [Option.some.injEq, Prod.mk.injEq] at hk
      obtain ⟨rfl, rfl⟩ := hk
      exact (q_conv h2 h1 hv h r).next
    · rename_i h1 h2
      simp only [Option.some.injEq, Prod.mk.injEq] at hk
      obtain ⟨rfl, rfl⟩ := hk
      exact (q_cstr h1 h2 hv h r).next
    · rename_i e h1 h2
      split at hk
      · rename_i h3
        simp only [Option.some.injEq, Prod.mk.injEq] at hk
        obtain ⟨rfl, rfl⟩ := hk
        cases fl
        · exact (q_b2s h1 h2 h3 hv h r).next
        · exact (q_b2s h1 h2 h3 hv (ab2sp_ab2s h σ) r).next
      · cases hk
    · split at hk
      · split at hk
        · simp only [Option.some.injEq, Prod.mk.injEq] at hk
          obtain ⟨rfl, rfl⟩ := hk
          cases hq
        · cases hk
      · cases hk
    · cases hk
  case makeInterface t y =>
    split at hk
    · cases hk
    · rename_i d hn hd
      simp only [Option.some.injEq, Prod.mk.injEq] at hk
      obtain ⟨rfl, rfl⟩ := hk
      exact (q_mki hd (fun ms e => by subst e; exact hn _ rfl) hv h r).next
    · cases hk
  case makeFunc fn first captured =>
    cases fn <;> simp only [kOf, reduceCtorEq, Option.some.injEq, Prod.mk.injEq] at hk
    obtain ⟨rfl, rfl⟩ := hk
    simp only [aquiet, amkf, Option.some.injEq] at h
    subst h
    rename_i f
    refine ⟨_, w, K, rfl, Kr.le.refl K, r, ?_⟩
    rw [List.map_append] at hv
    have h1 := hv.take first.size
    have h2 := hv.drop first.size
    have e1 : ((first.toList.map ρ ++ captured.toList.map ρ).take first.size) = first.toList.map ρ := by
      rw [List.take_append_of_le_length (by simp)]; exact List.take_of_length_le (by simp)
    have e2 : ((first.toList.map ρ ++ captured.toList.map ρ).drop first.size) = captured.toList.map ρ := by
      rw [List.drop_append_of_le_length (by simp), List.drop_of_length_le (by simp)]; rfl
    rw [e1] at h1
    rw [e2] at h2
    have := VRel.fn (f := f) h1 h2 .nil
    have e3 : (first.toList.map ρ).toArray = first.map ρ := by apply Array.ext'; simp
    have e4 : (captured.toList.map ρ).toArray = captured.map ρ := by apply Array.ext'; simp
    rw [e3, e4] at this
    exact this
  case makeSlice t l c =>
    simp only [Option.bind_eq_bind, Option.bind_eq_some_iff, Option.pure_def] at hk
    obtain ⟨e, _, i, _, z, _, hk⟩ := hk
    split at hk
    · simp only [Option.some.injEq, Prod.mk.injEq] at hk; obtain ⟨rfl, _⟩ := hk; cases hq
    · cases hk
  case slice t y lo hi mx =>
    split at hk
    · rename_i e he
      simp only [Option.bind_eq_bind, Option.bind_eq_some_iff, Option.pure_def] at hk
      obtain ⟨s, hs, hk⟩ := hk
      split at hk
      · simp only [Option.some.injEq, Prod.mk.injEq] at hk; obtain ⟨rfl, _⟩ := hk; cases hq
      · simp only [Option.some.injEq, Prod.mk.injEq] at hk
        obtain ⟨rfl, rfl⟩ := hk
        have hrun : QOk P K σ w x ((Instr.sliceAt t (ρ y) (lo.map ρ) (hi.map ρ) (mx.map ρ)).run P w) := by
          have hh := run_sub_q (P := P) he hs (vlo := lo.map ρ) (vhi := hi.map ρ) (vmx := mx.map ρ) (by simp) (by simp) (by simp) (u := ρ y) (by
            have e1 : (y :: (lo.toList ++ hi.toList ++ mx.toList)).map ρ = ρ y :: ((lo.map ρ).toList ++ (hi.map ρ).toList ++ (mx.map ρ).toList) := by
              cases lo <;> cases hi <;> cases mx <;> rfl
            rw [← e1]; exact hv) h r
          unfold Instr.sliceAt
          simp only [Sem.run_bind, run_underlying he, Result.andThen_ok]
          exact hh
        exact hrun.next
    · rename_i he
      split at hk
      · rename_i hm
        simp only [Option.some.injEq, Prod.mk.injEq] at hk
        obtain ⟨rfl, rfl⟩ := hk
        have hmn : mx = none := by simpa using hm
        subst hmn
        have hrun : QOk P K σ w x ((Instr.sliceAt t (ρ y) (lo.map ρ) (hi.map ρ) none).run P w) := by
          have e1 : (y :: (lo.toList ++ hi.toList)).map ρ = ρ y :: ((lo.map ρ).toList ++ (hi.map ρ).toList) := by
            cases lo <;> cases hi <;> rfl
          rw [e1] at hv
          cases vs with
          | nil => cases hv
          | cons a l =>
            obtain ⟨h1, h2⟩ := hv.inv
            have hh := q_sstr (P := P) he h1 (vlo := lo.map ρ) (vhi := hi.map ρ) (by simp) (by simp) h2 h r
            unfold Instr.sliceAt
            simp only [Sem.run_bind, run_underlying he, Result.andThen_ok]
            exact hh
        exact hrun.next
      · cases hk
    · cases hk
  case fieldAddr t y i =>
    simp only [Option.bind_eq_bind, Option.bind_eq_some_iff, Option.pure_def] at hk
    obtain ⟨f, hf, s, hs, hk⟩ := hk
    split at hk
    · cases hk
    · rename_i h0
      simp only [Option.some.injEq, Prod.mk.injEq] at hk
      obtain ⟨rfl, rfl⟩ := hk
      exact (q_fad hf hs h0 hv h r).next
  case field t y i =>
    simp only [Option.bind_eq_bind, Option.bind_eq_some_iff, Option.pure_def, Option.some.injEq, Prod.mk.injEq] at hk
    obtain ⟨f, hf, g, hg, s, hs, rfl, rfl⟩ := hk
    exact (q_fld hf hg hs hv h r).next
  case indexAddr t y i =>
    simp only [Option.bind_eq_bind, Option.bind_eq_some_iff, Option.pure_def, Option.some.injEq, Prod.mk.injEq] at hk
    obtain ⟨e, he, s, hs, rfl, rfl⟩ := hk
    exact (q_iad (elemA_some he) hs hv h r).next
  case index t y i =>
    split at hk
    · rename_i h3
      simp only [Option.some.injEq, Prod.mk.injEq] at hk
      obtain ⟨rfl, rfl⟩ := hk
      exact (q_istr h3 hv h r).next
    · cases hk
  case panic y => obtain ⟨rfl, rfl⟩ := hk; simp [aquiet] at h
  case extract t i =>
    obtain ⟨rfl, rfl⟩ := hk
    exact (q_ext hv h r).next
  case call c =>
    obtain ⟨callee, args, ats⟩ := c
    cases callee with
    | value f => cases f <;> simp only [kOf, reduceCtorEq, Option.some.injEq, Prod.mk.injEq] at hk
                 · obtain ⟨rfl, _⟩ := hk; cases hq
                 · split at hk
                   · simp only [Option.some.injEq, Prod.mk.injEq] at hk; obtain ⟨rfl, _⟩ := hk; cases hq
                   · cases hk
    | invoke a b => simp only [kOf, reduceCtorEq] at hk
    | builtin b =>
      cases b <;> simp only [kOf, reduceCtorEq, Option.some.injEq, Prod.mk.injEq] at hk
      case copy =>
        simp only [Option.bind_eq_bind, Option.bind_eq_some_iff, Option.pure_def] at hk
        obtain ⟨t, ht, u, hu, e, he, i, hi, hk⟩ := hk
        split at hk
        · cases hk
        · simp only [Option.some.injEq, Prod.mk.injEq] at hk
          obtain ⟨rfl, rfl⟩ := hk
          simp [AK.quiet] at hq
      case append =>
        simp only [Option.bind_eq_bind, Option.bind_eq_some_iff, Option.pure_def] at hk
        obtain ⟨t, _, u, _, e, _, i, _, z, _, hk⟩ := hk
        split at hk
        · cases hk
        · split at hk
          · simp only [Option.some.injEq, Prod.mk.injEq] at hk; obtain ⟨rfl, _⟩ := hk; cases hq
          · split at hk
            · simp only [Option.some.injEq, Prod.mk.injEq] at hk; obtain ⟨rfl, _⟩ := hk; cases hq
            · cases hk
      case len =>
        simp only [Option.bind_eq_bind, Option.bind_eq_some_iff, Option.pure_def] at hk
        obtain ⟨t, ht, hk⟩ := hk
        split at hk
        · cases hk
        · rename_i hsz
          obtain ⟨y, hy⟩ := list_of_len1 (l := args.toList) (by simpa using hsz)
          have hargs : args.map ρ = #[ρ y] := by apply Array.ext'; simp [hy]
          split at hk
          · rename_i h4
            simp only [Option.some.injEq, Prod.mk.injEq] at hk
            obtain ⟨rfl, rfl⟩ := hk
            rw [hy] at hv
            have := (q_lens (P := P) (ty := type) ht h4 hv h r).next
            rw [← hargs] at this
            exact this
          · split at hk
            · rename_i h4
              simp only [Option.some.injEq, Prod.mk.injEq] at hk
              obtain ⟨rfl, rfl⟩ := hk
              rw [hy] at hv
              have := (q_lent (P := P) (ty := type) ht h4 hv h r).next
              rw [← hargs] at this
              exact this
            · cases hk
      case min =>
        obtain ⟨rfl, rfl⟩ := hk
        have := (q_min (P := P) (ats := ats) (ty := type) hv h r).next
        have e : (args.toList.map ρ).toArray = args.map ρ := by apply Array.ext'; simp
        rw [e] at this
        exact this
      case max =>
        obtain ⟨rfl, rfl⟩ := hk
        have := (q_max (P := P) (ats := ats) (ty := type) hv h r).next
        have e : (args.toList.map ρ).toArray = args.map ρ := by apply Array.ext'; simp
        rw [e] at this
        exact this

end Go.Abs
