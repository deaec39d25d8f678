/- Part D of a proof: merged by program. -/
import Derived.Test.YtgmefkhincnajaaProg
import Derived.KernelRfl
import Derived.WalkKit
import Derived.Laws.Externs
import Derived.Lib.Bytealg
import Derived.Deep.Slices
import Derived.Test.YtgmefkhincnajaaPkC
namespace Go.Abs
open Go
def Zuh : List Z2a := [
  ⟨some 1,(.box 5),[.t 0],none⟩,⟨some 2,.mov,[.c (.bool false)],none⟩]
def Zui : List Z2a := [
  ⟨some 3,(.fad 0),[.t 1],none⟩,⟨some 4,(.load false 1),[.t 3],none⟩,⟨some 5,(.call Zew),[.t 4,.c (.bool false)],none⟩,⟨some 2,.mov,[.t 5],none⟩]
def Zuj : Z2y := ⟨6,(.seq (.region Zuh [1]) (.seq (.region Zui [2]) .ret)),[.t 2]⟩
def Zut : List Z2a := [
  ⟨some 4,.mov,[.c (.bool false)],none⟩]
def Zuu : List Z2a := [
  ⟨some 5,.mov,[.t 0],none⟩,⟨some 6,.mov,[.t 1],none⟩,⟨some 7,(.call Zfy),[.t 5,.t 6],none⟩,⟨some 8,(.bin .geq),[.t 7,.c (.int .i64 0)],none⟩,⟨some 4,.mov,[.t 8],none⟩]
def Zuv : Z2y := ⟨9,(.seq (.region Zut [0,1]) (.seq (.region Zuu [4]) .ret)),[.t 4]⟩
def Zuw : List Z2a := [
  ⟨some 4,.mov,[.c (.int .i64 0)],none⟩]
def Zux : List Z2a := [
  ⟨some 6,.mov,[.t 0],none⟩,⟨some 7,.lens,[.t 6],none⟩,⟨some 8,.mov,[.c (.int .i64 0)],none⟩]
def Zuy : List Z2a := [
  ⟨some 9,(.bin .lss),[.t 8,.t 7],none⟩]
def Zuz : List Z2a := [
  ⟨some 10,.mov,[.t 8],none⟩,⟨some 5,.mov,[.t 10],none⟩]
def Zv0 : List Z2a := [
  ⟨some 11,.mov,[.t 1],none⟩,⟨some 12,.mov,[.t 0],none⟩,⟨some 13,.mov,[.t 5],none⟩,⟨some 14,(.iad 1),[.t 12,.t 13],none⟩,⟨some 15,(.load false 1),[.t 14],none⟩,⟨some 16,(.binb .eql),[.t 11,.t 15],none⟩]
def Zv1 : List Z2a := [
  ⟨some 17,.mov,[.t 5],none⟩,⟨some 4,.mov,[.t 17],none⟩]
def Zv2 : List Z2a := [
  ⟨some 18,(.bin .add),[.t 8,.c (.int .i64 1)],none⟩,⟨some 8,.mov,[.t 18],none⟩]
def Zv3 : Z2b := (.seq (.region Zuy [0,1,7,8,9]) (.seq (.cond (.t 9) .skip (.exit 0)) (.seq (.block 1 (.seq (.region Zuz [0,1,5,7,8]) (.seq (.region Zv0 [0,1,5,7,8,16]) (.cond (.t 16) (.seq (.region Zv1 [4]) .ret) .skip)))) (.region Zv2 [0,1,7,8]))))
def Zv4 : List Z2a := [
  ⟨some 4,.mov,[.c (.int .i64 (-1))],none⟩]
def Zv5 : Z2y := ⟨19,(.seq (.region Zuw [0,1]) (.seq (.seq (.region Zux [0,1,7,8]) (.block 0 (.loop Zv3))) (.seq (.region Zv4 [4]) .ret))),[.t 4]⟩
def Zql : List Z2a := [
  ⟨some 2,.mov,[.c (.bool false)],none⟩]
def Zqm : List Z2a := [
  ⟨some 3,.mov,[.t 0],none⟩]
def Zqn : List Z2a := [
  ⟨some 5,(.bin .eql),[.t 3,.c (.int .i64 7)],none⟩,⟨some 4,.mov,[.t 5],none⟩]
def Zqo : List Z2a := [
  ⟨some 6,(.bin .eql),[.t 3,.c (.int .i64 8)],none⟩,⟨some 4,.mov,[.t 6],none⟩]
def Zqp : List Z2a := [
  ⟨some 8,(.bin .eql),[.t 3,.c (.int .i64 16)],none⟩,⟨some 7,.mov,[.t 8],none⟩]
def Zqq : List Z2a := [
  ⟨some 9,(.bin .eql),[.t 3,.c (.int .i64 17)],none⟩,⟨some 7,.mov,[.t 9],none⟩]
def Zqr : List Z2a := [
  ⟨some 2,.mov,[.c (.bool true)],none⟩]
def Zqs : List Z2a := [
  ⟨some 2,.mov,[.c (.bool false)],none⟩]
def Zqt : Z2y := ⟨10,(.seq (.region Zql [0]) (.seq (.seq (.region Zqm [3]) (.block 0 (.seq (.block 2 (.block 1 (.seq (.seq (.seq (.seq (.region Zqn [3,4]) (.cond (.t 4) .skip (.region Zqo [3,4]))) (.cond (.t 4) (.exit 1) .skip)) (.seq (.seq (.region Zqp [3,7]) (.cond (.t 7) .skip (.region Zqq [7]))) (.cond (.t 7) (.exit 2) .skip))) (.exit 0)))) (.seq (.seq (.region Zqr [2]) .ret) (.exit 0))))) (.seq (.region Zqs [2]) .ret))),[.t 2]⟩
def Zs5 : List Z2a := [
  ⟨some 2,.mov,[.c (.slc 0 [] true)],none⟩]
def Zs6 : List Z2a := [
  ⟨some 3,.mov,[.t 0],none⟩,⟨some 4,.mov,[.t 0],none⟩,⟨some 5,.lens,[.t 4],none⟩,⟨some 6,.mov,[.t 0],none⟩,⟨some 7,.lens,[.t 6],none⟩,⟨some 8,(.clip 1),[.t 3,.t 5,.t 7],none⟩,⟨some 2,.mov,[.t 8],none⟩]
def Zs7 : Z2y := ⟨9,(.seq (.region Zs5 [0]) (.seq (.region Zs6 [2]) .ret)),[.t 2]⟩
def Zs8 : List Z2a := [
  ⟨some 2,.mov,[.c (.slc 0 [] true)],none⟩]
def Zs9 : List Z2a := [
  ⟨some 3,.mov,[.t 0],none⟩,⟨some 4,(.isnil false),[.t 3,.c (.slc 0 [] true)],none⟩]
def Zsa : List Z2a := [
  ⟨some 2,.mov,[.c (.slc 0 [] true)],none⟩]
def Zsb : List Z2a := [
  ⟨some 5,(.bsl 1),[],none⟩,⟨some 6,.mov,[.t 0],none⟩,⟨some 7,(.app 1 1),[.t 5,.t 6],none⟩,⟨some 2,.mov,[.t 7],none⟩]
def Zsc : Z2y := ⟨8,(.seq (.region Zs8 [0]) (.seq (.seq (.region Zs9 [0,4]) (.cond (.t 4) (.seq (.region Zsa [2]) .ret) .skip)) (.seq (.region Zsb [2]) .ret))),[.t 2]⟩
def Zsd : List Z2a := [
  ⟨some 2,.mov,[.c (.slc 0 [] true)],none⟩]
def Zse : List Z2a := [
  ⟨some 3,.mov,[.t 0],none⟩,⟨some 4,.mov,[.t 0],none⟩,⟨some 5,.lens,[.t 4],none⟩,⟨some 6,.mov,[.t 0],none⟩,⟨some 7,.lens,[.t 6],none⟩,⟨some 8,(.clip 5),[.t 3,.t 5,.t 7],none⟩,⟨some 2,.mov,[.t 8],none⟩]
def Zsf : Z2y := ⟨9,(.seq (.region Zsd [0]) (.seq (.region Zse [2]) .ret)),[.t 2]⟩
end Go.Abs
namespace Go.Abs
open Go Go.Proofs
theorem Zx7 : Z2z Try.prog [] Zdl = some Zuj.erase := by kernel_rfl
theorem Zx9 : Z2z Try.prog [] Zew = some Zuv.erase := by kernel_rfl
theorem Zxa : Z2z Try.prog [] Zfy = some Zv5.erase := by kernel_rfl
theorem Zt7 : Z2z Try.prog [] Zfi = some Zqt.erase := by kernel_rfl
theorem Ztd : Z2z Try.prog [] Zfp = some Zs7.erase := by kernel_rfl
theorem Zte : Z2z Try.prog [] Zfq = some Zsc.erase := by kernel_rfl
theorem Ztf : Z2z Try.prog [] Zfr = some Zsf.erase := by kernel_rfl
end Go.Abs
namespace Go.Abs
open Go Go.Proofs
set_option linter.unusedVariables false
set_option linter.unusedSimpArgs false
set_option maxHeartbeats 4000000
attribute [local irreducible] AWp aops KP
inductive Ty.Small : Ty → Prop
  | mk {t : Ty} (h1 : t.kids.length ≤ 300) (h2 : t.names.length ≤ 300) (h4 : ∀ s ∈ t.names, s.length ≤ 100) (h : ∀ k ∈ t.kids, Ty.Small k) : Ty.Small t
theorem Ty.Small.fit : ∀ t : Ty, t.Small → t.Fit := by
  refine Ty.ind fun k ns ks l p s ih h => ?_
  cases h with
  | mk h1 h2 h4 h3 => exact .mk (by omega) (by omega) (fun s hs => Nat.le_trans (h4 s hs) (by unfold maxLen; omega)) fun t ht => ih t ht (h3 t ht)
theorem Znc : ∀ ks : List Ty, ks.length ≤ cntL ks
  | [] => by simp [cntL]
  | .mk k ns ks l p s :: ts => by have := Znc ts; simp only [List.length_cons, cntL, cnt]; omega
theorem Znd : ∀ (t : Ty) (deep n : Nat), (chk deep n t).2 = 0 → (chk deep n t).1 = n + cnt t ∧ t.Small ∧ n + cnt t ≤ 100 := by
  refine Ty.ind fun k ns ks l p s ih deep n h => ?_
  have hL : ∀ (ks : List Ty), (∀ t ∈ ks, ∀ (deep n : Nat), (chk deep n t).2 = 0 → (chk deep n t).1 = n + cnt t ∧ t.Small ∧ n + cnt t ≤ 100) → ∀ deep n, n ≤ 100 → (chkL deep n ks).2 = 0 → (chkL deep n ks).1 = n + cntL ks ∧ (∀ t ∈ ks, t.Small) ∧ n + cntL ks ≤ 100 := by
    intro ks
    induction ks with
    | nil => intro _ deep n hn h; simp [chkL, cntL]; exact hn
    | cons t ts ih2 =>
      intro ht deep n hn h
      rw [chkL] at h ⊢
      split at h
      · rename_i hne; exact absurd h hne
      · rename_i hne
        rw [if_neg hne]
        have h1 := ht t (by simp) deep n (by simpa using hne)
        have h2 := ih2 (fun t ht' => ht t (by simp [ht'])) deep (chk deep n t).1 (by omega) h
        refine ⟨by rw [h2.1, h1.1, cntL]; omega, fun u hu => ?_, by rw [cntL]; have := h2.2.2; omega⟩
        rcases List.mem_cons.1 hu with rfl | hu
        · exact h1.2.1
        · exact h2.2.1 u hu
  rw [chk] at h ⊢
  split at h
  · simp at h
  · rename_i hc
    rw [if_neg hc]
    split at h
    · rename_i ho; exact absurd h ho
    · rename_i ho
      rw [if_neg ho]
      have h1 := hL ks ih (deep + 1) (n + 1) (by omega) h
      have hlen := Znc ks
      refine ⟨by rw [h1.1, cnt]; omega, .mk ?_ ?_ ?_ ?_, by rw [cnt]; have := h1.2.2; omega⟩
      · show ks.length ≤ 300
        have := h1.2.2; omega
      · show ns.length ≤ 300
        simp only [ne_eq, Decidable.not_not, ownF] at ho
        split at ho
        · cases ho
        · split at ho
          · cases ho
          · rename_i hr
            simp only [not_or, Bool.not_eq_false] at hr
            have hr' := hr.2.2
            simp only [Zlw, Bool.and_eq_true, Bool.or_eq_true, decide_eq_true_eq, List.isEmpty_iff] at hr'
            obtain ⟨⟨⟨⟨q1, q2⟩, _⟩, _⟩, _⟩ := hr'
            rcases q2 with q2 | q2
            · subst q2
              simp [Zlv] at q1
              have := h1.2.2; omega
            · rw [q2]; simp
      · show ∀ s ∈ ns, s.length ≤ 100
        simp only [ne_eq, Decidable.not_not, ownF] at ho
        split at ho
        · cases ho
        · split at ho
          · cases ho
          · rename_i hr
            simp only [not_or, Bool.not_eq_false] at hr
            have hr' := hr.2.2
            simp only [Zlw, Bool.and_eq_true, Zlu, List.all_eq_true, decide_eq_true_eq] at hr'
            exact fun s hs => (hr'.1.1.2.1 s hs).2
      · exact h1.2.1
theorem Zne : ∀ (ks : List Ty) (a i : Nat) (t : Ty), ks[i]? = some t → Zly a (ks.take (i + 1)) = Zly a (ks.take i) ++ [a + cntL (ks.take i)]
  | [], a, i, t, h => by simp at h
  | u :: ks, a, 0, t, h => by simp [Zly, cntL]
  | u :: ks, a, i + 1, t, h => by
    simp only [List.take_succ_cons, Zly, cntL, List.cons_append]
    rw [Zne ks (a + cnt u) i t (by simpa using h), Nat.add_assoc]
theorem Znf : ∀ (ks : List Ty) (a i : Nat) (parent : Int) (deep : Nat) (t : Ty), ks[i]? = some t → Zm0 a parent deep (ks.take (i + 1)) = Zm0 a parent deep (ks.take i) ++ Zlz (a + cntL (ks.take i)) parent deep t
  | [], a, i, _, _, t, h => by simp at h
  | u :: ks, a, 0, _, _, t, h => by simp at h; subst h; simp [Zm0, cntL]
  | u :: ks, a, i + 1, parent, deep, t, h => by
    simp only [List.take_succ_cons, Zm0, cntL, List.append_assoc]
    rw [Znf ks (a + cnt u) i parent deep t (by simpa using h), Nat.add_assoc]
theorem Zng : ∀ (ks : List Ty) (a : Nat) (parent : Int) (deep : Nat), (Zm0 a parent deep ks).length = cntL ks
  | [], _, _, _ => rfl
  | t :: ts, a, parent, deep => by rw [Zm0, List.length_append, Zm1, Zng ts, cntL]
theorem Znh : ∀ (ks : List Ty) (i : Nat) (t : Ty), ks[i]? = some t → cntL (ks.take (i + 1)) = cntL (ks.take i) + cnt t ∧ cntL (ks.take i) + cnt t ≤ cntL ks
  | [], i, t, h => by simp at h
  | u :: ks, 0, t, h => by simp at h; subst h; simp [cntL]
  | u :: ks, i + 1, t, h => by
    have := Znh ks i t (by simpa using h)
    simp only [List.take_succ_cons, cntL]
    omega
theorem Zni (ns : List (List UInt8)) : ∀ x ∈ ns.map Z0.str, x.elem 1 := fun x hx => by
  obtain ⟨s, _, rfl⟩ := List.mem_map.1 hx
  exact ⟨rfl, fun c hc => by rw [List.mem_singleton.1 hc]; rfl⟩
end Go.Abs
namespace Go.Abs
open Go Go.Proofs
set_option linter.unusedVariables false
set_option linter.unusedSimpArgs false
set_option maxHeartbeats 4000000
inductive Ty.Ok : Ty → Prop
  | mk {t : Ty} (h1 : ownF t.kind t.names t.kids.length t.len t.prec t.scale = 0) (h : ∀ k ∈ t.kids, Ty.Ok k) : Ty.Ok t
inductive Vl.Fit : Vl → Prop
  | mk {v : Vl} (h1 : -9223372036854775808 ≤ v.i ∧ v.i ≤ 9223372036854775807) (h2 : v.b.length ≤ 9223372036854775807) (h3 : v.kids.length ≤ 9223372036854775807) (h : ∀ k ∈ v.kids, Vl.Fit k) : Vl.Fit v
theorem Ztu : ∀ (t : Ty) (deep n : Nat), (chk deep n t).2 = 0 → t.Ok := by
  refine Ty.ind fun k ns ks l p s ih deep n h => ?_
  have hL : ∀ (ks : List Ty), (∀ t ∈ ks, ∀ (deep n : Nat), (chk deep n t).2 = 0 → t.Ok) → ∀ deep n, (chkL deep n ks).2 = 0 → ∀ t ∈ ks, t.Ok := by
    intro ks
    induction ks with
    | nil => intro _ deep n h t ht; cases ht
    | cons t ts ih2 =>
      intro ht deep n h u hu
      rw [chkL] at h
      split at h
      · rename_i hne; exact absurd h hne
      · rename_i hne
        rcases List.mem_cons.1 hu with rfl | hu
        · exact ht u (by simp) deep n (by simpa using hne)
        · exact ih2 (fun t ht' => ht t (by simp [ht'])) deep _ h u hu
  rw [chk] at h
  split at h
  · simp at h
  · split at h
    · rename_i ho; exact absurd h ho
    · rename_i ho
      refine .mk ?_ (hL ks ih (deep + 1) (n + 1) h)
      show ownF k ns ks.length l p s = 0
      simpa using ho
theorem Ty.Ok.kinds {t : Ty} (h : t.Ok) : Zlv t.kind t.names.length t.kids.length = true ∧ 0 ≤ t.kind ∧ t.kind ≤ 17 := by
  cases h with
  | mk h1 _ =>
    rw [ownF] at h1
    split at h1
    · cases h1
    · split at h1
      · cases h1
      · rename_i hr
        simp only [not_or, Bool.not_eq_false] at hr
        have := hr.2.2
        simp only [Zlw, Bool.and_eq_true] at this
        exact ⟨this.1.1.1.1, by omega, by omega⟩
theorem Ztv {t : Ty} (h : t.Ok) {i n : Int} {b : List UInt8} {ks j : Nat} (ho : ownV t i n b ks = 0) (hj : j < ks) : Zmf t.kind i j < t.kids.length ∧ (t.kind = 13 → 0 ≤ i) := by
  obtain ⟨h1, h2, h3⟩ := h.kinds
  simp only [ownV] at ho
  split at ho
  · cases ho
  rename_i hA
  simp only [not_or, not_and, Bool.not_eq_false, Bool.not_eq_true] at hA
  obtain ⟨a1, _, a3⟩ := hA
  have hleaf := a3 (by omega)
  simp only [Zlt, Bool.not_eq_false', Bool.or_eq_true, decide_eq_true_eq] at hleaf
  split at ho
  · cases ho
  simp only [Zlv] at h1
  simp only [Zmf]
  by_cases k10 : t.kind = 10
  · rw [if_pos k10] at h1 ⊢
    simp at h1
    exact ⟨by omega, by omega⟩
  rw [if_neg k10] at h1 ⊢
  by_cases k11 : t.kind = 11
  · rw [if_pos k11] at h1 ⊢
    simp at h1
    exact ⟨by omega, by omega⟩
  rw [if_neg k11] at h1 ⊢
  by_cases k13 : t.kind = 13
  · rw [if_pos k13]
    have : decide (0 ≤ i ∧ i < (t.kids.length : Int)) = true := by
      rw [Zme] at a1
      split at a1
      · cases a1
      · simpa [k13] using a1
    simp at this
    exact ⟨by omega, fun _ => this.1⟩
  rw [if_neg k13]
  have k12 : t.kind = 12 := by omega
  rw [if_neg k10, if_neg k11, if_pos k12] at ho
  split at ho
  · cases ho
  · exact ⟨by omega, fun h => absurd h k13⟩
theorem Ztw {t : Ty} (h : t.Ok) {i : Int} {j : Nat} (hlt : Zmf t.kind i j < t.kids.length) : (kidT t i j).Ok := by
  cases h with
  | mk _ hk =>
    refine hk _ ?_
    rw [kidT, List.getD_eq_getElem?_getD, List.getElem?_eq_getElem hlt]
    exact List.getElem_mem hlt
theorem Ztx (t : Ty) (i : Int) : ∀ (ks : List Vl) (j : Nat) (v : Vl), ks[j]? = some v → Zmg t i j (ks.drop j) = if t.kind = 11 ∧ j % 2 = 0 ∧ v.null = true then 1 else if vchk (kidT t i j) v ≠ 0 then vchk (kidT t i j) v else Zmg t i (j + 1) (ks.drop (j + 1)) := by
  intro ks j v h
  obtain ⟨hj, rfl⟩ := List.getElem?_eq_some_iff.1 h
  rw [List.drop_eq_getElem_cons hj, Zmg]
attribute [local irreducible] AWp aops
end Go.Abs
namespace Go.Abs
open Go Go.Proofs
set_option linter.unusedVariables false
set_option linter.unusedSimpArgs false
theorem Z1ft : Try.prog.cellsOf 25 = 6 := by kernel_rfl
theorem Z1fu : Try.prog.cellsOf 38 = 5 := by kernel_rfl
theorem Z1fv : Try.prog.cellsOf 9 = 1 := by kernel_rfl
theorem Z1fw : Try.prog.cellsOf 5 = 1 := by kernel_rfl
theorem Z1fx {α : Type} {f : α → Z0} {p : α → Prop} : ∀ {xs : List Z0}, (∀ x ∈ xs, ∃ a, x = f a ∧ p a) → ∃ l : List α, xs = l.map f ∧ ∀ a ∈ l, p a := fun h => Zbl h
theorem Z1fy {t : TypeId} {a : Z0} (h : Has Try.prog t a) : (t = 25 → ∃ ty : Ty, a = encT ty) ∧ (t = 23 → ∃ ks : List Ty, a = .slc 6 (Zln ks) false) := by
  induction h with
  | bool h => exact ⟨fun e => (by subst e; rw [Try.underlying25] at h; cases h), fun e => (by subst e; rw [Try.underlying23] at h; cases h)⟩
  | int h _ => exact ⟨fun e => (by subst e; rw [Try.underlying25] at h; cases h), fun e => (by subst e; rw [Try.underlying23] at h; cases h)⟩
  | str h _ => exact ⟨fun e => (by subst e; rw [Try.underlying25] at h; cases h), fun e => (by subst e; rw [Try.underlying23] at h; cases h)⟩
  | @slc t e xs h hl hx ih =>
    refine ⟨fun e => (by subst e; rw [Try.underlying25] at h; cases h), fun e => ?_⟩
    subst e
    rw [Try.underlying23] at h
    simp only [Option.some.injEq, TypeDesc.slice.injEq] at h
    subst h
    obtain ⟨ks, rfl, _⟩ := Z1fx (f := encT) (p := fun _ => True) (fun x hm => by
      obtain ⟨ty, e⟩ := (ih x hm).1 rfl
      exact ⟨ty, e, trivial⟩)
    exact ⟨ks, by rw [Z1ft, Zlq]⟩
  | @agg t fs ys h hn hy ih =>
    refine ⟨fun e => ?_, fun e => (by subst e; rw [Try.underlying23] at h; cases h)⟩
    subst e
    rw [Try.underlying25] at h
    simp only [Option.some.injEq, TypeDesc.struct.injEq] at h
    subst h
    match ys, hn with
    | [y0, y1, y2, y3, y4, y5], _ =>
    obtain ⟨k, rfl, _⟩ := (hy 0 _ y0 rfl rfl).int_inv Try.underlying3
    obtain ⟨xs, rfl, _, hx⟩ := (hy 1 _ y1 rfl rfl).slc_inv Try.underlying22
    obtain ⟨ks, rfl⟩ := (ih 2 _ y2 rfl rfl).2 rfl
    obtain ⟨l, rfl, _⟩ := (hy 3 _ y3 rfl rfl).int_inv Try.underlying3
    obtain ⟨p, rfl, _⟩ := (hy 4 _ y4 rfl rfl).int_inv Try.underlying3
    obtain ⟨s, rfl, _⟩ := (hy 5 _ y5 rfl rfl).int_inv Try.underlying3
    obtain ⟨ns, rfl, _⟩ := Z1fx (f := Z0.str) (p := fun _ => True) (fun x hm => by
      obtain ⟨s, e, _⟩ := (hx x hm).str_inv Try.underlying9
      exact ⟨s, e, trivial⟩)
    refine ⟨.mk k ns ks l p s, ?_⟩
    rw [Z1fv, Zlp]
    rfl
theorem Z1fz {t : TypeId} {a : Z0} (h : Has Try.prog t a) : (t = 38 → ∃ v : Vl, a = encV v ∧ v.Fit) ∧ (t = 26 → ∃ vs : List Vl, a = .slc 5 (Zm5 vs) false ∧ (∀ v ∈ vs, v.Fit) ∧ vs.length ≤ 9223372036854775807) := by
  induction h with
  | bool h => exact ⟨fun e => (by subst e; rw [Try.underlying38] at h; cases h), fun e => (by subst e; rw [Try.underlying26] at h; cases h)⟩
  | int h _ => exact ⟨fun e => (by subst e; rw [Try.underlying38] at h; cases h), fun e => (by subst e; rw [Try.underlying26] at h; cases h)⟩
  | str h _ => exact ⟨fun e => (by subst e; rw [Try.underlying38] at h; cases h), fun e => (by subst e; rw [Try.underlying26] at h; cases h)⟩
  | @slc t e xs h hl hx ih =>
    refine ⟨fun e => (by subst e; rw [Try.underlying38] at h; cases h), fun e => ?_⟩
    subst e
    rw [Try.underlying26] at h
    simp only [Option.some.injEq, TypeDesc.slice.injEq] at h
    subst h
    obtain ⟨vs, rfl, hv⟩ := Z1fx (f := encV) (p := Vl.Fit) (fun x hm => (ih x hm).1 rfl)
    exact ⟨vs, by rw [Z1fu, Zm8], hv, by simpa [maxLen] using hl⟩
  | @agg t fs ys h hn hy ih =>
    refine ⟨fun e => ?_, fun e => (by subst e; rw [Try.underlying26] at h; cases h)⟩
    subst e
    rw [Try.underlying38] at h
    simp only [Option.some.injEq, TypeDesc.struct.injEq] at h
    subst h
    match ys, hn with
    | [y0, y1, y2, y3, y4], _ =>
    obtain ⟨nu, rfl⟩ := (hy 0 _ y0 rfl rfl).bool_inv Try.underlying4
    obtain ⟨i, rfl, w1⟩ := (hy 1 _ y1 rfl rfl).int_inv Try.underlying2
    obtain ⟨n, rfl, _⟩ := (hy 2 _ y2 rfl rfl).int_inv Try.underlying3
    obtain ⟨b, rfl, hb⟩ := (hy 3 _ y3 rfl rfl).bytes_inv Try.underlying36 Try.underlying5 Z1fw
    obtain ⟨ks, rfl, hk, hkl⟩ := (ih 4 _ y4 rfl rfl).2 rfl
    refine ⟨.mk nu i n b ks, ?_, .mk (Zbi w1) (by simpa [maxLen, Vl.b] using hb) hkl hk⟩
    rw [Zm7]
    rfl
end Go.Abs
namespace Go.Abs
open Go Go.Proofs
set_option linter.unusedVariables false
set_option linter.unusedSimpArgs false
set_option maxHeartbeats 4000000
attribute [local irreducible] AWp aops KP
def Zxj (k : Int) : Bool := decide (k = 0) || decide (k = 1) || decide (k = 2) || decide (k = 3) || decide (k = 4) || decide (k = 7) || decide (k = 16) || decide (k = 17) || decide (k = 8) || decide (k = 14)
def Zxk (k : Int) : Bool := Zlt k && (decide (k ≠ 0) && decide (k ≠ 8))
def addF (a b : Int) : Int × Bool := if -9223372036854775808 ≤ a + b ∧ a + b ≤ 9223372036854775807 then (a + b, true) else (0, false)
end Go.Abs
namespace Go.Abs
open Go Go.Proofs Go.RowKit
set_option linter.unusedVariables false
set_option linter.unusedSimpArgs false
end Go.Abs
namespace Go.Abs
open Go Go.Proofs
set_option linter.unusedVariables false
set_option linter.unusedSimpArgs false
set_option maxHeartbeats 4000000
attribute [local irreducible] AWp aops KP
def cmpI (a b : Int) : Int := if a < b then -1 else if b < a then 1 else 0
def cmpV (k : Int) (a b : Vl) : Int × Bool :=
  if Zlt k = false ∨ a.null = true ∨ b.null = true then (0, false)
  else if Zmb k = true then (Lib.compareBytes a.b b.b, true)
  else (if cmpI a.i b.i ≠ 0 then cmpI a.i b.i else cmpI a.n b.n, true)
theorem Zu8 (k : Int) (σ : Zc) : Z1q Try.prog Zfi [.int .i64 k] σ fun r σ' => r = .bool (Zmb k) ∧ σ' = σ := by
  refine Z8t rfl Zt7 (Nat.le_of_ble_eq_true rfl) ?_
  by_cases h7 : k = 7
  · subst h7; (repeat (first | refine st_q rfl rfl rfl ?_ | (refine Z8y ?_; (repeat (first | refine Z9v rfl ?_ | refine Z9w ?_)); refine Z9u ?_) | refine awp_seq ?_ | refine Zbm (fun _ _ => rfl) ?_ | refine Z8h ?_ | refine Zbn (fun _ _ => rfl) ?_ | refine Zbo (fun _ _ => rfl) ?_ | refine Kc1 rfl ?_)); refine Z8d ?_; exact Kar rfl ⟨rfl, rfl⟩
  by_cases h16 : k = 16
  · subst h16; (repeat (first | refine st_q rfl rfl rfl ?_ | (refine Z8y ?_; (repeat (first | refine Z9v rfl ?_ | refine Z9w ?_)); refine Z9u ?_) | refine awp_seq ?_ | refine Zbm (fun _ _ => rfl) ?_ | refine Z8h ?_ | refine Zbn (fun _ _ => rfl) ?_ | refine Zbo (fun _ _ => rfl) ?_ | refine Kc1 rfl ?_ | refine Kc2 rfl ?_)); refine Z8d ?_; exact Kar rfl ⟨rfl, rfl⟩
  by_cases h17 : k = 17
  · subst h17; (repeat (first | refine st_q rfl rfl rfl ?_ | (refine Z8y ?_; (repeat (first | refine Z9v rfl ?_ | refine Z9w ?_)); refine Z9u ?_) | refine awp_seq ?_ | refine Zbm (fun _ _ => rfl) ?_ | refine Z8h ?_ | refine Zbn (fun _ _ => rfl) ?_ | refine Zbo (fun _ _ => rfl) ?_ | refine Kc1 rfl ?_ | refine Kc2 rfl ?_)); refine Z8d ?_; exact Kar rfl ⟨rfl, rfl⟩
  by_cases h8 : k = 8
  · subst h8; (repeat (first | refine st_q rfl rfl rfl ?_ | (refine Z8y ?_; (repeat (first | refine Z9v rfl ?_ | refine Z9w ?_)); refine Z9u ?_) | refine awp_seq ?_ | refine Zbm (fun _ _ => rfl) ?_ | refine Z8h ?_ | refine Zbo (fun _ _ => rfl) ?_ | refine Kc1 rfl ?_ | refine Kc2 rfl ?_)); refine Z8d ?_; exact Kar rfl ⟨rfl, rfl⟩
  (repeat (first | refine st_q rfl rfl rfl ?_ | (refine Z8y ?_; (repeat (first | refine Z9v rfl ?_ | refine Z9w ?_)); refine Z9u ?_) | refine awp_seq ?_ | refine Zbm (fun _ _ => rfl) ?_ | refine Z8h ?_))
  (rw [decide_eq_false (p := k = 7) (by omega)])
  (repeat (first | refine st_q rfl rfl rfl ?_ | (refine Z8y ?_; (repeat (first | refine Z9v rfl ?_ | refine Z9w ?_)); refine Z9u ?_) | refine Zbm (fun _ _ => rfl) ?_ | refine Kc2 rfl ?_))
  (rw [decide_eq_false (p := k = 8) (by omega)])
  (repeat (first | refine st_q rfl rfl rfl ?_ | (refine Z8y ?_; (repeat (first | refine Z9v rfl ?_ | refine Z9w ?_)); refine Z9u ?_) | refine awp_seq ?_ | refine Zbm (fun _ _ => rfl) ?_ | refine Zbn (fun _ _ => rfl) ?_ | refine Kc2 rfl ?_))
  (rw [decide_eq_false (p := k = 16) (by omega)])
  (repeat (first | refine st_q rfl rfl rfl ?_ | (refine Z8y ?_; (repeat (first | refine Z9v rfl ?_ | refine Z9w ?_)); refine Z9u ?_) | refine Zbm (fun _ _ => rfl) ?_ | refine Kc2 rfl ?_))
  (rw [decide_eq_false (p := k = 17) (by omega)])
  (repeat (first | refine st_q rfl rfl rfl ?_ | (refine Z8y ?_; (repeat (first | refine Z9v rfl ?_ | refine Z9w ?_)); refine Z9u ?_) | refine awp_seq ?_ | refine Zbm (fun _ _ => rfl) ?_ | refine Zbn (fun _ _ => rfl) ?_ | refine Zbo (fun _ _ => rfl) ?_ | refine Kc2 rfl ?_))
  refine Z8d ?_
  exact Kar rfl ⟨by simp [Zmb, Z8m, h7, h16, h17, h8], rfl⟩
end Go.Abs
namespace Go.Abs
open Go Go.Proofs
set_option linter.unusedVariables false
set_option linter.unusedSimpArgs false
set_option maxHeartbeats 4000000
attribute [local irreducible] AWp aops KP
theorem Zua (xs : List Z0) (f : Bool) (σ : Zc) : Z1q Try.prog Zfp [.slc 1 xs f] σ fun r σ' => r = .slc 1 xs true ∧ σ' = σ := by
  refine Z8t rfl Ztd (Nat.le_of_ble_eq_true rfl) ?_
  (repeat (first | refine st_q rfl rfl rfl ?_ | (refine Z8y ?_; (repeat (first | refine Z9v rfl ?_ | refine Z9w ?_)); refine Z9u ?_) | refine awp_seq ?_ | refine Zbm (fun _ _ => rfl) ?_))
  refine Z9r rfl (by omega) (by omega) ?_
  rw [Int.toNat_natCast, List.take_length]
  (repeat (first | refine st_q rfl rfl rfl ?_ | (refine Z8y ?_; (repeat (first | refine Z9v rfl ?_ | refine Z9w ?_)); refine Z9u ?_)))
  refine Z8d ?_
  exact Kar rfl ⟨rfl, rfl⟩
theorem Zuc (xs : List Z0) (f : Bool) (σ : Zc) : Z1q Try.prog Zfr [.slc 5 xs f] σ fun r σ' => r = .slc 5 xs true ∧ σ' = σ := by
  refine Z8t rfl Ztf (Nat.le_of_ble_eq_true rfl) ?_
  (repeat (first | refine st_q rfl rfl rfl ?_ | (refine Z8y ?_; (repeat (first | refine Z9v rfl ?_ | refine Z9w ?_)); refine Z9u ?_) | refine awp_seq ?_ | refine Zbm (fun _ _ => rfl) ?_))
  refine Z9r rfl (by omega) (by omega) ?_
  rw [Int.toNat_natCast, List.take_length]
  (repeat (first | refine st_q rfl rfl rfl ?_ | (refine Z8y ?_; (repeat (first | refine Z9v rfl ?_ | refine Z9w ?_)); refine Z9u ?_)))
  refine Z8d ?_
  exact Kar rfl ⟨rfl, rfl⟩
theorem Zud {v : Z0} {xs : List Z0} {β : Zc} (ho : Zbr 5 v xs β) (σ : Zc) : Z1q Try.prog Zfr [v] (β ++ σ) fun r σ' => r = .slc 5 xs true ∧ σ' = σ := by
  rcases ho with ⟨⟨z, rfl⟩, rfl, rfl⟩ | ⟨b, rfl, rfl⟩
  · exact Z1q.args (VRle.nil_slc z 5 true) (Zuc [] true σ)
  refine Z8t rfl Ztf (Nat.le_of_ble_eq_true rfl) ?_
  (repeat (first | refine st_q rfl rfl rfl ?_ | (refine Z8y ?_; (repeat (first | refine Z9v rfl ?_ | refine Z9w ?_)); refine Z9u ?_) | refine awp_seq ?_ | refine Zbm (fun _ _ => rfl) ?_))
  refine Z9q rfl Z8z (by omega) (by omega) (by omega) Z9h ?_
  rw [List.drop_zero, Int.toNat_natCast, List.take_length]
  (repeat (first | refine st_q rfl rfl rfl ?_ | (refine Z8y ?_; (repeat (first | refine Z9v rfl ?_ | refine Z9w ?_)); refine Z9u ?_)))
  refine Z8d ?_
  exact Kar rfl ⟨rfl, rfl⟩
theorem Zue (xs : List Z0) (f : Bool) (he : ∀ x ∈ xs, x.elem 1) (hb : xs.length * 1 ≤ 140737488355328) (σ : Zc) : Z1q Try.prog Zfq [.slc 1 xs f] σ fun r σ' => r = .slc 1 xs false ∧ σ' = σ := by
  refine Z8t rfl Zte (Nat.le_of_ble_eq_true rfl) ?_
  have key : ∀ t : Bool, (t = true → xs = []) → AWp Try.prog Zsc.n (.cond (.t 4) (.seq (.region Zsa [2]) .ret) .skip) (Z8e Try.prog Zsc.n (Zsc.code.snd 2) (ARet Zsc.res fun r σ' => r = .slc 1 xs false ∧ σ' = σ))
      (fset 0 (some (.slc 1 xs f)) (fset 4 (some (.bool t)) Z27)) σ := by
    intro t ht
    cases t with
    | true =>
      (repeat (first | refine st_q rfl rfl rfl ?_ | (refine Z8y ?_; (repeat (first | refine Z9v rfl ?_ | refine Z9w ?_)); refine Z9u ?_) | refine awp_seq ?_ | refine Zbm (fun _ _ => rfl) ?_ | refine Kc1 rfl ?_))
      refine Z8d ?_
      refine Zau rfl ?_ (HSub.refl _) ⟨rfl, rfl⟩
      rw [ht rfl]
      exact VRle.trans (VRle.nil_slc 0 1 true) VRle.full
    | false =>
      (repeat (first | refine st_q rfl rfl rfl ?_ | refine awp_seq ?_ | refine Zbm (fun _ _ => rfl) ?_ | refine Zbn (fun _ _ => rfl) ?_ | refine Kc2 rfl ?_))
      refine Z9p rfl (ys := xs) (by simp [Z1m]) (by simpa using hb) fun b hb => ?_
      (repeat (first | refine st_q rfl rfl rfl ?_ | (refine Z8y ?_; (repeat (first | refine Z9v rfl ?_ | refine Z9w ?_)); refine Z9u ?_)))
      refine Z8d ?_
      exact Zbu rfl (Zb6.one (Zb6.freeze rfl)) ⟨rfl, rfl⟩
  (repeat (first | refine st_q rfl rfl rfl ?_ | (refine Z8y ?_; (repeat (first | refine Z9v rfl ?_ | refine Z9w ?_)); refine Z9u ?_) | refine awp_seq ?_ | refine Zbm (fun _ _ => rfl) ?_))
  refine Z8u rfl ?_
  refine ⟨fun _ => ?_, fun hx t => ?_⟩
  · (refine Z8y ?_; (repeat (first | refine Z9v rfl ?_ | refine Z9w ?_)); refine Z9u ?_)
    exact key false (fun h => by cases h)
  · (refine Z8y ?_; (repeat (first | refine Z9v rfl ?_ | refine Z9w ?_)); refine Z9u ?_)
    exact key t (fun _ => hx)
inductive Vl.Cl : Vl → Prop
  | mk {v : Vl} (h1 : v.b.length ≤ 140737488355328) (h2 : v.kids.length ≤ 1000000000) (h : ∀ k ∈ v.kids, Vl.Cl k) : Vl.Cl v
end Go.Abs
namespace Go.Abs
open Go Go.Proofs
set_option linter.unusedVariables false
set_option linter.unusedSimpArgs false
set_option maxHeartbeats 4000000
attribute [local irreducible] AWp aops KP
structure Stt where
  count : Int
  null : Bool
  has : Bool
  min : Vl
  max : Vl
  sums : Bool
  sum : Int
def vl0 : Vl := .mk false 0 0 [] []
def Zxp (s : Stt) : List Z0 := [.int .i64 s.count, .bool s.null, .bool s.has,
  .bool s.min.null, .int .i64 s.min.i, .int .i64 s.min.n, .slc 1 (bytes s.min.b) false, .slc 5 (Zm5 s.min.kids) false,
  .bool s.max.null, .int .i64 s.max.i, .int .i64 s.max.n, .slc 1 (bytes s.max.b) false, .slc 5 (Zm5 s.max.kids) false,
  .bool s.sums, .int .i64 s.sum]
def encS (s : Stt) : Z0 := .agg (Zxp s)
def Zxq (s : Stt) (v : Int) : Stt := if s.sums = true then { s with sum := (addF s.sum v).1, sums := (addF s.sum v).2 } else s
def Zxr (k : Int) (s : Stt) (lo hi : Vl) : Stt :=
  { s with min := if s.has = false ∨ (cmpV k lo s.min).1 < 0 then lo else s.min, max := if s.has = false ∨ 0 < (cmpV k hi s.max).1 then hi else s.max, has := true }
end Go.Abs
namespace Go.Abs
open Go Go.Proofs
set_option linter.unusedVariables false
set_option linter.unusedSimpArgs false
set_option maxHeartbeats 4000000
attribute [local irreducible] AWp aops KP
structure Col where
  here : List Bool
  ints : List Int
  ns : List Int
  texts : List (List UInt8)
  lens : List Int
def Zxu (c : Col) : List Z0 := [.slc 1 (c.here.map .bool) false, .slc 1 (c.ints.map (.int .i64)) false, .slc 1 (c.ns.map (.int .i64)) false,
  .slc 1 (c.texts.map fun b => .slc 1 (bytes b) false) false, .slc 1 (c.lens.map (.int .i64)) false]
def encC (c : Col) : Z0 := .agg (Zxu c)
def hasF (c : Col) : Bool := c.here.any (!·)
def idxB (v : Bool) : Nat → List Bool → Int
  | _, [] => -1
  | i, b :: bs => if v = b then i else idxB v (i + 1) bs
theorem Zxv (v : Bool) : ∀ (bs : List Bool) (i : Nat), decide (0 ≤ idxB v i bs) = bs.any (· == v)
  | [], i => by simp [idxB]
  | b :: bs, i => by
    rw [idxB, List.any_cons]
    by_cases h : v = b
    · rw [if_pos h]; simp [h]
    · rw [if_neg h, Zxv v bs]
      have : (b == v) = false := by cases v <;> cases b <;> simp_all
      rw [this]; simp
theorem Zxw {α : Type} {f : α → Z0} {l : List α} {j : Nat} (h : j < l.length) : (l.map f)[((j : Nat) : Int).toNat]? = some (f l[j]) := by
  rw [Int.toNat_natCast, List.getElem?_map, List.getElem?_eq_getElem h]; rfl
theorem Zxx (bs : List Bool) (v : Bool) (hl : bs.length ≤ 140737488355328) (σ : Zc) : Z1q Try.prog Zfy [.slc 1 (bs.map .bool) false, .bool v] σ fun r σ' => r = .int .i64 (idxB v 0 bs) ∧ σ' = σ := by
  refine Z8t rfl Zxa (Nat.le_of_ble_eq_true rfl) ?_
  (repeat (first | refine st_q rfl rfl rfl ?_ | (refine Z8y ?_; (repeat (first | refine Z9v rfl ?_ | refine Z9w ?_)); refine Z9u ?_) | refine awp_seq ?_ | refine Zbm (fun _ _ => rfl) ?_ | refine Z8h ?_))
  rw [show ((bs.map Z0.bool).length : Int) = (bs.length : Int) by simp]
  generalize hX : idxB v 0 bs = X
  refine Zaa (fun m F σ' => ∃ (j : Nat), F = fset 0 (some (.slc 1 (bs.map .bool) false)) (fset 1 (some (.bool v)) (fset 7 (some (.int .i64 (bs.length : Int))) (fset 8 (some (.int .i64 (j : Int))) Z27))) ∧
    σ = σ' ∧ j ≤ bs.length ∧ X = idxB v j (bs.drop j) ∧ m = bs.length - j) (n := bs.length) ⟨0, rfl, rfl, by omega, hX.symm, rfl⟩ ?_
  rintro m F σ' ⟨j, rfl, rfl, hj, hXj, rfl⟩
  (repeat (first | refine st_q rfl rfl rfl ?_ | (refine Z8y ?_; (repeat (first | refine Z9v rfl ?_ | refine Z9w ?_)); refine Z9u ?_) | refine awp_seq ?_ | refine Zbm (fun _ _ => rfl) ?_))
  refine Za3 (p := (j : Int) < (bs.length : Int)) rfl (fun h3 => ?_) (fun h3 => ?_)
  · have hjl : j < bs.length := by omega
    rw [List.drop_eq_getElem_cons hjl, idxB] at hXj
    (repeat (first | refine st_q rfl rfl rfl ?_ | (refine Z8y ?_; (repeat (first | refine Z9v rfl ?_ | refine Z9w ?_)); refine Z9u ?_) | refine awp_seq ?_ | refine Zbm (fun _ _ => rfl) ?_ | refine Z8h ?_ | refine Zbn (fun _ _ => rfl) ?_))
    refine Z93 rfl (by omega) (Zxw hjl) ?_
    (repeat (first | refine st_q rfl rfl rfl ?_ | (refine Z8y ?_; (repeat (first | refine Z9v rfl ?_ | refine Z9w ?_)); refine Z9u ?_)))
    cases he : (v == bs[j]) with
    | true =>
      rw [if_pos (by simpa using he)] at hXj
      (repeat (first | refine st_q rfl rfl rfl ?_ | (refine Z8y ?_; (repeat (first | refine Z9v rfl ?_ | refine Z9w ?_)); refine Z9u ?_) | refine awp_seq ?_ | refine Zbm (fun _ _ => rfl) ?_ | refine Kc1 rfl ?_))
      refine Z8d ?_
      exact Kar rfl ⟨by rw [hXj]; rfl, rfl⟩
    | false =>
      rw [if_neg (by simpa using he)] at hXj
      (repeat (first | refine Zbn (fun _ _ => rfl) ?_ | refine Kc2 rfl ?_))
      refine Zbp ?_
      (repeat (refine st_q rfl rfl rfl ?_))
      rw [Kwr j (by omega)]
      (refine Z8y ?_; (repeat (first | refine Z9v rfl ?_ | refine Z9w ?_)); refine Z9u ?_)
      exact ⟨_, bs.length - (j + 1), HSub.refl _, ⟨j + 1, rfl, rfl, by omega, hXj, rfl⟩, by omega⟩
  · (repeat (first | refine st_q rfl rfl rfl ?_ | (refine Z8y ?_; (repeat (first | refine Z9v rfl ?_ | refine Z9w ?_)); refine Z9u ?_) | refine awp_seq ?_ | refine Zbm (fun _ _ => rfl) ?_ | refine Zbo (fun _ _ => rfl) ?_))
    rw [List.drop_of_length_le (by omega), idxB] at hXj
    refine Z8d ?_
    exact Kar rfl ⟨by rw [hXj]; rfl, rfl⟩
theorem Zxy (bs : List Bool) (v : Bool) (hl : bs.length ≤ 140737488355328) (σ : Zc) : Z1q Try.prog Zew [.slc 1 (bs.map .bool) false, .bool v] σ fun r σ' => r = .bool (bs.any (· == v)) ∧ σ' = σ := by
  refine Z8t rfl Zx9 (Nat.le_of_ble_eq_true rfl) ?_
  (repeat (first | refine st_q rfl rfl rfl ?_ | (refine Z8y ?_; (repeat (first | refine Z9v rfl ?_ | refine Z9w ?_)); refine Z9u ?_) | refine awp_seq ?_ | refine Zbm (fun _ _ => rfl) ?_))
  refine Z9t rfl (Zxx bs v hl _) ?_
  (repeat (first | refine st_q rfl rfl rfl ?_ | (refine Z8y ?_; (repeat (first | refine Z9v rfl ?_ | refine Z9w ?_)); refine Z9u ?_)))
  refine Z8d ?_
  exact Kar rfl ⟨by rw [← Zxv v bs 0]; rfl, rfl⟩
theorem Zxz (c : Col) (hl : c.here.length ≤ 140737488355328) (σ : Zc) : Z1q Try.prog Zdl [encC c] σ fun r σ' => r = .bool (hasF c) ∧ σ' = σ := by
  refine Z8t rfl Zx7 (Nat.le_of_ble_eq_true rfl) ?_
  refine Z9z ?_
  refine Z9j rfl (Kfi rfl) fun b hb => ?_
  (repeat (refine st_q rfl rfl rfl ?_))
  (refine Z8y ?_; (repeat (first | refine Z9v rfl ?_ | refine Z9w ?_)); refine Z9u ?_)
  refine Zb3 (d := 1) (cs := Zxu c) rfl ?_
  (repeat (first | refine st_q rfl rfl rfl ?_ | refine awp_seq ?_ | refine Zbm (fun _ _ => rfl) ?_))
  refine Z9t rfl (Zxy c.here false hl _) ?_
  (repeat (first | refine st_q rfl rfl rfl ?_ | (refine Z8y ?_; (repeat (first | refine Z9v rfl ?_ | refine Z9w ?_)); refine Z9u ?_)))
  refine Z8d ?_
  exact Kar rfl ⟨by simp [Z8m, hasF], rfl⟩
end Go.Abs
namespace Go.Abs
open Go Go.Proofs
set_option linter.unusedVariables false
set_option linter.unusedSimpArgs false
def Zy8 (l : List (List UInt8)) : List Z0 := l.map fun b => .slc 1 (bytes b) false
def ColG (w : Z0) (c : Col) (β : Zc) : Prop := ∃ v1 v2 v3 v4 v5 β1 β2 β3 β4 β5, w = .agg [v1, v2, v3, v4, v5] ∧ Zbr 1 v1 (c.here.map .bool) β1 ∧ Zbr 1 v2 (c.ints.map (.int .i64)) β2 ∧
  Zbr 1 v3 (c.ns.map (.int .i64)) β3 ∧ Zbr 1 v4 (Zy8 c.texts) β4 ∧ Zbr 1 v5 (c.lens.map (.int .i64)) β5 ∧ β = β1 ++ (β2 ++ (β3 ++ (β4 ++ β5)))
def Zy9 : List Z0 → List Col → Zc → Prop
  | [], [], β => β = []
  | w :: ws, c :: cs, β => ∃ β1 γ, ColG w c β1 ∧ Zy9 ws cs γ ∧ β = β1 ++ γ
  | _, _, _ => False
theorem Zy9.len : ∀ {ws : List Z0} {cs : List Col} {β : Zc}, Zy9 ws cs β → ws.length = cs.length
  | [], [], _, _ => rfl
  | _ :: _, _ :: _, _, ⟨_, _, _, h, _⟩ => by rw [List.length_cons, List.length_cons, h.len]
  | [], _ :: _, _, h => h.elim
  | _ :: _, [], _, h => h.elim
theorem Zya {α : Type} (a b c : List α) : (a ++ (b ++ c)).Perm (b ++ (a ++ c)) := by
  rw [← List.append_assoc, ← List.append_assoc]
  exact List.Perm.append_right c List.perm_append_comm
theorem Zy9.pick : ∀ {ws : List Z0} {cs : List Col} {β : Zc} (i : Nat) (w : Z0) (c : Col), Zy9 ws cs β → ws[i]? = some w → cs[i]? = some c →
    ∃ β1 γ, ColG w c β1 ∧ β.Perm (β1 ++ γ) ∧ ∀ w' c' β', ColG w' c' β' → ∃ δ, Zy9 (ws.set i w') (cs.set i c') δ ∧ δ.Perm (β' ++ γ)
  | [], [], _, i, w, c, _, h1, _ => by simp at h1
  | [], _ :: _, _, _, _, _, h, _, _ => h.elim
  | _ :: _, [], _, _, _, _, h, _, _ => h.elim
  | x :: ws, y :: cs, β, 0, w, c, ⟨β1, γ, h1, h2, h3⟩, e1, e2 => by
    simp only [List.getElem?_cons_zero, Option.some.injEq] at e1 e2
    subst e1 e2 h3
    exact ⟨β1, γ, h1, List.Perm.refl _, fun w' c' β' h' => ⟨β' ++ γ, ⟨β', γ, h', h2, rfl⟩, List.Perm.refl _⟩⟩
  | x :: ws, y :: cs, β, i + 1, w, c, ⟨β1, γ, h1, h2, h3⟩, e1, e2 => by
    simp only [List.getElem?_cons_succ] at e1 e2
    obtain ⟨η, γ', g1, g2, g3⟩ := Zy9.pick i w c h2 e1 e2
    subst h3
    refine ⟨η, β1 ++ γ', g1, (List.Perm.append_left β1 g2).trans (Zya _ _ _), fun w' c' β' h' => ?_⟩
    obtain ⟨δ, k1, k2⟩ := g3 w' c' β' h'
    exact ⟨β1 ++ δ, ⟨β1, δ, h1, k1, rfl⟩, (List.Perm.append_left β1 k2).trans (Zya _ _ _)⟩
theorem ColG.nil : ColG (.agg [.slc 0 [] true, .slc 0 [] true, .slc 0 [] true, .slc 0 [] true, .slc 0 [] true]) ⟨[], [], [], [], []⟩ [] :=
  ⟨_, _, _, _, _, [], [], [], [], [], rfl, Zbr.nil 1 0, Zbr.nil 1 0, Zbr.nil 1 0, Zbr.nil 1 0, Zbr.nil 1 0, rfl⟩
theorem Zy9.nil : ∀ n, Zy9 (List.replicate n (.agg [.slc 0 [] true, .slc 0 [] true, .slc 0 [] true, .slc 0 [] true, .slc 0 [] true])) (List.replicate n ⟨[], [], [], [], []⟩) []
  | 0 => rfl
  | n + 1 => ⟨[], [], ColG.nil, Zy9.nil n, rfl⟩
theorem Zyb {α : Type} (x : α) (a m r : List α) : (m ++ (x :: (a ++ r))).Perm (x :: (a ++ (m ++ r))) :=
  (Zya m [x] (a ++ r)).trans (List.Perm.cons x (Zya m a r))
theorem Zyd {β τ : Zc} {b : Nat} {x : Zb} (h : (Zh (β ++ (b, x) :: τ)).Nodup) : Zd (β ++ (b, x) :: τ) b = some x := by
  have hb : b ∉ Zh β := by
    intro hb
    rw [Zh, List.map_append, List.nodup_append] at h
    exact h.2.2 b hb b (by simp) rfl
  rw [Zah hb]
  exact Z8z
end Go.Abs
namespace Go.Abs
open Go Go.Proofs
set_option linter.unusedVariables false
set_option linter.unusedSimpArgs false
instance : Inhabited Col := ⟨⟨[], [], [], [], []⟩⟩
def col0 : Col := ⟨[], [], [], [], []⟩
def Zye (k : Int) (v : Vl) (c : Col) : Col :=
  if Zmb k = true then { c with texts := c.texts ++ [v.b] }
  else if k = 10 then { c with lens := c.lens ++ [(v.kids.length : Int)] }
  else if k = 11 then { c with lens := c.lens ++ [((v.kids.length / 2 : Nat) : Int)] }
  else if k ≠ 12 then { c with ints := c.ints ++ [v.i] }
  else c
def Zyf (k : Int) (v : Vl) (c : Col) : Col := if k = 9 then { c with ns := c.ns ++ [v.n] } else c
def Zyg (b : Bool) (c : Col) : Col := { c with here := c.here ++ [b] }
def addC (k : Int) (v : Vl) (c : Col) : Col := Zyf k v (Zye k v (Zyg true c))
def kidC (l : List Nd) (at_ : Nat) (k i : Int) (j : Nat) : Nat :=
  match l[at_]? with
  | some nd => nd.kids.getD (Zmf k i j) 0
  | none => 0
def Zyh (l : List Nd) (at_ : Nat) : Int :=
  match l[at_]? with
  | some nd => nd.t.kind
  | none => 0
mutual
def putF (l : List Nd) (at_ : Nat) : Vl → List Col → List Col × Bool
  | .mk nu i n b ks, cols =>
    if 16384 ≤ (cols.getD at_ col0).here.length then (cols, false)
    else if nu = true then (cols.set at_ (Zyg false (cols.getD at_ col0)), true)
    else putL l at_ i 0 ks (cols.set at_ (addC (Zyh l at_) (.mk nu i n b ks) (cols.getD at_ col0)))
def putL (l : List Nd) (at_ : Nat) (i : Int) (j : Nat) : List Vl → List Col → List Col × Bool
  | [], cols => (cols, true)
  | v :: vs, cols =>
    let r := putF l (kidC l at_ (Zyh l at_) i j) v cols
    if r.2 = true then putL l at_ i (j + 1) vs r.1 else (r.1, false)
end
inductive At (l : List Nd) : Nat → Ty → Prop
  | mk {at_ : Nat} {t : Ty} {nd : Nd} (h : l[at_]? = some nd) (ht : nd.t = t) (hk : nd.kids.length = t.kids.length)
      (hkids : ∀ (j x : Nat) (u : Ty), nd.kids[j]? = some x → t.kids[j]? = some u → At l x u) : At l at_ t
theorem Zyi : ∀ (ks : List Ty) (a : Nat), (Zly a ks).length = ks.length
  | [], _ => rfl
  | t :: ks, a => by rw [Zly, List.length_cons, List.length_cons, Zyi ks]
theorem Zyj : ∀ (ks : List Ty) (a j x : Nat), (Zly a ks)[j]? = some x → x = a + cntL (ks.take j)
  | [], a, j, x, h => by simp [Zly] at h
  | t :: ks, a, 0, x, h => by simp [Zly] at h; simp [cntL, h]
  | t :: ks, a, j + 1, x, h => by
    simp only [Zly, List.getElem?_cons_succ] at h
    rw [Zyj ks _ j x h, List.take_succ_cons, cntL]
    omega
theorem Zyk : ∀ (ks : List Ty) (a j : Nat) (p : Int) (d : Nat) (u : Ty), ks[j]? = some u → ∃ post, Zm0 a p d ks = Zm0 a p d (ks.take j) ++ (Zlz (a + cntL (ks.take j)) p d u ++ post)
  | [], a, j, p, d, u, h => by simp at h
  | t :: ks, a, 0, p, d, u, h => by
    simp only [List.getElem?_cons_zero, Option.some.injEq] at h
    subst h
    exact ⟨Zm0 (a + cnt t) p d ks, by simp only [List.take_zero, cntL, Zm0, List.nil_append, Nat.add_zero]⟩
  | t :: ks, a, j + 1, p, d, u, h => by
    simp only [List.getElem?_cons_succ] at h
    obtain ⟨post, hp⟩ := Zyk ks (a + cnt t) j p d u h
    refine ⟨post, ?_⟩
    rw [Zm0, hp, List.take_succ_cons, Zm0, cntL, List.append_assoc, Nat.add_assoc]
theorem Zyl : ∀ (t : Ty) (pre post : List Nd) (p : Int) (d : Nat), At (pre ++ (Zlz pre.length p d t ++ post)) pre.length t := by
  refine Ty.ind fun k ns ks le pr sc ih pre post p d => ?_
  rw [Zlz]
  refine At.mk (nd := ⟨.mk k ns ks le pr sc, Zly (pre.length + 1) ks, p, d⟩) (by rw [List.getElem?_append_right (Nat.le_refl _), Nat.sub_self]; rfl) rfl (Zyi ks _) fun j x u hx hu => ?_
  have hx' := Zyj _ _ _ _ hx
  have hu' : ks[j]? = some u := hu
  obtain ⟨post', hp⟩ := Zyk ks (pre.length + 1) j (pre.length : Int) (d + 1) u hu'
  have hlen : (Zm0 (pre.length + 1) (pre.length : Int) (d + 1) (ks.take j)).length = cntL (ks.take j) := Zng _ _ _ _
  have := ih u (List.mem_of_getElem? hu') (pre ++ (⟨.mk k ns ks le pr sc, Zly (pre.length + 1) ks, p, d⟩ :: Zm0 (pre.length + 1) (pre.length : Int) (d + 1) (ks.take j))) (post' ++ post) (pre.length : Int) (d + 1)
  have hl2 : (pre ++ ((⟨.mk k ns ks le pr sc, Zly (pre.length + 1) ks, p, d⟩ : Nd) :: Zm0 (pre.length + 1) (pre.length : Int) (d + 1) (ks.take j))).length = x := by
    rw [List.length_append, List.length_cons, hlen, hx']; omega
  rw [hl2] at this
  rw [hp, ← hx']
  simpa [List.append_assoc] using this
theorem At.lt {l : List Nd} {at_ : Nat} {t : Ty} (h : At l at_ t) : at_ < l.length := by
  cases h with
  | mk h _ _ _ => exact (List.getElem?_eq_some_iff.1 h).1
theorem Zym (t : Ty) (h : Zlx t = 0) : At (Zm4 t) 0 t := by
  have := Zyl t [] [] (-1) 1
  rw [Zm4, if_pos h]
  simpa using this
end Go.Abs

