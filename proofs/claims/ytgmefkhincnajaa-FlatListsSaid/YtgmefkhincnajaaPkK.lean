/- Part K of a proof: merged by program. -/
import Derived.Test.YtgmefkhincnajaaPkG
import Derived.Test.YtgmefkhincnajaaProg
import Derived.KernelRfl
namespace Go.Abs
open Go
def Zgo : List Z2a := [
  ⟨some 1, (.box 6), [.t 0], none⟩,
  ⟨some 2, .mov, [.c (.slc 0 [] true)], none⟩]
def Zgp : List Z2a := [
  ⟨some 3, (.load true 6), [.t 1], none⟩,
  ⟨some 4, (.call Ze2), [.t 3], none⟩,
  ⟨some 5, (.bin .neq), [.t 4, .c (.int .i64 0)], none⟩]
def Zgq : List Z2a := [
  ⟨some 2, .mov, [.c (.slc 0 [] true)], none⟩]
def Zgr : List Z2a := [
  ⟨some 6, (.load true 6), [.t 1], none⟩,
  ⟨some 7, (.call Ze4), [.c (.slc 0 [] true), .t 6, .c (.int .i64 (-1)), .c (.int .i64 1)], none⟩,
  ⟨some 8, (.call Ze3), [.t 7], none⟩,
  ⟨some 2, .mov, [.t 8], none⟩]
def Zgs : Z2y := ⟨9, (.seq (.region Zgo [1]) (.seq (.seq (.region Zgp [1, 5]) (.cond (.t 5) (.seq (.region Zgq [2]) .ret) .skip)) (.seq (.region Zgr [2]) .ret))), [.t 2]⟩
def Zhg : List Z2a := [
  ⟨some 5, (.box 6), [.t 1], none⟩,
  ⟨some 8, .mov, [.c (.slc 0 [] true)], none⟩]
def Zhh : List Z2a := [
  ⟨some 13, .mov, [.t 0], none⟩,
  ⟨some 14, .lens, [.t 13], none⟩,
  ⟨some 9, .mov, [.t 14], none⟩]
def Zhi : List Z2a := [
  ⟨some 15, .mov, [.t 0], none⟩,
  ⟨some 16, (.fad 0), [.t 5], none⟩,
  ⟨some 17, (.load false 1), [.t 16], none⟩,
  ⟨some 18, (.fad 1), [.t 5], none⟩,
  ⟨some 19, (.load false 1), [.t 18], none⟩,
  ⟨some 20, (.callp Zfb), [.t 19], none⟩,
  ⟨some 21, (.callp Zfa), [.t 20], none⟩,
  ⟨some 22, (.fad 3), [.t 5], none⟩,
  ⟨some 23, (.load false 1), [.t 22], none⟩,
  ⟨some 24, (.fad 4), [.t 5], none⟩,
  ⟨some 25, (.load false 1), [.t 24], none⟩,
  ⟨some 26, (.fad 5), [.t 5], none⟩,
  ⟨some 27, (.load false 1), [.t 26], none⟩,
  ⟨some 28, .mov, [.t 2], none⟩,
  ⟨some 29, .mov, [.t 3], none⟩,
  ⟨some 30, (.bld [(.int .i64 0), (.slc 0 [] true), (.slc 0 [] true), (.int .i64 0), (.int .i64 0), (.int .i64 0), (.int .i64 0), (.int .i64 0)] [(0, 1), (1, 1), (2, 1), (3, 1), (4, 1), (5, 1), (6, 1), (7, 1)]), [.t 17, .c (.slc 0 [] true), .t 21, .t 23, .t 25, .t 27, .t 28, .t 29], none⟩,
  ⟨some 31, (.bsl 8), [.t 30], none⟩,
  ⟨some 32, (.app 8 96), [.t 15, .t 31], none⟩,
  ⟨some 0, .mov, [.t 32], none⟩]
def Zhj : List Z2a := [
  ⟨some 10, .mov, [.c (.slc 0 [] true)], none⟩]
def Zhk : List Z2a := [
  ⟨some 33, (.fad 2), [.t 5], none⟩,
  ⟨some 34, (.load false 1), [.t 33], none⟩,
  ⟨some 35, .lens, [.t 34], none⟩,
  ⟨some 36, .mov, [.c (.int .i64 0)], none⟩]
def Zhl : List Z2a := [
  ⟨some 37, (.bin .lss), [.t 36, .t 35], none⟩]
def Zhm : List Z2a := [
  ⟨some 38, (.iad 6), [.t 34, .t 36], none⟩,
  ⟨some 39, (.load true 6), [.t 38], none⟩,
  ⟨some 12, (.alloc (.agg [(.int .i64 0), (.slc 0 [] true), (.slc 0 [] true), (.int .i64 0), (.int .i64 0), (.int .i64 0)])), [], none⟩,
  ⟨none, (.store 6), [.t 12, .t 39], none⟩]
def Zhn : List Z2a := [
  ⟨some 40, .mov, [.t 10], none⟩,
  ⟨some 41, .mov, [.t 0], none⟩,
  ⟨some 42, .lens, [.t 41], none⟩,
  ⟨some 43, (.bsl 1), [.t 42], none⟩,
  ⟨some 44, (.app 1 8), [.t 40, .t 43], none⟩,
  ⟨some 10, .mov, [.t 44], none⟩]
def Zho : List Z2a := [
  ⟨some 45, .mov, [.t 0], none⟩,
  ⟨some 46, (.load true 6), [.t 12], none⟩,
  ⟨some 47, .mov, [.t 9], none⟩,
  ⟨some 48, .mov, [.t 3], none⟩,
  ⟨some 49, (.bin .add), [.t 48, .c (.int .i64 1)], none⟩,
  ⟨some 50, (.call Ze4), [.t 45, .t 46, .t 47, .t 49], none⟩,
  ⟨some 0, .mov, [.t 50], none⟩]
def Zhp : List Z2a := [
  ⟨some 51, (.bin .add), [.t 36, .c (.int .i64 1)], none⟩,
  ⟨some 36, .mov, [.t 51], none⟩]
def Zhq : Z2b := (.seq (.region Zhl [0, 3, 9, 10, 34, 35, 36, 37]) (.seq (.cond (.t 37) .skip (.exit 0)) (.seq (.block 1 (.seq (.region Zhm [0, 3, 9, 10, 12, 34, 35, 36]) (.seq (.region Zhn [0, 3, 9, 10, 12, 34, 35, 36]) (.region Zho [0, 3, 9, 10, 34, 35, 36])))) (.region Zhp [0, 3, 9, 10, 34, 35, 36]))))
def Zhr : List Z2a := [
  ⟨some 52, .mov, [.t 0], none⟩,
  ⟨some 53, .mov, [.t 9], none⟩,
  ⟨some 54, .mov, [.t 10], none⟩,
  ⟨some 55, (.call Zfc), [.t 54], none⟩,
  ⟨some 56, (.iad 8), [.t 52, .t 53], none⟩,
  ⟨some 57, (.fad 1), [.t 56], none⟩,
  ⟨none, (.store 1), [.t 57, .t 55], none⟩]
def Zhs : List Z2a := [
  ⟨some 58, .mov, [.t 0], none⟩,
  ⟨some 8, .mov, [.t 58], none⟩]
def Zht : Z2y := ⟨59, (.seq (.region Zhg [0, 2, 3, 5]) (.seq (.region Zhh [0, 2, 3, 5, 9]) (.seq (.region Zhi [0, 3, 5, 9]) (.seq (.region Zhj [0, 3, 5, 9, 10]) (.seq (.seq (.region Zhk [0, 3, 9, 10, 34, 35, 36]) (.block 0 (.loop Zhq))) (.seq (.region Zhr [0]) (.seq (.region Zhs [8]) .ret))))))), [.t 8]⟩
end Go.Abs
namespace Go.Abs
open Go Go.Proofs
theorem Zl8 : Z2z Try.prog [] Zcs = some Zgs.erase := by kernel_rfl
theorem Zld : Z2z Try.prog [(2, 6), (2, 5)] Ze4 = some Zht.erase := by kernel_rfl
end Go.Abs
namespace Go.Abs
open Go Go.Proofs
set_option linter.unusedVariables false
set_option linter.unusedSimpArgs false
set_option maxHeartbeats 4000000
attribute [local irreducible] AWp aops KP
def Z1l9 (a b : Stt) : Bool := decide (a.count = b.count) && ((a.null == b.null) && ((a.has == b.has) && (Z1az a.min b.min && (Z1az a.max b.max && ((a.sums == b.sums) && decide (a.sum = b.sum))))))
end Go.Abs
namespace Go.Abs
open Go Go.Proofs
set_option linter.unusedVariables false
set_option linter.unusedSimpArgs false
set_option maxHeartbeats 4000000
attribute [local irreducible] AWp aops KP
end Go.Abs
namespace Go.Abs
open Go Go.Proofs
set_option linter.unusedVariables false
set_option linter.unusedSimpArgs false
mutual
def fewT (deep : Nat) : Ty → Nat
  | .mk k ns ks l p s => if 20 < deep ∨ 300 < ks.length ∨ 300 < ns.length then 1000 else if ns.any (fun s => decide (200 < s.length)) = true then 1000 else fewTL (deep + 1) 1 ks
def fewTL (deep n : Nat) : List Ty → Nat
  | [] => n
  | t :: ts => if 1000 < n + fewT deep t then 1000 else fewTL deep (n + fewT deep t) ts
end
mutual
def fewV (deep : Nat) : Vl → Nat
  | .mk nu i n b ks => if 20 < deep ∨ 400 < ks.length ∨ 5000 < b.length then 1000 else fewVL (deep + 1) (1 + b.length / 50) ks
def fewVL (deep n : Nat) : List Vl → Nat
  | [] => n
  | t :: ts => if 1000 < n + fewV deep t then 1000 else fewVL deep (n + fewV deep t) ts
end
inductive Ty.Few : Ty → Prop
  | mk {t : Ty} (h1 : t.kids.length ≤ 300) (h2 : t.names.length ≤ 300) (h4 : ∀ s ∈ t.names, s.length ≤ 200) (h : ∀ k ∈ t.kids, Ty.Few k) : Ty.Few t
theorem Ty.Few.fit : ∀ t : Ty, t.Few → t.Fit := by
  refine Ty.ind fun k ns ks l p s ih h => ?_
  cases h with
  | mk h1 h2 h4 h3 => exact .mk (by omega) (by omega) (fun s hs => Nat.le_trans (h4 s hs) (by unfold maxLen; omega)) fun t ht => ih t ht (h3 t ht)
inductive Vl.Few : Vl → Prop
  | mk {v : Vl} (h1 : v.b.length ≤ 5000) (h2 : v.kids.length ≤ 400) (h : ∀ k ∈ v.kids, Vl.Few k) : Vl.Few v
def fewR (n : Nat) : List Vl → Bool
  | [] => true
  | v :: vs => if 1000 < n + fewV 1 v then false else fewR (n + fewV 1 v) vs
end Go.Abs
namespace Go.Abs
open Go Go.Proofs
set_option linter.unusedVariables false
set_option linter.unusedSimpArgs false
set_option maxHeartbeats 4000000
attribute [local irreducible] AWp aops KP
def few15 (t : Ty) (rows : List Vl) : Bool := decide (fewT 1 t ≤ 150) && (decide (rows.length ≤ 200) && fewR 0 rows)
end Go.Abs
namespace Go.Abs
open Go Go.Proofs
set_option linter.unusedVariables false
set_option linter.unusedSimpArgs false
set_option maxHeartbeats 4000000
attribute [local irreducible] AWp aops KP
theorem Znj : ∀ (t : Ty), t.Small → ∀ (v : Z0) (xs : List Z0) (β : Zc) (parent : Int) (deep : Nat) (σ : Zc), Zbr 8 v xs β → xs.length + cnt t ≤ 1000 → deep + cnt t ≤ 1000 →
    Z1q Try.prog Ze4 [v, encT t, .int .i64 parent, .int .i64 (deep : Int)] (β ++ σ) fun r σ' => ∃ β', Zbr 8 r (xs ++ (Zlz xs.length parent deep t).map encN) β' ∧ σ' = β' ++ σ := by
  refine Ty.ind fun k ns ks l p s ih hsmall v xs β parent deep σ ho hx hd => ?_
  cases hsmall with
  | mk hk1 hn1 hn4 hkids =>
  simp only [encT, Ty.kind, Ty.names, Ty.kids, Ty.len, Ty.prec, Ty.scale] at *
  have hlenks := Znc ks
  refine Z8t rfl Zld (Nat.le_of_ble_eq_true rfl) ?_
  refine Z9z ?_
  refine Z9j rfl (Z0.fit_iff.1 rfl) fun pb hpb => ?_
  (repeat (refine st_q rfl rfl rfl ?_))
  (refine Z8y ?_; (repeat (first | refine Z9v rfl ?_ | refine Z9w ?_)); refine Z9u ?_)
  refine Zb3 (d := 5) (cs := [.int .i64 k, .slc 1 (ns.map .str) false, .slc 6 (Zln ks) false, .int .i64 l, .int .i64 p, .int .i64 s]) rfl ?_
  refine Z9z ?_
  refine st_q rfl rfl rfl ?_
  refine Zas rfl ho.lens ?_
  (repeat (refine st_q rfl rfl rfl ?_))
  (refine Z8y ?_; (repeat (first | refine Z9v rfl ?_ | refine Z9w ?_)); refine Z9u ?_)
  refine Z9z ?_
  (repeat (refine st_q rfl rfl rfl ?_))
  refine Zbw rfl (Znb _ _ (Zni ns) (by rw [List.length_map]; omega)) ?_
  refine Zbw rfl (Zn5 _ _) ?_
  (repeat (refine st_q rfl rfl rfl ?_))
  refine Zbs (ys := [.agg [.int .i64 k, .slc 0 [] true, .slc 1 (ns.map .str) true, .int .i64 l, .int .i64 p, .int .i64 s, .int .i64 parent, .int .i64 (deep : Int)]]) ho rfl rfl (by simp only [List.length_cons, List.length_nil]; omega) fun b1 hb1 => ?_
  (repeat (first | refine st_q rfl rfl rfl ?_ | (refine Z8y ?_; (repeat (first | refine Z9v rfl ?_ | refine Z9w ?_)); refine Z9u ?_) | refine awp_seq ?_ | refine Zbm (fun _ _ => rfl) ?_ | refine Z8h ?_))
  rw [Zlr]
  obtain ⟨x0, hx0⟩ : ∃ x0, x0 = Z0.agg [.int .i64 k, .slc 0 [] true, .slc 1 (ns.map .str) true, .int .i64 l, .int .i64 p, .int .i64 s, .int .i64 parent, .int .i64 (deep : Int)] := ⟨_, rfl⟩
  rw [← hx0]
  refine Zaa (fun m F σ' => ∃ (i b : Nat) (vk : Z0) (βk : Zc) (R : List Z0), F = fset 0 (some (.arr 8 b 0 R.length)) (fset 3 (some (.int .i64 (deep : Int))) (fset 9 (some (.int .i64 (xs.length : Int))) (fset 10 (some vk) (fset 34 (some (.slc 6 (Zln ks) false)) (fset 35 (some (.int .i64 (ks.length : Int))) (fset 36 (some (.int .i64 (i : Int))) Z27)))))) ∧
    σ' = (b, .cells 8 R) :: (βk ++ σ) ∧ R = xs ++ x0 :: (Zm0 (xs.length + 1) (xs.length : Int) (deep + 1) (ks.take i)).map encN ∧ Zbr 1 vk (ints (Zly (xs.length + 1) (ks.take i))) βk ∧ i ≤ ks.length ∧ m = ks.length - i) (n := ks.length)
    ⟨0, b1, _, [], _, rfl, rfl, rfl, Zbr.nil 1 0, by omega, rfl⟩ ?_
  rintro m F σ' ⟨i, b, vk, βk, R, rfl, rfl, hR, hok, hi, rfl⟩
  have hRl : R.length = xs.length + 1 + cntL (ks.take i) := by rw [hR]; simp [Zng]; omega
  (repeat (first | refine st_q rfl rfl rfl ?_ | (refine Z8y ?_; (repeat (first | refine Z9v rfl ?_ | refine Z9w ?_)); refine Z9u ?_) | refine awp_seq ?_ | refine Zbm (fun _ _ => rfl) ?_))
  refine Za3 (p := (i : Int) < (ks.length : Int)) rfl (fun h3 => ?_) (fun h3 => ?_)
  · have hil : i < ks.length := by omega
    have Zd : ks[i]? = some ks[i] := List.getElem?_eq_getElem hil
    have hx' : (Zln ks)[(i : Int).toNat]? = some (encT ks[i]) := Zls (by rw [Int.toNat_natCast, Zd])
    have hcn := Znh ks i _ Zd
    have hkl := Zne ks (xs.length + 1) i _ Zd
    have hfl := Znf ks (xs.length + 1) i (xs.length : Int) (deep + 1) _ Zd
    simp only [cnt] at hx hd
    (repeat (first | refine awp_seq ?_ | refine Zbm (fun _ _ => rfl) ?_ | refine Z8h ?_ | refine Zbn (fun _ _ => rfl) ?_))
    refine Z93 rfl (by omega) hx' ?_
    rw [Zlp]
    (repeat refine st_q rfl rfl rfl ?_)
    refine Z9k (by simp [Z0.cells, Z0.one]) fun vb hvb => ?_
    refine Z9a rfl Z8z rfl (by decide) (Z0.fit_iff.1 rfl) (fun h => by cases h) Z9b ?_
    (refine Z8y ?_; (repeat (first | refine Z9v rfl ?_ | refine Z9w ?_)); refine Z9u ?_)
    refine Zb3 (d := 12) (cs := Zlo ks[i]) rfl ?_
    refine Zb4 (β := [(b, .cells 8 R)]) (γ := βk) ?_
    refine awp_seq ?_
    refine Zbm (fun _ _ => rfl) ?_
    (repeat (refine st_q rfl rfl rfl ?_))
    refine Zbs (ys := [.int .i64 (R.length : Int)]) hok rfl rfl (by
      simp only [List.length_cons, List.length_nil, ints, List.length_map]
      have : ∀ (l : List Ty) (a : Nat), (Zly a l).length = l.length := by
        intro l; induction l with
        | nil => intro a; rfl
        | cons t l ih => intro a; simp [Zly, ih]
      rw [this, List.length_take]; omega) fun b2 hb2 => ?_
    (repeat (refine st_q rfl rfl rfl ?_))
    (refine Z8y ?_; (repeat (first | refine Z9v rfl ?_ | refine Z9w ?_)); refine Z9u ?_)
    refine Zb4 (β := [(b2, .cells 1 _)]) (γ := [(b, .cells 8 R)]) ?_
    refine Zbm (fun _ _ => rfl) ?_
    (repeat (refine st_q rfl rfl rfl ?_))
    rw [show IntKind.wrap .i64 ((deep : Int) + 1) = ((deep + 1 : Nat) : Int) by rw [w64 _ (by omega) (by omega)]; omega]
    have hcw := ih ks[i] (List.getElem_mem hil) (hkids _ (List.getElem_mem hil)) (.arr 8 b 0 R.length) R [(b, .cells 8 R)] (xs.length : Int) (deep + 1) ([(b2, .cells 1 (ints (Zly (xs.length + 1) (ks.take i)) ++ [.int .i64 (R.length : Int)]))] ++ σ) Zbr.mk (by omega) (by omega)
    rw [Zlp] at hcw
    refine Z9s rfl hcw ?_ ?_
    · obtain ⟨gv, gβ, hgr⟩ := Zbr.ex 8 (R ++ (Zlz R.length (xs.length : Int) (deep + 1) ks[i]).map encN)
      exact ⟨_, _, gβ, hgr, rfl⟩
    rintro r2 _ ⟨β2, ho2, rfl⟩
    obtain ⟨b3, rfl, rfl⟩ := ho2.arr (by rw [hR]; simp)
    (repeat (refine st_q rfl rfl rfl ?_))
    (refine Z8y ?_; (repeat (first | refine Z9v rfl ?_ | refine Z9w ?_)); refine Z9u ?_)
    refine Zbp ?_
    (repeat (refine st_q rfl rfl rfl ?_))
    rw [show IntKind.wrap .i64 ((i : Int) + 1) = ((i + 1 : Nat) : Int) by rw [w64 _ (by omega) (by omega)]; omega]
    (refine Z8y ?_; (repeat (first | refine Z9v rfl ?_ | refine Z9w ?_)); refine Z9u ?_)
    refine ⟨_, ks.length - (i + 1), HSub.refl _, ⟨i + 1, b3, _, _, _, rfl, rfl, ?_, ?_, by omega, rfl⟩, by omega⟩
    · rw [hfl, hRl, hR]; simp
    · rw [hkl]
      have e : ints (Zly (xs.length + 1) (ks.take i) ++ [xs.length + 1 + cntL (ks.take i)]) = ints (Zly (xs.length + 1) (ks.take i)) ++ [.int .i64 (R.length : Int)] := by
        rw [hRl]; simp [ints]
      rw [e]
      exact Zbr.mk
  · have hie : i = ks.length := by omega
    subst hie
    rw [List.take_length] at hR hok
    refine Zbo (fun _ _ => rfl) ?_
    refine Zb4 (β := [(b, .cells 8 R)]) (γ := βk) ?_
    refine Z9z ?_
    (repeat (refine st_q rfl rfl rfl ?_))
    refine Z9t rfl (Zn8 hok ([(b, .cells 8 R)] ++ σ)) ?_
    refine Z94 rfl ⟨by omega, by omega⟩ ?_
    (repeat (refine st_q rfl rfl rfl ?_))
    have hxat : R[0 + ((xs.length : Nat) : Int).toNat]? = some x0 := by
      rw [hR, Nat.zero_add, Int.toNat_natCast]; simp
    refine Z9a rfl Z8z hxat (by decide) (Z0.fit_iff.1 rfl) (fun h => by rw [hx0] at h; cases h) Z9b ?_
    (repeat (first | refine st_q rfl rfl rfl ?_ | (refine Z8y ?_; (repeat (first | refine Z9v rfl ?_ | refine Z9w ?_)); refine Z9u ?_) | refine awp_seq ?_ | refine Zbm (fun _ _ => rfl) ?_))
    refine Z8d ?_
    refine ares rfl (HSub.refl _) ⟨_, .inr ⟨b, ?_, rfl⟩, ?_⟩
    · simp [Z8m, hR, Zlz, Zng]
    · have e : R.set (0 + ((xs.length : Nat) : Int).toNat) (Z1r x0 (0 + 1) (Z0.slc 1 (ints (Zly (xs.length + 1) ks)) true).cells) = xs ++ (Zlz xs.length parent deep (.mk k ns ks l p s)).map encN := by
        rw [hR, Nat.zero_add, Int.toNat_natCast, List.set_append_right _ _ (Nat.le_refl _), Nat.sub_self, List.set_cons_zero, hx0, Zlz]
        rfl
      rw [e]; rfl
theorem Znk (t : Ty) (h : t.Fit) (σ : Zc) : Z1q Try.prog Zcs [encT t] σ fun r σ' => r = .slc 8 ((Zm4 t).map encN) true ∧ σ' = σ := by
  have hc := Zn1 t h σ
  have hf := fun (hs : t.Small) => Znj t hs (.slc 0 [] true) [] [] (-1) 1 σ (Zbr.nil 8 0)
  rw [Zlp] at *
  refine Z8t rfl Zl8 (Nat.le_of_ble_eq_true rfl) ?_
  refine Z9z ?_
  refine Z9j rfl (Z0.fit_iff.1 rfl) fun pb hpb => ?_
  (repeat (refine st_q rfl rfl rfl ?_))
  (refine Z8y ?_; (repeat (first | refine Z9v rfl ?_ | refine Z9w ?_)); refine Z9u ?_)
  refine Zb3 (d := 1) (cs := Zlo t) rfl ?_
  (repeat (first | refine st_q rfl rfl rfl ?_ | refine awp_seq ?_ | refine Zbm (fun _ _ => rfl) ?_))
  refine Z9t rfl hc ?_
  (repeat (first | refine st_q rfl rfl rfl ?_ | (refine Z8y ?_; (repeat (first | refine Z9v rfl ?_ | refine Z9w ?_)); refine Z9u ?_)))
  by_cases h0 : Zlx t = 0
  · have hs := Znd t 1 0 h0
    (rw [show decide (((Zlx t : Nat) : Int) ≠ 0) = false from decide_eq_false (by omega)])
    (repeat (first | refine st_q rfl rfl rfl ?_ | refine awp_seq ?_ | refine Zbm (fun _ _ => rfl) ?_ | refine Zbn (fun _ _ => rfl) ?_ | refine Z8f (t := false) rfl (fun e => by cases e) (fun _ => ?_)))
    refine Z9s rfl (hf hs.2.1 (by simp; omega) (by omega)) ?_ ?_
    · obtain ⟨gv, gβ, hgr⟩ := Zbr.ex 8 ([] ++ (Zlz 0 (-1) 1 t).map encN)
      exact ⟨_, _, gβ, hgr, rfl⟩
    rintro r2 _ ⟨β2, ho2, rfl⟩
    refine Z9t rfl (Zna ho2 σ) ?_
    (repeat (first | refine st_q rfl rfl rfl ?_ | (refine Z8y ?_; (repeat (first | refine Z9v rfl ?_ | refine Z9w ?_)); refine Z9u ?_)))
    refine Z8d ?_
    exact ares rfl (HSub.refl _) ⟨by rw [Zm4, if_pos h0]; rfl, rfl⟩
  · (rw [show decide (((Zlx t : Nat) : Int) ≠ 0) = true from decide_eq_true (by omega)])
    (repeat (first | refine st_q rfl rfl rfl ?_ | (refine Z8y ?_; (repeat (first | refine Z9v rfl ?_ | refine Z9w ?_)); refine Z9u ?_) | refine awp_seq ?_ | refine Zbm (fun _ _ => rfl) ?_ | refine Z8f (t := true) rfl (fun _ => ?_) (fun e => by cases e)))
    refine Z8d ?_
    refine Zau rfl ?_ (HSub.refl _) ⟨rfl, rfl⟩
    rw [Zm4, if_neg h0]
    exact VRle.nil_slc 0 8 true
end Go.Abs
namespace Go.Abs
open Go Go.Proofs
set_option linter.unusedVariables false
set_option linter.unusedSimpArgs false
set_option maxHeartbeats 4000000
attribute [local irreducible] AWp aops KP
def tA (k : Int) : Ty := .mk 12 [[97]] [.mk k [] [] 0 0 0] 0 0 0
def vA (i : Int) : Vl := .mk false 0 0 [] [.mk false i 0 [] []]
def vN : Vl := .mk false 0 0 [] [.mk true 0 0 [] []]
def Z1lg : List Vl := [vA 5, vN, vA (-2)]
theorem Z1rv (nu : Bool) (i : Int) (h : -9223372036854775808 ≤ i ∧ i ≤ 9223372036854775807) : (Vl.mk nu i 0 [] []).Fit := .mk h (by simp [Vl.b]) (by simp [Vl.kids]) (by simp [Vl.kids])
theorem Z1rw (v : Vl) (h : v.Fit) : (Vl.mk false 0 0 [] [v]).Fit := .mk (by simp [Vl.i]) (by simp [Vl.b]) (by simp [Vl.kids]) (by simpa [Vl.kids] using h)
def col16 : Col := ⟨[true, false, true], [5, -2], [], [], []⟩
def st16 : Stt := ⟨2, true, true, .mk false (-2) 0 [] [], .mk false 5 0 [] [], true, 3⟩
end Go.Abs
namespace Go.Abs
open Go Go.Proofs
set_option linter.unusedVariables false
set_option linter.unusedSimpArgs false
set_option maxHeartbeats 4000000
attribute [local irreducible] AWp aops KP
theorem Z1li (t : Ty) : (Zm4 t).length ≤ 100 := by
  unfold Zm4
  split
  · rename_i h
    have := (Znd t 1 0 h).2.2
    rw [Zm1]; omega
  · simp
theorem Z1rx (n : Nd) : ∀ c ∈ Zm2 n, c.one = true := by simp [Zm2, Z0.one]
end Go.Abs

