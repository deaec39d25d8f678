/- Part G of a proof: merged by program. -/
import Derived.RangeFuncBox
import Derived.RangeFuncLeaves
import Derived.Shelf.Abstract
import Derived.WalkKit
import Derived.OwnWalkIn
import Derived.TacticsInMore
import Derived.LoopNIn
import Derived.LoopIn
import Derived.BigRegionIn
import Derived.Test.YtgdpmebdoipiaaaProg
import Derived.Test.YtgdpmebdoipiaaaPkF
import Derived.KernelRfl
namespace Go.Abs
open Go
def Zrf : List Z2a := [
  ⟨some 6, .mov, [.c (.slc 0 [] true)], none⟩,
  ⟨some 7, .mov, [.c (.int .i64 0)], none⟩]
def Zrg : List Z2a := [
  ⟨some 13, .mov, [.t 1], none⟩,
  ⟨some 14, (.call Zcw), [.t 13], none⟩,
  ⟨some 15, .unot, [.t 14], none⟩,
  ⟨some 12, .mov, [.t 15], none⟩]
def Zrh : List Z2a := [
  ⟨some 6, .mov, [.c (.slc 0 [] true)], none⟩,
  ⟨some 7, .mov, [.c (.int .i64 7)], none⟩]
def Zri : List Z2a := [
  ⟨some 17, .mov, [.t 2], none⟩,
  ⟨some 18, (.bin .lss), [.t 17, .c (.int .i64 1)], none⟩,
  ⟨some 19, .mov, [.t 18], none⟩,
  ⟨some 20, .mov, [.t 2], some (19, false)⟩,
  ⟨some 21, (.bin .gtr), [.t 20, .c (.int .i64 65536)], some (19, false)⟩,
  ⟨some 22, .pick, [.t 19, .c (.bool true), .t 21], none⟩,
  ⟨some 16, .mov, [.t 22], none⟩]
def Zrj : List Z2a := [
  ⟨some 6, .mov, [.c (.slc 0 [] true)], none⟩,
  ⟨some 7, .mov, [.c (.int .i64 1)], none⟩]
def Zrk : List Z2a := [
  ⟨some 24, .mov, [.t 1], none⟩,
  ⟨some 25, (.bin .eql), [.t 24, .c (.int .i64 0)], none⟩,
  ⟨some 23, .mov, [.t 25], none⟩]
def Zrl : List Z2a := [
  ⟨some 26, .mov, [.t 0], none⟩,
  ⟨some 27, (.call Zcy), [.t 26], none⟩,
  ⟨some 28, (.call Zcx), [.t 27], none⟩,
  ⟨some 6, .mov, [.t 28], none⟩,
  ⟨some 7, .mov, [.c (.int .i64 0)], none⟩]
def Zrm : List Z2a := [
  ⟨some 8, (.alloc (.slc 0 [] true)), [], none⟩]
def Zrn : List Z2a := [
  ⟨some 29, .mov, [.t 0], none⟩,
  ⟨some 30, .mov, [.t 2], none⟩,
  ⟨some 31, (.call Zd2), [.t 29, .t 30], none⟩]
def Zro : List Z2a := [
  ⟨some 9, .mov, [.t 32], none⟩]
def Zrp : List Z2a := [
  ⟨some 33, .mov, [.t 9], none⟩,
  ⟨some 34, (.call Zd3), [.t 33], none⟩,
  ⟨some 10, .mov, [.t 34], none⟩]
def Zrq : List Z2a := [
  ⟨some 35, .mov, [.t 10], none⟩,
  ⟨some 36, .lens, [.t 35], none⟩,
  ⟨some 37, .mov, [.t 9], none⟩,
  ⟨some 38, .lens, [.t 37], none⟩,
  ⟨some 39, (.bin .geq), [.t 36, .t 38], none⟩,
  ⟨some 11, .mov, [.t 39], none⟩]
def Zrr : List Z2a := [
  ⟨some 40, .mov, [.t 11], none⟩]
def Zrs : List Z2a := [
  ⟨some 41, .mov, [.t 9], none⟩,
  ⟨some 10, .mov, [.t 41], none⟩]
def Zrt : List Z2a := [
  ⟨some 42, (.load false 1), [.t 8], none⟩,
  ⟨some 43, .mov, [.t 10], none⟩,
  ⟨some 44, .lens, [.t 43], none⟩,
  ⟨some 45, .mov, [.t 11], none⟩,
  ⟨some 46, (.callp Zct), [.t 44, .t 45], none⟩,
  ⟨some 47, (.app 1 1), [.t 42, .t 46], none⟩,
  ⟨some 48, .mov, [.t 10], none⟩,
  ⟨some 49, (.app 1 1), [.t 47, .t 48], none⟩,
  ⟨none, (.store 1), [.t 8, .t 49], none⟩]
def Zru : Z2b := (.block 2 (.seq (.region Zrp [8, 9, 10]) (.seq (.region Zrq [8, 9, 10, 11]) (.seq (.seq (.region Zrr [8, 9, 10, 11, 40]) (.cond (.t 40) (.region Zrs [8, 10, 11]) .skip)) (.region Zrt [])))))
def Zrv : List Z2a := [
  ⟨some 50, (.load false 1), [.t 8], none⟩,
  ⟨some 51, (.call Zcx), [.t 50], none⟩,
  ⟨some 6, .mov, [.t 51], none⟩,
  ⟨some 7, .mov, [.c (.int .i64 0)], none⟩]
def Zrw : Z2y := ⟨52, (.seq (.region Zrf [0, 1, 2]) (.seq (.block 0 (.seq (.region Zrg [0, 1, 2, 12]) (.cond (.t 12) (.seq (.region Zrh [6, 7]) .ret) (.seq (.region Zri [0, 1, 2, 16]) (.cond (.t 16) (.seq (.region Zrj [6, 7]) .ret) (.seq (.region Zrk [0, 2, 23]) (.cond (.t 23) (.seq (.region Zrl [6, 7]) .ret) .skip))))))) (.seq (.region Zrm [0, 2, 8]) (.seq (.seq (.region Zrn [8, 31]) (.block 1 (.range (.t 31) [32] (.region Zro [8, 9]) Zru))) (.seq (.region Zrv [6, 7]) .ret))))), [.t 6, .t 7]⟩
def Zrx : List Z2a := [
  ⟨some 6, .mov, [.c (.slc 0 [] true)], none⟩,
  ⟨some 7, .mov, [.c (.int .i64 0)], none⟩]
def Zry : List Z2a := [
  ⟨some 11, .mov, [.t 1], none⟩,
  ⟨some 12, (.bin .neq), [.t 11, .c (.int .i64 0)], none⟩,
  ⟨some 13, .mov, [.t 12], none⟩,
  ⟨some 14, .mov, [.t 1], some (13, true)⟩,
  ⟨some 15, (.bin .neq), [.t 14, .c (.int .i64 4)], some (13, true)⟩,
  ⟨some 16, .pick, [.t 13, .t 15, .c (.bool false)], none⟩]
def Zrz : List Z2a := [
  ⟨some 6, .mov, [.c (.slc 0 [] true)], none⟩,
  ⟨some 7, .mov, [.c (.int .i64 7)], none⟩]
def Zs0 : List Z2a := [
  ⟨some 17, .mov, [.t 2], none⟩,
  ⟨some 18, (.bin .lss), [.t 17, .c (.int .i64 1)], none⟩,
  ⟨some 19, .mov, [.t 18], none⟩,
  ⟨some 20, .mov, [.t 2], some (19, false)⟩,
  ⟨some 21, (.bin .gtr), [.t 20, .c (.int .i64 65536)], some (19, false)⟩,
  ⟨some 22, .pick, [.t 19, .c (.bool true), .t 21], none⟩]
def Zs1 : List Z2a := [
  ⟨some 6, .mov, [.c (.slc 0 [] true)], none⟩,
  ⟨some 7, .mov, [.c (.int .i64 1)], none⟩]
def Zs2 : List Z2a := [
  ⟨some 23, .mov, [.t 1], none⟩,
  ⟨some 24, (.bin .eql), [.t 23, .c (.int .i64 0)], none⟩]
def Zs3 : List Z2a := [
  ⟨some 25, (.bsl 1), [], none⟩,
  ⟨some 26, .mov, [.t 0], none⟩,
  ⟨some 27, (.app 1 1), [.t 25, .t 26], none⟩,
  ⟨some 6, .mov, [.t 27], none⟩,
  ⟨some 7, .mov, [.c (.int .i64 0)], none⟩]
def Zs4 : List Z2a := [
  ⟨some 8, .mov, [.c (.slc 0 [] true)], none⟩]
def Zs5 : List Z2a := [
  ⟨some 9, .mov, [.c (.int .i64 0)], none⟩]
def Zs6 : List Z2a := [
  ⟨some 28, .mov, [.t 9], none⟩,
  ⟨some 29, .mov, [.t 0], none⟩,
  ⟨some 30, .lens, [.t 29], none⟩,
  ⟨some 31, (.bin .lss), [.t 28, .t 30], none⟩]
def Zs7 : List Z2a := [
  ⟨some 35, .mov, [.t 9], none⟩,
  ⟨some 36, .mov, [.t 2], none⟩,
  ⟨some 37, (.bin .add), [.t 35, .t 36], none⟩,
  ⟨some 10, .mov, [.t 37], none⟩]
def Zs8 : List Z2a := [
  ⟨some 38, .mov, [.t 10], none⟩,
  ⟨some 39, .mov, [.t 0], none⟩,
  ⟨some 40, .lens, [.t 39], none⟩,
  ⟨some 41, (.bin .gtr), [.t 38, .t 40], none⟩]
def Zs9 : List Z2a := [
  ⟨some 42, .mov, [.t 0], none⟩,
  ⟨some 43, .lens, [.t 42], none⟩,
  ⟨some 10, .mov, [.t 43], none⟩]
def Zsa : List Z2a := [
  ⟨some 44, .mov, [.t 8], none⟩,
  ⟨some 45, .mov, [.t 10], none⟩,
  ⟨some 46, .mov, [.t 9], none⟩,
  ⟨some 47, (.bin .sub), [.t 45, .t 46], none⟩,
  ⟨some 48, (.call Zcu), [.t 47, .c (.bool true)], none⟩,
  ⟨some 49, (.app 1 1), [.t 44, .t 48], none⟩,
  ⟨some 50, .mov, [.t 0], none⟩,
  ⟨some 51, .mov, [.t 9], none⟩,
  ⟨some 52, .mov, [.t 10], none⟩,
  ⟨some 53, (.slc 1 true true false), [.t 50, .t 51, .t 52], none⟩,
  ⟨some 54, (.app 1 1), [.t 49, .t 53], none⟩,
  ⟨some 8, .mov, [.t 54], none⟩]
def Zsb : List Z2a := [
  ⟨some 32, .mov, [.t 9], none⟩,
  ⟨some 33, .mov, [.t 2], none⟩,
  ⟨some 34, (.bin .add), [.t 32, .t 33], none⟩,
  ⟨some 9, .mov, [.t 34], none⟩]
def Zsc : Z2b := (.seq (.seq (.region Zs6 [0, 2, 8, 9, 31]) (.cond (.t 31) .skip (.exit 0))) (.seq (.block 1 (.seq (.region Zs7 [0, 2, 8, 9, 10]) (.seq (.seq (.region Zs8 [0, 2, 8, 9, 10, 41]) (.cond (.t 41) (.region Zs9 [0, 2, 8, 9, 10]) .skip)) (.region Zsa [0, 2, 8, 9])))) (.region Zsb [0, 2, 8, 9])))
def Zsd : List Z2a := [
  ⟨some 55, .mov, [.t 8], none⟩,
  ⟨some 6, .mov, [.t 55], none⟩,
  ⟨some 7, .mov, [.c (.int .i64 0)], none⟩]
def Zse : Z2y := ⟨56, (.seq (.region Zrx [0, 1, 2]) (.seq (.seq (.region Zry [0, 1, 2, 16]) (.cond (.t 16) (.seq (.region Zrz [6, 7]) .ret) .skip)) (.seq (.seq (.region Zs0 [0, 1, 2, 22]) (.cond (.t 22) (.seq (.region Zs1 [6, 7]) .ret) .skip)) (.seq (.seq (.region Zs2 [0, 2, 24]) (.cond (.t 24) (.seq (.region Zs3 [6, 7]) .ret) .skip)) (.seq (.region Zs4 [0, 2, 8]) (.seq (.seq (.region Zs5 [0, 2, 8, 9]) (.block 0 (.loop Zsc))) (.seq (.region Zsd [6, 7]) .ret))))))), [.t 6, .t 7]⟩
def Zsf : List Z2a := [
  ⟨some 2, (.box 1), [.t 0], none⟩,
  ⟨some 3, (.box 1), [.t 1], none⟩,
  ⟨some 4, .mov, [.c .nilf], none⟩]
def Zsg : List Z2a := [
  ⟨some 5, (.load false 1), [.t 3], none⟩,
  ⟨some 6, (.bin .lss), [.t 5, .c (.int .i64 1)], none⟩]
def Zsh : List Z2a := [
  ⟨some 7, (.mki 9), [.c (.str [99, 97, 110, 110, 111, 116, 32, 98, 101, 32, 108, 101, 115, 115, 32, 116, 104, 97, 110, 32, 49])], none⟩,
  ⟨none, .bad, [], none⟩]
def Zsi : List Z2a := [
  ⟨some 8, (.mkf Zd6 0), [.t 2, .t 3], none⟩,
  ⟨some 4, .mov, [.t 8], none⟩]
def Zsj : Z2y := ⟨9, (.seq (.region Zsf [2, 3]) (.seq (.seq (.region Zsg [2, 3, 6]) (.cond (.t 6) (.region Zsh [2, 3]) .skip)) (.seq (.region Zsi [4]) .ret))), [.t 4]⟩
end Go.Abs
namespace Go.Abs
open Go Go.Proofs
theorem Zsk : Z2z Try.prog [(14, 4)] Zcr = some Zrw.erase := by kernel_rfl
theorem Zsl : Z2z Try.prog [] Zcs = some Zse.erase := by kernel_rfl
theorem Zsm : Z2z Try.prog [] Zd2 = some Zsj.erase := by kernel_rfl
end Go.Abs
namespace Go.Proofs
open Go.RowKit Go.Shelf
attribute [local go_sem] Oper.semAt_some
theorem ch_w (n : Int) (h : 0 ≤ n) (h' : n ≤ 9223372036854775807) : IntKind.wrap .i64 n = n := by
  simp only [IntKind.wrap, IntKind.bits, IntKind.signed]
  simp
  omega
set_option maxRecDepth 100000 in
set_option maxHeartbeats 2000000 in
theorem Zsn (F : Fence) (n : Nat) (h7 : F.fn 31) (hro : F.round = none) (hn : 1 ≤ n) (l bS oS bN oN b off len cap size m : Nat) (h1 : 1 ≤ size) (h2 : size ≤ 65536) (hlen : len ≤ 140737488000000) (hcap : len ≤ cap) (hm : ∀ k, k < m ↔ k * size < len) (J : Nat → World → Prop)
    (hS : ∀ k A, J k A → A.cell? ⟨bS, oS, none⟩ = some (.slice (some ⟨b, off, none⟩) len cap)) (hN : ∀ k A, J k A → A.cell? ⟨bN, oN, none⟩ = some (.int .i64 size))
    (hB : ∀ k A, J k A → J k A.drew)
    (hY : ∀ k A, J k A → k < m → YieldAt F (n - 1) Try.prog l #[.slice (some ⟨b, off + k * size, none⟩) (min size (len - k * size)) (min size (len - k * size))] A fun e B => e = .returned (.bool true) ∧ J (k + 1) B)
    (W : World) (h0 : J 0 W) :
    CallsIn F n Try.prog 31 #[.func (.yield l) #[] #[], .pointer (some ⟨bS, oS, none⟩), .pointer (some ⟨bN, oN, none⟩)] W fun e W' => (∃ v, e = .returned v) ∧ J m W' := by
  refine callsIn_of_wp Try.func31 rfl h7 ?_ hro
  simp only [Try.ntmps31, List.size_toArray, List.length_cons, List.length_nil, Nat.reduceAdd, Nat.reduceSub, Array.replicate_succ, Array.replicate_zero, List.push_toArray, List.append_toArray, List.nil_append, List.cons_append]
  gi_wp2
  gi_loopw [4] (fun i wr => ∃ k : Nat, k ≤ m ∧ i = .int .i64 (k * size : Nat) ∧ J k wr)
    (fun i _ => len - (intOf i).toNat)
  case atStart => exact ⟨0, Nat.zero_le _, by simp, h0⟩
  case round =>
    obtain ⟨k, hk, rfl, hJ⟩ := hrel
    have hs := hS k wr hJ
    have hz := hN k wr hJ
    have hkm := hm k
    generalize hi : k * size = i at *
    by_cases hlt : k < m
    · have hil := hkm.1 hlt
      have hI1 : (0 : Int) ≤ (i : Int) := by omega
      have hI2 : (i : Int) ≤ (len : Int) := by omega
      have hJd := hB k wr hJ
      obtain ⟨fn, tmps, assign, body, hy, hR⟩ := hY k wr.drew hJd hlt
      rw [hi] at hy
      by_cases hle : ((len - i : Nat) : Int) < (size : Int)
      · have hy2 := hy
        rw [show min size (len - i) = len - i by omega] at hy
        rw [show min size (len - i) = ((i : Int) + ((len - i : Nat) : Int)).toNat - i by omega] at hy2
        gi_wp2
        gi_region
        all_goals (gi_wp2; refine hR.mono ?_; rintro e W3 ⟨rfl, hJ3⟩; have hz3 := hN _ W3 hJ3; gi_wp2)
        all_goals go_roundw
        all_goals first | exact ⟨k + 1, by omega, by rw [Nat.succ_mul, hi]; simp, hJ3⟩ | (simp [intOf]; omega)
      · have hy2 := hy
        rw [show min size (len - i) = size by omega] at hy
        rw [show min size (len - i) = ((i : Int) + (size : Int)).toNat - i by omega] at hy2
        gi_wp2
        gi_region
        all_goals (gi_wp2; refine hR.mono ?_; rintro e W3 ⟨rfl, hJ3⟩; have hz3 := hN _ W3 hJ3; gi_wp2)
        all_goals go_roundw
        all_goals first | exact ⟨k + 1, by omega, by rw [Nat.succ_mul, hi]; simp, hJ3⟩ | (simp [intOf]; omega)
    · have hil : ¬ i < len := fun h => hlt (hkm.2 h)
      have : k = m := by omega
      subst this
      gi_wp2
      go_end0
      exact ⟨⟨_, rfl⟩, hJ⟩
set_option maxRecDepth 100000 in
set_option maxHeartbeats 1000000 in
theorem Zso (F : Fence) (n : Nat) (h7 : F.fn 31) (hro : F.round = none) (l bS oS : Nat) (pn : Value) (a : Option Addr) (cap : Nat) (J : Nat → World → Prop)
    (hS : ∀ k A, J k A → A.cell? ⟨bS, oS, none⟩ = some (.slice a 0 cap)) (W : World) (h0 : J 0 W) :
    CallsIn F n Try.prog 31 #[.func (.yield l) #[] #[], .pointer (some ⟨bS, oS, none⟩), pn] W fun e W' => (∃ v, e = .returned v) ∧ J 0 W' := by
  refine callsIn_of_wp Try.func31 rfl h7 ?_ hro
  simp only [Try.ntmps31, List.size_toArray, List.length_cons, List.length_nil, Nat.reduceAdd, Nat.reduceSub, Array.replicate_succ, Array.replicate_zero, List.push_toArray, List.append_toArray, List.nil_append, List.cons_append]
  gi_wp2
  gi_loopw [4] (fun i wr => i = .int .i64 0 ∧ J 0 wr) (fun _ _ => 0)
  case atStart => exact ⟨rfl, h0⟩
  case round =>
    obtain ⟨rfl, hJ⟩ := hrel
    have hs := hS _ wr hJ
    gi_wp2
    go_end0
    exact ⟨⟨_, rfl⟩, hJ⟩
end Go.Proofs
namespace Go.Abs
open Go Go.Proofs Go.Abs.Lz
set_option linter.unusedVariables false
set_option linter.unusedSimpArgs false
theorem Zsp {size : Nat} (h1 : 1 ≤ size) : ∀ (k : Nat) (l : List UInt8), (Zna size l)[k]? = if k * size < l.length then some ((l.drop (k * size)).take size) else none
  | 0, l => by
    by_cases h : l = []
    · subst h; rw [Znb]; simp
    · have h0 : l.length ≠ 0 := fun e => h (List.length_eq_zero_iff.1 e)
      rw [Znc h1 h, if_pos (by omega)]; simp
  | k + 1, l => by
    by_cases h : l = []
    · subst h; rw [Znb]; simp
    · rw [Znc h1 h, List.getElem?_cons_succ, Zsp h1 k, List.length_drop, List.drop_drop]
      have e : (k + 1) * size = k * size + size := Nat.succ_mul ..
      rw [e]
      by_cases h2 : k * size < l.length - size
      · rw [if_pos h2, if_pos (by omega), Nat.add_comm]
      · rw [if_neg h2, if_neg (by omega)]
theorem Zsq {size : Nat} (h1 : 1 ≤ size) (l : List UInt8) (k : Nat) : k < (Zna size l).length ↔ k * size < l.length := by
  have h := Zsp h1 k l
  constructor
  · intro hk
    rw [List.getElem?_eq_getElem hk] at h
    by_cases h2 : k * size < l.length
    · exact h2
    · rw [if_neg h2] at h; cases h
  · intro hk
    rw [if_pos hk] at h
    exact (List.getElem?_eq_some_iff.1 h).1
theorem Zsr {K : Kr} (xs : List Z0) : ∀ (ys : List Value), xs.length = ys.length → (∀ (i : Nat) (x : Z0) (y : Value), xs[i]? = some x → ys[i]? = some y → VR K x y) → Z1 K xs ys := by
  induction xs with
  | nil =>
    intro ys h _
    cases ys with
    | nil => exact .nil
    | cons y ys => simp at h
  | cons x xs ih =>
    intro ys h h'
    cases ys with
    | nil => simp at h
    | cons y ys =>
      refine Z1.cons (h' 0 x y rfl rfl) (ih ys (by simpa using h) fun i a b ha hb => h' (i + 1) a b ?_ ?_)
      · rw [List.getElem?_cons_succ]; exact ha
      · rw [List.getElem?_cons_succ]; exact hb
theorem Zss {K : Kr} {blk off : Nat} {bs : List UInt8} {vs : List Value} (hm : ∀ j v, vs[j]? = some v → K.imm blk (off + j) = some v) (hv : Z1 K (bytes bs) vs) (i size : Nat) (hi : i < bs.length) :
    VR K (.slc 1 (bytes ((bs.drop i).take size)) true) (.slice (some ⟨blk, off + i, none⟩) (min size (bs.length - i)) (min size (bs.length - i))) := by
  refine Z1.slc (vs := (vs.drop i).take size) ?_ ?_ rfl ?_ ?_ (Nat.le_refl _) (fun _ => rfl) .nil
  · rw [Zam, List.length_take, List.length_drop]
  · intro x hx
    obtain ⟨c, _, rfl⟩ := List.mem_map.1 hx
    exact Z0.fit_iff.1 rfl
  · intro j v hj
    rw [List.getElem?_take] at hj
    split at hj
    · rw [List.getElem?_drop] at hj
      have := hm _ _ hj
      rw [← Nat.add_assoc] at this
      exact this
    · cases hj
  · rw [Zax, ← Zaq, ← Zap]
    exact (hv.drop i).take size
theorem Zst {bs : List UInt8} {f : Bool} {size : Nat} (h1 : 1 ≤ size) (h2 : size ≤ 65536) (hb : bs.length ≤ 140737488000000) :
    Zc8 Try.prog Zd6 [.iptr [.slc 1 (bytes bs) f], .iptr [.int .i64 size]] ((Zna size bs).map fun p => .slc 1 (bytes p) true) := by
  intro K lb hlb _
  obtain ⟨v1, v2, rfl, hv1, hv2⟩ := hlb.two_inv
  unfold VR at hv1 hv2
  cases hv1 with
  | @iptr cs a vs l m hs hone hm hv r =>
  cases hv2 with
  | @iptr cs' a' vs' l' m' hs' hone' hm' hv' r' =>
  obtain ⟨sv, rfl, hsv⟩ := hv.one_inv
  obtain ⟨zv, rfl, hzv⟩ := hv'.one_inv
  have hz := hzv.int_inv
  subst hz
  obtain ⟨bS, oS, sS⟩ := a
  obtain ⟨bN, oN, sN⟩ := a'
  simp only at hs hs'
  subst hs hs'
  have hS := hm 0 sv rfl
  have hN := hm' 0 _ rfl
  simp only [Nat.add_zero] at hS hN
  unfold VR at hsv
  generalize hgb : bytes bs = rb at hsv
  cases hsv with
  | @slc0 sz full a cap l m hf r0 =>
    have hbs : bs = [] := by
      cases bs with
      | nil => rfl
      | cons c l => cases hgb
    subst hbs
    refine ⟨[], by rw [Znb]; exact .nil, fun l J W hbel hki hy h0 => ?_⟩
    exact callsIn_wide.2 (callsIn_wide.1 (Zso Fence.wide 0 trivial rfl l bS oS _ a cap J (fun k A h => hki k A h bS oS _ hS) W h0))
  | @slc sz xs full a n cap vs0 l m hn he hs0 hm0 hv0 hc hf r0 =>
    subst hgb
    rw [Zam] at hn
    subst hn
    rw [Zax] at hv0
    obtain ⟨b, off, sp⟩ := a
    simp only at hs0
    subst hs0
    refine ⟨(List.range (Zna size bs).length).map fun k => Value.slice (some ⟨b, off + k * size, none⟩) (min size (bs.length - k * size)) (min size (bs.length - k * size)), ?_, fun l J W hbel hki hy h0 => ?_⟩
    · refine Zsr _ _ (by simp) fun i x y hx hy => ?_
      rw [List.getElem?_map, Zsp h1] at hx
      rw [List.getElem?_map] at hy
      by_cases hi : i * size < bs.length
      · rw [if_pos hi] at hx
        have hi2 : i < (Zna size bs).length := (Zsq h1 bs i).2 hi
        rw [List.getElem?_range hi2] at hy
        simp only [Option.map_some, Option.some.injEq] at hx hy
        rw [← hx, ← hy]
        exact Zss hm0 hv0 _ _ hi
      · rw [if_neg hi] at hx; cases hx
    · have := Zsn Fence.wide 1 trivial rfl (Nat.le_refl _) l bS oS bN oN b off bs.length cap size (Zna size bs).length h1 h2 hb hc (Zsq h1 bs) J (fun k A h => hki k A h bS oS _ hS) (fun k A h => hki k A h bN oN _ hN)
        (fun k A h => hbel k A _ h ((RowKit.Below.refl _ A).drew)) (fun k A h hk => hy k _ A h (by simp [hk])) W h0
      simp only [List.length_map, List.length_range]
      exact callsIn_wide.2 (callsIn_wide.1 this)
theorem Zsu {P : Program} {N : Nat} {a : Z2b} {Q : Z87} {F : Z26} {b sz d : Nat} {x : Z0} {τ : Zc} (hF : F d = some (.ptr b 0 0)) (h : AWp P N a Q (fset d (some (.iptr x.cells)) F) τ) : AWp P N a Q F ((b, .cells sz [x]) :: τ) := by
  refine awp_vs (fun K w tmps hr hfr => ?_) h
  have h1 := hfr.at_ d _ hF
  have hmem : (b, Zb.cells sz [x]) ∈ (b, Zb.cells sz [x]) :: τ := by simp
  have hown := hr.own b _ hmem
  unfold VR at h1
  generalize hv : tmps.getD d undef = v at h1
  cases h1 with
  | @ptr _ _ _ cb sz' pcap _ _ hl r =>
    obtain rfl : sz' = sz := by
      rcases hown.2 with ⟨p, k1, _⟩ | ⟨cb', p, cs', ty, k1, _⟩ <;> rw [hl] at k1 <;> simp at k1
      exact k1.2.1
    obtain ⟨vs0, g1, g2, g3⟩ := hr.freeze hmem hl
    rw [Z9h] at g3
    refine ⟨K.addImm cb vs0, g2, g3, hfr.size, fun i y e => ?_⟩
    simp only [fset] at e
    split at e
    · rename_i hi
      subst hi
      simp only [Option.some.injEq] at e
      subst e
      rw [hv]
      refine Z1.iptr (vs := vs0) rfl ?_ ?_ ?_ .nil
      · exact (hown.1 x (by simp)).2
      · intro j v hj
        simp only [Kr.addImm, Nat.zero_mul, Nat.zero_add, if_true]
        exact hj
      · have := Z1.mono g2 g1
        simpa [Z0.cells] using this
    · exact (hfr.at_ i y e).mono g2
theorem Zsv {σ : Zc} {bs : List UInt8} {f : Bool} {size : Nat} (h1 : 1 ≤ size) :
    Z1q Try.prog Zd2 [.slc 1 (bytes bs) f, .int .i64 size] σ fun r σ' => r = .fn Zd6 [] [.iptr [.slc 1 (bytes bs) f], .iptr [.int .i64 size]] ∧ σ' = σ := by
  refine Z8t rfl Zsm (Nat.le_of_ble_eq_true rfl) ?_
  refine Z9z ?_
  refine Z9j rfl ⟨rfl, fun c hc => by
    simp only [Z0.cells, List.mem_singleton] at hc
    subst hc; rfl⟩ fun b1 hb1 => ?_
  refine Z9j rfl (Z0.fit_iff.1 rfl) fun b2 hb2 => ?_
  (repeat (refine st_q rfl rfl rfl ?_))
  (refine Z8y ?_; (repeat (first | refine Z9v rfl ?_ | refine Z9w ?_)); refine Z9u ?_)
  refine Zsu (d := 3) rfl ?_
  (refine Z9y (keep := [2, 3]) ?_; ((repeat (first | refine Z9v rfl ?_ | refine Z9w ?_)); refine Z9u ?_))
  refine Zsu (d := 2) rfl ?_
  (refine Z9y (keep := [2, 3]) ?_; ((repeat (first | refine Z9v rfl ?_ | refine Z9w ?_)); refine Z9u ?_))
  refine Za5 ?_
  refine Zad ?_
  (repeat (first | refine st_q rfl rfl rfl ?_ | refine Z8v rfl (st_q rfl rfl rfl ?_) | refine Z8w rfl ?_ | refine Z8x rfl ?_))
  (refine Z8y ?_; (repeat (first | refine Z9v rfl ?_ | refine Z9w ?_)); refine Z9u ?_)
  refine Za3 (p := (size : Int) < 1) rfl (fun h => by omega) (fun _ => ?_)
  refine Za4 ?_
  refine Z9z ?_
  (repeat (first | refine st_q rfl rfl rfl ?_ | refine Z8v rfl (st_q rfl rfl rfl ?_) | refine Z8w rfl ?_ | refine Z8x rfl ?_))
  (refine Z8y ?_; (repeat (first | refine Z9v rfl ?_ | refine Z9w ?_)); refine Z9u ?_)
  refine Z8d ?_
  exact ares rfl (HSub.refl _) ⟨rfl, rfl⟩
def encE (codec size : Int) : Nat := if ¬ (codec = 0 ∨ codec = 4) then 7 else if size < 1 ∨ 65536 < size then 1 else 0
def encO (b : List UInt8) (codec size : Int) : List UInt8 := if encE codec size ≠ 0 then [] else if codec = 0 then b else encF size.toNat b
theorem Zsw {bs ys xs : List UInt8} {size i b8 : Nat} {σ β : Zc} {v : Z0} {o g : Bool} (ho : Grow v xs β) (hy : ys.length ≤ 1000000000) (hx : xs.length ≤ 1000000000) (hK : b8 ∉ Zh β) :
    AWp Try.prog Zrw.n (.region Zrt []) (Z8g 2 (AEnd fun σ' => ∃ v β, Grow v (xs ++ (hdF (ys.length : Nat) o ++ ys)) β ∧ σ' = β ++ (b8, .cells 1 [v]) :: σ))
      (fset 8 (some (.ptr b8 0 0)) (fset 10 (some (.slc 1 (bytes ys) g)) (fset 11 (some (.bool o)) Z27))) (β ++ (b8, .cells 1 [v]) :: σ) := by
  have hg : ∀ y, Zd (β ++ (b8, y) :: σ) b8 = some y := fun y => by rw [Zah hK]; exact Z8z
  refine awp_region ?_
  refine Z92 rfl (hg _) rfl (v := v) ?_ ?_
  · rcases ho with ⟨⟨z, rfl⟩, rfl, rfl⟩ | ⟨b, rfl, rfl⟩ <;> rfl
  (repeat (refine st_q rfl rfl rfl ?_))
  rw [Zam]
  refine Zbw rfl (fun σ => Znx _ _) ?_
  refine Zat ho (ys := hdF (ys.length : Nat) o) rfl rfl (by rw [Znh]; omega) fun b1 hb1 => ?_
  refine st_q rfl rfl rfl ?_
  refine Zat (β := [(b1, .cells 1 (bytes (xs ++ hdF (ys.length : Nat) o)))]) (xs := xs ++ hdF (ys.length : Nat) o) (ys := ys) (.inr ⟨b1, rfl, rfl⟩) rfl rfl (by rw [List.length_append, Znh]; omega) fun b2 hb2 => ?_
  have hne : b2 ≠ b8 := fun e => hb2 (by rw [e, Zal]; simp [Zh])
  refine Z9a rfl (Z90 hne Z8z) rfl (by decide) (Z0.fit_iff.1 rfl) (fun e => ⟨rfl, rfl⟩) (Z9c hne Z9b) ?_
  refine Z8y ?_
  rw [List.append_assoc]
  refine ⟨_, [(b2, .cells 1 (bytes (xs ++ (hdF (ys.length : Nat) o ++ ys))))], .inr ⟨b2, rfl, rfl⟩, ?_⟩
  rcases ho with ⟨⟨z, rfl⟩, _, _⟩ | ⟨b, rfl, _⟩ <;> rfl
theorem Zsx {σ : Zc} {bs : List UInt8} {f : Bool} {codec size : Int} (hb : bs.length ≤ 10000000) :
    Z1q Try.prog Zcr [.slc 1 (bytes bs) f, .int .i64 codec, .int .i64 size] σ fun r σ' => r = tupV (encE codec size, encO bs codec size) ∧ σ' = σ := by
  refine Z8t rfl Zsk (Nat.le_of_ble_eq_true rfl) ?_
  refine Z9z ?_
  (repeat (refine st_q rfl rfl rfl ?_))
  (refine Z8y ?_; (repeat (first | refine Z9v rfl ?_ | refine Z9w ?_)); refine Z9u ?_)
  refine Za6 ?_
  refine Z9z ?_
  refine st_q rfl rfl rfl ?_
  refine Z9t rfl (Znv codec) ?_
  by_cases hc : codec = 0 ∨ codec = 4
  case neg =>
    have e : encE codec size = 7 := if_pos hc
    rw [encO, e, if_pos (by decide)]
    rw [decide_eq_false hc]
    (repeat (refine st_q rfl rfl rfl ?_))
    (refine Z8y ?_; (repeat (first | refine Z9v rfl ?_ | refine Z9w ?_)); refine Z9u ?_)
    refine Z8f (t := true) rfl (fun _ => ?_) (fun e => by cases e)
    refine Z9z ?_
    (repeat (refine st_q rfl rfl rfl ?_))
    (refine Z8y ?_; (repeat (first | refine Z9v rfl ?_ | refine Z9w ?_)); refine Z9u ?_)
    refine Z8d ?_
    exact Zau rfl (Zr1 7) (HSub.refl _) ⟨rfl, rfl⟩
  rw [decide_eq_true hc]
  (repeat (refine st_q rfl rfl rfl ?_))
  (refine Z8y ?_; (repeat (first | refine Z9v rfl ?_ | refine Z9w ?_)); refine Z9u ?_)
  refine Z8f (t := false) rfl (fun e => by cases e) (fun _ => ?_)
  refine Z9z ?_
  by_cases hs : size < 1 ∨ 65536 < size
  · have e : encE codec size = 1 := by rw [encE, if_neg (fun hh => hh hc), if_pos hs]
    rw [encO, e, if_pos (by decide)]
    have hcode : ∀ F, AWp Try.prog Zrw.n (.seq (.region Zrj [6, 7]) .ret) (Z8g 0 (Z8e Try.prog Zrw.n (Zrw.code.snd 2) (ARet Zrw.res fun r σ' => r = tupV (1, []) ∧ σ' = σ))) F σ := fun F => by
      refine Z9z ?_
      (repeat (refine st_q rfl rfl rfl ?_))
      (refine Z8y ?_; (repeat (first | refine Z9v rfl ?_ | refine Z9w ?_)); refine Z9u ?_)
      refine Z8d ?_
      exact Zau rfl (Zr1 1) (HSub.refl _) ⟨rfl, rfl⟩
    (repeat (first | refine st_q rfl rfl rfl ?_ | refine Z8v rfl (st_q rfl rfl rfl ?_) | refine Z8w rfl ?_ | refine Z8x rfl ?_))
    by_cases a1 : size < 1
    · (rw [show decide (size < 1) = true from decide_eq_true (by omega)])
      (repeat (first | refine st_q rfl rfl rfl ?_ | refine Z8v rfl (st_q rfl rfl rfl ?_) | refine Z8w rfl ?_ | refine Z8x rfl ?_))
      (refine Z8y ?_; (repeat (first | refine Z9v rfl ?_ | refine Z9w ?_)); refine Z9u ?_)
      exact Z8f rfl (fun _ => hcode _) (fun e => by cases e)
    (rw [show decide (size < 1) = false from decide_eq_false (by omega)])
    (repeat (first | refine st_q rfl rfl rfl ?_ | refine Z8v rfl (st_q rfl rfl rfl ?_) | refine Z8w rfl ?_ | refine Z8x rfl ?_))
    (refine Z8y ?_; (repeat (first | refine Z9v rfl ?_ | refine Z9w ?_)); refine Z9u ?_)
    exact Za3 (p := size > 65536) rfl (fun _ => hcode _) (fun e => absurd hs (by omega))
  have e : encE codec size = 0 := by rw [encE, if_neg (fun hh => hh hc), if_neg hs]
  rw [encO, e, if_neg (by decide)]
  (repeat (first | refine st_q rfl rfl rfl ?_ | refine Z8v rfl (st_q rfl rfl rfl ?_) | refine Z8w rfl ?_ | refine Z8x rfl ?_))
  (rw [show decide (size < 1) = false from decide_eq_false (by omega)])
  (repeat (first | refine st_q rfl rfl rfl ?_ | refine Z8v rfl (st_q rfl rfl rfl ?_) | refine Z8w rfl ?_ | refine Z8x rfl ?_))
  (refine Z8y ?_; (repeat (first | refine Z9v rfl ?_ | refine Z9w ?_)); refine Z9u ?_)
  refine Za3 (p := size > 65536) rfl (fun e => absurd hs (by omega)) (fun _ => ?_)
  refine Z9z ?_
  (repeat (first | refine st_q rfl rfl rfl ?_ | refine Z8v rfl (st_q rfl rfl rfl ?_) | refine Z8w rfl ?_ | refine Z8x rfl ?_))
  (refine Z8y ?_; (repeat (first | refine Z9v rfl ?_ | refine Z9w ?_)); refine Z9u ?_)
  refine Za3 (p := codec = 0) rfl (fun h0 => ?_) (fun h0 => ?_)
  · rw [if_pos h0]
    refine Z9z ?_
    refine st_q rfl rfl rfl ?_
    refine Z9s rfl (Zo9 (by omega)) ?_ ?_
    · obtain ⟨gv, gβ, hgr⟩ := Grow.ex bs
      exact ⟨_, _, gβ, hgr, rfl⟩
    rintro r _ ⟨β, ho, rfl⟩
    refine Z9t rfl (ho.clip) ?_
    (repeat (refine st_q rfl rfl rfl ?_))
    (refine Z8y ?_; (repeat (first | refine Z9v rfl ?_ | refine Z9w ?_)); refine Z9u ?_)
    refine Z8d ?_
    exact ares rfl (HSub.refl _) ⟨rfl, rfl⟩
  rw [if_neg h0]
  refine Z8b ?_
  obtain ⟨s, rfl⟩ : ∃ s : Nat, size = s := ⟨size.toNat, by omega⟩
  rw [Int.toNat_natCast]
  have h1 : 1 ≤ s := by omega
  have h2 : s ≤ 65536 := by omega
  refine Z9z ?_
  refine Z9k (fun c hc => by
    simp only [Z0.cells, List.mem_singleton] at hc
    subst hc; rfl) fun b8 hb8 => ?_
  (refine Z8y ?_; (repeat (first | refine Z9v rfl ?_ | refine Z9w ?_)); refine Z9u ?_)
  refine Za5 ?_
  refine Zad ?_
  refine st_q rfl rfl rfl ?_
  refine st_q rfl rfl rfl ?_
  refine Z9t rfl (Zsv h1) ?_
  (refine Z8y ?_; (repeat (first | refine Z9v rfl ?_ | refine Z9w ?_)); refine Z9u ?_)
  refine Z8h ?_
  have hT : ∀ i, (((Zna s bs).take i).flatMap Zn9).length ≤ 4 * bs.length + 3 := fun i => by
    have e1 : ((Zna s bs).take i).flatMap Zn9 ++ ((Zna s bs).drop i).flatMap Zn9 = encF s bs := by
      rw [← List.flatMap_append, List.take_append_drop]; rfl
    have e2 := congrArg List.length e1
    rw [List.length_append] at e2
    have e3 := Znp h1 bs
    have e4 : bs.length / s ≤ bs.length := Nat.div_le_self _ _
    have e5 : (if 0 < bs.length % s then 1 else 0) ≤ 1 := by split <;> omega
    have e6 : 3 * (bs.length / s + (if 0 < bs.length % s then 1 else 0)) = 3 * (bs.length / s) + 3 * (if 0 < bs.length % s then 1 else 0) := Nat.mul_add ..
    omega
  refine Zcc (gf := Zd6) (axs := (Zna s bs).map fun p => .slc 1 (bytes p) true) rfl (by decide) (Zst h1 h2 (by omega)) ⟨rfl, rfl⟩ (by decide)
    (fun i σ' => ∃ v β, Grow v (((Zna s bs).take i).flatMap Zn9) β ∧ σ' = β ++ (b8, .cells 1 [v]) :: σ) ⟨.slc 0 [] true, [], Grow.nil 0, rfl⟩ ?_ ?_
  · rintro i x _ hx ⟨v, β, ho, rfl⟩
    rw [List.getElem?_map] at hx
    obtain ⟨p, hp, rfl⟩ := Option.map_eq_some_iff.1 hx
    have hpm := List.mem_of_getElem? hp
    obtain ⟨hpl, hpn⟩ := Zne h1 _ bs rfl p hpm
    have htk : (Zna s bs).take (i + 1) = (Zna s bs).take i ++ [p] := by
      rw [List.take_add_one, hp]; rfl
    have hnext : ((Zna s bs).take (i + 1)).flatMap Zn9 = ((Zna s bs).take i).flatMap Zn9 ++ Zn9 p := by
      rw [htk, List.flatMap_append]; simp
    rw [hnext]
    have hTi := hT i
    have hpk := Zg6 (bs := p)
    generalize ((Zna s bs).take i).flatMap Zn9 = xs at *
    refine Zad ?_
    (repeat (refine st_q rfl rfl rfl ?_))
    (refine Z8y ?_; (repeat (first | refine Z9v rfl ?_ | refine Z9w ?_)); refine Z9u ?_)
    refine Z8h ?_
    refine Z9z ?_
    refine st_q rfl rfl rfl ?_
    refine Z9t rfl (Zkz (by omega)) ?_
    (repeat (refine st_q rfl rfl rfl ?_))
    (refine Z8y ?_; (repeat (first | refine Z9v rfl ?_ | refine Z9w ?_)); refine Z9u ?_)
    refine Z9z ?_
    (repeat (refine st_q rfl rfl rfl ?_))
    rw [Zam, Zam]
    (refine Z8y ?_; (repeat (first | refine Z9v rfl ?_ | refine Z9w ?_)); refine Z9u ?_)
    refine Za5 ?_
    refine Zad ?_
    (repeat (refine st_q rfl rfl rfl ?_))
    (refine Z8y ?_; (repeat (first | refine Z9v rfl ?_ | refine Z9w ?_)); refine Z9u ?_)
    refine Z89 fun nd => ?_
    have hK := Zgf nd
    refine Za3 (p := ((Zfo p).length : Int) ≥ (p.length : Int)) rfl (fun h5 => ?_) (fun h5 => ?_)
    · have e1 : Zn9 p = hdF (p.length : Nat) true ++ p := if_pos (by omega)
      rw [e1, decide_eq_true h5]
      refine Zad ?_
      (repeat (refine st_q rfl rfl rfl ?_))
      (refine Z8y ?_; (repeat (first | refine Z9v rfl ?_ | refine Z9w ?_)); refine Z9u ?_)
      (refine Z9y (keep := [8, 10, 11]) ?_; ((repeat (first | refine Z9v rfl ?_ | refine Z9w ?_)); refine Z9u ?_))
      exact Zsw (bs := bs) (size := s) (i := i) ho (by omega) (by omega) hK
    · have e1 : Zn9 p = hdF ((Zfo p).length : Nat) false ++ Zfo p := if_neg (by omega)
      rw [e1, decide_eq_false h5]
      refine Za4 ?_
      (refine Z9y (keep := [8, 10, 11]) ?_; ((repeat (first | refine Z9v rfl ?_ | refine Z9w ?_)); refine Z9u ?_))
      exact Zsw (bs := bs) (size := s) (i := i) ho (by omega) (by omega) hK
  · rintro _ ⟨v, β, ho, rfl⟩
    rw [List.length_map, List.take_length] at ho
    change AWp Try.prog Zrw.n (.seq (.region Zrv [6, 7]) .ret) (ARet Zrw.res _) _ _
    refine Z89 fun nd => ?_
    have hK := Zgf nd
    refine Z9z ?_
    refine Z92 rfl (by rw [Zah hK]; exact Z8z) rfl (v := v) ?_ ?_
    · rcases ho with ⟨⟨z, rfl⟩, _, _⟩ | ⟨b, rfl, _⟩ <;> rfl
    refine Z9t rfl (ho.clip) ?_
    (repeat (refine st_q rfl rfl rfl ?_))
    (refine Z8y ?_; (repeat (first | refine Z9v rfl ?_ | refine Z9w ?_)); refine Z9u ?_)
    refine Z8d ?_
    exact ares rfl (HSub.tail _ _) ⟨rfl, rfl⟩
def Zsy (bs : List UInt8) (f : Bool) (s : Nat) (σ : Zc) (k : Nat) (F : Z26) (σ' : Zc) : Prop :=
  ∃ (i : Nat) (o : List UInt8) (v : Z0) (β : Zc), F = fset 0 (some (.slc 1 (bytes bs) f)) (fset 2 (some (.int .i64 s)) (fset 8 (some v) (fset 9 (some (.int .i64 i)) Z27))) ∧ σ' = β ++ σ ∧ Grow v o β ∧ i < bs.length + s ∧ o.length ≤ 4 * i ∧ k = bs.length + s - i
theorem Zsz {σ : Zc} {bs : List UInt8} {f : Bool} {codec size : Int} (hb : bs.length ≤ 10000000) :
    Z1q Try.prog Zcs [.slc 1 (bytes bs) f, .int .i64 codec, .int .i64 size] σ fun r σ' => ∃ xs, r = tupW (encE codec size, xs) ∧ σ' = σ := by
  refine Zb5 (R := fun r σ' => ∃ xs, OwnR σ (encE codec size, xs) r σ') ?_ fun r σ' h => ?_
  case refine_2 =>
    obtain ⟨xs, v, β, rfl, ho, rfl⟩ := h
    exact ⟨_, _, Zb6.tup (Zb6.first (Zb6.grow ho)), xs, rfl, rfl⟩
  refine Z8t rfl Zsl (Nat.le_of_ble_eq_true rfl) ?_
  refine Z9z ?_
  (repeat (refine st_q rfl rfl rfl ?_))
  (refine Z8y ?_; (repeat (first | refine Z9v rfl ?_ | refine Z9w ?_)); refine Z9u ?_)
  refine Za5 ?_
  refine Zad ?_
  (repeat (first | refine st_q rfl rfl rfl ?_ | refine Z8v rfl (st_q rfl rfl rfl ?_) | refine Z8w rfl ?_ | refine Z8x rfl ?_))
  by_cases hc : codec = 0 ∨ codec = 4
  case neg =>
    have e : encE codec size = 7 := if_pos hc
    rw [e]
    (rw [show decide (codec ≠ 0) = true from decide_eq_true (by omega)])
    (repeat (first | refine st_q rfl rfl rfl ?_ | refine Z8v rfl (st_q rfl rfl rfl ?_) | refine Z8w rfl ?_ | refine Z8x rfl ?_))
    (refine Z8y ?_; (repeat (first | refine Z9v rfl ?_ | refine Z9w ?_)); refine Z9u ?_)
    refine Za3 (p := codec ≠ 4) rfl (fun _ => ?_) (fun e => absurd hc (by omega))
    refine Z9z ?_
    (repeat (refine st_q rfl rfl rfl ?_))
    (refine Z8y ?_; (repeat (first | refine Z9v rfl ?_ | refine Z9w ?_)); refine Z9u ?_)
    refine Z8d ?_
    exact ares rfl (HSub.refl _) ⟨[], OwnR.nil σ 7⟩
  have hgo : ∀ F : Z26, FSub (fset 0 (some (.slc 1 (bytes bs) f)) (fset 1 (some (.int .i64 codec)) (fset 2 (some (.int .i64 size)) Z27))) F → AWp Try.prog Zse.n (Zse.code.snd 2) (ARet Zse.res (fun r σ' => ∃ xs, OwnR σ (encE codec size, xs) r σ')) F σ := fun F hF => by
    refine Z8a hF (HSub.refl _) ?_
    refine Za5 ?_
    refine Zad ?_
    by_cases hs : size < 1 ∨ 65536 < size
    · have e : encE codec size = 1 := by rw [encE, if_neg (fun hh => hh hc), if_pos hs]
      rw [e]
      have hcode : ∀ F, AWp Try.prog Zse.n (.seq (.region Zs1 [6, 7]) .ret) (Z8e Try.prog Zse.n (Zse.code.snd 3) (ARet Zse.res (fun r σ' => ∃ xs, OwnR σ (1, xs) r σ'))) F σ := fun F => by
        refine Z9z ?_
        (repeat (refine st_q rfl rfl rfl ?_))
        (refine Z8y ?_; (repeat (first | refine Z9v rfl ?_ | refine Z9w ?_)); refine Z9u ?_)
        refine Z8d ?_
        exact ares rfl (HSub.refl _) ⟨[], OwnR.nil σ 1⟩
      (repeat (first | refine st_q rfl rfl rfl ?_ | refine Z8v rfl (st_q rfl rfl rfl ?_) | refine Z8w rfl ?_ | refine Z8x rfl ?_))
      by_cases a1 : size < 1
      · (rw [show decide (size < 1) = true from decide_eq_true (by omega)])
        (repeat (first | refine st_q rfl rfl rfl ?_ | refine Z8v rfl (st_q rfl rfl rfl ?_) | refine Z8w rfl ?_ | refine Z8x rfl ?_))
        (refine Z8y ?_; (repeat (first | refine Z9v rfl ?_ | refine Z9w ?_)); refine Z9u ?_)
        exact Z8f rfl (fun _ => hcode _) (fun e => by cases e)
      (rw [show decide (size < 1) = false from decide_eq_false (by omega)])
      (repeat (first | refine st_q rfl rfl rfl ?_ | refine Z8v rfl (st_q rfl rfl rfl ?_) | refine Z8w rfl ?_ | refine Z8x rfl ?_))
      (refine Z8y ?_; (repeat (first | refine Z9v rfl ?_ | refine Z9w ?_)); refine Z9u ?_)
      exact Za3 (p := size > 65536) rfl (fun _ => hcode _) (fun e => absurd hs (by omega))
    have e : encE codec size = 0 := by rw [encE, if_neg (fun hh => hh hc), if_neg hs]
    rw [e]
    (repeat (first | refine st_q rfl rfl rfl ?_ | refine Z8v rfl (st_q rfl rfl rfl ?_) | refine Z8w rfl ?_ | refine Z8x rfl ?_))
    (rw [show decide (size < 1) = false from decide_eq_false (by omega)])
    (repeat (first | refine st_q rfl rfl rfl ?_ | refine Z8v rfl (st_q rfl rfl rfl ?_) | refine Z8w rfl ?_ | refine Z8x rfl ?_))
    (refine Z8y ?_; (repeat (first | refine Z9v rfl ?_ | refine Z9w ?_)); refine Z9u ?_)
    refine Za3 (p := size > 65536) rfl (fun e => absurd hs (by omega)) (fun _ => ?_)
    refine Za4 ?_
    refine Za5 ?_
    refine Zad ?_
    (repeat (first | refine st_q rfl rfl rfl ?_ | refine Z8v rfl (st_q rfl rfl rfl ?_) | refine Z8w rfl ?_ | refine Z8x rfl ?_))
    (refine Z8y ?_; (repeat (first | refine Z9v rfl ?_ | refine Z9w ?_)); refine Z9u ?_)
    refine Za3 (p := codec = 0) rfl (fun h0 => ?_) (fun h0 => ?_)
    · refine Z9z ?_
      refine st_q rfl rfl rfl ?_
      refine st_q rfl rfl rfl ?_
      refine Zat (β := []) (xs := []) (ys := bs) (Grow.nil 1) rfl rfl (by simp; omega) fun b hbk => ?_
      (repeat (refine st_q rfl rfl rfl ?_))
      (refine Z8y ?_; (repeat (first | refine Z9v rfl ?_ | refine Z9w ?_)); refine Z9u ?_)
      refine Z8d ?_
      exact ares rfl (HSub.refl _) ⟨_, _, [(b, .cells 1 (bytes ([] ++ bs)))], rfl, .inr ⟨b, rfl, rfl⟩, rfl⟩
    refine Za4 ?_
    obtain ⟨s, rfl⟩ : ∃ s : Nat, size = s := ⟨size.toNat, by omega⟩
    refine Z9z ?_
    (repeat (refine st_q rfl rfl rfl ?_))
    (refine Z8y ?_; (repeat (first | refine Z9v rfl ?_ | refine Z9w ?_)); refine Z9u ?_)
    refine Za5 ?_
    refine Zad ?_
    (repeat (refine st_q rfl rfl rfl ?_))
    (refine Z8y ?_; (repeat (first | refine Z9v rfl ?_ | refine Z9w ?_)); refine Z9u ?_)
    refine Z8h ?_
    refine Zaa (Zsy bs f s σ) (n := bs.length + s) ⟨0, [], .slc 0 [] true, [], rfl, rfl, Grow.nil 0, by omega, by simp, by simp⟩ ?_
    rintro k F σ' ⟨i, o, v, β, rfl, rfl, ho, hi, hol, rfl⟩
    refine Za5 ?_
    refine Zad ?_
    (repeat (refine st_q rfl rfl rfl ?_))
    rw [Zam]
    (refine Z8y ?_; (repeat (first | refine Z9v rfl ?_ | refine Z9w ?_)); refine Z9u ?_)
    refine Za3 (p := (i : Int) < (bs.length : Int)) rfl (fun h => ?_) (fun h => ?_)
    case refine_2 =>
      refine Zbo (fun _ _ => rfl) ?_
      refine Z9z ?_
      (repeat (refine st_q rfl rfl rfl ?_))
      (refine Z8y ?_; (repeat (first | refine Z9v rfl ?_ | refine Z9w ?_)); refine Z9u ?_)
      refine Z8d ?_
      exact ares rfl (HSub.refl _) ⟨_, _, β, rfl, ho, rfl⟩
    refine Za4 ?_
    have e1 : IntKind.wrap .i64 ((i : Int) + (s : Int)) = ((i + s : Nat) : Int) := by rw [w64 _ (by omega) (by omega)]; omega
    have tail : ∀ en : Nat, i ≤ en → en ≤ bs.length → en ≤ i + s → AWp Try.prog Zse.n (.region Zsa [0, 2, 8, 9]) (Z8g 1 (Z8e Try.prog Zse.n (.region Zsb [0, 2, 8, 9]) (Za9 (Zsy bs f s σ) (bs.length + s - i) (Z8g 0 (Z8e Try.prog Zse.n (.seq (.region Zsd [6, 7]) .ret) (ARet Zse.res (fun r σ' => ∃ xs, OwnR σ (0, xs) r σ')))))))
        (fset 0 (some (.slc 1 (bytes bs) f)) (fset 2 (some (.int .i64 s)) (fset 8 (some v) (fset 9 (some (.int .i64 i)) (fset 10 (some (.int .i64 en)) Z27))))) (β ++ σ) := fun en h1 h2 h3 => by
      have e2 : IntKind.wrap .i64 ((en : Int) - (i : Int)) = ((en - i : Nat) : Int) := by rw [w64 _ (by omega) (by omega)]; omega
      refine Zbm (fun _ _ => rfl) ?_
      (repeat (refine st_q rfl rfl rfl ?_))
      rw [e2]
      refine Z9t rfl (Zny _ _) ?_
      refine Zat ho (ys := hdF ((en - i : Nat) : Int) true) rfl rfl (by rw [Znh]; omega) fun b1 hb1 => ?_
      (repeat (refine st_q rfl rfl rfl ?_))
      refine Z99 (a := (i : Int)) (b := (en : Int)) rfl rfl (by rw [Zam]; omega) ?_
      have e5 : ((bytes bs).drop (i : Int).toNat).take ((en : Int) - (i : Int)).toNat = bytes ((bs.drop i).take (en - i)) := by
        rw [Int.toNat_natCast, show ((en : Int) - (i : Int)).toNat = en - i by omega, Zap, Zaq]
      rw [e5]
      refine Zat (β := [(b1, .cells 1 (bytes (o ++ hdF ((en - i : Nat) : Int) true)))]) (xs := o ++ hdF ((en - i : Nat) : Int) true) (ys := (bs.drop i).take (en - i)) (.inr ⟨b1, rfl, rfl⟩) rfl rfl (by rw [List.length_append, Znh, List.length_take, List.length_drop]; omega) fun b2 hb2 => ?_
      (repeat (refine st_q rfl rfl rfl ?_))
      (refine Z8y ?_; (repeat (first | refine Z9v rfl ?_ | refine Z9w ?_)); refine Z9u ?_)
      refine awp_region ?_
      (repeat (refine st_q rfl rfl rfl ?_))
      rw [e1]
      (repeat (refine st_q rfl rfl rfl ?_))
      refine Z8y ?_
      refine Zac (keep := [0, 2, 8, 9]) ?_
      ((repeat (first | refine Z9v rfl ?_ | refine Z9w ?_)); refine Z9u ?_)
      exact ⟨_, bs.length + s - (i + s), HSub.refl _, ⟨i + s, _, _, [(b2, .cells 1 (bytes _))], rfl, rfl, .inr ⟨b2, rfl, rfl⟩, by omega, by simp only [List.length_append, Znh, List.length_take, List.length_drop]; omega, rfl⟩, by omega⟩
    refine Za6 ?_
    refine Z9z ?_
    (repeat (refine st_q rfl rfl rfl ?_))
    rw [e1]
    (repeat (refine st_q rfl rfl rfl ?_))
    (refine Z8y ?_; (repeat (first | refine Z9v rfl ?_ | refine Z9w ?_)); refine Z9u ?_)
    refine Za5 ?_
    refine Zad ?_
    (repeat (refine st_q rfl rfl rfl ?_))
    rw [Zam]
    (refine Z8y ?_; (repeat (first | refine Z9v rfl ?_ | refine Z9w ?_)); refine Z9u ?_)
    refine Za3 (p := ((i + s : Nat) : Int) > (bs.length : Int)) rfl (fun h5 => ?_) (fun h5 => ?_)
    · refine Zad ?_
      (repeat (refine st_q rfl rfl rfl ?_))
      rw [Zam]
      (repeat (refine st_q rfl rfl rfl ?_))
      (refine Z8y ?_; (repeat (first | refine Z9v rfl ?_ | refine Z9w ?_)); refine Z9u ?_)
      exact tail bs.length (by omega) (by omega) (by omega)
    · refine Za4 ?_
      (refine Z9y (keep := [0, 2, 8, 9, 10]) ?_; ((repeat (first | refine Z9v rfl ?_ | refine Z9w ?_)); refine Z9u ?_))
      exact tail (i + s) (by omega) (by omega) (by omega)
  by_cases h0 : codec = 0
  · (rw [show decide (codec ≠ 0) = false from decide_eq_false (by omega)])
    (repeat (first | refine st_q rfl rfl rfl ?_ | refine Z8v rfl (st_q rfl rfl rfl ?_) | refine Z8w rfl ?_ | refine Z8x rfl ?_))
    (refine Z8y ?_; (repeat (first | refine Z9v rfl ?_ | refine Z9w ?_)); refine Z9u ?_)
    refine Z8f (t := false) rfl (fun e => by cases e) (fun _ => ?_)
    refine Za4 ?_
    (refine Z9y (keep := [0, 1, 2]) ?_; ((repeat (first | refine Z9v rfl ?_ | refine Z9w ?_)); refine Z9u ?_))
    exact hgo _ (FSub.refl _)
  · (rw [show decide (codec ≠ 0) = true from decide_eq_true (by omega)])
    (repeat (first | refine st_q rfl rfl rfl ?_ | refine Z8v rfl (st_q rfl rfl rfl ?_) | refine Z8w rfl ?_ | refine Z8x rfl ?_))
    (rw [show decide (codec ≠ 4) = false from decide_eq_false (by omega)])
    (repeat (first | refine st_q rfl rfl rfl ?_ | refine Z8v rfl (st_q rfl rfl rfl ?_) | refine Z8w rfl ?_ | refine Z8x rfl ?_))
    (refine Z8y ?_; (repeat (first | refine Z9v rfl ?_ | refine Z9w ?_)); refine Z9u ?_)
    refine Z8f (t := false) rfl (fun e => by cases e) (fun _ => ?_)
    refine Za4 ?_
    (refine Z9y (keep := [0, 1, 2]) ?_; ((repeat (first | refine Z9v rfl ?_ | refine Z9w ?_)); refine Z9u ?_))
    exact hgo _ (FSub.refl _)
end Go.Abs

