/- Part N of a proof: merged by program. -/
import Derived.Test.YtgmefkhincnajaaPkM
import Derived.Test.YtgmefkhincnajaaProg
import Derived.KernelRfl
namespace Go.Abs
open Go
def Z1a0 : List Z2a := [
  ⟨some 6, .mov, [.c (.bool false)], none⟩]
def Z1a1 : List Z2a := [
  ⟨some 15, (.call Zd5), [], none⟩,
  ⟨some 16, .unot, [.t 15], none⟩]
def Z1a2 : List Z2a := [
  ⟨some 6, .mov, [.c (.bool false)], none⟩]
def Z1a3 : List Z2a := [
  ⟨some 17, (.bsl 1), [.c (.str [115])], none⟩,
  ⟨some 18, (.bsl 1), [.c (.str [97])], none⟩,
  ⟨some 19, (.bld [(.int .i64 0), (.slc 0 [] true), (.slc 0 [] true), (.int .i64 0), (.int .i64 0), (.int .i64 0)] [(0, 1)]), [.c (.int .i64 4)], none⟩,
  ⟨some 20, (.bsl 6), [.t 19], none⟩,
  ⟨some 21, (.bld [(.int .i64 0), (.slc 0 [] true), (.slc 0 [] true), (.int .i64 0), (.int .i64 0), (.int .i64 0)] [(0, 1), (1, 1), (2, 1)]), [.c (.int .i64 12), .t 18, .t 20], none⟩,
  ⟨some 22, (.bsl 6), [.t 21], none⟩,
  ⟨some 23, (.bld [(.int .i64 0), (.slc 0 [] true), (.slc 0 [] true), (.int .i64 0), (.int .i64 0), (.int .i64 0)] [(0, 1), (1, 1), (2, 1)]), [.c (.int .i64 12), .t 17, .t 22], none⟩,
  ⟨some 7, (.alloc (.agg [(.int .i64 0), (.slc 0 [] true), (.slc 0 [] true), (.int .i64 0), (.int .i64 0), (.int .i64 0)])), [], none⟩,
  ⟨none, (.store 6), [.t 7, .t 23], none⟩]
def Z1a4 : List Z2a := [
  ⟨some 24, (.load true 6), [.t 7], none⟩,
  ⟨some 25, (.call Zcs), [.t 24], none⟩,
  ⟨some 8, .mov, [.t 25], none⟩]
def Z1a5 : List Z2a := [
  ⟨some 26, .mov, [.t 8], none⟩,
  ⟨some 27, .lens, [.t 26], none⟩,
  ⟨some 28, (.bin .neq), [.t 27, .c (.int .i64 3)], none⟩,
  ⟨some 29, .mov, [.t 28], none⟩,
  ⟨some 30, .mov, [.t 0], some (29, false)⟩,
  ⟨some 31, (.bin .lss), [.t 30, .c (.int .i64 1)], some (29, false)⟩,
  ⟨some 32, .pick, [.t 29, .c (.bool true), .t 31], none⟩,
  ⟨some 33, .mov, [.t 32], none⟩,
  ⟨some 34, .mov, [.t 0], some (33, false)⟩,
  ⟨some 35, (.bin .gtr), [.t 34, .c (.int .i64 8)], some (33, false)⟩,
  ⟨some 36, .pick, [.t 33, .c (.bool true), .t 35], none⟩]
def Z1a6 : List Z2a := [
  ⟨some 37, .mov, [.t 0], none⟩,
  ⟨some 38, (.bin .lss), [.t 37, .c (.int .i64 1)], none⟩,
  ⟨some 39, .mov, [.t 38], none⟩,
  ⟨some 40, .mov, [.t 0], some (39, false)⟩,
  ⟨some 41, (.bin .gtr), [.t 40, .c (.int .i64 8)], some (39, false)⟩,
  ⟨some 42, .pick, [.t 39, .c (.bool true), .t 41], none⟩,
  ⟨some 6, .mov, [.t 42], none⟩]
def Z1a7 : List Z2a := [
  ⟨some 43, (.bld [(.bool false), (.int .i64 0), (.int .i64 0), (.slc 0 [] true), (.slc 0 [] true)] [(0, 1)]), [.c (.bool true)], none⟩,
  ⟨some 44, (.bsl 5), [.t 43], none⟩,
  ⟨some 45, (.bld [(.bool false), (.int .i64 0), (.int .i64 0), (.slc 0 [] true), (.slc 0 [] true)] [(4, 1)]), [.t 44], none⟩,
  ⟨some 46, (.bsl 5), [.t 45], none⟩,
  ⟨some 47, (.bld [(.bool false), (.int .i64 0), (.int .i64 0), (.slc 0 [] true), (.slc 0 [] true)] [(4, 1)]), [.t 46], none⟩,
  ⟨some 9, (.alloc (.agg [(.bool false), (.int .i64 0), (.int .i64 0), (.slc 0 [] true), (.slc 0 [] true)])), [], none⟩,
  ⟨none, (.store 5), [.t 9, .t 47], none⟩]
def Z1a8 : List Z2a := [
  ⟨some 48, .mov, [.t 2], none⟩]
def Z1a9 : List Z2a := [
  ⟨some 49, (.bld [(.bool false), (.int .i64 0), (.int .i64 0), (.slc 0 [] true), (.slc 0 [] true)] [(0, 1)]), [.c (.bool true)], none⟩,
  ⟨some 50, (.bsl 5), [.t 49], none⟩,
  ⟨some 51, (.bld [(.bool false), (.int .i64 0), (.int .i64 0), (.slc 0 [] true), (.slc 0 [] true)] [(4, 1)]), [.t 50], none⟩,
  ⟨none, (.store 5), [.t 9, .t 51], none⟩]
def Z1aa : List Z2a := [
  ⟨some 52, (.bld [(.bool false), (.int .i64 0), (.int .i64 0), (.slc 0 [] true), (.slc 0 [] true)] []), [], none⟩,
  ⟨some 10, (.alloc (.agg [(.bool false), (.int .i64 0), (.int .i64 0), (.slc 0 [] true), (.slc 0 [] true)])), [], none⟩,
  ⟨none, (.store 5), [.t 10, .t 52], none⟩]
def Z1ab : List Z2a := [
  ⟨some 53, .mov, [.t 0], none⟩,
  ⟨some 54, (.bin .lss), [.t 53, .c (.int .i64 7)], none⟩]
def Z1ac : List Z2a := [
  ⟨some 55, .mov, [.t 1], none⟩,
  ⟨some 56, (.fad 1), [.t 10], none⟩,
  ⟨none, (.store 1), [.t 56, .t 55], none⟩]
def Z1ad : List Z2a := [
  ⟨some 57, .mov, [.t 0], none⟩,
  ⟨some 58, (.load true 5), [.t 10], none⟩,
  ⟨some 59, (.bld [(.int .i64 0), (.int .i64 0), (.bool false), (.int .i64 0), (.int .i64 0), (.slc 0 [] true), (.slc 0 [] true)] [(0, 1), (1, 1), (2, 5)]), [.c (.int .i64 2), .t 57, .t 58], none⟩,
  ⟨some 60, (.bsl 7), [.t 59], none⟩,
  ⟨some 11, .mov, [.t 60], none⟩]
def Z1ae : List Z2a := [
  ⟨some 62, .mov, [.t 8], none⟩,
  ⟨some 63, (.load true 5), [.t 9], none⟩,
  ⟨some 64, (.call Zdg), [.t 62, .c (.int .i64 2), .t 63], none⟩,
  ⟨some 61, .mov, [.t 64], none⟩,
  ⟨some 65, (.ext 0), [.t 61], none⟩,
  ⟨some 66, (.ext 1), [.t 61], none⟩,
  ⟨some 12, (.alloc (.agg [(.bool false), (.int .i64 0), (.int .i64 0), (.slc 0 [] true), (.slc 0 [] true)])), [], none⟩,
  ⟨none, (.store 5), [.t 12, .t 65], none⟩,
  ⟨some 13, .mov, [.t 66], none⟩]
def Z1af : List Z2a := [
  ⟨some 14, .mov, [.c (.int .i64 2)], none⟩]
def Z1ag : List Z2a := [
  ⟨some 67, .mov, [.t 0], none⟩,
  ⟨some 68, (.bin .eql), [.t 67, .c (.int .i64 7)], none⟩]
def Z1ah : List Z2a := [
  ⟨some 14, .mov, [.c (.int .i64 1)], none⟩]
def Z1ai : List Z2a := [
  ⟨some 69, .mov, [.t 0], none⟩,
  ⟨some 70, (.bin .eql), [.t 69, .c (.int .i64 8)], none⟩]
def Z1aj : List Z2a := [
  ⟨some 14, .mov, [.c (.int .i64 0)], none⟩]
def Z1ak : List Z2a := [
  ⟨some 71, .mov, [.t 8], none⟩,
  ⟨some 72, .mov, [.t 11], none⟩,
  ⟨some 73, (.call Zdh), [.t 71, .t 72], none⟩,
  ⟨some 74, (.bin .eql), [.t 73, .c (.int .i64 0)], none⟩,
  ⟨some 75, .mov, [.t 74], none⟩,
  ⟨some 76, .mov, [.t 13], some (75, true)⟩,
  ⟨some 77, .pick, [.t 75, .t 76, .c (.bool false)], none⟩,
  ⟨some 78, .mov, [.t 77], none⟩,
  ⟨some 79, (.fad 0), [.t 12], some (78, true)⟩,
  ⟨some 80, (.load false 1), [.t 79], some (78, true)⟩,
  ⟨some 81, .pick, [.t 78, .t 80, .c (.bool false)], none⟩,
  ⟨some 82, .mov, [.t 81], none⟩,
  ⟨some 83, (.load true 5), [.t 12], some (82, true)⟩,
  ⟨some 84, (.bld [(.bool false), (.int .i64 0), (.int .i64 0), (.slc 0 [] true), (.slc 0 [] true)] [(0, 1)]), [.c (.bool true)], some (82, true)⟩,
  ⟨some 85, (.call Zd2), [.t 83, .t 84], some (82, true)⟩,
  ⟨some 86, .pick, [.t 82, .t 85, .c (.bool false)], none⟩,
  ⟨some 87, .mov, [.t 86], none⟩,
  ⟨some 88, .mov, [.t 8], some (87, true)⟩,
  ⟨some 89, .mov, [.t 11], some (87, true)⟩,
  ⟨some 90, (.load true 5), [.t 9], some (87, true)⟩,
  ⟨some 91, (.call Zdd), [.t 88, .t 89, .t 90], some (87, true)⟩,
  ⟨some 92, .mov, [.t 14], some (87, true)⟩,
  ⟨some 93, (.bin .eql), [.t 91, .t 92], some (87, true)⟩,
  ⟨some 94, .pick, [.t 87, .t 93, .c (.bool false)], none⟩,
  ⟨some 6, .mov, [.t 94], none⟩]
def Z1al : Z2y := ⟨95, (.seq (.region Z1a0 [0, 1, 2]) (.seq (.seq (.region Z1a1 [0, 1, 2, 16]) (.cond (.t 16) (.seq (.region Z1a2 [6]) .ret) .skip)) (.seq (.region Z1a3 [0, 1, 2, 7]) (.seq (.region Z1a4 [0, 1, 2, 8]) (.seq (.seq (.region Z1a5 [0, 1, 2, 8, 36]) (.cond (.t 36) (.seq (.region Z1a6 [6]) .ret) .skip)) (.seq (.region Z1a7 [0, 1, 2, 8, 9]) (.seq (.seq (.region Z1a8 [0, 1, 8, 9, 48]) (.cond (.t 48) (.region Z1a9 [0, 1, 8, 9]) .skip)) (.seq (.region Z1aa [0, 1, 8, 9, 10]) (.seq (.seq (.region Z1ab [0, 1, 8, 9, 10, 54]) (.cond (.t 54) (.region Z1ac [0, 8, 9, 10]) .skip)) (.seq (.region Z1ad [0, 8, 9, 11]) (.seq (.region Z1ae [0, 8, 9, 11, 12, 13]) (.seq (.region Z1af [0, 8, 9, 11, 12, 13, 14]) (.seq (.seq (.region Z1ag [0, 8, 9, 11, 12, 13, 14, 68]) (.cond (.t 68) (.region Z1ah [0, 8, 9, 11, 12, 13, 14]) .skip)) (.seq (.seq (.region Z1ai [8, 9, 11, 12, 13, 14, 70]) (.cond (.t 70) (.region Z1aj [8, 9, 11, 12, 13, 14]) .skip)) (.seq (.region Z1ak [6]) .ret))))))))))))))), [.t 6]⟩
def Z1am : List Z2a := [
  ⟨some 2, (.box 5), [.t 0], none⟩,
  ⟨some 3, (.box 5), [.t 1], none⟩,
  ⟨some 4, .mov, [.c (.bool false)], none⟩]
def Z1an : List Z2a := [
  ⟨some 6, (.fad 0), [.t 2], none⟩,
  ⟨some 7, (.load false 1), [.t 6], none⟩,
  ⟨some 8, (.fad 0), [.t 3], none⟩,
  ⟨some 9, (.load false 1), [.t 8], none⟩,
  ⟨some 10, (.binb .neq), [.t 7, .t 9], none⟩,
  ⟨some 11, .mov, [.t 10], none⟩,
  ⟨some 12, (.fad 1), [.t 2], some (11, false)⟩,
  ⟨some 13, (.load false 1), [.t 12], some (11, false)⟩,
  ⟨some 14, (.fad 1), [.t 3], some (11, false)⟩,
  ⟨some 15, (.load false 1), [.t 14], some (11, false)⟩,
  ⟨some 16, (.bin .neq), [.t 13, .t 15], some (11, false)⟩,
  ⟨some 17, .pick, [.t 11, .c (.bool true), .t 16], none⟩,
  ⟨some 18, .mov, [.t 17], none⟩,
  ⟨some 19, (.fad 2), [.t 2], some (18, false)⟩,
  ⟨some 20, (.load false 1), [.t 19], some (18, false)⟩,
  ⟨some 21, (.fad 2), [.t 3], some (18, false)⟩,
  ⟨some 22, (.load false 1), [.t 21], some (18, false)⟩,
  ⟨some 23, (.bin .neq), [.t 20, .t 22], some (18, false)⟩,
  ⟨some 24, .pick, [.t 18, .c (.bool true), .t 23], none⟩,
  ⟨some 25, .mov, [.t 24], none⟩,
  ⟨some 26, (.fad 3), [.t 2], some (25, false)⟩,
  ⟨some 27, (.load false 1), [.t 26], some (25, false)⟩,
  ⟨some 28, .b2s, [.t 27], some (25, false)⟩,
  ⟨some 29, (.fad 3), [.t 3], some (25, false)⟩,
  ⟨some 30, (.load false 1), [.t 29], some (25, false)⟩,
  ⟨some 31, .b2s, [.t 30], some (25, false)⟩,
  ⟨some 32, (.bin .neq), [.t 28, .t 31], some (25, false)⟩,
  ⟨some 33, .pick, [.t 25, .c (.bool true), .t 32], none⟩,
  ⟨some 34, .mov, [.t 33], none⟩,
  ⟨some 35, (.fad 4), [.t 2], some (34, false)⟩,
  ⟨some 36, (.load false 1), [.t 35], some (34, false)⟩,
  ⟨some 37, .lens, [.t 36], some (34, false)⟩,
  ⟨some 38, (.fad 4), [.t 3], some (34, false)⟩,
  ⟨some 39, (.load false 1), [.t 38], some (34, false)⟩,
  ⟨some 40, .lens, [.t 39], some (34, false)⟩,
  ⟨some 41, (.bin .neq), [.t 37, .t 40], some (34, false)⟩,
  ⟨some 42, .pick, [.t 34, .c (.bool true), .t 41], none⟩]
def Z1ao : List Z2a := [
  ⟨some 4, .mov, [.c (.bool false)], none⟩]
def Z1ap : List Z2a := [
  ⟨some 5, .mov, [.c (.int .i64 0)], none⟩]
def Z1aq : List Z2a := [
  ⟨some 43, .mov, [.t 5], none⟩,
  ⟨some 44, (.fad 4), [.t 2], none⟩,
  ⟨some 45, (.load false 1), [.t 44], none⟩,
  ⟨some 46, .lens, [.t 45], none⟩,
  ⟨some 47, (.bin .lss), [.t 43, .t 46], none⟩]
def Z1ar : List Z2a := [
  ⟨some 50, (.fad 4), [.t 2], none⟩,
  ⟨some 51, (.load false 1), [.t 50], none⟩,
  ⟨some 52, .mov, [.t 5], none⟩,
  ⟨some 53, (.iad 5), [.t 51, .t 52], none⟩,
  ⟨some 54, (.load true 5), [.t 53], none⟩,
  ⟨some 55, (.fad 4), [.t 3], none⟩,
  ⟨some 56, (.load false 1), [.t 55], none⟩,
  ⟨some 57, .mov, [.t 5], none⟩,
  ⟨some 58, (.iad 5), [.t 56, .t 57], none⟩,
  ⟨some 59, (.load true 5), [.t 58], none⟩,
  ⟨some 60, (.call Zd2), [.t 54, .t 59], none⟩,
  ⟨some 61, .unot, [.t 60], none⟩]
def Z1as : List Z2a := [
  ⟨some 4, .mov, [.c (.bool false)], none⟩]
def Z1at : List Z2a := [
  ⟨some 48, .mov, [.t 5], none⟩,
  ⟨some 49, (.bin .add), [.t 48, .c (.int .i64 1)], none⟩,
  ⟨some 5, .mov, [.t 49], none⟩]
def Z1au : Z2b := (.seq (.seq (.region Z1aq [2, 3, 5, 47]) (.cond (.t 47) .skip (.exit 0))) (.seq (.block 1 (.seq (.region Z1ar [2, 3, 5, 61]) (.cond (.t 61) (.seq (.region Z1as [4]) .ret) .skip))) (.region Z1at [2, 3, 5])))
def Z1av : List Z2a := [
  ⟨some 4, .mov, [.c (.bool true)], none⟩]
def Z1aw : Z2y := ⟨62, (.seq (.region Z1am [2, 3, 12, 13, 14, 15, 16, 19, 20, 21, 22, 23, 26, 27, 28, 29, 30, 31, 32, 35, 36, 37, 38, 39, 40, 41]) (.seq (.seq (.region Z1an [2, 3, 42]) (.cond (.t 42) (.seq (.region Z1ao [4]) .ret) .skip)) (.seq (.seq (.region Z1ap [2, 3, 5]) (.block 0 (.loop Z1au))) (.seq (.region Z1av [4]) .ret)))), [.t 4]⟩
end Go.Abs
namespace Go.Abs
open Go Go.Proofs
theorem Z1ax : Z2z Try.prog [] Zcg = some Z1al.erase := by kernel_rfl
theorem Z1ay : Z2z Try.prog [] Zd2 = some Z1aw.erase := by kernel_rfl
end Go.Abs
namespace Go.Abs
open Go Go.Proofs
set_option linter.unusedVariables false
set_option linter.unusedSimpArgs false
set_option maxHeartbeats 4000000
attribute [local irreducible] AWp aops KP
mutual
def Z1az : Vl → Vl → Bool
  | .mk nu i n b ks, w => (nu == w.null) && (decide (i = w.i) && (decide (n = w.n) && (decide (b = w.b) && (decide (ks.length = w.kids.length) && Z1b0 ks w.kids))))
def Z1b0 : List Vl → List Vl → Bool
  | [], _ => true
  | v :: vs, ws => Z1az v (ws.getD 0 default) && Z1b0 vs (ws.drop 1)
end
theorem Z1b1 : ∀ v : Vl, Z1az v v = true := by
  refine Vl.ind fun nu i n b ks ih => ?_
  have hL : ∀ (ks : List Vl), (∀ v ∈ ks, Z1az v v = true) → Z1b0 ks ks = true := by
    intro ks
    induction ks with
    | nil => intro _; rfl
    | cons v vs ih2 => intro h; rw [Z1b0]; simp [h v (by simp), ih2 (fun v hv => h v (by simp [hv]))]
  rw [Z1az]
  simp [Vl.null, Vl.i, Vl.n, Vl.b, Vl.kids, hL ks ih]
theorem Z1b2 : ∀ (ks ws : List Vl) (j : Nat) (v w : Vl), ks[j]? = some v → ws[j]? = some w → Z1b0 (ks.drop j) (ws.drop j) = (Z1az v w && Z1b0 (ks.drop (j + 1)) (ws.drop (j + 1))) := by
  intro ks ws j v w h1 h2
  obtain ⟨h1', rfl⟩ := List.getElem?_eq_some_iff.1 h1
  obtain ⟨h2', rfl⟩ := List.getElem?_eq_some_iff.1 h2
  rw [List.drop_eq_getElem_cons h1', Z1b0, List.drop_eq_getElem_cons h2']
  simp [h2']
theorem Z1b3 : ∀ (a : Vl), a.Fit → ∀ (b : Vl) (σ : Zc), Z1q Try.prog Zd2 [encV a, encV b] σ fun r σ' => r = .bool (Z1az a b) ∧ σ' = σ := by
  refine Vl.ind fun nu i n bs ks ih hf b σ => ?_
  cases hf with
  | mk _ hb hk hks =>
  have hk : ks.length ≤ 9223372036854775807 := hk
  rw [Zm7, Zm7]
  obtain ⟨bn, bi, b_n, bb, bk⟩ := b
  refine Z8t rfl Z1ay (Nat.le_of_ble_eq_true rfl) ?_
  refine Z9z ?_
  refine Z9j rfl (Z0.fit_iff.1 rfl) fun b2 hb2 => ?_
  refine Z9j rfl (Z0.fit_iff.1 rfl) fun b3 hb3 => ?_
  (repeat (refine st_q rfl rfl rfl ?_))
  (refine Z8y ?_; (repeat (first | refine Z9v rfl ?_ | refine Z9w ?_)); refine Z9u ?_)
  refine Zb3 (d := 3) (cs := [.bool bn, .int .i64 bi, .int .i64 b_n, .slc 1 (bytes bb) false, .slc 5 (Zm5 bk) false]) rfl ?_
  refine Zb3 (d := 2) (cs := [.bool nu, .int .i64 i, .int .i64 n, .slc 1 (bytes bs) false, .slc 5 (Zm5 ks) false]) rfl ?_
  generalize hX : Z1az (.mk nu i n bs ks) (.mk bn bi b_n bb bk) = X
  simp only [Z1az, Vl.null, Vl.i, Vl.n, Vl.b, Vl.kids] at hX
  have eL : ∀ l : List Vl, (Zm5 l).length = l.length := Zm9
  cases q0 : (nu == bn) with
  | false =>
    have q0' : (!(nu == bn)) = true := by rw [q0]; rfl
    (repeat (first | refine st_q rfl rfl rfl ?_ | refine Z8v rfl (st_q rfl rfl rfl ?_) | refine Z92 rfl Z8z rfl rfl ?_ | refine Z8v rfl (Z92 rfl Z8z rfl rfl ?_) | refine Zbz rfl rfl ?_ | refine Z8v rfl (Zbz rfl rfl ?_) | refine Z8w rfl ?_ | refine Z8x rfl ?_ | (refine Z8y ?_; (repeat (first | refine Z9v rfl ?_ | refine Z9w ?_)); refine Z9u ?_) | refine awp_seq ?_ | refine Zbm (fun _ _ => rfl) ?_ | refine Z8h ?_ | refine Zbn (fun _ _ => rfl) ?_ | refine Zbo (fun _ _ => rfl) ?_ | refine Z8f (t := true) rfl (fun _ => ?_) (fun e => by cases e) | refine Z8f (t := false) rfl (fun e => by cases e) (fun _ => ?_)))
    rw [q0']
    (repeat (first | refine st_q rfl rfl rfl ?_ | refine Z8v rfl (st_q rfl rfl rfl ?_) | refine Z92 rfl Z8z rfl rfl ?_ | refine Z8v rfl (Z92 rfl Z8z rfl rfl ?_) | refine Zbz rfl rfl ?_ | refine Z8v rfl (Zbz rfl rfl ?_) | refine Z8w rfl ?_ | refine Z8x rfl ?_ | (refine Z8y ?_; (repeat (first | refine Z9v rfl ?_ | refine Z9w ?_)); refine Z9u ?_) | refine awp_seq ?_ | refine Zbm (fun _ _ => rfl) ?_ | refine Z8h ?_ | refine Zbn (fun _ _ => rfl) ?_ | refine Zbo (fun _ _ => rfl) ?_ | refine Z8f (t := true) rfl (fun _ => ?_) (fun e => by cases e) | refine Z8f (t := false) rfl (fun e => by cases e) (fun _ => ?_)))
    (refine Z8d ?_; exact ares rfl (HSub.refl _) ⟨(by rw [← hX, q0]; rfl), rfl⟩)
  | true =>
  have q0' : (!(nu == bn)) = false := by rw [q0]; rfl
  (repeat (first | refine st_q rfl rfl rfl ?_ | refine Z8v rfl (st_q rfl rfl rfl ?_) | refine Z92 rfl Z8z rfl rfl ?_ | refine Z8v rfl (Z92 rfl Z8z rfl rfl ?_) | refine Zbz rfl rfl ?_ | refine Z8v rfl (Zbz rfl rfl ?_) | refine Z8w rfl ?_ | refine Z8x rfl ?_ | (refine Z8y ?_; (repeat (first | refine Z9v rfl ?_ | refine Z9w ?_)); refine Z9u ?_) | refine awp_seq ?_ | refine Zbm (fun _ _ => rfl) ?_ | refine Z8h ?_ | refine Zbn (fun _ _ => rfl) ?_ | refine Zbo (fun _ _ => rfl) ?_ | refine Z8f (t := true) rfl (fun _ => ?_) (fun e => by cases e) | refine Z8f (t := false) rfl (fun e => by cases e) (fun _ => ?_)))
  rw [q0']
  (repeat (first | refine st_q rfl rfl rfl ?_ | refine Z8v rfl (st_q rfl rfl rfl ?_) | refine Z92 rfl Z8z rfl rfl ?_ | refine Z8v rfl (Z92 rfl Z8z rfl rfl ?_) | refine Zbz rfl rfl ?_ | refine Z8v rfl (Zbz rfl rfl ?_) | refine Z8w rfl ?_ | refine Z8x rfl ?_ | (refine Z8y ?_; (repeat (first | refine Z9v rfl ?_ | refine Z9w ?_)); refine Z9u ?_) | refine awp_seq ?_ | refine Zbm (fun _ _ => rfl) ?_ | refine Z8h ?_ | refine Zbn (fun _ _ => rfl) ?_ | refine Zbo (fun _ _ => rfl) ?_ | refine Z8f (t := true) rfl (fun _ => ?_) (fun e => by cases e) | refine Z8f (t := false) rfl (fun e => by cases e) (fun _ => ?_)))
  by_cases q1 : i = bi
  rotate_left
  · (rw [show decide (i ≠ bi) = true from decide_eq_true (by omega)])
    (repeat (first | refine st_q rfl rfl rfl ?_ | refine Z8v rfl (st_q rfl rfl rfl ?_) | refine Z92 rfl Z8z rfl rfl ?_ | refine Z8v rfl (Z92 rfl Z8z rfl rfl ?_) | refine Zbz rfl rfl ?_ | refine Z8v rfl (Zbz rfl rfl ?_) | refine Z8w rfl ?_ | refine Z8x rfl ?_ | (refine Z8y ?_; (repeat (first | refine Z9v rfl ?_ | refine Z9w ?_)); refine Z9u ?_) | refine awp_seq ?_ | refine Zbm (fun _ _ => rfl) ?_ | refine Z8h ?_ | refine Zbn (fun _ _ => rfl) ?_ | refine Zbo (fun _ _ => rfl) ?_ | refine Z8f (t := true) rfl (fun _ => ?_) (fun e => by cases e) | refine Z8f (t := false) rfl (fun e => by cases e) (fun _ => ?_)))
    (refine Z8d ?_; exact ares rfl (HSub.refl _) ⟨(by rw [← hX]; simp [q1, Z8m]), rfl⟩)
  (rw [show decide (i ≠ bi) = false from decide_eq_false (by omega)])
  (repeat (first | refine st_q rfl rfl rfl ?_ | refine Z8v rfl (st_q rfl rfl rfl ?_) | refine Z92 rfl Z8z rfl rfl ?_ | refine Z8v rfl (Z92 rfl Z8z rfl rfl ?_) | refine Zbz rfl rfl ?_ | refine Z8v rfl (Zbz rfl rfl ?_) | refine Z8w rfl ?_ | refine Z8x rfl ?_ | (refine Z8y ?_; (repeat (first | refine Z9v rfl ?_ | refine Z9w ?_)); refine Z9u ?_) | refine awp_seq ?_ | refine Zbm (fun _ _ => rfl) ?_ | refine Z8h ?_ | refine Zbn (fun _ _ => rfl) ?_ | refine Zbo (fun _ _ => rfl) ?_ | refine Z8f (t := true) rfl (fun _ => ?_) (fun e => by cases e) | refine Z8f (t := false) rfl (fun e => by cases e) (fun _ => ?_)))
  by_cases q2 : n = b_n
  rotate_left
  · (rw [show decide (n ≠ b_n) = true from decide_eq_true (by omega)])
    (repeat (first | refine st_q rfl rfl rfl ?_ | refine Z8v rfl (st_q rfl rfl rfl ?_) | refine Z92 rfl Z8z rfl rfl ?_ | refine Z8v rfl (Z92 rfl Z8z rfl rfl ?_) | refine Zbz rfl rfl ?_ | refine Z8v rfl (Zbz rfl rfl ?_) | refine Z8w rfl ?_ | refine Z8x rfl ?_ | (refine Z8y ?_; (repeat (first | refine Z9v rfl ?_ | refine Z9w ?_)); refine Z9u ?_) | refine awp_seq ?_ | refine Zbm (fun _ _ => rfl) ?_ | refine Z8h ?_ | refine Zbn (fun _ _ => rfl) ?_ | refine Zbo (fun _ _ => rfl) ?_ | refine Z8f (t := true) rfl (fun _ => ?_) (fun e => by cases e) | refine Z8f (t := false) rfl (fun e => by cases e) (fun _ => ?_)))
    (refine Z8d ?_; exact ares rfl (HSub.refl _) ⟨(by rw [← hX]; simp [q2, Z8m]), rfl⟩)
  (rw [show decide (n ≠ b_n) = false from decide_eq_false (by omega)])
  (repeat (first | refine st_q rfl rfl rfl ?_ | refine Z8v rfl (st_q rfl rfl rfl ?_) | refine Z92 rfl Z8z rfl rfl ?_ | refine Z8v rfl (Z92 rfl Z8z rfl rfl ?_) | refine Zbz rfl rfl ?_ | refine Z8v rfl (Zbz rfl rfl ?_) | refine Z8w rfl ?_ | refine Z8x rfl ?_ | (refine Z8y ?_; (repeat (first | refine Z9v rfl ?_ | refine Z9w ?_)); refine Z9u ?_) | refine awp_seq ?_ | refine Zbm (fun _ _ => rfl) ?_ | refine Z8h ?_ | refine Zbn (fun _ _ => rfl) ?_ | refine Zbo (fun _ _ => rfl) ?_ | refine Z8f (t := true) rfl (fun _ => ?_) (fun e => by cases e) | refine Z8f (t := false) rfl (fun e => by cases e) (fun _ => ?_)))
  by_cases q3 : bs = bb
  rotate_left
  · rw [show decide (bs ≠ bb) = true from decide_eq_true q3]
    (repeat (first | refine st_q rfl rfl rfl ?_ | refine Z8v rfl (st_q rfl rfl rfl ?_) | refine Z92 rfl Z8z rfl rfl ?_ | refine Z8v rfl (Z92 rfl Z8z rfl rfl ?_) | refine Zbz rfl rfl ?_ | refine Z8v rfl (Zbz rfl rfl ?_) | refine Z8w rfl ?_ | refine Z8x rfl ?_ | (refine Z8y ?_; (repeat (first | refine Z9v rfl ?_ | refine Z9w ?_)); refine Z9u ?_) | refine awp_seq ?_ | refine Zbm (fun _ _ => rfl) ?_ | refine Z8h ?_ | refine Zbn (fun _ _ => rfl) ?_ | refine Zbo (fun _ _ => rfl) ?_ | refine Z8f (t := true) rfl (fun _ => ?_) (fun e => by cases e) | refine Z8f (t := false) rfl (fun e => by cases e) (fun _ => ?_)))
    (refine Z8d ?_; exact ares rfl (HSub.refl _) ⟨(by rw [← hX]; simp [q3, Z8m]), rfl⟩)
  rw [show decide (bs ≠ bb) = false from decide_eq_false (fun h => h q3)]
  (repeat (first | refine st_q rfl rfl rfl ?_ | refine Z8v rfl (st_q rfl rfl rfl ?_) | refine Z92 rfl Z8z rfl rfl ?_ | refine Z8v rfl (Z92 rfl Z8z rfl rfl ?_) | refine Zbz rfl rfl ?_ | refine Z8v rfl (Zbz rfl rfl ?_) | refine Z8w rfl ?_ | refine Z8x rfl ?_ | (refine Z8y ?_; (repeat (first | refine Z9v rfl ?_ | refine Z9w ?_)); refine Z9u ?_) | refine awp_seq ?_ | refine Zbm (fun _ _ => rfl) ?_ | refine Z8h ?_ | refine Zbn (fun _ _ => rfl) ?_ | refine Zbo (fun _ _ => rfl) ?_ | refine Z8f (t := true) rfl (fun _ => ?_) (fun e => by cases e) | refine Z8f (t := false) rfl (fun e => by cases e) (fun _ => ?_)))
  rw [eL, eL]
  by_cases q4 : ks.length = bk.length
  rotate_left
  · (rw [show decide ((ks.length : Int) ≠ (bk.length : Int)) = true from decide_eq_true (by omega)])
    (repeat (first | refine st_q rfl rfl rfl ?_ | refine Z8v rfl (st_q rfl rfl rfl ?_) | refine Z92 rfl Z8z rfl rfl ?_ | refine Z8v rfl (Z92 rfl Z8z rfl rfl ?_) | refine Zbz rfl rfl ?_ | refine Z8v rfl (Zbz rfl rfl ?_) | refine Z8w rfl ?_ | refine Z8x rfl ?_ | (refine Z8y ?_; (repeat (first | refine Z9v rfl ?_ | refine Z9w ?_)); refine Z9u ?_) | refine awp_seq ?_ | refine Zbm (fun _ _ => rfl) ?_ | refine Z8h ?_ | refine Zbn (fun _ _ => rfl) ?_ | refine Zbo (fun _ _ => rfl) ?_ | refine Z8f (t := true) rfl (fun _ => ?_) (fun e => by cases e) | refine Z8f (t := false) rfl (fun e => by cases e) (fun _ => ?_)))
    (refine Z8d ?_; exact ares rfl (HSub.refl _) ⟨(by rw [← hX]; simp [q4, Z8m]), rfl⟩)
  (rw [show decide ((ks.length : Int) ≠ (bk.length : Int)) = false from decide_eq_false (by omega)])
  (repeat (first | refine st_q rfl rfl rfl ?_ | refine Z8v rfl (st_q rfl rfl rfl ?_) | refine Z92 rfl Z8z rfl rfl ?_ | refine Z8v rfl (Z92 rfl Z8z rfl rfl ?_) | refine Zbz rfl rfl ?_ | refine Z8v rfl (Zbz rfl rfl ?_) | refine Z8w rfl ?_ | refine Z8x rfl ?_ | (refine Z8y ?_; (repeat (first | refine Z9v rfl ?_ | refine Z9w ?_)); refine Z9u ?_) | refine awp_seq ?_ | refine Zbm (fun _ _ => rfl) ?_ | refine Z8h ?_ | refine Zbn (fun _ _ => rfl) ?_ | refine Zbo (fun _ _ => rfl) ?_ | refine Z8f (t := true) rfl (fun _ => ?_) (fun e => by cases e) | refine Z8f (t := false) rfl (fun e => by cases e) (fun _ => ?_)))
  have hX : Z1b0 ks bk = X := by rw [← hX]; simp [q0, q1, q2, q3, q4]
  refine Zaa (fun m F σ' => ∃ (j : Nat), F = fset 2 (some (.iptr [.bool nu, .int .i64 i, .int .i64 n, .slc 1 (bytes bs) false, .slc 5 (Zm5 ks) false])) (fset 3 (some (.iptr [.bool bn, .int .i64 bi, .int .i64 b_n, .slc 1 (bytes bb) false, .slc 5 (Zm5 bk) false])) (fset 5 (some (.int .i64 (j : Int))) Z27)) ∧
    σ = σ' ∧ j ≤ ks.length ∧ Z1b0 (ks.drop j) (bk.drop j) = X ∧ m = ks.length - j) (n := ks.length) ⟨0, rfl, rfl, by omega, hX, rfl⟩ ?_
  rintro m F σ' ⟨j, rfl, rfl, hj, hXj, rfl⟩
  (repeat (first | refine st_q rfl rfl rfl ?_ | refine Z8v rfl (st_q rfl rfl rfl ?_) | refine Z92 rfl Z8z rfl rfl ?_ | refine Z8v rfl (Z92 rfl Z8z rfl rfl ?_) | refine Zbz rfl rfl ?_ | refine Z8v rfl (Zbz rfl rfl ?_) | refine Z8w rfl ?_ | refine Z8x rfl ?_ | (refine Z8y ?_; (repeat (first | refine Z9v rfl ?_ | refine Z9w ?_)); refine Z9u ?_) | refine awp_seq ?_ | refine Zbm (fun _ _ => rfl) ?_ | refine Z8h ?_ | refine Zbn (fun _ _ => rfl) ?_ | refine Zbo (fun _ _ => rfl) ?_ | refine Z8f (t := true) rfl (fun _ => ?_) (fun e => by cases e) | refine Z8f (t := false) rfl (fun e => by cases e) (fun _ => ?_)))
  rw [eL]
  refine Za3 (p := (j : Int) < (ks.length : Int)) rfl (fun h5 => ?_) (fun h5 => ?_)
  · have hjl : j < ks.length := by omega
    have hjl2 : j < bk.length := by omega
    have h1 : (Zm5 ks)[((j : Nat) : Int).toNat]? = some (.agg (Zm6 ks[j])) := by rw [← Zm7]; exact Zma (by rw [Int.toNat_natCast, List.getElem?_eq_getElem hjl])
    have h2 : (Zm5 bk)[((j : Nat) : Int).toNat]? = some (.agg (Zm6 bk[j])) := by rw [← Zm7]; exact Zma (by rw [Int.toNat_natCast, List.getElem?_eq_getElem hjl2])
    rw [Z1b2 ks bk j ks[j] bk[j] (List.getElem?_eq_getElem hjl) (List.getElem?_eq_getElem hjl2)] at hXj
    have hc := ih ks[j] (List.getElem_mem hjl) (hks _ (List.getElem_mem hjl)) bk[j]
    rw [Zm7, Zm7] at hc
    (repeat (first | refine st_q rfl rfl rfl ?_ | refine Z8v rfl (st_q rfl rfl rfl ?_) | refine Z92 rfl Z8z rfl rfl ?_ | refine Z8v rfl (Z92 rfl Z8z rfl rfl ?_) | refine Zbz rfl rfl ?_ | refine Z8v rfl (Zbz rfl rfl ?_) | refine Z8w rfl ?_ | refine Z8x rfl ?_ | (refine Z8y ?_; (repeat (first | refine Z9v rfl ?_ | refine Z9w ?_)); refine Z9u ?_) | refine awp_seq ?_ | refine Zbm (fun _ _ => rfl) ?_ | refine Z8h ?_ | refine Zbn (fun _ _ => rfl) ?_ | refine Zbo (fun _ _ => rfl) ?_ | refine Z8f (t := true) rfl (fun _ => ?_) (fun e => by cases e) | refine Z8f (t := false) rfl (fun e => by cases e) (fun _ => ?_)))
    refine Z93 rfl (by omega) h1 ?_
    (repeat (first | refine st_q rfl rfl rfl ?_ | refine Z8v rfl (st_q rfl rfl rfl ?_) | refine Z92 rfl Z8z rfl rfl ?_ | refine Z8v rfl (Z92 rfl Z8z rfl rfl ?_) | refine Zbz rfl rfl ?_ | refine Z8v rfl (Zbz rfl rfl ?_) | refine Z8w rfl ?_ | refine Z8x rfl ?_ | (refine Z8y ?_; (repeat (first | refine Z9v rfl ?_ | refine Z9w ?_)); refine Z9u ?_) | refine awp_seq ?_ | refine Zbm (fun _ _ => rfl) ?_ | refine Z8h ?_ | refine Zbn (fun _ _ => rfl) ?_ | refine Zbo (fun _ _ => rfl) ?_ | refine Z8f (t := true) rfl (fun _ => ?_) (fun e => by cases e) | refine Z8f (t := false) rfl (fun e => by cases e) (fun _ => ?_)))
    refine Z93 rfl (by omega) h2 ?_
    (repeat (first | refine st_q rfl rfl rfl ?_ | refine Z8v rfl (st_q rfl rfl rfl ?_) | refine Z92 rfl Z8z rfl rfl ?_ | refine Z8v rfl (Z92 rfl Z8z rfl rfl ?_) | refine Zbz rfl rfl ?_ | refine Z8v rfl (Zbz rfl rfl ?_) | refine Z8w rfl ?_ | refine Z8x rfl ?_ | (refine Z8y ?_; (repeat (first | refine Z9v rfl ?_ | refine Z9w ?_)); refine Z9u ?_) | refine awp_seq ?_ | refine Zbm (fun _ _ => rfl) ?_ | refine Z8h ?_ | refine Zbn (fun _ _ => rfl) ?_ | refine Zbo (fun _ _ => rfl) ?_ | refine Z8f (t := true) rfl (fun _ => ?_) (fun e => by cases e) | refine Z8f (t := false) rfl (fun e => by cases e) (fun _ => ?_)))
    (first | refine Z9t rfl (hc _) ?_ | refine Z8v rfl (Z9t rfl (hc _) ?_) | refine Zbw rfl hc ?_ | refine Z8v rfl (Zbw rfl hc ?_))
    cases hs : Z1az ks[j] bk[j] with
    | false =>
      rw [hs, Bool.false_and] at hXj
      (repeat (first | refine st_q rfl rfl rfl ?_ | refine Z8v rfl (st_q rfl rfl rfl ?_) | refine Z92 rfl Z8z rfl rfl ?_ | refine Z8v rfl (Z92 rfl Z8z rfl rfl ?_) | refine Zbz rfl rfl ?_ | refine Z8v rfl (Zbz rfl rfl ?_) | refine Z8w rfl ?_ | refine Z8x rfl ?_ | (refine Z8y ?_; (repeat (first | refine Z9v rfl ?_ | refine Z9w ?_)); refine Z9u ?_) | refine awp_seq ?_ | refine Zbm (fun _ _ => rfl) ?_ | refine Z8h ?_ | refine Zbn (fun _ _ => rfl) ?_ | refine Zbo (fun _ _ => rfl) ?_ | refine Z8f (t := true) rfl (fun _ => ?_) (fun e => by cases e) | refine Z8f (t := false) rfl (fun e => by cases e) (fun _ => ?_)))
      (refine Z8d ?_; exact ares rfl (HSub.refl _) ⟨(by rw [← hXj]; rfl), rfl⟩)
    | true =>
      rw [hs, Bool.true_and] at hXj
      (repeat (first | refine st_q rfl rfl rfl ?_ | refine Z8v rfl (st_q rfl rfl rfl ?_) | refine Z92 rfl Z8z rfl rfl ?_ | refine Z8v rfl (Z92 rfl Z8z rfl rfl ?_) | refine Zbz rfl rfl ?_ | refine Z8v rfl (Zbz rfl rfl ?_) | refine Z8w rfl ?_ | refine Z8x rfl ?_ | (refine Z8y ?_; (repeat (first | refine Z9v rfl ?_ | refine Z9w ?_)); refine Z9u ?_) | refine awp_seq ?_ | refine Zbm (fun _ _ => rfl) ?_ | refine Z8h ?_ | refine Zbn (fun _ _ => rfl) ?_ | refine Zbo (fun _ _ => rfl) ?_ | refine Z8f (t := true) rfl (fun _ => ?_) (fun e => by cases e) | refine Z8f (t := false) rfl (fun e => by cases e) (fun _ => ?_)))
      refine Zbp ?_
      (repeat (refine st_q rfl rfl rfl ?_))
      rw [show IntKind.wrap .i64 ((j : Int) + 1) = ((j + 1 : Nat) : Int) by rw [w64 _ (by omega) (by omega)]; omega]
      (refine Z8y ?_; (repeat (first | refine Z9v rfl ?_ | refine Z9w ?_)); refine Z9u ?_)
      exact ⟨_, ks.length - (j + 1), HSub.refl _, ⟨j + 1, rfl, rfl, by omega, hXj, rfl⟩, by omega⟩
  · (repeat (first | refine st_q rfl rfl rfl ?_ | refine Z8v rfl (st_q rfl rfl rfl ?_) | refine Z92 rfl Z8z rfl rfl ?_ | refine Z8v rfl (Z92 rfl Z8z rfl rfl ?_) | refine Zbz rfl rfl ?_ | refine Z8v rfl (Zbz rfl rfl ?_) | refine Z8w rfl ?_ | refine Z8x rfl ?_ | (refine Z8y ?_; (repeat (first | refine Z9v rfl ?_ | refine Z9w ?_)); refine Z9u ?_) | refine awp_seq ?_ | refine Zbm (fun _ _ => rfl) ?_ | refine Z8h ?_ | refine Zbn (fun _ _ => rfl) ?_ | refine Zbo (fun _ _ => rfl) ?_ | refine Z8f (t := true) rfl (fun _ => ?_) (fun e => by cases e) | refine Z8f (t := false) rfl (fun e => by cases e) (fun _ => ?_)))
    rw [List.drop_of_length_le (by omega), Z1b0] at hXj
    (refine Z8d ?_; exact ares rfl (HSub.refl _) ⟨(by rw [← hXj]; rfl), rfl⟩)
end Go.Abs
namespace Go.Abs
open Go Go.Proofs
set_option linter.unusedVariables false
set_option linter.unusedSimpArgs false
set_option maxHeartbeats 4000000
attribute [local irreducible] AWp aops KP
def tC : Ty := .mk 12 [[115]] [tB 4] 0 0 0
def lC : List Nd := [⟨tC, [1], -1, 1⟩, ⟨tB 4, [2], 0, 2⟩, ⟨.mk 4 [] [] 0 0 0, [], 1, 3⟩]
theorem Z1b4 : Zm4 tC = lC := by rfl
theorem Z1b5 : tC.Fit := by
  refine .mk (by simp [tC, Ty.kids]) (by simp [tC, Ty.names]) (by simp [tC, Ty.names, maxLen]) fun u hu => ?_
  simp only [tC, Ty.kids, List.mem_singleton] at hu
  subst hu
  exact Z19h 4
theorem lC_Wf : WfN lC := by
  refine ⟨by simp [lC], ?_, ?_⟩
  · intro i n h
    match i, h with
    | 0, h => simp only [lC, List.getElem?_cons_zero, Option.some.injEq] at h; subst h; simp
    | 1, h => simp only [lC, List.getElem?_cons_succ, List.getElem?_cons_zero, Option.some.injEq] at h; subst h; simp
    | 2, h => simp only [lC, List.getElem?_cons_succ, List.getElem?_cons_zero, Option.some.injEq] at h; subst h; simp
    | i + 3, h => simp [lC] at h
  · intro n hn
    simp only [lC, List.mem_cons, List.not_mem_nil, or_false] at hn
    rcases hn with rfl | rfl | rfl <;> simp
theorem lC_ok : ∀ n ∈ lC, Zlt n.t.kind = true → (tyN n).Ok := by
  intro n hn hl
  simp only [lC, List.mem_cons, List.not_mem_nil, or_false] at hn
  rcases hn with rfl | rfl | rfl
  · simp [tC, Ty.kind, Zlt] at hl
  · simp [tB, Ty.kind, Zlt] at hl
  · exact .mk rfl (by simp [tyN, Ty.kids])
def tm2 (op i : Int) : Tm := ⟨2, op, vI i⟩
theorem Z1b6 : nullV.Fit := .mk (by simp [nullV, Vl.i]) (by simp [nullV, Vl.b]) (by simp [nullV, Vl.kids]) (by simp [nullV, Vl.kids])
theorem Z1b7 {op i : Int} (h : 1 ≤ op ∧ op ≤ 8) (h0 : 7 ≤ op → i = 0) : Z18b lC [tm2 op i] = 0 := by
  have hok : okM lC (tm2 op i) = true := by
    have e : okM lC (tm2 op i) = (if op = 7 ∨ op = 8 then Z17r (vI i) else if 1 ≤ op ∧ op ≤ 6 then true else false) := rfl
    rw [e]
    by_cases h7 : op = 7 ∨ op = 8
    · rw [if_pos h7, h0 (by omega)]; rfl
    · rw [if_neg h7, if_pos (by omega)]
  rw [Z18b, if_neg (by simp), List.all_cons, hok]
  rfl
theorem Z1b8 {op i : Int} {row : Vl} (hg : getF lC ((2 : Int).toNat + 1) 2 row = nullV) : Z189 lC row [tm2 op i] 1 = if op = 7 then 1 else if op = 8 then 0 else 2 := by
  have e : Z189 lC row [tm2 op i] 1 = (if op = 7 then (if (getF lC ((2 : Int).toNat + 1) 2 row).null = true then (1 : Int) else 0)
    else if op = 8 then (if (getF lC ((2 : Int).toNat + 1) 2 row).null = true then 0 else 1)
    else if (getF lC ((2 : Int).toNat + 1) 2 row).null = true then 2
    else if Z17x op (cmpV 4 (getF lC ((2 : Int).toNat + 1) 2 row) (vI i)).1 = true then 1 else 0) := rfl
  rw [e, hg]
  rfl
theorem Z1b9 (op i : Int) (hop : 1 ≤ op ∧ op ≤ 8) (hi : -9223372036854775808 ≤ i ∧ i ≤ 9223372036854775807) (h0 : 7 ≤ op → i = 0) (row : Vl) (hrc : row.Cl) (hg : getF lC ((2 : Int).toNat + 1) 2 row = nullV) (σ : Zc) :
    AWp Try.prog Z1al.n (Z1al.code.snd 9) (ARet Z1al.res fun r σ' => r = .bool true ∧ σ' = σ)
      (fset 0 (some (.int .i64 op)) (fset 8 (some (.slc 8 (lC.map encN) true)) (fset 9 (some (.iptr (Zm6 row))) (fset 10 (some (.iptr (Zm6 (vI i)))) Z27)))) σ := by
  have hG := c_Get lC lC_Wf true 2 row hrc
  have hGe : GetF lC 2 row = (nullV, true) := by
    have hgd : goodF lC 2 = true := by rfl
    rw [GetF, if_pos hgd]
    exact congrArg (fun x => (x, true)) hg
  rw [hGe] at hG
  have hC := Z18c lC lC_Wf lC_ok true false [tm2 op i] (by
    intro t ht
    rw [List.mem_singleton] at ht
    subst ht
    exact Z19i i hi)
  rw [Z1b7 hop h0] at hC
  have hM := Z18a lC lC_Wf true false [tm2 op i] (by simp) row
  rw [Z1b8 hg] at hM
  have hS := Z1b3 nullV Z1b6 nullV
  rw [show Z1az nullV nullV = true by rfl] at hS
  simp only [Zm7] at *
  (repeat (first | refine st_q rfl rfl rfl ?_ | refine Z8v rfl (st_q rfl rfl rfl ?_) | refine Z8w rfl ?_ | refine Z8x rfl ?_ | (refine Z8y ?_; (repeat (first | refine Z9v rfl ?_ | refine Z9w ?_)); refine Z9u ?_) | refine awp_seq ?_ | refine Zbm (fun _ _ => rfl) ?_ | refine Z8h ?_ | refine Zbn (fun _ _ => rfl) ?_ | refine Zbo (fun _ _ => rfl) ?_ | refine Z8f (t := true) rfl (fun _ => ?_) (fun e => by cases e) | refine Z8f (t := false) rfl (fun e => by cases e) (fun _ => ?_)))
  refine Z9t rfl (hG _) ?_
  (repeat (first | refine st_q rfl rfl rfl ?_ | refine Z8v rfl (st_q rfl rfl rfl ?_) | refine Z8w rfl ?_ | refine Z8x rfl ?_ | (refine Z8y ?_; (repeat (first | refine Z9v rfl ?_ | refine Z9w ?_)); refine Z9u ?_) | refine awp_seq ?_ | refine Zbm (fun _ _ => rfl) ?_ | refine Z8h ?_ | refine Zbn (fun _ _ => rfl) ?_ | refine Zbo (fun _ _ => rfl) ?_ | refine Z8f (t := true) rfl (fun _ => ?_) (fun e => by cases e) | refine Z8f (t := false) rfl (fun e => by cases e) (fun _ => ?_)))
  refine Z9k (by simp [Z0.cells, Z0.one]) fun b12 hb12 => ?_
  (first | refine Z9a rfl Z8z rfl (by decide) (Z0.fit_iff.1 rfl) (fun h => by cases h) Z9b ?_ | refine Z8v rfl (Z9a rfl Z8z rfl (by decide) (Z0.fit_iff.1 rfl) (fun h => by cases h) Z9b ?_))
  (repeat (refine st_q rfl rfl rfl ?_))
  (refine Z8y ?_; (repeat (first | refine Z9v rfl ?_ | refine Z9w ?_)); refine Z9u ?_)
  refine Zb3 (d := 12) (cs := Zm6 nullV) rfl ?_
  (refine Z9y (keep := [0, 8, 9, 11, 12, 13]) ?_; ((repeat (first | refine Z9v rfl ?_ | refine Z9w ?_)); refine Z9u ?_))
  by_cases q7 : op = 7
  · rw [if_pos q7] at hM
    (repeat (first | refine st_q rfl rfl rfl ?_ | refine Z8v rfl (st_q rfl rfl rfl ?_) | refine Z8w rfl ?_ | refine Z8x rfl ?_ | (refine Z8y ?_; (repeat (first | refine Z9v rfl ?_ | refine Z9w ?_)); refine Z9u ?_) | refine awp_seq ?_ | refine Zbm (fun _ _ => rfl) ?_ | refine Z8h ?_ | refine Zbn (fun _ _ => rfl) ?_ | refine Zbo (fun _ _ => rfl) ?_ | refine Z8f (t := true) rfl (fun _ => ?_) (fun e => by cases e) | refine Z8f (t := false) rfl (fun e => by cases e) (fun _ => ?_)))
    (rw [show decide (op = 7) = true from decide_eq_true (by omega)])
    (repeat (first | refine st_q rfl rfl rfl ?_ | refine Z8v rfl (st_q rfl rfl rfl ?_) | refine Z8w rfl ?_ | refine Z8x rfl ?_ | (refine Z8y ?_; (repeat (first | refine Z9v rfl ?_ | refine Z9w ?_)); refine Z9u ?_) | refine awp_seq ?_ | refine Zbm (fun _ _ => rfl) ?_ | refine Z8h ?_ | refine Zbn (fun _ _ => rfl) ?_ | refine Zbo (fun _ _ => rfl) ?_ | refine Z8f (t := true) rfl (fun _ => ?_) (fun e => by cases e) | refine Z8f (t := false) rfl (fun e => by cases e) (fun _ => ?_)))
    (rw [show decide (op = 8) = false from decide_eq_false (by omega)])
    (repeat (first | refine st_q rfl rfl rfl ?_ | refine Z8v rfl (st_q rfl rfl rfl ?_) | refine Z8w rfl ?_ | refine Z8x rfl ?_ | (refine Z8y ?_; (repeat (first | refine Z9v rfl ?_ | refine Z9w ?_)); refine Z9u ?_) | refine awp_seq ?_ | refine Zbm (fun _ _ => rfl) ?_ | refine Z8h ?_ | refine Zbn (fun _ _ => rfl) ?_ | refine Zbo (fun _ _ => rfl) ?_ | refine Z8f (t := true) rfl (fun _ => ?_) (fun e => by cases e) | refine Z8f (t := false) rfl (fun e => by cases e) (fun _ => ?_)))
    refine Z9t rfl (Z1q.args (by (repeat (first | exact VRle.refl _ | exact Zc5 | refine Zc6 rfl rfl ?_ | refine Zc7 rfl ?_ | refine Zc4 ?_ ?_))) (hC _)) ?_
    (repeat (first | refine st_q rfl rfl rfl ?_ | refine Z8v rfl (st_q rfl rfl rfl ?_) | refine Z8w rfl ?_ | refine Z8x rfl ?_ | (refine Z8y ?_; (repeat (first | refine Z9v rfl ?_ | refine Z9w ?_)); refine Z9u ?_) | refine awp_seq ?_ | refine Zbm (fun _ _ => rfl) ?_ | refine Z8h ?_ | refine Zbn (fun _ _ => rfl) ?_ | refine Zbo (fun _ _ => rfl) ?_ | refine Z8f (t := true) rfl (fun _ => ?_) (fun e => by cases e) | refine Z8f (t := false) rfl (fun e => by cases e) (fun _ => ?_)))
    refine Z8v rfl (Z9t rfl (Z1q.args (by (repeat (first | exact VRle.refl _ | exact Zc5 | refine Zc6 rfl rfl ?_ | refine Zc7 rfl ?_ | refine Zc4 ?_ ?_))) (hS _)) ?_)
    (repeat (first | refine st_q rfl rfl rfl ?_ | refine Z8v rfl (st_q rfl rfl rfl ?_) | refine Z8w rfl ?_ | refine Z8x rfl ?_ | (refine Z8y ?_; (repeat (first | refine Z9v rfl ?_ | refine Z9w ?_)); refine Z9u ?_) | refine awp_seq ?_ | refine Zbm (fun _ _ => rfl) ?_ | refine Z8h ?_ | refine Zbn (fun _ _ => rfl) ?_ | refine Zbo (fun _ _ => rfl) ?_ | refine Z8f (t := true) rfl (fun _ => ?_) (fun e => by cases e) | refine Z8f (t := false) rfl (fun e => by cases e) (fun _ => ?_)))
    refine Z8v rfl (Z9t rfl (Z1q.args (by (repeat (first | exact VRle.refl _ | exact Zc5 | refine Zc6 rfl rfl ?_ | refine Zc7 rfl ?_ | refine Zc4 ?_ ?_))) (hM _)) ?_)
    (repeat (first | refine st_q rfl rfl rfl ?_ | refine Z8v rfl (st_q rfl rfl rfl ?_) | refine Z8w rfl ?_ | refine Z8x rfl ?_ | (refine Z8y ?_; (repeat (first | refine Z9v rfl ?_ | refine Z9w ?_)); refine Z9u ?_) | refine awp_seq ?_ | refine Zbm (fun _ _ => rfl) ?_ | refine Z8h ?_ | refine Zbn (fun _ _ => rfl) ?_ | refine Zbo (fun _ _ => rfl) ?_ | refine Z8f (t := true) rfl (fun _ => ?_) (fun e => by cases e) | refine Z8f (t := false) rfl (fun e => by cases e) (fun _ => ?_)))
    refine Z8d ?_
    exact ares rfl (HSub.refl _) ⟨rfl, rfl⟩
  by_cases q8 : op = 8
  · rw [if_neg q7, if_pos q8] at hM
    (repeat (first | refine st_q rfl rfl rfl ?_ | refine Z8v rfl (st_q rfl rfl rfl ?_) | refine Z8w rfl ?_ | refine Z8x rfl ?_ | (refine Z8y ?_; (repeat (first | refine Z9v rfl ?_ | refine Z9w ?_)); refine Z9u ?_) | refine awp_seq ?_ | refine Zbm (fun _ _ => rfl) ?_ | refine Z8h ?_ | refine Zbn (fun _ _ => rfl) ?_ | refine Zbo (fun _ _ => rfl) ?_ | refine Z8f (t := true) rfl (fun _ => ?_) (fun e => by cases e) | refine Z8f (t := false) rfl (fun e => by cases e) (fun _ => ?_)))
    (rw [show decide (op = 7) = false from decide_eq_false (by omega)])
    (repeat (first | refine st_q rfl rfl rfl ?_ | refine Z8v rfl (st_q rfl rfl rfl ?_) | refine Z8w rfl ?_ | refine Z8x rfl ?_ | (refine Z8y ?_; (repeat (first | refine Z9v rfl ?_ | refine Z9w ?_)); refine Z9u ?_) | refine awp_seq ?_ | refine Zbm (fun _ _ => rfl) ?_ | refine Z8h ?_ | refine Zbn (fun _ _ => rfl) ?_ | refine Zbo (fun _ _ => rfl) ?_ | refine Z8f (t := true) rfl (fun _ => ?_) (fun e => by cases e) | refine Z8f (t := false) rfl (fun e => by cases e) (fun _ => ?_)))
    (rw [show decide (op = 8) = true from decide_eq_true (by omega)])
    (repeat (first | refine st_q rfl rfl rfl ?_ | refine Z8v rfl (st_q rfl rfl rfl ?_) | refine Z8w rfl ?_ | refine Z8x rfl ?_ | (refine Z8y ?_; (repeat (first | refine Z9v rfl ?_ | refine Z9w ?_)); refine Z9u ?_) | refine awp_seq ?_ | refine Zbm (fun _ _ => rfl) ?_ | refine Z8h ?_ | refine Zbn (fun _ _ => rfl) ?_ | refine Zbo (fun _ _ => rfl) ?_ | refine Z8f (t := true) rfl (fun _ => ?_) (fun e => by cases e) | refine Z8f (t := false) rfl (fun e => by cases e) (fun _ => ?_)))
    refine Z9t rfl (Z1q.args (by (repeat (first | exact VRle.refl _ | exact Zc5 | refine Zc6 rfl rfl ?_ | refine Zc7 rfl ?_ | refine Zc4 ?_ ?_))) (hC _)) ?_
    (repeat (first | refine st_q rfl rfl rfl ?_ | refine Z8v rfl (st_q rfl rfl rfl ?_) | refine Z8w rfl ?_ | refine Z8x rfl ?_ | (refine Z8y ?_; (repeat (first | refine Z9v rfl ?_ | refine Z9w ?_)); refine Z9u ?_) | refine awp_seq ?_ | refine Zbm (fun _ _ => rfl) ?_ | refine Z8h ?_ | refine Zbn (fun _ _ => rfl) ?_ | refine Zbo (fun _ _ => rfl) ?_ | refine Z8f (t := true) rfl (fun _ => ?_) (fun e => by cases e) | refine Z8f (t := false) rfl (fun e => by cases e) (fun _ => ?_)))
    refine Z8v rfl (Z9t rfl (Z1q.args (by (repeat (first | exact VRle.refl _ | exact Zc5 | refine Zc6 rfl rfl ?_ | refine Zc7 rfl ?_ | refine Zc4 ?_ ?_))) (hS _)) ?_)
    (repeat (first | refine st_q rfl rfl rfl ?_ | refine Z8v rfl (st_q rfl rfl rfl ?_) | refine Z8w rfl ?_ | refine Z8x rfl ?_ | (refine Z8y ?_; (repeat (first | refine Z9v rfl ?_ | refine Z9w ?_)); refine Z9u ?_) | refine awp_seq ?_ | refine Zbm (fun _ _ => rfl) ?_ | refine Z8h ?_ | refine Zbn (fun _ _ => rfl) ?_ | refine Zbo (fun _ _ => rfl) ?_ | refine Z8f (t := true) rfl (fun _ => ?_) (fun e => by cases e) | refine Z8f (t := false) rfl (fun e => by cases e) (fun _ => ?_)))
    refine Z8v rfl (Z9t rfl (Z1q.args (by (repeat (first | exact VRle.refl _ | exact Zc5 | refine Zc6 rfl rfl ?_ | refine Zc7 rfl ?_ | refine Zc4 ?_ ?_))) (hM _)) ?_)
    (repeat (first | refine st_q rfl rfl rfl ?_ | refine Z8v rfl (st_q rfl rfl rfl ?_) | refine Z8w rfl ?_ | refine Z8x rfl ?_ | (refine Z8y ?_; (repeat (first | refine Z9v rfl ?_ | refine Z9w ?_)); refine Z9u ?_) | refine awp_seq ?_ | refine Zbm (fun _ _ => rfl) ?_ | refine Z8h ?_ | refine Zbn (fun _ _ => rfl) ?_ | refine Zbo (fun _ _ => rfl) ?_ | refine Z8f (t := true) rfl (fun _ => ?_) (fun e => by cases e) | refine Z8f (t := false) rfl (fun e => by cases e) (fun _ => ?_)))
    refine Z8d ?_
    exact ares rfl (HSub.refl _) ⟨rfl, rfl⟩
  · rw [if_neg q7, if_neg q8] at hM
    (repeat (first | refine st_q rfl rfl rfl ?_ | refine Z8v rfl (st_q rfl rfl rfl ?_) | refine Z8w rfl ?_ | refine Z8x rfl ?_ | (refine Z8y ?_; (repeat (first | refine Z9v rfl ?_ | refine Z9w ?_)); refine Z9u ?_) | refine awp_seq ?_ | refine Zbm (fun _ _ => rfl) ?_ | refine Z8h ?_ | refine Zbn (fun _ _ => rfl) ?_ | refine Zbo (fun _ _ => rfl) ?_ | refine Z8f (t := true) rfl (fun _ => ?_) (fun e => by cases e) | refine Z8f (t := false) rfl (fun e => by cases e) (fun _ => ?_)))
    (rw [show decide (op = 7) = false from decide_eq_false (by omega)])
    (repeat (first | refine st_q rfl rfl rfl ?_ | refine Z8v rfl (st_q rfl rfl rfl ?_) | refine Z8w rfl ?_ | refine Z8x rfl ?_ | (refine Z8y ?_; (repeat (first | refine Z9v rfl ?_ | refine Z9w ?_)); refine Z9u ?_) | refine awp_seq ?_ | refine Zbm (fun _ _ => rfl) ?_ | refine Z8h ?_ | refine Zbn (fun _ _ => rfl) ?_ | refine Zbo (fun _ _ => rfl) ?_ | refine Z8f (t := true) rfl (fun _ => ?_) (fun e => by cases e) | refine Z8f (t := false) rfl (fun e => by cases e) (fun _ => ?_)))
    (rw [show decide (op = 8) = false from decide_eq_false (by omega)])
    (repeat (first | refine st_q rfl rfl rfl ?_ | refine Z8v rfl (st_q rfl rfl rfl ?_) | refine Z8w rfl ?_ | refine Z8x rfl ?_ | (refine Z8y ?_; (repeat (first | refine Z9v rfl ?_ | refine Z9w ?_)); refine Z9u ?_) | refine awp_seq ?_ | refine Zbm (fun _ _ => rfl) ?_ | refine Z8h ?_ | refine Zbn (fun _ _ => rfl) ?_ | refine Zbo (fun _ _ => rfl) ?_ | refine Z8f (t := true) rfl (fun _ => ?_) (fun e => by cases e) | refine Z8f (t := false) rfl (fun e => by cases e) (fun _ => ?_)))
    refine Z9t rfl (Z1q.args (by (repeat (first | exact VRle.refl _ | exact Zc5 | refine Zc6 rfl rfl ?_ | refine Zc7 rfl ?_ | refine Zc4 ?_ ?_))) (hC _)) ?_
    (repeat (first | refine st_q rfl rfl rfl ?_ | refine Z8v rfl (st_q rfl rfl rfl ?_) | refine Z8w rfl ?_ | refine Z8x rfl ?_ | (refine Z8y ?_; (repeat (first | refine Z9v rfl ?_ | refine Z9w ?_)); refine Z9u ?_) | refine awp_seq ?_ | refine Zbm (fun _ _ => rfl) ?_ | refine Z8h ?_ | refine Zbn (fun _ _ => rfl) ?_ | refine Zbo (fun _ _ => rfl) ?_ | refine Z8f (t := true) rfl (fun _ => ?_) (fun e => by cases e) | refine Z8f (t := false) rfl (fun e => by cases e) (fun _ => ?_)))
    refine Z8v rfl (Z9t rfl (Z1q.args (by (repeat (first | exact VRle.refl _ | exact Zc5 | refine Zc6 rfl rfl ?_ | refine Zc7 rfl ?_ | refine Zc4 ?_ ?_))) (hS _)) ?_)
    (repeat (first | refine st_q rfl rfl rfl ?_ | refine Z8v rfl (st_q rfl rfl rfl ?_) | refine Z8w rfl ?_ | refine Z8x rfl ?_ | (refine Z8y ?_; (repeat (first | refine Z9v rfl ?_ | refine Z9w ?_)); refine Z9u ?_) | refine awp_seq ?_ | refine Zbm (fun _ _ => rfl) ?_ | refine Z8h ?_ | refine Zbn (fun _ _ => rfl) ?_ | refine Zbo (fun _ _ => rfl) ?_ | refine Z8f (t := true) rfl (fun _ => ?_) (fun e => by cases e) | refine Z8f (t := false) rfl (fun e => by cases e) (fun _ => ?_)))
    refine Z8v rfl (Z9t rfl (Z1q.args (by (repeat (first | exact VRle.refl _ | exact Zc5 | refine Zc6 rfl rfl ?_ | refine Zc7 rfl ?_ | refine Zc4 ?_ ?_))) (hM _)) ?_)
    (repeat (first | refine st_q rfl rfl rfl ?_ | refine Z8v rfl (st_q rfl rfl rfl ?_) | refine Z8w rfl ?_ | refine Z8x rfl ?_ | (refine Z8y ?_; (repeat (first | refine Z9v rfl ?_ | refine Z9w ?_)); refine Z9u ?_) | refine awp_seq ?_ | refine Zbm (fun _ _ => rfl) ?_ | refine Z8h ?_ | refine Zbn (fun _ _ => rfl) ?_ | refine Zbo (fun _ _ => rfl) ?_ | refine Z8f (t := true) rfl (fun _ => ?_) (fun e => by cases e) | refine Z8f (t := false) rfl (fun e => by cases e) (fun _ => ?_)))
    refine Z8d ?_
    exact ares rfl (HSub.refl _) ⟨rfl, rfl⟩
theorem Z1ba (op v : Int) (hop : 1 ≤ op ∧ op ≤ 8) (hv : -9223372036854775808 ≤ v ∧ v ≤ 9223372036854775807) (row : Vl) (hrc : row.Cl) (hg : getF lC ((2 : Int).toNat + 1) 2 row = nullV) (σ : Zc) :
    AWp Try.prog Z1al.n (Z1al.code.snd 7) (ARet Z1al.res fun r σ' => r = .bool true ∧ σ' = σ)
      (fset 0 (some (.int .i64 op)) (fset 1 (some (.int .i64 v)) (fset 8 (some (.slc 8 (lC.map encN) true)) (fset 9 (some (.iptr (Zm6 row))) Z27)))) σ := by
  refine Z9z ?_
  (repeat (refine st_q rfl rfl rfl ?_))
  refine Z9k (by simp [Z0.cells, Z0.one]) fun b10 hb10 => ?_
  (first | refine Z9a rfl Z8z rfl (by decide) (Z0.fit_iff.1 rfl) (fun h => by cases h) Z9b ?_ | refine Z8v rfl (Z9a rfl Z8z rfl (by decide) (Z0.fit_iff.1 rfl) (fun h => by cases h) Z9b ?_))
  (repeat (refine st_q rfl rfl rfl ?_))
  (refine Z8y ?_; (repeat (first | refine Z9v rfl ?_ | refine Z9w ?_)); refine Z9u ?_)
  refine Za5 ?_
  refine Zad ?_
  (repeat (refine st_q rfl rfl rfl ?_))
  (refine Z8y ?_; (repeat (first | refine Z9v rfl ?_ | refine Z9w ?_)); refine Z9u ?_)
  refine Za3 (p := op < 7) rfl (fun h => ?_) (fun h => ?_)
  · refine Zad ?_
    (repeat (refine st_q rfl rfl rfl ?_))
    refine Z9a rfl Z8z rfl (by decide) (Z0.fit_iff.1 rfl) (fun h => by cases h) Z9b ?_
    (repeat (refine st_q rfl rfl rfl ?_))
    (refine Z8y ?_; (repeat (first | refine Z9v rfl ?_ | refine Z9w ?_)); refine Z9u ?_)
    refine Zby (Zbx.view (ys := [.agg (Zm6 (vI v))]) rfl rfl (by (repeat (first | exact VRle.refl _ | exact Zc5 | refine Zc6 rfl rfl ?_ | refine Zc7 rfl ?_ | refine Zc4 ?_ ?_)))) ?_
    refine Zb3 (d := 10) (cs := Zm6 (vI v)) rfl ?_
    (refine Z9y (keep := [0, 8, 9, 10]) ?_; ((repeat (first | refine Z9v rfl ?_ | refine Z9w ?_)); refine Z9u ?_))
    exact Z1b9 op v hop hv (by omega) row hrc hg σ
  · refine Za4 ?_
    refine Zby (Zbx.view (ys := [.agg (Zm6 (vI 0))]) rfl rfl (by (repeat (first | exact VRle.refl _ | exact Zc5 | refine Zc6 rfl rfl ?_ | refine Zc7 rfl ?_ | refine Zc4 ?_ ?_)))) ?_
    refine Zb3 (d := 10) (cs := Zm6 (vI 0)) rfl ?_
    (refine Z9y (keep := [0, 8, 9, 10]) ?_; ((repeat (first | refine Z9v rfl ?_ | refine Z9w ?_)); refine Z9u ?_))
    exact Z1b9 op 0 hop (by omega) (fun _ => rfl) row hrc hg σ
theorem Z1bb (op v : Int) (hv : -9223372036854775808 ≤ v ∧ v ≤ 9223372036854775807) (outer : Bool) (σ : Zc) :
    Z1q Try.prog Zcg [.int .i64 op, .int .i64 v, .bool outer] σ fun r σ' => r = .bool true ∧ σ' = σ := by
  have hFl := Znk tC Z1b5
  rw [Z1b4, Zlp] at hFl
  refine Z8t rfl Z1ax (Nat.le_of_ble_eq_true rfl) ?_
  (repeat (first | refine st_q rfl rfl rfl ?_ | refine Z8v rfl (st_q rfl rfl rfl ?_) | refine Z8w rfl ?_ | refine Z8x rfl ?_ | (refine Z8y ?_; (repeat (first | refine Z9v rfl ?_ | refine Z9w ?_)); refine Z9u ?_) | refine awp_seq ?_ | refine Zbm (fun _ _ => rfl) ?_ | refine Z8h ?_ | refine Zbn (fun _ _ => rfl) ?_ | refine Zbo (fun _ _ => rfl) ?_ | refine Z8f (t := true) rfl (fun _ => ?_) (fun e => by cases e) | refine Z8f (t := false) rfl (fun e => by cases e) (fun _ => ?_)))
  refine Z9t rfl (Z19o _) ?_
  (repeat (first | refine st_q rfl rfl rfl ?_ | refine Z8v rfl (st_q rfl rfl rfl ?_) | refine Z8w rfl ?_ | refine Z8x rfl ?_ | (refine Z8y ?_; (repeat (first | refine Z9v rfl ?_ | refine Z9w ?_)); refine Z9u ?_) | refine awp_seq ?_ | refine Zbm (fun _ _ => rfl) ?_ | refine Z8h ?_ | refine Zbn (fun _ _ => rfl) ?_ | refine Zbo (fun _ _ => rfl) ?_ | refine Z8f (t := true) rfl (fun _ => ?_) (fun e => by cases e) | refine Z8f (t := false) rfl (fun e => by cases e) (fun _ => ?_)))
  refine Z9k (by simp [Z0.cells, Z0.one]) fun b7 hb7 => ?_
  (first | refine Z9a rfl Z8z rfl (by decide) (Z0.fit_iff.1 rfl) (fun h => by cases h) Z9b ?_ | refine Z8v rfl (Z9a rfl Z8z rfl (by decide) (Z0.fit_iff.1 rfl) (fun h => by cases h) Z9b ?_))
  (repeat (refine st_q rfl rfl rfl ?_))
  (refine Z8y ?_; (repeat (first | refine Z9v rfl ?_ | refine Z9w ?_)); refine Z9u ?_)
  refine Zby (Zbx.view (ys := [.agg (Zlo tC)]) rfl rfl (by (repeat (first | exact VRle.refl _ | exact Zc5 | refine Zc6 rfl rfl ?_ | refine Zc7 rfl ?_ | refine Zc4 ?_ ?_)))) ?_
  refine Zb3 (d := 7) (cs := Zlo tC) rfl ?_
  (refine Z9y (keep := [0, 1, 2, 7]) ?_; ((repeat (first | refine Z9v rfl ?_ | refine Z9w ?_)); refine Z9u ?_))
  (repeat (first | refine st_q rfl rfl rfl ?_ | refine Z8v rfl (st_q rfl rfl rfl ?_) | refine Z8w rfl ?_ | refine Z8x rfl ?_ | (refine Z8y ?_; (repeat (first | refine Z9v rfl ?_ | refine Z9w ?_)); refine Z9u ?_) | refine awp_seq ?_ | refine Zbm (fun _ _ => rfl) ?_ | refine Z8h ?_ | refine Zbn (fun _ _ => rfl) ?_ | refine Zbo (fun _ _ => rfl) ?_ | refine Z8f (t := true) rfl (fun _ => ?_) (fun e => by cases e) | refine Z8f (t := false) rfl (fun e => by cases e) (fun _ => ?_)))
  refine Z9t rfl (hFl _) ?_
  (repeat (first | refine st_q rfl rfl rfl ?_ | refine Z8v rfl (st_q rfl rfl rfl ?_) | refine Z8w rfl ?_ | refine Z8x rfl ?_ | (refine Z8y ?_; (repeat (first | refine Z9v rfl ?_ | refine Z9w ?_)); refine Z9u ?_) | refine awp_seq ?_ | refine Zbm (fun _ _ => rfl) ?_ | refine Z8h ?_ | refine Zbn (fun _ _ => rfl) ?_ | refine Zbo (fun _ _ => rfl) ?_ | refine Z8f (t := true) rfl (fun _ => ?_) (fun e => by cases e) | refine Z8f (t := false) rfl (fun e => by cases e) (fun _ => ?_)))
  by_cases c1 : op < 1
  · (rw [show decide (op < 1) = true from decide_eq_true (by omega)])
    (repeat (first | refine st_q rfl rfl rfl ?_ | refine Z8v rfl (st_q rfl rfl rfl ?_) | refine Z8w rfl ?_ | refine Z8x rfl ?_ | (refine Z8y ?_; (repeat (first | refine Z9v rfl ?_ | refine Z9w ?_)); refine Z9u ?_) | refine awp_seq ?_ | refine Zbm (fun _ _ => rfl) ?_ | refine Z8h ?_ | refine Zbn (fun _ _ => rfl) ?_ | refine Zbo (fun _ _ => rfl) ?_ | refine Z8f (t := true) rfl (fun _ => ?_) (fun e => by cases e) | refine Z8f (t := false) rfl (fun e => by cases e) (fun _ => ?_)))
    (rw [show decide (op < 1) = true from decide_eq_true (by omega)])
    (repeat (first | refine st_q rfl rfl rfl ?_ | refine Z8v rfl (st_q rfl rfl rfl ?_) | refine Z8w rfl ?_ | refine Z8x rfl ?_ | (refine Z8y ?_; (repeat (first | refine Z9v rfl ?_ | refine Z9w ?_)); refine Z9u ?_) | refine awp_seq ?_ | refine Zbm (fun _ _ => rfl) ?_ | refine Z8h ?_ | refine Zbn (fun _ _ => rfl) ?_ | refine Zbo (fun _ _ => rfl) ?_ | refine Z8f (t := true) rfl (fun _ => ?_) (fun e => by cases e) | refine Z8f (t := false) rfl (fun e => by cases e) (fun _ => ?_)))
    refine Z8d ?_
    exact ares rfl (HSub.refl _) ⟨rfl, rfl⟩
  (rw [show decide (op < 1) = false from decide_eq_false (by omega)])
  (repeat (first | refine st_q rfl rfl rfl ?_ | refine Z8v rfl (st_q rfl rfl rfl ?_) | refine Z8w rfl ?_ | refine Z8x rfl ?_ | (refine Z8y ?_; (repeat (first | refine Z9v rfl ?_ | refine Z9w ?_)); refine Z9u ?_) | refine awp_seq ?_ | refine Zbm (fun _ _ => rfl) ?_ | refine Z8h ?_ | refine Zbn (fun _ _ => rfl) ?_ | refine Zbo (fun _ _ => rfl) ?_ | refine Z8f (t := true) rfl (fun _ => ?_) (fun e => by cases e) | refine Z8f (t := false) rfl (fun e => by cases e) (fun _ => ?_)))
  by_cases c2 : op > 8
  · (rw [show decide (op > 8) = true from decide_eq_true (by omega)])
    (repeat (first | refine st_q rfl rfl rfl ?_ | refine Z8v rfl (st_q rfl rfl rfl ?_) | refine Z8w rfl ?_ | refine Z8x rfl ?_ | (refine Z8y ?_; (repeat (first | refine Z9v rfl ?_ | refine Z9w ?_)); refine Z9u ?_) | refine awp_seq ?_ | refine Zbm (fun _ _ => rfl) ?_ | refine Z8h ?_ | refine Zbn (fun _ _ => rfl) ?_ | refine Zbo (fun _ _ => rfl) ?_ | refine Z8f (t := true) rfl (fun _ => ?_) (fun e => by cases e) | refine Z8f (t := false) rfl (fun e => by cases e) (fun _ => ?_)))
    (rw [show decide (op < 1) = false from decide_eq_false (by omega)])
    (repeat (first | refine st_q rfl rfl rfl ?_ | refine Z8v rfl (st_q rfl rfl rfl ?_) | refine Z8w rfl ?_ | refine Z8x rfl ?_ | (refine Z8y ?_; (repeat (first | refine Z9v rfl ?_ | refine Z9w ?_)); refine Z9u ?_) | refine awp_seq ?_ | refine Zbm (fun _ _ => rfl) ?_ | refine Z8h ?_ | refine Zbn (fun _ _ => rfl) ?_ | refine Zbo (fun _ _ => rfl) ?_ | refine Z8f (t := true) rfl (fun _ => ?_) (fun e => by cases e) | refine Z8f (t := false) rfl (fun e => by cases e) (fun _ => ?_)))
    (rw [show decide (op > 8) = true from decide_eq_true (by omega)])
    (repeat (first | refine st_q rfl rfl rfl ?_ | refine Z8v rfl (st_q rfl rfl rfl ?_) | refine Z8w rfl ?_ | refine Z8x rfl ?_ | (refine Z8y ?_; (repeat (first | refine Z9v rfl ?_ | refine Z9w ?_)); refine Z9u ?_) | refine awp_seq ?_ | refine Zbm (fun _ _ => rfl) ?_ | refine Z8h ?_ | refine Zbn (fun _ _ => rfl) ?_ | refine Zbo (fun _ _ => rfl) ?_ | refine Z8f (t := true) rfl (fun _ => ?_) (fun e => by cases e) | refine Z8f (t := false) rfl (fun e => by cases e) (fun _ => ?_)))
    refine Z8d ?_
    exact ares rfl (HSub.refl _) ⟨rfl, rfl⟩
  (rw [show decide (op > 8) = false from decide_eq_false (by omega)])
  refine Z8f (t := false) rfl (fun e => by cases e) (fun _ => ?_)
  refine Za4 ?_
  refine Z9z ?_
  (repeat (refine st_q rfl rfl rfl ?_))
  refine Z9k (by simp [Z0.cells, Z0.one]) fun b9 hb9 => ?_
  (first | refine Z9a rfl Z8z rfl (by decide) (Z0.fit_iff.1 rfl) (fun h => by cases h) Z9b ?_ | refine Z8v rfl (Z9a rfl Z8z rfl (by decide) (Z0.fit_iff.1 rfl) (fun h => by cases h) Z9b ?_))
  (repeat (refine st_q rfl rfl rfl ?_))
  (refine Z8y ?_; (repeat (first | refine Z9v rfl ?_ | refine Z9w ?_)); refine Z9u ?_)
  refine Za5 ?_
  refine Zad ?_
  (repeat (refine st_q rfl rfl rfl ?_))
  (refine Z8y ?_; (repeat (first | refine Z9v rfl ?_ | refine Z9w ?_)); refine Z9u ?_)
  cases outer with
  | true =>
    refine Z8f (t := true) rfl (fun _ => ?_) (fun e => by cases e)
    refine Zad ?_
    (repeat (refine st_q rfl rfl rfl ?_))
    (first | refine Z9a rfl Z8z rfl (by decide) (Z0.fit_iff.1 rfl) (fun h => by cases h) Z9b ?_ | refine Z8v rfl (Z9a rfl Z8z rfl (by decide) (Z0.fit_iff.1 rfl) (fun h => by cases h) Z9b ?_))
    (repeat (refine st_q rfl rfl rfl ?_))
    (refine Z8y ?_; (repeat (first | refine Z9v rfl ?_ | refine Z9w ?_)); refine Z9u ?_)
    refine Zby (Zbx.view (ys := [.agg (Zm6 (rowI nullV))]) rfl rfl (by (repeat (first | exact VRle.refl _ | exact Zc5 | refine Zc6 rfl rfl ?_ | refine Zc7 rfl ?_ | refine Zc4 ?_ ?_)))) ?_
    refine Zb3 (d := 9) (cs := Zm6 (rowI nullV)) rfl ?_
    (refine Z9y (keep := [0, 1, 8, 9]) ?_; ((repeat (first | refine Z9v rfl ?_ | refine Z9w ?_)); refine Z9u ?_))
    exact Z1ba op v (by omega) hv _ (Z19j _ Z182) rfl σ
  | false =>
    refine Z8f (t := false) rfl (fun e => by cases e) (fun _ => ?_)
    refine Za4 ?_
    refine Zby (Zbx.view (ys := [.agg (Zm6 (rowI (rowI nullV)))]) rfl rfl (by (repeat (first | exact VRle.refl _ | exact Zc5 | refine Zc6 rfl rfl ?_ | refine Zc7 rfl ?_ | refine Zc4 ?_ ?_)))) ?_
    refine Zb3 (d := 9) (cs := Zm6 (rowI (rowI nullV))) rfl ?_
    (refine Z9y (keep := [0, 1, 8, 9]) ?_; ((repeat (first | refine Z9v rfl ?_ | refine Z9w ?_)); refine Z9u ?_))
    exact Z1ba op v (by omega) hv _ (Z19j _ (Z19j _ Z182)) rfl σ
end Go.Abs

