/- Part I of a proof: merged by program. -/
import Derived.Test.YtgdpmebdoipiaaaPkH
import Derived.Test.YtgdpmebdoipiaaaProg
import Derived.KernelRfl
namespace Go.Abs
open Go
def Zuw : List Z2a := [
  ⟨some 6, .mov, [.c (.bool false)], none⟩]
def Zux : List Z2a := [
  ⟨some 18, (.call Zck), [], none⟩,
  ⟨some 19, .unot, [.t 18], none⟩]
def Zuy : List Z2a := [
  ⟨some 6, .mov, [.c (.bool false)], none⟩]
def Zuz : List Z2a := [
  ⟨some 20, .mov, [.t 0], none⟩,
  ⟨some 21, .lens, [.t 20], none⟩,
  ⟨some 22, (.bin .gtr), [.t 21, .c (.int .i64 3000)], none⟩]
def Zv0 : List Z2a := [
  ⟨some 6, .mov, [.c (.bool true)], none⟩]
def Zv1 : List Z2a := [
  ⟨some 24, .mov, [.t 0], none⟩,
  ⟨some 25, .mov, [.t 1], none⟩,
  ⟨some 26, .mov, [.t 2], none⟩,
  ⟨some 27, (.call Zcr), [.t 24, .t 25, .t 26], none⟩,
  ⟨some 23, .mov, [.t 27], none⟩,
  ⟨some 28, (.ext 0), [.t 23], none⟩,
  ⟨some 29, (.ext 1), [.t 23], none⟩,
  ⟨some 7, .mov, [.t 28], none⟩,
  ⟨some 8, .mov, [.t 29], none⟩]
def Zv2 : List Z2a := [
  ⟨some 31, .mov, [.t 0], none⟩,
  ⟨some 32, .mov, [.t 1], none⟩,
  ⟨some 33, .mov, [.t 2], none⟩,
  ⟨some 34, (.call Zcs), [.t 31, .t 32, .t 33], none⟩,
  ⟨some 30, .mov, [.t 34], none⟩,
  ⟨some 35, (.ext 0), [.t 30], none⟩,
  ⟨some 36, (.ext 1), [.t 30], none⟩,
  ⟨some 9, .mov, [.t 35], none⟩,
  ⟨some 10, .mov, [.t 36], none⟩]
def Zv3 : List Z2a := [
  ⟨some 37, .mov, [.t 8], none⟩,
  ⟨some 38, .mov, [.t 10], none⟩,
  ⟨some 39, (.bin .neq), [.t 37, .t 38], none⟩]
def Zv4 : List Z2a := [
  ⟨some 6, .mov, [.c (.bool false)], none⟩]
def Zv5 : List Z2a := [
  ⟨some 40, .mov, [.t 10], none⟩,
  ⟨some 41, (.bin .neq), [.t 40, .c (.int .i64 0)], none⟩]
def Zv6 : List Z2a := [
  ⟨some 42, .mov, [.t 7], none⟩,
  ⟨some 43, .lens, [.t 42], none⟩,
  ⟨some 44, (.bin .eql), [.t 43, .c (.int .i64 0)], none⟩,
  ⟨some 6, .mov, [.t 44], none⟩]
def Zv7 : List Z2a := [
  ⟨some 46, .mov, [.t 7], none⟩,
  ⟨some 47, .mov, [.t 1], none⟩,
  ⟨some 48, .mov, [.t 2], none⟩,
  ⟨some 49, .mov, [.t 0], none⟩,
  ⟨some 50, .lens, [.t 49], none⟩,
  ⟨some 51, (.call Zcm), [.t 46, .t 47, .t 48, .t 50], none⟩,
  ⟨some 45, .mov, [.t 51], none⟩,
  ⟨some 52, (.ext 0), [.t 45], none⟩,
  ⟨some 53, (.ext 1), [.t 45], none⟩,
  ⟨some 11, .mov, [.t 52], none⟩,
  ⟨some 12, .mov, [.t 53], none⟩]
def Zv8 : List Z2a := [
  ⟨some 55, .mov, [.t 7], none⟩,
  ⟨some 56, .mov, [.t 1], none⟩,
  ⟨some 57, (.call Zco), [.t 55, .t 56], none⟩,
  ⟨some 54, .mov, [.t 57], none⟩,
  ⟨some 58, (.ext 0), [.t 54], none⟩,
  ⟨some 59, (.ext 1), [.t 54], none⟩,
  ⟨some 13, .mov, [.t 58], none⟩,
  ⟨some 14, .mov, [.t 59], none⟩]
def Zv9 : List Z2a := [
  ⟨some 15, .mov, [.c (.int .i64 0)], none⟩]
def Zva : List Z2a := [
  ⟨some 60, .mov, [.t 1], none⟩,
  ⟨some 61, (.bin .eql), [.t 60, .c (.int .i64 4)], none⟩]
def Zvb : List Z2a := [
  ⟨some 62, .mov, [.t 0], none⟩,
  ⟨some 63, .lens, [.t 62], none⟩,
  ⟨some 64, .mov, [.t 2], none⟩,
  ⟨some 65, (.bin .quo), [.t 63, .t 64], none⟩,
  ⟨some 15, .mov, [.t 65], none⟩]
def Zvc : List Z2a := [
  ⟨some 66, .mov, [.t 0], none⟩,
  ⟨some 67, .lens, [.t 66], none⟩,
  ⟨some 68, .mov, [.t 2], none⟩,
  ⟨some 69, (.bin .rem), [.t 67, .t 68], none⟩,
  ⟨some 70, (.bin .gtr), [.t 69, .c (.int .i64 0)], none⟩]
def Zvd : List Z2a := [
  ⟨some 71, .mov, [.t 15], none⟩,
  ⟨some 72, (.bin .add), [.t 71, .c (.int .i64 1)], none⟩,
  ⟨some 15, .mov, [.t 72], none⟩]
def Zve : List Z2a := [
  ⟨some 74, .mov, [.t 7], none⟩,
  ⟨some 75, .mov, [.t 1], none⟩,
  ⟨some 76, .mov, [.t 2], none⟩,
  ⟨some 77, .mov, [.t 0], none⟩,
  ⟨some 78, .lens, [.t 77], none⟩,
  ⟨some 79, (.call Zcl), [.t 74, .t 75, .t 76, .t 78], none⟩,
  ⟨some 73, .mov, [.t 79], none⟩,
  ⟨some 80, (.ext 0), [.t 73], none⟩,
  ⟨some 81, (.ext 1), [.t 73], none⟩,
  ⟨some 16, .mov, [.t 80], none⟩,
  ⟨some 17, .mov, [.t 81], none⟩]
def Zvf : List Z2a := [
  ⟨some 82, .mov, [.t 12], none⟩,
  ⟨some 83, (.bin .eql), [.t 82, .c (.int .i64 0)], none⟩,
  ⟨some 84, .mov, [.t 83], none⟩,
  ⟨some 85, .mov, [.t 14], some (84, true)⟩,
  ⟨some 86, (.bin .eql), [.t 85, .c (.int .i64 0)], some (84, true)⟩,
  ⟨some 87, .pick, [.t 84, .t 86, .c (.bool false)], none⟩,
  ⟨some 88, .mov, [.t 87], none⟩,
  ⟨some 89, .mov, [.t 17], some (88, true)⟩,
  ⟨some 90, (.bin .eql), [.t 89, .c (.int .i64 0)], some (88, true)⟩,
  ⟨some 91, .pick, [.t 88, .t 90, .c (.bool false)], none⟩,
  ⟨some 92, .mov, [.t 91], none⟩,
  ⟨some 93, .mov, [.t 11], some (92, true)⟩,
  ⟨some 94, .b2s, [.t 93], some (92, true)⟩,
  ⟨some 95, .mov, [.t 0], some (92, true)⟩,
  ⟨some 96, .b2s, [.t 95], some (92, true)⟩,
  ⟨some 97, (.bin .eql), [.t 94, .t 96], some (92, true)⟩,
  ⟨some 98, .pick, [.t 92, .t 97, .c (.bool false)], none⟩,
  ⟨some 99, .mov, [.t 98], none⟩,
  ⟨some 100, .mov, [.t 16], some (99, true)⟩,
  ⟨some 101, .b2s, [.t 100], some (99, true)⟩,
  ⟨some 102, .mov, [.t 0], some (99, true)⟩,
  ⟨some 103, .b2s, [.t 102], some (99, true)⟩,
  ⟨some 104, (.bin .eql), [.t 101, .t 103], some (99, true)⟩,
  ⟨some 105, .pick, [.t 99, .t 104, .c (.bool false)], none⟩,
  ⟨some 106, .mov, [.t 105], none⟩,
  ⟨some 107, .mov, [.t 13], some (106, true)⟩,
  ⟨some 108, .mov, [.t 15], some (106, true)⟩,
  ⟨some 109, (.bin .eql), [.t 107, .t 108], some (106, true)⟩,
  ⟨some 110, .pick, [.t 106, .t 109, .c (.bool false)], none⟩,
  ⟨some 111, .mov, [.t 110], none⟩,
  ⟨some 112, .mov, [.t 7], some (111, true)⟩,
  ⟨some 113, .lens, [.t 112], some (111, true)⟩,
  ⟨some 114, .mov, [.t 0], some (111, true)⟩,
  ⟨some 115, .lens, [.t 114], some (111, true)⟩,
  ⟨some 116, .mov, [.t 15], some (111, true)⟩,
  ⟨some 117, (.bin .mul), [.c (.int .i64 3), .t 116], some (111, true)⟩,
  ⟨some 118, (.bin .add), [.t 115, .t 117], some (111, true)⟩,
  ⟨some 119, (.bin .leq), [.t 113, .t 118], some (111, true)⟩,
  ⟨some 120, .pick, [.t 111, .t 119, .c (.bool false)], none⟩,
  ⟨some 6, .mov, [.t 120], none⟩]
def Zvg : Z2y := ⟨121, (.seq (.region Zuw [0, 1, 2]) (.seq (.seq (.region Zux [0, 1, 2, 19]) (.cond (.t 19) (.seq (.region Zuy [6]) .ret) .skip)) (.seq (.seq (.region Zuz [0, 1, 2, 22]) (.cond (.t 22) (.seq (.region Zv0 [6]) .ret) .skip)) (.seq (.region Zv1 [0, 1, 2, 7, 8]) (.seq (.region Zv2 [0, 1, 2, 7, 8, 10]) (.seq (.seq (.region Zv3 [0, 1, 2, 7, 10, 39]) (.cond (.t 39) (.seq (.region Zv4 [6]) .ret) .skip)) (.seq (.seq (.region Zv5 [0, 1, 2, 7, 41]) (.cond (.t 41) (.seq (.region Zv6 [6]) .ret) .skip)) (.seq (.region Zv7 [0, 1, 2, 7, 11, 12]) (.seq (.region Zv8 [0, 1, 2, 7, 11, 12, 13, 14]) (.seq (.region Zv9 [0, 1, 2, 7, 11, 12, 13, 14, 15]) (.seq (.seq (.region Zva [0, 1, 2, 7, 11, 12, 13, 14, 15, 61]) (.cond (.t 61) (.seq (.region Zvb [0, 1, 2, 7, 11, 12, 13, 14, 15]) (.seq (.region Zvc [0, 1, 2, 7, 11, 12, 13, 14, 15, 70]) (.cond (.t 70) (.region Zvd [0, 1, 2, 7, 11, 12, 13, 14, 15]) .skip))) .skip)) (.seq (.region Zve [0, 7, 11, 12, 13, 14, 15, 16, 17]) (.seq (.region Zvf [6]) .ret))))))))))))), [.t 6]⟩
def Zvh : List Z2a := [
  ⟨some 6, .mov, [.c (.bool false)], none⟩]
def Zvi : List Z2a := [
  ⟨some 13, (.call Zck), [], none⟩,
  ⟨some 14, .unot, [.t 13], none⟩]
def Zvj : List Z2a := [
  ⟨some 6, .mov, [.c (.bool false)], none⟩]
def Zvk : List Z2a := [
  ⟨some 15, .mov, [.t 0], none⟩,
  ⟨some 16, .lens, [.t 15], none⟩,
  ⟨some 17, (.bin .gtr), [.t 16, .c (.int .i64 3000)], none⟩,
  ⟨some 18, .mov, [.t 17], none⟩,
  ⟨some 19, .mov, [.t 1], some (18, false)⟩,
  ⟨some 20, .lens, [.t 19], some (18, false)⟩,
  ⟨some 21, (.bin .gtr), [.t 20, .c (.int .i64 3000)], some (18, false)⟩,
  ⟨some 22, .pick, [.t 18, .c (.bool true), .t 21], none⟩,
  ⟨some 23, .mov, [.t 22], none⟩,
  ⟨some 24, .mov, [.t 2], some (23, false)⟩,
  ⟨some 25, (.bin .lss), [.t 24, .c (.int .i64 1)], some (23, false)⟩,
  ⟨some 26, .pick, [.t 23, .c (.bool true), .t 25], none⟩,
  ⟨some 27, .mov, [.t 26], none⟩,
  ⟨some 28, .mov, [.t 2], some (27, false)⟩,
  ⟨some 29, (.bin .gtr), [.t 28, .c (.int .i64 1000)], some (27, false)⟩,
  ⟨some 30, .pick, [.t 27, .c (.bool true), .t 29], none⟩,
  ⟨some 31, .mov, [.t 30], none⟩,
  ⟨some 32, .mov, [.t 0], some (31, false)⟩,
  ⟨some 33, .lens, [.t 32], some (31, false)⟩,
  ⟨some 34, .mov, [.t 2], some (31, false)⟩,
  ⟨some 35, (.bin .rem), [.t 33, .t 34], some (31, false)⟩,
  ⟨some 36, (.bin .neq), [.t 35, .c (.int .i64 0)], some (31, false)⟩,
  ⟨some 37, .pick, [.t 31, .c (.bool true), .t 36], none⟩]
def Zvl : List Z2a := [
  ⟨some 6, .mov, [.c (.bool true)], none⟩]
def Zvm : List Z2a := [
  ⟨some 39, .mov, [.t 0], none⟩,
  ⟨some 40, .mov, [.t 2], none⟩,
  ⟨some 41, (.call Zcr), [.t 39, .c (.int .i64 4), .t 40], none⟩,
  ⟨some 38, .mov, [.t 41], none⟩,
  ⟨some 42, (.ext 0), [.t 38], none⟩,
  ⟨some 43, (.ext 1), [.t 38], none⟩,
  ⟨some 7, .mov, [.t 42], none⟩,
  ⟨some 8, .mov, [.t 43], none⟩]
def Zvn : List Z2a := [
  ⟨some 45, .mov, [.t 1], none⟩,
  ⟨some 46, .mov, [.t 2], none⟩,
  ⟨some 47, (.call Zcr), [.t 45, .c (.int .i64 4), .t 46], none⟩,
  ⟨some 44, .mov, [.t 47], none⟩,
  ⟨some 48, (.ext 0), [.t 44], none⟩,
  ⟨some 49, (.ext 1), [.t 44], none⟩,
  ⟨some 9, .mov, [.t 48], none⟩,
  ⟨some 10, .mov, [.t 49], none⟩]
def Zvo : List Z2a := [
  ⟨some 51, (.bsl 1), [], none⟩,
  ⟨some 52, .mov, [.t 0], none⟩,
  ⟨some 53, (.app 1 1), [.t 51, .t 52], none⟩,
  ⟨some 54, .mov, [.t 1], none⟩,
  ⟨some 55, (.app 1 1), [.t 53, .t 54], none⟩,
  ⟨some 56, .mov, [.t 2], none⟩,
  ⟨some 57, (.call Zcr), [.t 55, .c (.int .i64 4), .t 56], none⟩,
  ⟨some 50, .mov, [.t 57], none⟩,
  ⟨some 58, (.ext 0), [.t 50], none⟩,
  ⟨some 59, (.ext 1), [.t 50], none⟩,
  ⟨some 11, .mov, [.t 58], none⟩,
  ⟨some 12, .mov, [.t 59], none⟩]
def Zvp : List Z2a := [
  ⟨some 60, .mov, [.t 7], none⟩,
  ⟨some 61, .b2s, [.t 60], none⟩,
  ⟨some 62, .mov, [.t 9], none⟩,
  ⟨some 63, .b2s, [.t 62], none⟩,
  ⟨some 64, (.bin .add), [.t 61, .t 63], none⟩,
  ⟨some 65, .mov, [.t 11], none⟩,
  ⟨some 66, .b2s, [.t 65], none⟩,
  ⟨some 67, (.bin .eql), [.t 64, .t 66], none⟩,
  ⟨some 6, .mov, [.t 67], none⟩]
def Zvq : Z2y := ⟨68, (.seq (.region Zvh [0, 1, 2]) (.seq (.seq (.region Zvi [0, 1, 2, 14]) (.cond (.t 14) (.seq (.region Zvj [6]) .ret) .skip)) (.seq (.seq (.region Zvk [0, 1, 2, 37]) (.cond (.t 37) (.seq (.region Zvl [6]) .ret) .skip)) (.seq (.region Zvm [0, 1, 2, 7]) (.seq (.region Zvn [0, 1, 2, 7, 9]) (.seq (.region Zvo [7, 9, 11]) (.seq (.region Zvp [6]) .ret))))))), [.t 6]⟩
end Go.Abs
namespace Go.Abs
open Go Go.Proofs
theorem Zvr : Z2z Try.prog [] Zcf = some Zvg.erase := by kernel_rfl
theorem Zvs : Z2z Try.prog [] Zch = some Zvq.erase := by kernel_rfl
end Go.Abs
namespace Go.Abs
open Go Go.Proofs Go.Abs.Lz
set_option linter.unusedVariables false
set_option linter.unusedSimpArgs false
theorem Zvt {bs : List UInt8} {codec size : Int} (h : encE codec size = 0) (hb : bs.length ≤ 3000) :
    (encO bs codec size).length ≤ 4 * bs.length + 3 ∧ decF (encO bs codec size) codec size (bs.length : Nat) = (0, bs) ∧
    ∃ W : Nat, cntF (encO bs codec size) codec = (W, 0) ∧ (encO bs codec size).length ≤ bs.length + 3 * W ∧ W ≤ 3001 ∧ (codec ≠ 4 → W = 0) ∧
      (codec = 4 → ∃ s : Nat, size = s ∧ 1 ≤ s ∧ W = bs.length / s + (if 0 < bs.length % s then 1 else 0)) := by
  have hc : codec = 0 ∨ codec = 4 := by
    apply Classical.byContradiction; intro hn
    rw [encE, if_pos hn] at h; cases h
  have hs : ¬ (size < 1 ∨ 65536 < size) := by
    intro hn
    rw [encE, if_neg (fun hh => hh hc), if_pos hn] at h; cases h
  rcases hc with rfl | rfl
  · obtain ⟨_, p2, p3, p4⟩ := Zuq (bs := bs) (size := size) (by omega) (by omega) hb
    rw [p2, p3, p4]
    exact ⟨by omega, rfl, 0, rfl, by omega, by omega, fun _ => rfl, fun h => by cases h⟩
  · obtain ⟨s, rfl⟩ : ∃ s : Nat, size = s := ⟨size.toNat, by omega⟩
    have h1 : 1 ≤ s := by omega
    have h2 : s ≤ 65536 := by omega
    rw [(enc4 (bs := bs) h1 h2).2, dec4 h1 h2 (by omega), cnt4, Znm h1 h2, Znn h1 h2, if_neg (by omega)]
    have e4 : bs.length / s ≤ bs.length := Nat.div_le_self _ _
    have e5 : (if 0 < bs.length % s then 1 else 0) ≤ 1 := by split <;> omega
    exact ⟨Zun h1 bs, rfl, _, rfl, Znp h1 bs, by omega, fun h => absurd rfl h, fun _ => ⟨s, rfl, h1, rfl⟩⟩
theorem Zvu (bs : List UInt8) (f : Bool) (codec size : Int) (σ : Zc) : Z1q Try.prog Zcf [.slc 1 (bytes bs) f, .int .i64 codec, .int .i64 size] σ fun r σ' => r = .bool true ∧ σ' = σ := by
  refine Z8t rfl Zvr (Nat.le_of_ble_eq_true rfl) ?_
  refine Z9z ?_
  (repeat (refine st_q rfl rfl rfl ?_))
  (refine Z8y ?_; (repeat (first | refine Z9v rfl ?_ | refine Z9w ?_)); refine Z9u ?_)
  refine Za5 ?_
  refine Zad ?_
  refine Z9t rfl (Zup _) ?_
  (repeat (refine st_q rfl rfl rfl ?_))
  (refine Z8y ?_; (repeat (first | refine Z9v rfl ?_ | refine Z9w ?_)); refine Z9u ?_)
  refine Z8f (t := false) rfl (fun e => by cases e) (fun _ => ?_)
  refine Za4 ?_
  refine Za5 ?_
  refine Zad ?_
  (repeat (first | refine st_q rfl rfl rfl ?_ | refine Z8v rfl (st_q rfl rfl rfl ?_) | refine Z8w rfl ?_ | refine Z8x rfl ?_))
  rw [Zam]
  (refine Z8y ?_; (repeat (first | refine Z9v rfl ?_ | refine Z9w ?_)); refine Z9u ?_)
  refine Za3 (p := (bs.length : Int) > 3000) rfl (fun _ => ?_) (fun c1 => ?_)
  · refine Z9z ?_
    (repeat (refine st_q rfl rfl rfl ?_))
    (refine Z8y ?_; (repeat (first | refine Z9v rfl ?_ | refine Z9w ?_)); refine Z9u ?_)
    refine Z8d ?_
    exact ares rfl (HSub.refl _) ⟨rfl, rfl⟩
  refine Za4 ?_
  obtain ⟨eg, hE⟩ : ∃ eg, encE codec size = eg := ⟨_, rfl⟩
  have hR := Zsz (σ := σ) (bs := bs) (f := f) (codec := codec) (size := size) (by omega)
  rw [hE] at hR
  refine Z9z ?_
  (repeat (refine st_q rfl rfl rfl ?_))
  refine Z9t rfl (Zug (by omega) hE rfl) ?_
  (repeat (refine st_q rfl rfl rfl ?_))
  (refine Z8y ?_; (repeat (first | refine Z9v rfl ?_ | refine Z9w ?_)); refine Z9u ?_)
  refine Z9z ?_
  (repeat (refine st_q rfl rfl rfl ?_))
  refine Z9s rfl hR ⟨_, _, [], rfl, rfl⟩ ?_
  rintro _ τ ⟨xs, rfl, hτ⟩
  rw [hτ]
  clear hτ
  (repeat (refine st_q rfl rfl rfl ?_))
  (refine Z8y ?_; (repeat (first | refine Z9v rfl ?_ | refine Z9w ?_)); refine Z9u ?_)
  refine Za5 ?_
  refine Zad ?_
  (repeat (first | refine st_q rfl rfl rfl ?_ | refine Z8v rfl (st_q rfl rfl rfl ?_) | refine Z8w rfl ?_ | refine Z8x rfl ?_))
  (refine Z8y ?_; (repeat (first | refine Z9v rfl ?_ | refine Z9w ?_)); refine Z9u ?_)
  refine Za3 (p := (eg : Int) ≠ (eg : Int)) rfl (fun h => absurd rfl h) (fun _ => ?_)
  refine Za4 ?_
  refine Za5 ?_
  refine Zad ?_
  (repeat (first | refine st_q rfl rfl rfl ?_ | refine Z8v rfl (st_q rfl rfl rfl ?_) | refine Z8w rfl ?_ | refine Z8x rfl ?_))
  (refine Z8y ?_; (repeat (first | refine Z9v rfl ?_ | refine Z9w ?_)); refine Z9u ?_)
  refine Za3 (p := (eg : Int) ≠ 0) rfl (fun h0 => ?_) (fun h0 => ?_)
  · have hx : encO bs codec size = [] := by rw [encO, hE, if_pos (by omega)]
    rw [hx]
    refine Z9z ?_
    (repeat (first | refine st_q rfl rfl rfl ?_ | refine Z8v rfl (st_q rfl rfl rfl ?_) | refine Z8w rfl ?_ | refine Z8x rfl ?_))
    (refine Z8y ?_; (repeat (first | refine Z9v rfl ?_ | refine Z9w ?_)); refine Z9u ?_)
    refine Z8d ?_
    exact ares rfl (HSub.refl _) ⟨rfl, rfl⟩
  refine Za4 ?_
  obtain rfl : eg = 0 := by omega
  obtain ⟨hxl, hD, W, hC, hxW, hW, hW0, hW4⟩ := Zvt hE (by omega : bs.length ≤ 3000)
  generalize encO bs codec size = x at *
  refine Z9z ?_
  (repeat (refine st_q rfl rfl rfl ?_))
  rw [Zam]
  refine Z9t rfl (Zui (by omega) hD) ?_
  (repeat (refine st_q rfl rfl rfl ?_))
  (refine Z8y ?_; (repeat (first | refine Z9v rfl ?_ | refine Z9w ?_)); refine Z9u ?_)
  refine Z9z ?_
  (repeat (refine st_q rfl rfl rfl ?_))
  refine Z9t rfl (Zuk (by omega) hC) ?_
  (repeat (refine st_q rfl rfl rfl ?_))
  (refine Z8y ?_; (repeat (first | refine Z9v rfl ?_ | refine Z9w ?_)); refine Z9u ?_)
  have key : AWp Try.prog Zvg.n (Zvg.code.snd 11) (ARet Zvg.res fun r σ' => r = .bool true ∧ σ' = σ)
      (fset 0 (some (.slc 1 (bytes bs) f)) (fset 1 (some (.int .i64 codec)) (fset 2 (some (.int .i64 size)) (fset 7 (some (.slc 1 (bytes x) true)) (fset 11 (some (.slc 1 (bytes bs) false)) (fset 12 (some (.int .i64 (0 : Nat))) (fset 13 (some (.int .i64 W)) (fset 14 (some (.int .i64 (0 : Nat))) (fset 15 (some (.int .i64 W)) Z27))))))))) σ := by
    refine Z9z ?_
    (repeat (refine st_q rfl rfl rfl ?_))
    rw [Zam]
    refine Z9t rfl (Zuh (by omega) hD) ?_
    (repeat (refine st_q rfl rfl rfl ?_))
    (refine Z8y ?_; (repeat (first | refine Z9v rfl ?_ | refine Z9w ?_)); refine Z9u ?_)
    refine Z9z ?_
    (repeat (first | refine st_q rfl rfl rfl ?_ | refine Z8v rfl (st_q rfl rfl rfl ?_) | refine Z8w rfl ?_ | refine Z8x rfl ?_))
    refine Z8v rfl (st_q rfl Zl0 rfl ?_)
    (repeat (first | refine st_q rfl rfl rfl ?_ | refine Z8v rfl (st_q rfl rfl rfl ?_) | refine Z8w rfl ?_ | refine Z8x rfl ?_))
    refine Z8v rfl (st_q rfl Zl0 rfl ?_)
    refine Z8v rfl (st_q rfl rfl rfl ?_)
    rw [show decide (bs = bs) = true from decide_eq_true rfl]
    (repeat (first | refine st_q rfl rfl rfl ?_ | refine Z8v rfl (st_q rfl rfl rfl ?_) | refine Z8w rfl ?_ | refine Z8x rfl ?_))
    refine Z8v rfl (st_q rfl Zl0 rfl ?_)
    (repeat (first | refine st_q rfl rfl rfl ?_ | refine Z8v rfl (st_q rfl rfl rfl ?_) | refine Z8w rfl ?_ | refine Z8x rfl ?_))
    refine Z8v rfl (st_q rfl Zl0 rfl ?_)
    refine Z8v rfl (st_q rfl rfl rfl ?_)
    rw [show decide (bs = bs) = true from decide_eq_true rfl]
    (repeat (first | refine st_q rfl rfl rfl ?_ | refine Z8v rfl (st_q rfl rfl rfl ?_) | refine Z8w rfl ?_ | refine Z8x rfl ?_))
    rw [show decide ((W : Int) = (W : Int)) = true from decide_eq_true rfl]
    (repeat (first | refine st_q rfl rfl rfl ?_ | refine Z8v rfl (st_q rfl rfl rfl ?_) | refine Z8w rfl ?_ | refine Z8x rfl ?_))
    have e1 : IntKind.wrap .i64 (3 * (W : Int)) = ((3 * W : Nat) : Int) := by rw [w64 _ (by omega) (by omega)]; omega
    have e2 : IntKind.wrap .i64 ((bs.length : Int) + ((3 * W : Nat) : Int)) = ((bs.length + 3 * W : Nat) : Int) := by rw [w64 _ (by omega) (by omega)]; omega
    rw [Zam, Zam, e1, e2, show decide ((x.length : Int) ≤ ((bs.length + 3 * W : Nat) : Int)) = true from decide_eq_true (by omega)]
    (refine Z8y ?_; (repeat (first | refine Z9v rfl ?_ | refine Z9w ?_)); refine Z9u ?_)
    refine Z8d ?_
    exact ares rfl (HSub.refl _) ⟨rfl, rfl⟩
  refine Z9z ?_
  (repeat (refine st_q rfl rfl rfl ?_))
  (refine Z8y ?_; (repeat (first | refine Z9v rfl ?_ | refine Z9w ?_)); refine Z9u ?_)
  refine Za5 ?_
  refine Zad ?_
  (repeat (first | refine st_q rfl rfl rfl ?_ | refine Z8v rfl (st_q rfl rfl rfl ?_) | refine Z8w rfl ?_ | refine Z8x rfl ?_))
  (refine Z8y ?_; (repeat (first | refine Z9v rfl ?_ | refine Z9w ?_)); refine Z9u ?_)
  refine Za3 (p := codec = 4) rfl (fun h4 => ?_) (fun h4 => ?_)
  · obtain ⟨s, rfl, h1, hWs⟩ := hW4 h4
    have e1 : IntKind.wrap .i64 ((bs.length : Int).tdiv (s : Int)) = ((bs.length / s : Nat) : Int) := by
      have hq := Nat.div_le_self bs.length s
      rw [Int.tdiv_eq_ediv_of_nonneg (by omega), ← Int.natCast_ediv]
      clear hWs
      generalize bs.length / s = q at hq ⊢
      exact w64 _ (by omega) (by omega)
    have e2 : (bs.length : Int).tmod (s : Int) = ((bs.length % s : Nat) : Int) := by
      rw [Int.tmod_eq_emod_of_nonneg (by omega), ← Int.natCast_emod]
    refine Zaf ?_
    refine Zad ?_
    (repeat (refine st_q rfl rfl rfl ?_))
    refine Z97 rfl (by omega) ?_
    rw [Zam, e1]
    (repeat (refine st_q rfl rfl rfl ?_))
    (refine Z8y ?_; (repeat (first | refine Z9v rfl ?_ | refine Z9w ?_)); refine Z9u ?_)
    refine Zaf ?_
    refine Zad ?_
    (repeat (refine st_q rfl rfl rfl ?_))
    refine Z98 rfl (by omega) ?_
    rw [Zam, e2]
    (repeat (refine st_q rfl rfl rfl ?_))
    (refine Z8y ?_; (repeat (first | refine Z9v rfl ?_ | refine Z9w ?_)); refine Z9u ?_)
    refine Za3 (p := ((bs.length % s : Nat) : Int) > 0) rfl (fun h5 => ?_) (fun h5 => ?_)
    · rw [if_pos (by omega)] at hWs
      have e3 : IntKind.wrap .i64 (((bs.length / s : Nat) : Int) + 1) = (W : Int) := by
        have hq := Nat.div_le_self bs.length s
        rw [hWs]
        clear hWs e1
        generalize bs.length / s = q at hq ⊢
        rw [w64 _ (by omega) (by omega)]; omega
      refine Zbm (fun _ _ => rfl) ?_
      (repeat (refine st_q rfl rfl rfl ?_))
      rw [e3]
      (repeat (refine st_q rfl rfl rfl ?_))
      (refine Z8y ?_; (repeat (first | refine Z9v rfl ?_ | refine Z9w ?_)); refine Z9u ?_)
      exact key
    · rw [if_neg (by omega), Nat.add_zero] at hWs
      rw [← hWs]
      refine Zbn (fun _ _ => rfl) ?_
      (refine Z9y (keep := [0, 1, 2, 7, 11, 12, 13, 14, 15]) ?_; ((repeat (first | refine Z9v rfl ?_ | refine Z9w ?_)); refine Z9u ?_))
      exact key
  · obtain rfl := hW0 h4
    refine Za4 ?_
    (refine Z9y (keep := [0, 1, 2, 7, 11, 12, 13, 14, 15]) ?_; ((repeat (first | refine Z9v rfl ?_ | refine Z9w ?_)); refine Z9u ?_))
    exact key
theorem Zvv (a b : List UInt8) (f g : Bool) (size : Int) (σ : Zc) : Z1q Try.prog Zch [.slc 1 (bytes a) f, .slc 1 (bytes b) g, .int .i64 size] σ fun r σ' => r = .bool true ∧ σ' = σ := by
  refine Z8t rfl Zvs (Nat.le_of_ble_eq_true rfl) ?_
  refine Z9z ?_
  (repeat (refine st_q rfl rfl rfl ?_))
  (refine Z8y ?_; (repeat (first | refine Z9v rfl ?_ | refine Z9w ?_)); refine Z9u ?_)
  refine Za5 ?_
  refine Zad ?_
  refine Z9t rfl (Zup _) ?_
  (repeat (refine st_q rfl rfl rfl ?_))
  (refine Z8y ?_; (repeat (first | refine Z9v rfl ?_ | refine Z9w ?_)); refine Z9u ?_)
  refine Z8f (t := false) rfl (fun e => by cases e) (fun _ => ?_)
  refine Za4 ?_
  refine Za5 ?_
  refine Zad ?_
  have hret : ∀ (X : Z2b) (F : Z26), AWp Try.prog Zvq.n (.seq (.region Zvl [6]) .ret) (Z8e Try.prog Zvq.n X (ARet Zvq.res fun r σ' => r = .bool true ∧ σ' = σ)) F σ := fun X F => by
    refine Z9z ?_
    (repeat (refine st_q rfl rfl rfl ?_))
    (refine Z8y ?_; (repeat (first | refine Z9v rfl ?_ | refine Z9w ?_)); refine Z9u ?_)
    refine Z8d ?_
    exact ares rfl (HSub.refl _) ⟨rfl, rfl⟩
  (repeat (first | refine st_q rfl rfl rfl ?_ | refine Z8v rfl (st_q rfl rfl rfl ?_) | refine Z8w rfl ?_ | refine Z8x rfl ?_))
  rw [Zam]
  by_cases c1 : (a.length : Int) > 3000
  · (rw [show decide ((a.length : Int) > 3000) = true from decide_eq_true (by omega)])
    (repeat (first | refine st_q rfl rfl rfl ?_ | refine Z8v rfl (st_q rfl rfl rfl ?_) | refine Z8w rfl ?_ | refine Z8x rfl ?_))
    (refine Z8y ?_; (repeat (first | refine Z9v rfl ?_ | refine Z9w ?_)); refine Z9u ?_)
    exact Z8f rfl (fun _ => hret _ _) (fun e => by cases e)
  (rw [show decide ((a.length : Int) > 3000) = false from decide_eq_false (by omega)])
  (repeat (first | refine st_q rfl rfl rfl ?_ | refine Z8v rfl (st_q rfl rfl rfl ?_) | refine Z8w rfl ?_ | refine Z8x rfl ?_))
  rw [Zam]
  by_cases c2 : (b.length : Int) > 3000
  · (rw [show decide ((b.length : Int) > 3000) = true from decide_eq_true (by omega)])
    (repeat (first | refine st_q rfl rfl rfl ?_ | refine Z8v rfl (st_q rfl rfl rfl ?_) | refine Z8w rfl ?_ | refine Z8x rfl ?_))
    (refine Z8y ?_; (repeat (first | refine Z9v rfl ?_ | refine Z9w ?_)); refine Z9u ?_)
    exact Z8f rfl (fun _ => hret _ _) (fun e => by cases e)
  (rw [show decide ((b.length : Int) > 3000) = false from decide_eq_false (by omega)])
  (repeat (first | refine st_q rfl rfl rfl ?_ | refine Z8v rfl (st_q rfl rfl rfl ?_) | refine Z8w rfl ?_ | refine Z8x rfl ?_))
  by_cases c3 : size < 1
  · (rw [show decide (size < 1) = true from decide_eq_true (by omega)])
    (repeat (first | refine st_q rfl rfl rfl ?_ | refine Z8v rfl (st_q rfl rfl rfl ?_) | refine Z8w rfl ?_ | refine Z8x rfl ?_))
    (refine Z8y ?_; (repeat (first | refine Z9v rfl ?_ | refine Z9w ?_)); refine Z9u ?_)
    exact Z8f rfl (fun _ => hret _ _) (fun e => by cases e)
  (rw [show decide (size < 1) = false from decide_eq_false (by omega)])
  (repeat (first | refine st_q rfl rfl rfl ?_ | refine Z8v rfl (st_q rfl rfl rfl ?_) | refine Z8w rfl ?_ | refine Z8x rfl ?_))
  by_cases c4 : size > 1000
  · (rw [show decide (size > 1000) = true from decide_eq_true (by omega)])
    (repeat (first | refine st_q rfl rfl rfl ?_ | refine Z8v rfl (st_q rfl rfl rfl ?_) | refine Z8w rfl ?_ | refine Z8x rfl ?_))
    (refine Z8y ?_; (repeat (first | refine Z9v rfl ?_ | refine Z9w ?_)); refine Z9u ?_)
    exact Z8f rfl (fun _ => hret _ _) (fun e => by cases e)
  (rw [show decide (size > 1000) = false from decide_eq_false (by omega)])
  (repeat (first | refine st_q rfl rfl rfl ?_ | refine Z8v rfl (st_q rfl rfl rfl ?_) | refine Z8w rfl ?_ | refine Z8x rfl ?_))
  obtain ⟨s, rfl⟩ : ∃ s : Nat, size = s := ⟨size.toNat, by omega⟩
  have h1 : 1 ≤ s := by omega
  have h2 : s ≤ 65536 := by omega
  refine Z8v rfl (Z98 rfl (by omega) ?_)
  have e2 : (a.length : Int).tmod (s : Int) = ((a.length % s : Nat) : Int) := by
    rw [Int.tmod_eq_emod_of_nonneg (by omega), ← Int.natCast_emod]
  rw [Zam, e2]
  (repeat (first | refine st_q rfl rfl rfl ?_ | refine Z8v rfl (st_q rfl rfl rfl ?_) | refine Z8w rfl ?_ | refine Z8x rfl ?_))
  (refine Z8y ?_; (repeat (first | refine Z9v rfl ?_ | refine Z9w ?_)); refine Z9u ?_)
  refine Za3 (p := ((a.length % s : Nat) : Int) ≠ 0) rfl (fun _ => hret _ _) (fun c5 => ?_)
  refine Za4 ?_
  have hA := enc4 (bs := a) h1 h2
  have hB := enc4 (bs := b) h1 h2
  have hAB := enc4 (bs := a ++ b) h1 h2
  have happ := Znr h1 a b (by omega : a.length % s = 0)
  refine Z9z ?_
  (repeat (refine st_q rfl rfl rfl ?_))
  refine Z9t rfl (Zug (by omega) hA.1 hA.2) ?_
  (repeat (refine st_q rfl rfl rfl ?_))
  (refine Z8y ?_; (repeat (first | refine Z9v rfl ?_ | refine Z9w ?_)); refine Z9u ?_)
  refine Z9z ?_
  (repeat (refine st_q rfl rfl rfl ?_))
  refine Z9t rfl (Zug (by omega) hB.1 hB.2) ?_
  (repeat (refine st_q rfl rfl rfl ?_))
  (refine Z8y ?_; (repeat (first | refine Z9v rfl ?_ | refine Z9w ?_)); refine Z9u ?_)
  refine Z9z ?_
  refine st_q rfl rfl rfl ?_
  refine st_q rfl rfl rfl ?_
  refine Zat (β := []) (xs := []) (ys := a) (Grow.nil 1) rfl rfl (by simp; omega) fun b1 hb1 => ?_
  refine st_q rfl rfl rfl ?_
  refine Zat (β := [(b1, .cells 1 (bytes ([] ++ a)))]) (xs := [] ++ a) (ys := b) (.inr ⟨b1, rfl, rfl⟩) rfl rfl (by simp; omega) fun b2 hb2 => ?_
  rw [List.nil_append, ← Zam (a ++ b)]
  refine st_q rfl rfl rfl ?_
  refine Z9t rfl (Z1q.freeze (Zug (by rw [List.length_append]; omega) hAB.1 hAB.2)) ?_
  (repeat (refine st_q rfl rfl rfl ?_))
  (refine Z8y ?_; (repeat (first | refine Z9v rfl ?_ | refine Z9w ?_)); refine Z9u ?_)
  refine Z9z ?_
  refine st_q rfl rfl rfl ?_
  refine st_q rfl Zl0 rfl ?_
  refine st_q rfl rfl rfl ?_
  refine st_q rfl Zl0 rfl ?_
  refine st_q (v := .str (encF s a ++ encF s b)) rfl ?_ rfl ?_
  · simp only [Z1p, abin, Z12]
    have l1 := Zun h1 a
    have l2 := Zun h1 b
    exact if_pos (by simp only [maxLen]; omega)
  refine st_q rfl rfl rfl ?_
  refine st_q rfl Zl0 rfl ?_
  refine st_q rfl rfl rfl ?_
  rw [show decide (encF s a ++ encF s b = encF s (a ++ b)) = true from decide_eq_true happ.symm]
  (repeat (first | refine st_q rfl rfl rfl ?_ | refine Z8v rfl (st_q rfl rfl rfl ?_) | refine Z8w rfl ?_ | refine Z8x rfl ?_))
  (refine Z8y ?_; (repeat (first | refine Z9v rfl ?_ | refine Z9w ?_)); refine Z9u ?_)
  refine Z8d ?_
  exact ares rfl (HSub.refl _) ⟨rfl, rfl⟩
end Go.Abs

