/- Part E of a proof: merged by program. -/
import Derived.Test.YtgdpmebdoipiaaaPkD
import Derived.Test.YtgdpmebdoipiaaaProg
import Derived.KernelRfl
namespace Go.Abs
open Go
def Zla : List Z2a := [
  ⟨some 4, .mov, [.c (.int .i64 0)], none⟩,
  ⟨some 5, .mov, [.c (.bool false)], none⟩,
  ⟨some 6, .mov, [.c (.int .i64 0)], none⟩]
def Zlb : List Z2a := [
  ⟨some 9, .mov, [.t 1], none⟩,
  ⟨some 10, (.bin .lss), [.t 9, .c (.int .i64 0)], none⟩,
  ⟨some 11, .mov, [.t 10], none⟩,
  ⟨some 12, .mov, [.t 1], some (11, false)⟩,
  ⟨some 13, .mov, [.t 0], some (11, false)⟩,
  ⟨some 14, .lens, [.t 13], some (11, false)⟩,
  ⟨some 15, (.bin .gtr), [.t 12, .t 14], some (11, false)⟩,
  ⟨some 16, .pick, [.t 11, .c (.bool true), .t 15], none⟩,
  ⟨some 8, .mov, [.t 16], none⟩]
def Zlc : List Z2a := [
  ⟨some 4, .mov, [.c (.int .i64 0)], none⟩,
  ⟨some 5, .mov, [.c (.bool false)], none⟩,
  ⟨some 6, .mov, [.c (.int .i64 1)], none⟩]
def Zld : List Z2a := [
  ⟨some 18, .mov, [.t 0], none⟩,
  ⟨some 19, .lens, [.t 18], none⟩,
  ⟨some 20, .mov, [.t 1], none⟩,
  ⟨some 21, (.bin .sub), [.t 19, .t 20], none⟩,
  ⟨some 22, (.bin .lss), [.t 21, .c (.int .i64 3)], none⟩,
  ⟨some 17, .mov, [.t 22], none⟩]
def Zle : List Z2a := [
  ⟨some 4, .mov, [.c (.int .i64 0)], none⟩,
  ⟨some 5, .mov, [.c (.bool false)], none⟩,
  ⟨some 6, .mov, [.c (.int .i64 3)], none⟩]
def Zlf : List Z2a := [
  ⟨some 23, .mov, [.t 0], none⟩,
  ⟨some 24, .mov, [.t 1], none⟩,
  ⟨some 25, (.iad 1), [.t 23, .t 24], none⟩,
  ⟨some 26, (.load false 1), [.t 25], none⟩,
  ⟨some 27, (.conv .i64), [.t 26], none⟩,
  ⟨some 28, .mov, [.t 0], none⟩,
  ⟨some 29, .mov, [.t 1], none⟩,
  ⟨some 30, (.bin .add), [.t 29, .c (.int .i64 1)], none⟩,
  ⟨some 31, (.iad 1), [.t 28, .t 30], none⟩,
  ⟨some 32, (.load false 1), [.t 31], none⟩,
  ⟨some 33, (.conv .i64), [.t 32], none⟩,
  ⟨some 34, (.bin .shl), [.t 33, .c (.int .u64 8)], none⟩,
  ⟨some 35, (.bin .or), [.t 27, .t 34], none⟩,
  ⟨some 36, .mov, [.t 0], none⟩,
  ⟨some 37, .mov, [.t 1], none⟩,
  ⟨some 38, (.bin .add), [.t 37, .c (.int .i64 2)], none⟩,
  ⟨some 39, (.iad 1), [.t 36, .t 38], none⟩,
  ⟨some 40, (.load false 1), [.t 39], none⟩,
  ⟨some 41, (.conv .i64), [.t 40], none⟩,
  ⟨some 42, (.bin .shl), [.t 41, .c (.int .u64 16)], none⟩,
  ⟨some 43, (.bin .or), [.t 35, .t 42], none⟩,
  ⟨some 7, .mov, [.t 43], none⟩]
def Zlg : List Z2a := [
  ⟨some 44, .mov, [.t 7], none⟩,
  ⟨some 45, (.bin .shr), [.t 44, .c (.int .u64 1)], none⟩,
  ⟨some 46, .mov, [.t 7], none⟩,
  ⟨some 47, (.bin .and), [.t 46, .c (.int .i64 1)], none⟩,
  ⟨some 48, (.bin .eql), [.t 47, .c (.int .i64 1)], none⟩,
  ⟨some 4, .mov, [.t 45], none⟩,
  ⟨some 5, .mov, [.t 48], none⟩,
  ⟨some 6, .mov, [.c (.int .i64 0)], none⟩]
def Zlh : Z2y := ⟨49, (.seq (.region Zla [0, 1]) (.seq (.block 0 (.seq (.region Zlb [0, 1, 8]) (.cond (.t 8) (.seq (.region Zlc [4, 5, 6]) .ret) (.seq (.region Zld [0, 1, 17]) (.cond (.t 17) (.seq (.region Zle [4, 5, 6]) .ret) .skip))))) (.seq (.region Zlf [7]) (.seq (.region Zlg [4, 5, 6]) .ret)))), [.t 4, .t 5, .t 6]⟩
def Zli : List Z2a := [
  ⟨some 4, .mov, [.c (.int .i64 0)], none⟩,
  ⟨some 5, .mov, [.c (.bool false)], none⟩,
  ⟨some 6, .mov, [.c (.int .i64 0)], none⟩]
def Zlj : List Z2a := [
  ⟨some 8, .mov, [.t 1], none⟩,
  ⟨some 9, (.bin .lss), [.t 8, .c (.int .i64 0)], none⟩,
  ⟨some 10, .mov, [.t 9], none⟩,
  ⟨some 11, .mov, [.t 1], some (10, false)⟩,
  ⟨some 12, .mov, [.t 0], some (10, false)⟩,
  ⟨some 13, .lens, [.t 12], some (10, false)⟩,
  ⟨some 14, (.bin .gtr), [.t 11, .t 13], some (10, false)⟩,
  ⟨some 15, .pick, [.t 10, .c (.bool true), .t 14], none⟩]
def Zlk : List Z2a := [
  ⟨some 4, .mov, [.c (.int .i64 0)], none⟩,
  ⟨some 5, .mov, [.c (.bool false)], none⟩,
  ⟨some 6, .mov, [.c (.int .i64 1)], none⟩]
def Zll : List Z2a := [
  ⟨some 16, .mov, [.t 0], none⟩,
  ⟨some 17, .lens, [.t 16], none⟩,
  ⟨some 18, .mov, [.t 1], none⟩,
  ⟨some 19, (.bin .sub), [.t 17, .t 18], none⟩,
  ⟨some 20, (.bin .lss), [.t 19, .c (.int .i64 3)], none⟩]
def Zlm : List Z2a := [
  ⟨some 4, .mov, [.c (.int .i64 0)], none⟩,
  ⟨some 5, .mov, [.c (.bool false)], none⟩,
  ⟨some 6, .mov, [.c (.int .i64 3)], none⟩]
def Zln : List Z2a := [
  ⟨some 21, .mov, [.t 0], none⟩,
  ⟨some 22, .mov, [.t 1], none⟩,
  ⟨some 23, (.iad 1), [.t 21, .t 22], none⟩,
  ⟨some 24, (.load false 1), [.t 23], none⟩,
  ⟨some 25, (.conv .i64), [.t 24], none⟩,
  ⟨some 26, .mov, [.t 0], none⟩,
  ⟨some 27, .mov, [.t 1], none⟩,
  ⟨some 28, (.bin .add), [.t 27, .c (.int .i64 1)], none⟩,
  ⟨some 29, (.iad 1), [.t 26, .t 28], none⟩,
  ⟨some 30, (.load false 1), [.t 29], none⟩,
  ⟨some 31, (.conv .i64), [.t 30], none⟩,
  ⟨some 32, (.bin .shl), [.t 31, .c (.int .u64 8)], none⟩,
  ⟨some 33, (.bin .or), [.t 25, .t 32], none⟩,
  ⟨some 34, .mov, [.t 0], none⟩,
  ⟨some 35, .mov, [.t 1], none⟩,
  ⟨some 36, (.bin .add), [.t 35, .c (.int .i64 2)], none⟩,
  ⟨some 37, (.iad 1), [.t 34, .t 36], none⟩,
  ⟨some 38, (.load false 1), [.t 37], none⟩,
  ⟨some 39, (.conv .i64), [.t 38], none⟩,
  ⟨some 40, (.bin .shl), [.t 39, .c (.int .u64 16)], none⟩,
  ⟨some 41, (.bin .or), [.t 33, .t 40], none⟩,
  ⟨some 7, .mov, [.t 41], none⟩]
def Zlo : List Z2a := [
  ⟨some 42, .mov, [.t 7], none⟩,
  ⟨some 43, (.bin .shr), [.t 42, .c (.int .u64 1)], none⟩,
  ⟨some 44, .mov, [.t 7], none⟩,
  ⟨some 45, (.bin .and), [.t 44, .c (.int .i64 1)], none⟩,
  ⟨some 46, (.bin .eql), [.t 45, .c (.int .i64 1)], none⟩,
  ⟨some 4, .mov, [.t 43], none⟩,
  ⟨some 5, .mov, [.t 46], none⟩,
  ⟨some 6, .mov, [.c (.int .i64 0)], none⟩]
def Zlp : Z2y := ⟨47, (.seq (.region Zli [0, 1]) (.seq (.seq (.region Zlj [0, 1, 15]) (.cond (.t 15) (.seq (.region Zlk [4, 5, 6]) .ret) .skip)) (.seq (.seq (.region Zll [0, 1, 20]) (.cond (.t 20) (.seq (.region Zlm [4, 5, 6]) .ret) .skip)) (.seq (.region Zln [7]) (.seq (.region Zlo [4, 5, 6]) .ret))))), [.t 4, .t 5, .t 6]⟩
def Zlq : List Z2a := [
  ⟨some 4, .mov, [.c (.slc 0 [] true)], none⟩]
def Zlr : List Z2a := [
  ⟨some 6, .mov, [.t 0], none⟩,
  ⟨some 7, (.bin .shl), [.t 6, .c (.int .u64 1)], none⟩,
  ⟨some 5, .mov, [.t 7], none⟩]
def Zls : List Z2a := [
  ⟨some 8, .mov, [.t 1], none⟩]
def Zlt : List Z2a := [
  ⟨some 9, .mov, [.t 5], none⟩,
  ⟨some 10, (.bin .or), [.t 9, .c (.int .i64 1)], none⟩,
  ⟨some 5, .mov, [.t 10], none⟩]
def Zlu : List Z2a := [
  ⟨some 11, .mov, [.t 5], none⟩,
  ⟨some 12, (.conv .u8), [.t 11], none⟩,
  ⟨some 13, .mov, [.t 5], none⟩,
  ⟨some 14, (.bin .shr), [.t 13, .c (.int .u64 8)], none⟩,
  ⟨some 15, (.conv .u8), [.t 14], none⟩,
  ⟨some 16, .mov, [.t 5], none⟩,
  ⟨some 17, (.bin .shr), [.t 16, .c (.int .u64 16)], none⟩,
  ⟨some 18, (.conv .u8), [.t 17], none⟩,
  ⟨some 19, (.bsl 1), [.t 12, .t 15, .t 18], none⟩,
  ⟨some 4, .mov, [.t 19], none⟩]
def Zlv : Z2y := ⟨20, (.seq (.region Zlq [0, 1]) (.seq (.region Zlr [1, 5]) (.seq (.seq (.region Zls [5, 8]) (.cond (.t 8) (.region Zlt [5]) .skip)) (.seq (.region Zlu [4]) .ret)))), [.t 4]⟩
def Zlw : List Z2a := [
  ⟨some 4, .mov, [.c (.slc 0 [] true)], none⟩]
def Zlx : List Z2a := [
  ⟨some 6, .mov, [.t 0], none⟩,
  ⟨some 7, (.bin .and), [.t 6, .c (.int .i64 8388607)], none⟩,
  ⟨some 8, (.bin .shl), [.t 7, .c (.int .u64 1)], none⟩,
  ⟨some 5, .mov, [.t 8], none⟩]
def Zly : List Z2a := [
  ⟨some 9, .mov, [.t 1], none⟩]
def Zlz : List Z2a := [
  ⟨some 10, .mov, [.t 5], none⟩,
  ⟨some 11, (.bin .or), [.t 10, .c (.int .i64 1)], none⟩,
  ⟨some 5, .mov, [.t 11], none⟩]
def Zm0 : List Z2a := [
  ⟨some 12, .mov, [.t 5], none⟩,
  ⟨some 13, (.conv .u8), [.t 12], none⟩,
  ⟨some 14, .mov, [.t 5], none⟩,
  ⟨some 15, (.bin .shr), [.t 14, .c (.int .u64 8)], none⟩,
  ⟨some 16, (.conv .u8), [.t 15], none⟩,
  ⟨some 17, .mov, [.t 5], none⟩,
  ⟨some 18, (.bin .shr), [.t 17, .c (.int .u64 16)], none⟩,
  ⟨some 19, (.conv .u8), [.t 18], none⟩,
  ⟨some 20, (.bsl 1), [.t 13, .t 16, .t 19], none⟩,
  ⟨some 4, .mov, [.t 20], none⟩]
def Zm1 : Z2y := ⟨21, (.seq (.region Zlw [0, 1]) (.seq (.region Zlx [1, 5]) (.seq (.seq (.region Zly [5, 9]) (.cond (.t 9) (.region Zlz [5]) .skip)) (.seq (.region Zm0 [4]) .ret)))), [.t 4]⟩
def Zm2 : List Z2a := [
  ⟨some 2, .mov, [.c (.bool false)], none⟩]
def Zm3 : List Z2a := [
  ⟨some 3, .mov, [.t 0], none⟩]
def Zm4 : List Z2a := [
  ⟨some 5, (.bin .eql), [.t 3, .c (.int .i64 0)], none⟩,
  ⟨some 4, .mov, [.t 5], none⟩]
def Zm5 : List Z2a := [
  ⟨some 7, (.bin .eql), [.t 3, .c (.int .i64 4)], none⟩,
  ⟨some 6, .mov, [.t 7], none⟩]
def Zm6 : List Z2a := [
  ⟨some 2, .mov, [.c (.bool true)], none⟩]
def Zm7 : List Z2a := [
  ⟨some 2, .mov, [.c (.bool false)], none⟩]
def Zm8 : Z2y := ⟨8, (.seq (.region Zm2 [0]) (.seq (.seq (.region Zm3 [3]) (.block 0 (.seq (.block 2 (.block 1 (.seq (.seq (.seq (.region Zm4 [3, 4]) (.cond (.t 4) (.exit 1) .skip)) (.seq (.region Zm5 [6]) (.cond (.t 6) (.exit 2) .skip))) (.exit 0)))) (.seq (.seq (.region Zm6 [2]) .ret) (.exit 0))))) (.seq (.region Zm7 [2]) .ret))), [.t 2]⟩
def Zm9 : List Z2a := [
  ⟨some 2, .mov, [.c (.slc 0 [] true)], none⟩]
def Zma : List Z2a := [
  ⟨some 3, .mov, [.t 0], none⟩,
  ⟨some 4, (.isnil false), [.t 3, .c (.slc 0 [] true)], none⟩]
def Zmb : List Z2a := [
  ⟨some 2, .mov, [.c (.slc 0 [] true)], none⟩]
def Zmc : List Z2a := [
  ⟨some 5, (.bsl 1), [], none⟩,
  ⟨some 6, .mov, [.t 0], none⟩,
  ⟨some 7, (.app 1 1), [.t 5, .t 6], none⟩,
  ⟨some 2, .mov, [.t 7], none⟩]
def Zmd : Z2y := ⟨8, (.seq (.region Zm9 [0]) (.seq (.seq (.region Zma [0, 4]) (.cond (.t 4) (.seq (.region Zmb [2]) .ret) .skip)) (.seq (.region Zmc [2]) .ret))), [.t 2]⟩
def Zme : List Z2a := [
  ⟨some 4, .mov, [.c (.slc 0 [] true)], none⟩,
  ⟨some 5, .mov, [.c (.bool false)], none⟩,
  ⟨some 6, .mov, [.c (.int .i64 0)], none⟩]
def Zmf : List Z2a := [
  ⟨some 11, .mov, [.t 0], none⟩,
  ⟨some 12, .mov, [.t 1], none⟩,
  ⟨some 13, (.call Zcp), [.t 11, .t 12], none⟩,
  ⟨some 10, .mov, [.t 13], none⟩,
  ⟨some 14, (.ext 0), [.t 10], none⟩,
  ⟨some 15, (.ext 1), [.t 10], none⟩,
  ⟨some 16, (.ext 2), [.t 10], none⟩,
  ⟨some 7, .mov, [.t 14], none⟩,
  ⟨some 8, .mov, [.t 15], none⟩,
  ⟨some 9, .mov, [.t 16], none⟩]
def Zmg : List Z2a := [
  ⟨some 17, .mov, [.t 9], none⟩,
  ⟨some 18, (.bin .neq), [.t 17, .c (.int .i64 0)], none⟩]
def Zmh : List Z2a := [
  ⟨some 19, .mov, [.t 9], none⟩,
  ⟨some 4, .mov, [.c (.slc 0 [] true)], none⟩,
  ⟨some 5, .mov, [.c (.bool false)], none⟩,
  ⟨some 6, .mov, [.t 19], none⟩]
def Zmi : List Z2a := [
  ⟨some 20, .mov, [.t 7], none⟩,
  ⟨some 21, .mov, [.t 0], none⟩,
  ⟨some 22, .lens, [.t 21], none⟩,
  ⟨some 23, .mov, [.t 1], none⟩,
  ⟨some 24, (.bin .sub), [.t 22, .t 23], none⟩,
  ⟨some 25, (.bin .sub), [.t 24, .c (.int .i64 3)], none⟩,
  ⟨some 26, (.bin .gtr), [.t 20, .t 25], none⟩]
def Zmj : List Z2a := [
  ⟨some 4, .mov, [.c (.slc 0 [] true)], none⟩,
  ⟨some 5, .mov, [.c (.bool false)], none⟩,
  ⟨some 6, .mov, [.c (.int .i64 3)], none⟩]
def Zmk : List Z2a := [
  ⟨some 27, .mov, [.t 0], none⟩,
  ⟨some 28, .mov, [.t 1], none⟩,
  ⟨some 29, (.bin .add), [.t 28, .c (.int .i64 3)], none⟩,
  ⟨some 30, .mov, [.t 1], none⟩,
  ⟨some 31, (.bin .add), [.t 30, .c (.int .i64 3)], none⟩,
  ⟨some 32, .mov, [.t 7], none⟩,
  ⟨some 33, (.bin .add), [.t 31, .t 32], none⟩,
  ⟨some 34, (.slc 1 true true false), [.t 27, .t 29, .t 33], none⟩,
  ⟨some 35, .mov, [.t 8], none⟩,
  ⟨some 4, .mov, [.t 34], none⟩,
  ⟨some 5, .mov, [.t 35], none⟩,
  ⟨some 6, .mov, [.c (.int .i64 0)], none⟩]
def Zml : Z2y := ⟨36, (.seq (.region Zme [0, 1]) (.seq (.region Zmf [0, 1, 7, 8, 9]) (.seq (.seq (.region Zmg [0, 1, 7, 8, 9, 18]) (.cond (.t 18) (.seq (.region Zmh [4, 5, 6]) .ret) .skip)) (.seq (.seq (.region Zmi [0, 1, 7, 8, 26]) (.cond (.t 26) (.seq (.region Zmj [4, 5, 6]) .ret) .skip)) (.seq (.region Zmk [4, 5, 6]) .ret))))), [.t 4, .t 5, .t 6]⟩
end Go.Abs
namespace Go.Abs
open Go Go.Proofs
theorem Zmm : Z2z Try.prog [] Zcp = some Zlh.erase := by kernel_rfl
theorem Zmn : Z2z Try.prog [] Zcq = some Zlp.erase := by kernel_rfl
theorem Zmo : Z2z Try.prog [] Zct = some Zlv.erase := by kernel_rfl
theorem Zmp : Z2z Try.prog [] Zcu = some Zm1.erase := by kernel_rfl
theorem Zmq : Z2z Try.prog [] Zcw = some Zm8.erase := by kernel_rfl
theorem Zmr : Z2z Try.prog [] Zcy = some Zmd.erase := by kernel_rfl
theorem Zms : Z2z Try.prog [] Zcz = some Zml.erase := by kernel_rfl
end Go.Abs
set_option linter.unusedVariables false
set_option linter.unusedSimpArgs false
namespace Go.Abs.Lz
def hd (m : Nat) : List UInt8 := [UInt8.ofNat m, UInt8.ofNat (m / 256), UInt8.ofNat (m / 65536)]
def hdF (n : Int) (o : Bool) : List UInt8 := hd ((n % 8388608).toNat * 2 + (if o = true then 1 else 0))
def Zmt (a b c : UInt8) : Nat := a.toNat + 256 * b.toNat + 65536 * c.toNat
def rdH : List UInt8 → Option (Nat × Bool × List UInt8)
  | a :: b :: c :: r => some (Zmt a b c / 2, decide (Zmt a b c % 2 = 1), r)
  | _ => none
theorem Zmu {m : Nat} (h : m < 16777216) (r : List UInt8) : rdH (hd m ++ r) = some (m / 2, decide (m % 2 = 1), r) := by
  have e : Zmt (UInt8.ofNat m) (UInt8.ofNat (m / 256)) (UInt8.ofNat (m / 65536)) = m := by
    simp only [Zmt, UInt8.toNat_ofNat']
    omega
  simp only [hd, List.cons_append, List.nil_append, rdH, e]
theorem Zmv (n : Nat) (h : n < 8388608) (o : Bool) (r : List UInt8) : rdH (hdF n o ++ r) = some (n, o, r) := by
  have e : ((n : Int) % 8388608).toNat = n := by omega
  rw [hdF, e, Zmu (by split <;> omega)]
  cases o <;> simp <;> omega
theorem Zmw {l : List UInt8} {n : Nat} {o : Bool} {r : List UInt8} (h : rdH l = some (n, o, r)) : r.length + 3 = l.length := by
  match l, h with
  | a :: b :: c :: r', h =>
    simp only [rdH, Option.some.injEq, Prod.mk.injEq] at h
    rw [← h.2.2]; rfl
theorem Zmx {l : List UInt8} : rdH l = none ↔ l.length < 3 := by
  match l with
  | [] => simp [rdH]
  | [_] => simp [rdH]
  | [_, _] => simp [rdH]
  | a :: b :: c :: r => simp [rdH]
def dec (size most : Nat) (l out : List UInt8) : Nat × List UInt8 :=
  if l = [] then (0, out) else
  match h : rdH l with
  | none => (3, [])
  | some (n, o, r) =>
    if r.length < n then (3, []) else
    if o = true ∧ size < n then (4, []) else
    if (if o = true then (0, r.take n) else Zfd size (r.take n)).1 ≠ 0 then ((if o = true then (0, r.take n) else Zfd size (r.take n)).1, []) else
    if most < out.length + (if o = true then (0, r.take n) else Zfd size (r.take n)).2.length then (4, []) else
    dec size most (r.drop n) (out ++ (if o = true then (0, r.take n) else Zfd size (r.take n)).2)
termination_by l.length
decreasing_by
  have := Zmw h
  simp; omega
def cntC (l : List UInt8) (c : Nat) : Nat × Nat :=
  if l = [] then (c, 0) else
  match h : rdH l with
  | none => (0, 3)
  | some (n, o, r) => if r.length < n then (0, 3) else cntC (r.drop n) (c + 1)
termination_by l.length
decreasing_by
  have := Zmw h
  simp; omega
theorem Zmy (size most : Nat) (out : List UInt8) : dec size most [] out = (0, out) := by rw [dec, if_pos rfl]
theorem Zmz (c : Nat) : cntC [] c = (c, 0) := by rw [cntC, if_pos rfl]
theorem Zn0 {size most : Nat} {l out : List UInt8} {n : Nat} {o : Bool} {r : List UInt8} (h : rdH l = some (n, o, r)) : dec size most l out =
    if r.length < n then (3, []) else if o = true ∧ size < n then (4, []) else
    if (if o = true then (0, r.take n) else Zfd size (r.take n)).1 ≠ 0 then ((if o = true then (0, r.take n) else Zfd size (r.take n)).1, []) else
    if most < out.length + (if o = true then (0, r.take n) else Zfd size (r.take n)).2.length then (4, []) else
    dec size most (r.drop n) (out ++ (if o = true then (0, r.take n) else Zfd size (r.take n)).2) := by
  have hl : l ≠ [] := by rintro rfl; simp [rdH] at h
  rw [dec, if_neg hl]
  split
  · rename_i h'; rw [h] at h'; cases h'
  · rename_i n' o' r' h'
    rw [h] at h'
    simp only [Option.some.injEq, Prod.mk.injEq] at h'
    obtain ⟨rfl, rfl, rfl⟩ := h'
    rfl
theorem Zn1 {size most : Nat} {l out : List UInt8} (hl : l ≠ []) (h : rdH l = none) : dec size most l out = (3, []) := by
  rw [dec, if_neg hl]
  split
  · rfl
  · rename_i h'; rw [h] at h'; cases h'
theorem Zn2 {l : List UInt8} {c n : Nat} {o : Bool} {r : List UInt8} (h : rdH l = some (n, o, r)) : cntC l c = if r.length < n then (0, 3) else cntC (r.drop n) (c + 1) := by
  have hl : l ≠ [] := by rintro rfl; simp [rdH] at h
  rw [cntC, if_neg hl]
  split
  · rename_i h'; rw [h] at h'; cases h'
  · rename_i n' o' r' h'
    rw [h] at h'
    simp only [Option.some.injEq, Prod.mk.injEq] at h'
    obtain ⟨rfl, rfl, rfl⟩ := h'
    rfl
theorem Zn3 {l : List UInt8} {c : Nat} (hl : l ≠ []) (h : rdH l = none) : cntC l c = (0, 3) := by
  rw [cntC, if_neg hl]
  split
  · rfl
  · rename_i h'; rw [h] at h'; cases h'
def Zn4 (size : Nat) (b p : List UInt8) : Prop :=
  (∀ most out r, dec size most (b ++ r) out = if most < out.length + p.length then (4, []) else dec size most r (out ++ p)) ∧ ∀ r c, cntC (b ++ r) c = cntC r (c + 1)
theorem Zn5 {size : Nat} {p : List UInt8} (h : p.length ≤ size) (hs : size ≤ 65536) : Zn4 size (hdF p.length true ++ p) p := by
  refine ⟨fun most out r => ?_, fun r c => ?_⟩
  · rw [List.append_assoc, Zn0 (Zmv p.length (by omega) true (p ++ r)), if_neg (by simp), if_neg (by omega)]
    simp
  · rw [List.append_assoc, Zn2 (Zmv p.length (by omega) true (p ++ r)), if_neg (by simp)]
    simp
theorem Zn6 {size : Nat} {p x : List UInt8} (hx : x.length < 8388608) (hu : Zfd size x = (0, p)) : Zn4 size (hdF x.length false ++ x) p := by
  refine ⟨fun most out r => ?_, fun r c => ?_⟩
  · rw [List.append_assoc, Zn0 (Zmv x.length hx false (x ++ r)), if_neg (by simp), if_neg (by simp)]
    simp [hu]
  · rw [List.append_assoc, Zn2 (Zmv x.length hx false (x ++ r)), if_neg (by simp)]
    simp
theorem Zn7 {size most : Nat} : ∀ (cs : List (List UInt8 × List UInt8)) (out : List UInt8), (∀ c ∈ cs, Zn4 size c.1 c.2) → out.length ≤ most →
    dec size most (cs.flatMap (·.1)) out = if most < out.length + (cs.flatMap (·.2)).length then (4, []) else (0, out ++ cs.flatMap (·.2))
  | [], out, _, h => by
    rw [List.flatMap_nil, Zmy, List.flatMap_nil, if_neg (by simp; omega)]
    simp
  | c :: cs, out, hc, h => by
    rw [List.flatMap_cons, (hc c (by simp)).1, List.flatMap_cons]
    split
    · rw [if_pos (by simp; omega)]
    · rename_i h1
      rw [Zn7 cs _ (fun d hd => hc d (List.mem_cons_of_mem _ hd)) (by simp; omega)]
      simp only [List.length_append, List.append_assoc, Nat.add_assoc]
theorem Zn8 {size : Nat} : ∀ (cs : List (List UInt8 × List UInt8)) (n : Nat), (∀ c ∈ cs, Zn4 size c.1 c.2) → cntC (cs.flatMap (·.1)) n = (n + cs.length, 0)
  | [], n, _ => by rw [List.flatMap_nil, Zmz]; rfl
  | c :: cs, n, hc => by
    rw [List.flatMap_cons, (hc c (by simp)).2, Zn8 cs _ (fun d hd => hc d (List.mem_cons_of_mem _ hd))]
    simp; omega
def Zn9 (p : List UInt8) : List UInt8 := if p.length ≤ (Zfo p).length then hdF p.length true ++ p else hdF (Zfo p).length false ++ Zfo p
def Zna (size : Nat) (l : List UInt8) : List (List UInt8) :=
  if h : size = 0 ∨ l = [] then [] else l.take size :: Zna size (l.drop size)
termination_by l.length
decreasing_by
  have h1 : l.length ≠ 0 := fun e => h (.inr (List.length_eq_zero_iff.1 e))
  have h2 : size ≠ 0 := fun e => h (.inl e)
  simp; omega
def encF (size : Nat) (l : List UInt8) : List UInt8 := (Zna size l).flatMap Zn9
theorem Znb (size : Nat) : Zna size [] = [] := by rw [Zna, dif_pos (.inr rfl)]
theorem Znc {size : Nat} {l : List UInt8} (h1 : 1 ≤ size) (h2 : l ≠ []) : Zna size l = l.take size :: Zna size (l.drop size) := by
  rw [Zna, dif_neg (by simp [h2]; omega)]
theorem Znd {size : Nat} (h1 : 1 ≤ size) : ∀ (n : Nat) (l : List UInt8), l.length = n → (Zna size l).flatMap id = l := by
  intro n
  induction n using Nat.strongRecOn with
  | _ n ih =>
    intro l hl
    by_cases h : l = []
    · subst h; rw [Znb]; rfl
    · have h0 : l.length ≠ 0 := fun e => h (List.length_eq_zero_iff.1 e)
      rw [Znc h1 h, List.flatMap_cons, ih (l.drop size).length (by simp; omega) _ rfl]
      simp
theorem Zne {size : Nat} (h1 : 1 ≤ size) : ∀ (n : Nat) (l : List UInt8), l.length = n → ∀ p ∈ Zna size l, p.length ≤ size ∧ p ≠ [] := by
  intro n
  induction n using Nat.strongRecOn with
  | _ n ih =>
    intro l hl p hp
    by_cases h : l = []
    · subst h; rw [Znb] at hp; cases hp
    · have h0 : l.length ≠ 0 := fun e => h (List.length_eq_zero_iff.1 e)
      rw [Znc h1 h] at hp
      rcases List.mem_cons.1 hp with rfl | hp
      · refine ⟨by simp; omega, fun e => ?_⟩
        have h3 := congrArg List.length e
        rw [List.length_take, List.length_nil] at h3
        omega
      · exact ih (l.drop size).length (by simp; omega) _ rfl p hp
theorem Znf {size : Nat} (h1 : 1 ≤ size) : ∀ (n : Nat) (l : List UInt8), l.length = n → (Zna size l).length = n / size + (if 0 < n % size then 1 else 0) := by
  intro n
  induction n using Nat.strongRecOn with
  | _ n ih =>
    intro l hl
    by_cases h : l = []
    · subst h; simp at hl; subst hl; rw [Znb]; simp
    · have h0 : l.length ≠ 0 := fun e => h (List.length_eq_zero_iff.1 e)
      rw [Znc h1 h, List.length_cons, ih (l.drop size).length (by simp; omega) _ rfl]
      simp only [List.length_drop, hl]
      by_cases h2 : n < size
      · rw [show n - size = 0 by omega, Nat.div_eq_of_lt h2, Nat.mod_eq_of_lt h2]
        simp; omega
      · have e1 : n / size = (n - size) / size + 1 := by
          rw [← Nat.add_div_right _ (by omega : 0 < size)]; congr 1; omega
        have e2 : n % size = (n - size) % size := by rw [Nat.mod_eq_sub_mod (by omega)]
        rw [e1, e2]; omega
theorem Zng {size : Nat} {p : List UInt8} (h : p.length ≤ size) (hs : size ≤ 65536) : Zn4 size (Zn9 p) p := by
  unfold Zn9
  split
  · exact Zn5 h hs
  · rename_i h1
    refine Zn6 (by omega) ?_
    rw [Zg5 (by omega) (by omega) (by omega), if_pos (by omega)]
theorem Znh (n : Int) (o : Bool) : (hdF n o).length = 3 := rfl
theorem Zni (p : List UInt8) : (Zn9 p).length ≤ p.length + 3 := by
  unfold Zn9
  split <;> simp [Znh] <;> omega
theorem Znj (size : Nat) (l : List UInt8) : encF size l = ((Zna size l).map fun p => (Zn9 p, p)).flatMap (·.1) := by
  rw [encF, List.flatMap_map]
theorem Znk {size : Nat} (h1 : 1 ≤ size) (l : List UInt8) : ((Zna size l).map fun p => (Zn9 p, p)).flatMap (·.2) = l := by
  rw [List.flatMap_map]
  exact Znd h1 _ l rfl
theorem Znl {size : Nat} (h1 : 1 ≤ size) (hs : size ≤ 65536) (l : List UInt8) : ∀ c ∈ (Zna size l).map fun p => (Zn9 p, p), Zn4 size c.1 c.2 := by
  intro c hc
  obtain ⟨p, hp, rfl⟩ := List.mem_map.1 hc
  exact Zng (Zne h1 _ l rfl p hp).1 hs
theorem Znm {size most : Nat} (h1 : 1 ≤ size) (hs : size ≤ 65536) (l : List UInt8) : dec size most (encF size l) [] = if most < l.length then (4, []) else (0, l) := by
  rw [Znj, Zn7 _ [] (Znl h1 hs l) (by simp), Znk h1]
  simp
theorem Znn {size : Nat} (h1 : 1 ≤ size) (hs : size ≤ 65536) (l : List UInt8) : cntC (encF size l) 0 = (l.length / size + (if 0 < l.length % size then 1 else 0), 0) := by
  rw [Znj, Zn8 _ 0 (Znl h1 hs l), List.length_map, Znf h1 _ l rfl]
  simp
theorem Zno {f : List UInt8 → List UInt8} {k : Nat} : ∀ (ps : List (List UInt8)), (∀ p ∈ ps, (f p).length ≤ p.length + k) → (ps.flatMap f).length ≤ (ps.flatMap id).length + k * ps.length
  | [], _ => by simp
  | p :: ps, h => by
    have h1 := h p (by simp)
    have h2 := Zno ps fun q hq => h q (List.mem_cons_of_mem _ hq)
    simp only [List.flatMap_cons, List.length_append, List.length_cons, id, Nat.mul_add, Nat.mul_one]
    omega
theorem Znp {size : Nat} (h1 : 1 ≤ size) (l : List UInt8) : (encF size l).length ≤ l.length + 3 * (l.length / size + (if 0 < l.length % size then 1 else 0)) := by
  have := Zno (f := Zn9) (k := 3) (Zna size l) fun p _ => Zni p
  rw [Znd h1 _ l rfl, Znf h1 _ l rfl] at this
  exact this
theorem Znq {size : Nat} (h1 : 1 ≤ size) (b : List UInt8) : ∀ (n : Nat) (a : List UInt8), a.length = n → a.length % size = 0 → Zna size (a ++ b) = Zna size a ++ Zna size b := by
  intro n
  induction n using Nat.strongRecOn with
  | _ n ih =>
    intro a ha hm
    by_cases h : a = []
    · subst h; rw [Znb]; rfl
    · have h0 : a.length ≠ 0 := fun e => h (List.length_eq_zero_iff.1 e)
      have hge : size ≤ a.length := by
        rcases Nat.lt_or_ge a.length size with h2 | h2
        · rw [Nat.mod_eq_of_lt h2] at hm; omega
        · exact h2
      rw [Znc h1 (by simp [h]), Znc h1 h, List.take_append_of_le_length hge, List.drop_append_of_le_length hge,
        ih (a.drop size).length (by simp; omega) _ rfl (by simp only [List.length_drop]; rw [← Nat.mod_eq_sub_mod hge]; exact hm), List.cons_append]
theorem Znr {size : Nat} (h1 : 1 ≤ size) (a b : List UInt8) (hm : a.length % size = 0) : encF size (a ++ b) = encF size a ++ encF size b := by
  rw [encF, Znq h1 b _ a rfl hm, List.flatMap_append]; rfl
end Go.Abs.Lz
namespace Go.Abs
open Go Go.Proofs Go.Abs.Lz
set_option linter.unusedVariables false
set_option linter.unusedSimpArgs false
theorem w64m (n : Int) : ∃ q : Int, IntKind.wrap .i64 n = n + 18446744073709551616 * q := by
  simp only [IntKind.wrap, IntKind.bits, IntKind.signed]
  refine ⟨-((n + 9223372036854775808) / 18446744073709551616), ?_⟩
  simp
  omega
theorem Zns (n : Int) : intBits .and .i64 n 8388607 = n % 8388608 := by
  show IntKind.wrap .i64 ((BitVec.ofInt 64 n &&& BitVec.ofInt 64 8388607).toNat : Int) = _
  have e1 : (BitVec.ofInt 64 8388607).toNat = 2 ^ 23 - 1 := by decide
  rw [BitVec.toNat_and, BitVec.toNat_ofInt, e1, Nat.and_two_pow_sub_one_eq_mod]
  have e2 : ((n % ((2 ^ 64 : Nat) : Int)).toNat % 2 ^ 23 : Nat) = (n % 8388608).toNat := by omega
  rw [e2, w64 _ (by omega) (by omega)]
  omega
theorem Znt (v : Int) (h : v % 2 = 0) : intBits .or .i64 v 1 = IntKind.wrap .i64 ((v % 18446744073709551616) + 1) := by
  show IntKind.wrap .i64 ((BitVec.ofInt 64 v ||| BitVec.ofInt 64 1).toNat : Int) = _
  have e1 : (BitVec.ofInt 64 1).toNat = 1 := by decide
  rw [BitVec.toNat_or, BitVec.toNat_ofInt, e1]
  have e2 : (v % ((2 ^ 64 : Nat) : Int)).toNat = ((v % 18446744073709551616).toNat / 2) <<< 1 := by rw [Nat.shiftLeft_eq]; omega
  have e3 := Nat.shiftLeft_add_eq_or_of_lt (i := 1) (b := 1) (by omega) ((v % 18446744073709551616).toNat / 2)
  rw [e2, ← e3, Nat.shiftLeft_eq]
  congr 1
  omega
theorem and1 (v : Nat) (h : v < 9223372036854775808) : intBits .and .i64 (v : Int) 1 = ((v % 2 : Nat) : Int) := by
  have := Nat.and_two_pow_sub_one_eq_mod v 1
  simp only [Nat.pow_one, Nat.reduceSub] at this
  rw [← this]
  exact Zgg v 1 (by omega) (by omega)
theorem or16 (a b : Nat) (ha : a < 65536) (hb : b < 256) : intBits .or .i64 (a : Int) ((b * 65536 : Nat) : Int) = ((a + 65536 * b : Nat) : Int) := by
  have e : a ||| b * 65536 = a + 65536 * b := by
    have := Nat.shiftLeft_add_eq_or_of_lt (i := 16) (b := a) (by omega) b
    rw [Nat.shiftLeft_eq] at this
    simp only [Nat.reducePow] at this
    rw [Nat.or_comm, ← this, Nat.add_comm, Nat.mul_comm]
  rw [ibOr _ _ (by omega) (by omega), e]
theorem Znu (v : Int) (m : Nat) (h : v % 16777216 = (m : Int) % 16777216) : ([.int .u8 (v % 256), .int .u8 (v.fdiv 256 % 256), .int .u8 (v.fdiv 65536 % 256)] : List Z0) = bytes (hd m) := by
  simp only [hd, bytes, List.map_cons, List.map_nil, Zx, UInt8.toNat_ofNat', List.cons.injEq, Z0.int.injEq, true_and, and_true]
  rw [Int.fdiv_eq_ediv_of_nonneg _ (by omega), Int.fdiv_eq_ediv_of_nonneg _ (by omega)]
  omega
end Go.Abs
namespace Go.Abs
open Go Go.Proofs Go.Abs.Lz
set_option linter.unusedVariables false
set_option linter.unusedSimpArgs false
theorem Znv {σ : Zc} (codec : Int) : Z1q Try.prog Zcw [.int .i64 codec] σ fun r σ' => r = .bool (decide (codec = 0 ∨ codec = 4)) ∧ σ' = σ := by
  refine Z8t rfl Zmq (Nat.le_of_ble_eq_true rfl) ?_
  refine Z9z ?_
  (repeat (refine st_q rfl rfl rfl ?_))
  (refine Z8y ?_; (repeat (first | refine Z9v rfl ?_ | refine Z9w ?_)); refine Z9u ?_)
  refine Za5 ?_
  refine Zad ?_
  (repeat (refine st_q rfl rfl rfl ?_))
  (refine Z8y ?_; (repeat (first | refine Z9v rfl ?_ | refine Z9w ?_)); refine Z9u ?_)
  refine Z8h ?_
  refine Za6 ?_
  refine Z8h ?_
  refine Za5 ?_
  refine Zaf ?_
  refine Zad ?_
  (repeat (refine st_q rfl rfl rfl ?_))
  (refine Z8y ?_; (repeat (first | refine Z9v rfl ?_ | refine Z9w ?_)); refine Z9u ?_)
  by_cases h1 : codec = 0
  · subst h1
    refine Z8f rfl (fun _ => ?_) (fun e => by cases e)
    (repeat (first | refine st_q rfl rfl rfl ?_ | refine Z8v rfl (st_q rfl rfl rfl ?_) | refine Z8w rfl ?_ | refine Z8x rfl ?_ | (refine Z8y ?_; (repeat (first | refine Z9v rfl ?_ | refine Z9w ?_)); refine Z9u ?_) | refine awp_seq ?_ | refine Zbm (fun _ _ => rfl) ?_ | refine Z8h ?_ | refine Zbn (fun _ _ => rfl) ?_ | refine Zbo (fun _ _ => rfl) ?_ | refine Z8f (t := true) rfl (fun _ => ?_) (fun e => by cases e) | refine Z8f (t := false) rfl (fun e => by cases e) (fun _ => ?_)))
    refine Z8d ?_
    exact ares rfl (HSub.refl _) ⟨rfl, rfl⟩
  refine Za3 (p := codec = 0) rfl (fun h => absurd h h1) (fun _ => ?_)
  refine Za4 ?_
  refine Zaf ?_
  refine Zad ?_
  (repeat (refine st_q rfl rfl rfl ?_))
  (refine Z8y ?_; (repeat (first | refine Z9v rfl ?_ | refine Z9w ?_)); refine Z9u ?_)
  by_cases h2 : codec = 4
  · subst h2
    refine Z8f rfl (fun _ => ?_) (fun e => by cases e)
    (repeat (first | refine st_q rfl rfl rfl ?_ | refine Z8v rfl (st_q rfl rfl rfl ?_) | refine Z8w rfl ?_ | refine Z8x rfl ?_ | (refine Z8y ?_; (repeat (first | refine Z9v rfl ?_ | refine Z9w ?_)); refine Z9u ?_) | refine awp_seq ?_ | refine Zbm (fun _ _ => rfl) ?_ | refine Z8h ?_ | refine Zbn (fun _ _ => rfl) ?_ | refine Zbo (fun _ _ => rfl) ?_ | refine Z8f (t := true) rfl (fun _ => ?_) (fun e => by cases e) | refine Z8f (t := false) rfl (fun e => by cases e) (fun _ => ?_)))
    refine Z8d ?_
    exact ares rfl (HSub.refl _) ⟨rfl, rfl⟩
  refine Za3 (p := codec = 4) rfl (fun h => absurd h h2) (fun _ => ?_)
  (repeat (first | refine st_q rfl rfl rfl ?_ | refine Z8v rfl (st_q rfl rfl rfl ?_) | refine Z8w rfl ?_ | refine Z8x rfl ?_ | (refine Z8y ?_; (repeat (first | refine Z9v rfl ?_ | refine Z9w ?_)); refine Z9u ?_) | refine awp_seq ?_ | refine Zbm (fun _ _ => rfl) ?_ | refine Z8h ?_ | refine Zbn (fun _ _ => rfl) ?_ | refine Zbo (fun _ _ => rfl) ?_ | refine Z8f (t := true) rfl (fun _ => ?_) (fun e => by cases e) | refine Z8f (t := false) rfl (fun e => by cases e) (fun _ => ?_)))
  refine Z8d ?_
  exact ares rfl (HSub.refl _) ⟨by rw [decide_eq_false (by omega)]; rfl, rfl⟩
theorem Znw (n : Int) (o : Bool) : ∃ v : Int, v % 2 = 0 ∧ IntKind.wrap .i64 (n * 2) = v ∧ (if o = true then intBits .or .i64 v 1 else v) % 16777216 = (((n % 8388608).toNat * 2 + (if o = true then 1 else 0) : Nat) : Int) % 16777216 := by
  obtain ⟨q, hq⟩ := w64m (n * 2)
  refine ⟨_, ?_, rfl, ?_⟩
  · rw [hq]; omega
  · cases o
    · simp only [Bool.false_eq_true, if_false]
      rw [hq]; omega
    · simp only [if_true]
      rw [Znt _ (by rw [hq]; omega)]
      obtain ⟨q', hq'⟩ := w64m (IntKind.wrap .i64 (n * 2) % 18446744073709551616 + 1)
      rw [hq', hq]; omega
theorem Znx {σ : Zc} (n : Int) (o : Bool) : Z1q Try.prog Zct [.int .i64 n, .bool o] σ fun r σ' => r = .slc 1 (bytes (hdF n o)) true ∧ σ' = σ := by
  refine Z8t rfl Zmo (Nat.le_of_ble_eq_true rfl) ?_
  refine Z9z ?_
  (repeat (refine st_q rfl rfl rfl ?_))
  (refine Z8y ?_; (repeat (first | refine Z9v rfl ?_ | refine Z9w ?_)); refine Z9u ?_)
  refine Z9z ?_
  refine st_q rfl rfl rfl ?_
  refine Z95 rfl (by decide) ?_
  change aops _ _ (fset _ (some (.int .i64 (IntKind.wrap .i64 (n * 2)))) _) _ _
  obtain ⟨v, hv, e, hm⟩ := Znw n o
  rw [e]
  (repeat (refine st_q rfl rfl rfl ?_))
  (refine Z8y ?_; (repeat (first | refine Z9v rfl ?_ | refine Z9w ?_)); refine Z9u ?_)
  have key : ∀ x : Int, x % 16777216 = (((n % 8388608).toNat * 2 + (if o = true then 1 else 0) : Nat) : Int) % 16777216 → AWp Try.prog Zlv.n (Zlv.code.snd 3) (ARet Zlv.res fun r σ' => r = .slc 1 (bytes (hdF n o)) true ∧ σ' = σ) (fset 5 (some (.int .i64 x)) Z27) σ := fun x hx => by
    refine Z9z ?_
    refine st_q rfl rfl rfl ?_
    refine st_q rfl rfl rfl ?_
    refine st_q rfl rfl rfl ?_
    refine Z96 rfl (by decide) ?_
    change aops _ _ (fset _ (some (.int .i64 (x.fdiv 256))) _) _ _
    refine st_q rfl rfl rfl ?_
    refine st_q rfl rfl rfl ?_
    refine Z96 rfl (by decide) ?_
    change aops _ _ (fset _ (some (.int .i64 (x.fdiv 65536))) _) _ _
    refine st_q rfl rfl rfl ?_
    rw [w8, w8, w8]
    have hb := Znu x _ hx
    (repeat (refine st_q rfl rfl rfl ?_))
    rw [hb]
    (refine Z8y ?_; (repeat (first | refine Z9v rfl ?_ | refine Z9w ?_)); refine Z9u ?_)
    refine Z8d ?_
    exact ares rfl (HSub.refl _) ⟨rfl, rfl⟩
  refine Za5 ?_
  refine Zad ?_
  (repeat (refine st_q rfl rfl rfl ?_))
  (refine Z8y ?_; (repeat (first | refine Z9v rfl ?_ | refine Z9w ?_)); refine Z9u ?_)
  cases o with
  | true =>
    refine Z8f rfl (fun _ => ?_) (fun e => by cases e)
    refine Zad ?_
    refine st_q rfl rfl rfl ?_
    refine st_q rfl rfl rfl ?_
    (repeat (refine st_q rfl rfl rfl ?_))
    (refine Z8y ?_; (repeat (first | refine Z9v rfl ?_ | refine Z9w ?_)); refine Z9u ?_)
    exact key _ hm
  | false =>
    refine Z8f rfl (fun e => by cases e) (fun _ => ?_)
    refine Za4 ?_
    (refine Z9y (keep := [5]) ?_; ((repeat (first | refine Z9v rfl ?_ | refine Z9w ?_)); refine Z9u ?_))
    exact key _ hm
theorem Zny {σ : Zc} (n : Int) (o : Bool) : Z1q Try.prog Zcu [.int .i64 n, .bool o] σ fun r σ' => r = .slc 1 (bytes (hdF n o)) true ∧ σ' = σ := by
  refine Z8t rfl Zmp (Nat.le_of_ble_eq_true rfl) ?_
  refine Z9z ?_
  (repeat (refine st_q rfl rfl rfl ?_))
  (refine Z8y ?_; (repeat (first | refine Z9v rfl ?_ | refine Z9w ?_)); refine Z9u ?_)
  refine Z9z ?_
  refine st_q rfl rfl rfl ?_
  refine st_q rfl (congrArg (fun x => some (Z0.int .i64 x)) (Zns n)) rfl ?_
  refine Z95 rfl (by decide) ?_
  change aops _ _ (fset _ (some (.int .i64 (IntKind.wrap .i64 (n % 8388608 * 2)))) _) _ _
  obtain ⟨v, hv, e, hm⟩ := Znw (n % 8388608) o
  rw [Int.emod_emod] at hm
  rw [e]
  (repeat (refine st_q rfl rfl rfl ?_))
  (refine Z8y ?_; (repeat (first | refine Z9v rfl ?_ | refine Z9w ?_)); refine Z9u ?_)
  have key : ∀ x : Int, x % 16777216 = (((n % 8388608).toNat * 2 + (if o = true then 1 else 0) : Nat) : Int) % 16777216 → AWp Try.prog Zm1.n (Zm1.code.snd 3) (ARet Zm1.res fun r σ' => r = .slc 1 (bytes (hdF n o)) true ∧ σ' = σ) (fset 5 (some (.int .i64 x)) Z27) σ := fun x hx => by
    refine Z9z ?_
    refine st_q rfl rfl rfl ?_
    refine st_q rfl rfl rfl ?_
    refine st_q rfl rfl rfl ?_
    refine Z96 rfl (by decide) ?_
    change aops _ _ (fset _ (some (.int .i64 (x.fdiv 256))) _) _ _
    refine st_q rfl rfl rfl ?_
    refine st_q rfl rfl rfl ?_
    refine Z96 rfl (by decide) ?_
    change aops _ _ (fset _ (some (.int .i64 (x.fdiv 65536))) _) _ _
    refine st_q rfl rfl rfl ?_
    rw [w8, w8, w8]
    have hb := Znu x _ hx
    (repeat (refine st_q rfl rfl rfl ?_))
    rw [hb]
    (refine Z8y ?_; (repeat (first | refine Z9v rfl ?_ | refine Z9w ?_)); refine Z9u ?_)
    refine Z8d ?_
    exact ares rfl (HSub.refl _) ⟨rfl, rfl⟩
  refine Za5 ?_
  refine Zad ?_
  (repeat (refine st_q rfl rfl rfl ?_))
  (refine Z8y ?_; (repeat (first | refine Z9v rfl ?_ | refine Z9w ?_)); refine Z9u ?_)
  cases o with
  | true =>
    refine Z8f rfl (fun _ => ?_) (fun e => by cases e)
    refine Zad ?_
    refine st_q rfl rfl rfl ?_
    refine st_q rfl rfl rfl ?_
    (repeat (refine st_q rfl rfl rfl ?_))
    (refine Z8y ?_; (repeat (first | refine Z9v rfl ?_ | refine Z9w ?_)); refine Z9u ?_)
    exact key _ hm
  | false =>
    refine Z8f rfl (fun e => by cases e) (fun _ => ?_)
    refine Za4 ?_
    (refine Z9y (keep := [5]) ?_; ((repeat (first | refine Z9v rfl ?_ | refine Z9w ?_)); refine Z9u ?_))
    exact key _ hm
def prsF (b : List UInt8) (at_ : Int) : Nat × Bool × Nat :=
  if at_ < 0 ∨ (b.length : Int) < at_ then (0, false, 1) else
  match rdH (b.drop at_.toNat) with
  | none => (0, false, 3)
  | some (n, o, _) => (n, o, 0)
def tup3 (x : Nat × Bool × Nat) : Z0 := .tup [.int .i64 x.1, .bool x.2.1, .int .i64 x.2.2]
theorem Znz (a b c : UInt8) : Zmt a b c < 16777216 := by
  have h1 := a.toNat_lt
  have h2 := b.toNat_lt
  have h3 := c.toNat_lt
  simp only [Nat.reducePow] at h1 h2 h3
  rw [Zmt]; omega
theorem Zo0 {bs : List UInt8} {i : Nat} {l : List UInt8} (h : bs.drop i = l) (h3 : 3 ≤ l.length) : ∃ a b c r, l = a :: b :: c :: r ∧ bs[i]? = some a ∧ bs[i + 1]? = some b ∧ bs[i + 2]? = some c := by
  match l, h, h3 with
  | a :: b :: c :: r, h, _ =>
    obtain ⟨_, h1, h2⟩ := Zg9 h
    obtain ⟨_, h3, h4⟩ := Zg9 h2
    obtain ⟨_, h5, h6⟩ := Zg9 h4
    exact ⟨a, b, c, r, rfl, h1, h3, h5⟩
theorem Zo1 {σ : Zc} {bs : List UInt8} {f : Bool} (at_ : Int) (hb : bs.length ≤ 140737488355328) : Z1q Try.prog Zcp [.slc 1 (bytes bs) f, .int .i64 at_] σ fun r σ' => r = tup3 (prsF bs at_) ∧ σ' = σ := by
  refine Z8t rfl Zmm (Nat.le_of_ble_eq_true rfl) ?_
  refine Z9z ?_
  (repeat (refine st_q rfl rfl rfl ?_))
  (refine Z8y ?_; (repeat (first | refine Z9v rfl ?_ | refine Z9w ?_)); refine Z9u ?_)
  refine Za6 ?_
  refine Z9z ?_
  (repeat (refine st_q rfl rfl rfl ?_))
  by_cases h : at_ < 0 ∨ (bs.length : Int) < at_
  · have hu : prsF bs at_ = (0, false, 1) := by rw [prsF, if_pos h]
    rw [hu]
    have hcode : ∀ F, AWp Try.prog Zlh.n (.seq (.region Zlc [4, 5, 6]) .ret) (Z8g 0 (Z8e Try.prog Zlh.n (Zlh.code.snd 2) (ARet Zlh.res fun r σ' => r = tup3 (0, false, 1) ∧ σ' = σ))) F σ := fun F => by
      refine Z9z ?_
      (repeat (refine st_q rfl rfl rfl ?_))
      (refine Z8y ?_; (repeat (first | refine Z9v rfl ?_ | refine Z9w ?_)); refine Z9u ?_)
      refine Z8d ?_
      exact ares rfl (HSub.refl _) ⟨rfl, rfl⟩
    by_cases h2 : at_ < 0
    · (rw [show decide (at_ < 0) = true from decide_eq_true (by omega)])
      (repeat (refine Z8w rfl ?_))
      (repeat (refine st_q rfl rfl rfl ?_))
      (refine Z8y ?_; (repeat (first | refine Z9v rfl ?_ | refine Z9w ?_)); refine Z9u ?_)
      exact Z8f rfl (fun _ => hcode _) (fun e => by cases e)
    · (rw [show decide (at_ < 0) = false from decide_eq_false (by omega)])
      (repeat (refine Z8v rfl (st_q rfl rfl rfl ?_)))
      rw [Zam]
      (repeat (refine st_q rfl rfl rfl ?_))
      (refine Z8y ?_; (repeat (first | refine Z9v rfl ?_ | refine Z9w ?_)); refine Z9u ?_)
      exact Za3 (p := at_ > (bs.length : Int)) rfl (fun _ => hcode _) (fun e => absurd h (by omega))
  (rw [show decide (at_ < 0) = false from decide_eq_false (by omega)])
  (repeat (refine Z8v rfl (st_q rfl rfl rfl ?_)))
  rw [Zam]
  (repeat (refine st_q rfl rfl rfl ?_))
  (refine Z8y ?_; (repeat (first | refine Z9v rfl ?_ | refine Z9w ?_)); refine Z9u ?_)
  refine Za3 (p := at_ > (bs.length : Int)) rfl (fun _ => by omega) (fun _ => ?_)
  obtain ⟨i, rfl⟩ : ∃ i : Nat, at_ = i := ⟨at_.toNat, by omega⟩
  have e1 : IntKind.wrap .i64 ((bs.length : Int) - (i : Int)) = ((bs.length - i : Nat) : Int) := by rw [w64 _ (by omega) (by omega)]; omega
  refine Z9z ?_
  (repeat (refine st_q rfl rfl rfl ?_))
  rw [Zam, e1]
  (repeat (refine st_q rfl rfl rfl ?_))
  (refine Z8y ?_; (repeat (first | refine Z9v rfl ?_ | refine Z9w ?_)); refine Z9u ?_)
  have hl : bs.drop i = bs.drop i := rfl
  revert hl
  generalize hlg : bs.drop i = l
  intro _
  have hll : l.length = bs.length - i := by rw [← hlg, List.length_drop]
  refine Za3 (p := ((bs.length - i : Nat) : Int) < 3) rfl (fun h3 => ?_) (fun h3 => ?_)
  · refine Z9z ?_
    (repeat (refine st_q rfl rfl rfl ?_))
    (refine Z8y ?_; (repeat (first | refine Z9v rfl ?_ | refine Z9w ?_)); refine Z9u ?_)
    refine Z8d ?_
    have hr : prsF bs i = (0, false, 3) := by
      rw [prsF, if_neg h, Int.toNat_natCast, hlg, Zmx.2 (by omega)]
    rw [hr]
    exact ares rfl (HSub.refl _) ⟨rfl, rfl⟩
  obtain ⟨a, b, c, r, rfl, ha, hb', hc⟩ := Zo0 hlg (by omega)
  have hxa : (bytes bs)[(i : Int).toNat]? = some (Zx a) := by rw [Zao]; simp [ha]
  have hxb : (bytes bs)[((i + 1 : Nat) : Int).toNat]? = some (Zx b) := by rw [Zao]; simp [hb']
  have hxc : (bytes bs)[((i + 2 : Nat) : Int).toNat]? = some (Zx c) := by rw [Zao, Int.toNat_natCast, hc]; rfl
  have ha0 : a.toNat < 256 := a.toNat_lt
  have hb0 : b.toNat < 256 := b.toNat_lt
  have hc0 : c.toNat < 256 := c.toNat_lt
  have e2 : IntKind.wrap .i64 ((i : Int) + 1) = ((i + 1 : Nat) : Int) := by rw [w64 _ (by omega) (by omega)]; omega
  have e3 : IntKind.wrap .i64 ((i : Int) + 2) = ((i + 2 : Nat) : Int) := by rw [w64 _ (by omega) (by omega)]; omega
  have ea : IntKind.wrap .i64 (a.toNat : Int) = (a.toNat : Int) := w64 _ (by omega) (by omega)
  have eb : IntKind.wrap .i64 (b.toNat : Int) = (b.toNat : Int) := w64 _ (by omega) (by omega)
  have ec : IntKind.wrap .i64 (c.toNat : Int) = (c.toNat : Int) := w64 _ (by omega) (by omega)
  have eb2 : IntKind.wrap .i64 ((b.toNat : Int) * 256) = ((b.toNat * 256 : Nat) : Int) := by rw [w64 _ (by omega) (by omega)]; omega
  have ec2 : IntKind.wrap .i64 ((c.toNat : Int) * 65536) = ((c.toNat * 65536 : Nat) : Int) := by rw [w64 _ (by omega) (by omega)]; omega
  have o1 := or8 a.toNat b.toNat ha0 hb0
  have o2 := or16 (a.toNat + 256 * b.toNat) c.toNat (by omega) hc0
  have hth : a.toNat + 256 * b.toNat + 65536 * c.toNat = Zmt a b c := rfl
  rw [hth] at o2
  have hlt := Znz a b c
  refine Z8b ?_
  refine Z9z ?_
  refine st_q rfl rfl rfl ?_
  refine st_q rfl rfl rfl ?_
  refine Z93 rfl (by omega) hxa ?_
  (repeat (refine st_q rfl rfl rfl ?_))
  rw [e2, ea]
  refine Z93 rfl (by omega) hxb ?_
  refine st_q rfl rfl rfl ?_
  refine st_q rfl rfl rfl ?_
  rw [eb]
  refine Z95 rfl (by decide) ?_
  change aops _ _ (fset _ (some (.int .i64 (IntKind.wrap .i64 ((b.toNat : Int) * 256)))) _) _ _
  rw [eb2]
  refine st_q rfl (congrArg (fun x => some (Z0.int .i64 x)) o1) rfl ?_
  (repeat (refine st_q rfl rfl rfl ?_))
  rw [e3]
  refine Z93 rfl (by omega) hxc ?_
  refine st_q rfl rfl rfl ?_
  refine st_q rfl rfl rfl ?_
  rw [ec]
  refine Z95 rfl (by decide) ?_
  change aops _ _ (fset _ (some (.int .i64 (IntKind.wrap .i64 ((c.toNat : Int) * 65536)))) _) _ _
  rw [ec2]
  refine st_q rfl (congrArg (fun x => some (Z0.int .i64 x)) o2) rfl ?_
  (repeat (refine st_q rfl rfl rfl ?_))
  (refine Z8y ?_; (repeat (first | refine Z9v rfl ?_ | refine Z9w ?_)); refine Z9u ?_)
  refine Z9z ?_
  refine st_q rfl rfl rfl ?_
  refine Z96 rfl (by decide) ?_
  have e4 : Int.fdiv (Zmt a b c : Int) (2 ^ (Nat.min ((1 : Int).toNat) IntKind.i64.bits)) = ((Zmt a b c / 2 : Nat) : Int) := by
    show Int.fdiv (Zmt a b c : Int) 2 = _
    rw [Int.fdiv_eq_ediv_of_nonneg _ (by omega)]; omega
  rw [e4]
  refine st_q rfl rfl rfl ?_
  refine st_q rfl (congrArg (fun x => some (Z0.int .i64 x)) (and1 (Zmt a b c) (by omega))) rfl ?_
  (repeat (refine st_q rfl rfl rfl ?_))
  (refine Z8y ?_; (repeat (first | refine Z9v rfl ?_ | refine Z9w ?_)); refine Z9u ?_)
  refine Z8d ?_
  have hr : prsF bs i = (Zmt a b c / 2, decide (Zmt a b c % 2 = 1), 0) := by
    rw [prsF, if_neg h, Int.toNat_natCast, hlg]; rfl
  rw [hr]
  refine ares rfl (HSub.refl _) ⟨?_, rfl⟩
  have e5 : decide (((Zmt a b c % 2 : Nat) : Int) = 1) = decide (Zmt a b c % 2 = 1) := by
    by_cases h5 : Zmt a b c % 2 = 1
    · rw [decide_eq_true h5, decide_eq_true (by omega)]
    · rw [decide_eq_false h5, decide_eq_false (by omega)]
  show Z0.tup [_, .bool (decide _), _] = _
  rw [e5]; rfl
end Go.Abs
namespace Go.Abs
open Go Go.Proofs Go.Abs.Lz
set_option linter.unusedVariables false
set_option linter.unusedSimpArgs false
theorem Zo2 {σ : Zc} {bs : List UInt8} {f : Bool} (at_ : Int) (hb : bs.length ≤ 140737488355328) : Z1q Try.prog Zcq [.slc 1 (bytes bs) f, .int .i64 at_] σ fun r σ' => r = tup3 (prsF bs at_) ∧ σ' = σ := by
  refine Z8t rfl Zmn (Nat.le_of_ble_eq_true rfl) ?_
  refine Z9z ?_
  (repeat (refine st_q rfl rfl rfl ?_))
  (refine Z8y ?_; (repeat (first | refine Z9v rfl ?_ | refine Z9w ?_)); refine Z9u ?_)
  refine Za5 ?_
  refine Zad ?_
  (repeat (refine st_q rfl rfl rfl ?_))
  by_cases h : at_ < 0 ∨ (bs.length : Int) < at_
  · have hu : prsF bs at_ = (0, false, 1) := by rw [prsF, if_pos h]
    rw [hu]
    have hcode : ∀ F, AWp Try.prog Zlp.n (.seq (.region Zlk [4, 5, 6]) .ret) (Z8e Try.prog Zlp.n (Zlp.code.snd 2) (ARet Zlp.res fun r σ' => r = tup3 (0, false, 1) ∧ σ' = σ)) F σ := fun F => by
      refine Z9z ?_
      (repeat (refine st_q rfl rfl rfl ?_))
      (refine Z8y ?_; (repeat (first | refine Z9v rfl ?_ | refine Z9w ?_)); refine Z9u ?_)
      refine Z8d ?_
      exact ares rfl (HSub.refl _) ⟨rfl, rfl⟩
    by_cases h2 : at_ < 0
    · (rw [show decide (at_ < 0) = true from decide_eq_true (by omega)])
      (repeat (refine Z8w rfl ?_))
      (repeat (refine st_q rfl rfl rfl ?_))
      (refine Z8y ?_; (repeat (first | refine Z9v rfl ?_ | refine Z9w ?_)); refine Z9u ?_)
      exact Z8f rfl (fun _ => hcode _) (fun e => by cases e)
    · (rw [show decide (at_ < 0) = false from decide_eq_false (by omega)])
      (repeat (refine Z8v rfl (st_q rfl rfl rfl ?_)))
      rw [Zam]
      (repeat (refine st_q rfl rfl rfl ?_))
      (refine Z8y ?_; (repeat (first | refine Z9v rfl ?_ | refine Z9w ?_)); refine Z9u ?_)
      exact Za3 (p := at_ > (bs.length : Int)) rfl (fun _ => hcode _) (fun e => absurd h (by omega))
  (rw [show decide (at_ < 0) = false from decide_eq_false (by omega)])
  (repeat (refine Z8v rfl (st_q rfl rfl rfl ?_)))
  rw [Zam]
  (repeat (refine st_q rfl rfl rfl ?_))
  (refine Z8y ?_; (repeat (first | refine Z9v rfl ?_ | refine Z9w ?_)); refine Z9u ?_)
  refine Za3 (p := at_ > (bs.length : Int)) rfl (fun _ => by omega) (fun _ => ?_)
  obtain ⟨i, rfl⟩ : ∃ i : Nat, at_ = i := ⟨at_.toNat, by omega⟩
  have e1 : IntKind.wrap .i64 ((bs.length : Int) - (i : Int)) = ((bs.length - i : Nat) : Int) := by rw [w64 _ (by omega) (by omega)]; omega
  refine Za4 ?_
  refine Za5 ?_
  refine Zad ?_
  (repeat (refine st_q rfl rfl rfl ?_))
  rw [Zam, e1]
  (repeat (refine st_q rfl rfl rfl ?_))
  (refine Z8y ?_; (repeat (first | refine Z9v rfl ?_ | refine Z9w ?_)); refine Z9u ?_)
  have hl : bs.drop i = bs.drop i := rfl
  revert hl
  generalize hlg : bs.drop i = l
  intro _
  have hll : l.length = bs.length - i := by rw [← hlg, List.length_drop]
  refine Za3 (p := ((bs.length - i : Nat) : Int) < 3) rfl (fun h3 => ?_) (fun h3 => ?_)
  · refine Z9z ?_
    (repeat (refine st_q rfl rfl rfl ?_))
    (refine Z8y ?_; (repeat (first | refine Z9v rfl ?_ | refine Z9w ?_)); refine Z9u ?_)
    refine Z8d ?_
    have hr : prsF bs i = (0, false, 3) := by
      rw [prsF, if_neg h, Int.toNat_natCast, hlg, Zmx.2 (by omega)]
    rw [hr]
    exact ares rfl (HSub.refl _) ⟨rfl, rfl⟩
  obtain ⟨a, b, c, r, rfl, ha, hb', hc⟩ := Zo0 hlg (by omega)
  have hxa : (bytes bs)[(i : Int).toNat]? = some (Zx a) := by rw [Zao]; simp [ha]
  have hxb : (bytes bs)[((i + 1 : Nat) : Int).toNat]? = some (Zx b) := by rw [Zao]; simp [hb']
  have hxc : (bytes bs)[((i + 2 : Nat) : Int).toNat]? = some (Zx c) := by rw [Zao, Int.toNat_natCast, hc]; rfl
  have ha0 : a.toNat < 256 := a.toNat_lt
  have hb0 : b.toNat < 256 := b.toNat_lt
  have hc0 : c.toNat < 256 := c.toNat_lt
  have e2 : IntKind.wrap .i64 ((i : Int) + 1) = ((i + 1 : Nat) : Int) := by rw [w64 _ (by omega) (by omega)]; omega
  have e3 : IntKind.wrap .i64 ((i : Int) + 2) = ((i + 2 : Nat) : Int) := by rw [w64 _ (by omega) (by omega)]; omega
  have ea : IntKind.wrap .i64 (a.toNat : Int) = (a.toNat : Int) := w64 _ (by omega) (by omega)
  have eb : IntKind.wrap .i64 (b.toNat : Int) = (b.toNat : Int) := w64 _ (by omega) (by omega)
  have ec : IntKind.wrap .i64 (c.toNat : Int) = (c.toNat : Int) := w64 _ (by omega) (by omega)
  have eb2 : IntKind.wrap .i64 ((b.toNat : Int) * 256) = ((b.toNat * 256 : Nat) : Int) := by rw [w64 _ (by omega) (by omega)]; omega
  have ec2 : IntKind.wrap .i64 ((c.toNat : Int) * 65536) = ((c.toNat * 65536 : Nat) : Int) := by rw [w64 _ (by omega) (by omega)]; omega
  have o1 := or8 a.toNat b.toNat ha0 hb0
  have o2 := or16 (a.toNat + 256 * b.toNat) c.toNat (by omega) hc0
  have hth : a.toNat + 256 * b.toNat + 65536 * c.toNat = Zmt a b c := rfl
  rw [hth] at o2
  have hlt := Znz a b c
  refine Za4 ?_
  refine Z9z ?_
  refine st_q rfl rfl rfl ?_
  refine st_q rfl rfl rfl ?_
  refine Z93 rfl (by omega) hxa ?_
  (repeat (refine st_q rfl rfl rfl ?_))
  rw [e2, ea]
  refine Z93 rfl (by omega) hxb ?_
  refine st_q rfl rfl rfl ?_
  refine st_q rfl rfl rfl ?_
  rw [eb]
  refine Z95 rfl (by decide) ?_
  change aops _ _ (fset _ (some (.int .i64 (IntKind.wrap .i64 ((b.toNat : Int) * 256)))) _) _ _
  rw [eb2]
  refine st_q rfl (congrArg (fun x => some (Z0.int .i64 x)) o1) rfl ?_
  (repeat (refine st_q rfl rfl rfl ?_))
  rw [e3]
  refine Z93 rfl (by omega) hxc ?_
  refine st_q rfl rfl rfl ?_
  refine st_q rfl rfl rfl ?_
  rw [ec]
  refine Z95 rfl (by decide) ?_
  change aops _ _ (fset _ (some (.int .i64 (IntKind.wrap .i64 ((c.toNat : Int) * 65536)))) _) _ _
  rw [ec2]
  refine st_q rfl (congrArg (fun x => some (Z0.int .i64 x)) o2) rfl ?_
  (repeat (refine st_q rfl rfl rfl ?_))
  (refine Z8y ?_; (repeat (first | refine Z9v rfl ?_ | refine Z9w ?_)); refine Z9u ?_)
  refine Z9z ?_
  refine st_q rfl rfl rfl ?_
  refine Z96 rfl (by decide) ?_
  have e4 : Int.fdiv (Zmt a b c : Int) (2 ^ (Nat.min ((1 : Int).toNat) IntKind.i64.bits)) = ((Zmt a b c / 2 : Nat) : Int) := by
    show Int.fdiv (Zmt a b c : Int) 2 = _
    rw [Int.fdiv_eq_ediv_of_nonneg _ (by omega)]; omega
  rw [e4]
  refine st_q rfl rfl rfl ?_
  refine st_q rfl (congrArg (fun x => some (Z0.int .i64 x)) (and1 (Zmt a b c) (by omega))) rfl ?_
  (repeat (refine st_q rfl rfl rfl ?_))
  (refine Z8y ?_; (repeat (first | refine Z9v rfl ?_ | refine Z9w ?_)); refine Z9u ?_)
  refine Z8d ?_
  have hr : prsF bs i = (Zmt a b c / 2, decide (Zmt a b c % 2 = 1), 0) := by
    rw [prsF, if_neg h, Int.toNat_natCast, hlg]; rfl
  rw [hr]
  refine ares rfl (HSub.refl _) ⟨?_, rfl⟩
  have e5 : decide (((Zmt a b c % 2 : Nat) : Int) = 1) = decide (Zmt a b c % 2 = 1) := by
    by_cases h5 : Zmt a b c % 2 = 1
    · rw [decide_eq_true h5, decide_eq_true (by omega)]
    · rw [decide_eq_false h5, decide_eq_false (by omega)]
  show Z0.tup [_, .bool (decide _), _] = _
  rw [e5]; rfl
def err3 : Z0 := .tup [.slc 0 [] true, .bool false, .int .i64 3]
def Zo3 (l : List UInt8) (r : Z0) : Prop :=
  match rdH l with
  | none => r = err3
  | some (n, o, q) => if q.length < n then r = err3 else ∃ g, r = .tup [.slc 1 (bytes (q.take n)) g, .bool o, .int .i64 0]
theorem Zo4 {bs l : List UInt8} {i : Nat} (hi : i ≤ bs.length) (hl : bs.drop i = l) : prsF bs (i : Int) = match rdH l with
    | none => (0, false, 3)
    | some (n, o, _) => (n, o, 0) := by
  rw [prsF, if_neg (by omega), Int.toNat_natCast, hl]
  first | done | (cases rdH l <;> rfl)
theorem Zo5 {l : List UInt8} {n : Nat} {o : Bool} {q : List UInt8} (h : rdH l = some (n, o, q)) : n < 8388608 ∧ 3 ≤ l.length ∧ q = l.drop 3 := by
  match l, h with
  | a :: b :: c :: r', h =>
    simp only [rdH, Option.some.injEq, Prod.mk.injEq] at h
    have := Znz a b c
    refine ⟨by omega, by simp, h.2.2.symm⟩
theorem Zo6 {σ : Zc} {bs : List UInt8} {f : Bool} {i : Nat} {l : List UInt8} (hi : i ≤ bs.length) (hl : bs.drop i = l) (hb : bs.length ≤ 140737488355328) : Z1q Try.prog Zcz [.slc 1 (bytes bs) f, .int .i64 i] σ fun r σ' => Zo3 l r ∧ σ' = σ := by
  refine Z8t rfl Zms (Nat.le_of_ble_eq_true rfl) ?_
  refine Z9z ?_
  (repeat (refine st_q rfl rfl rfl ?_))
  (refine Z8y ?_; (repeat (first | refine Z9v rfl ?_ | refine Z9w ?_)); refine Z9u ?_)
  refine Z9z ?_
  refine st_q rfl rfl rfl ?_
  refine st_q rfl rfl rfl ?_
  refine Z9t rfl (Zo1 (i : Int) hb) ?_
  rw [Zo4 hi hl]
  have hll := Zgb hl hi
  cases hr : rdH l with
  | none =>
    (repeat (refine st_q rfl rfl rfl ?_))
    (refine Z8y ?_; (repeat (first | refine Z9v rfl ?_ | refine Z9w ?_)); refine Z9u ?_)
    refine Za5 ?_
    refine Zad ?_
    (repeat (refine st_q rfl rfl rfl ?_))
    (refine Z8y ?_; (repeat (first | refine Z9v rfl ?_ | refine Z9w ?_)); refine Z9u ?_)
    refine Z8f (t := true) rfl (fun _ => ?_) (fun e => by cases e)
    refine Z9z ?_
    (repeat (refine st_q rfl rfl rfl ?_))
    (refine Z8y ?_; (repeat (first | refine Z9v rfl ?_ | refine Z9w ?_)); refine Z9u ?_)
    refine Z8d ?_
    exact ares rfl (HSub.refl _) ⟨by rw [Zo3, hr]; rfl, rfl⟩
  | some x =>
    obtain ⟨n, o, q⟩ := x
    obtain ⟨hn, h3, hq⟩ := Zo5 hr
    have hql : q.length = l.length - 3 := by rw [hq, List.length_drop]
    (repeat (refine st_q rfl rfl rfl ?_))
    (refine Z8y ?_; (repeat (first | refine Z9v rfl ?_ | refine Z9w ?_)); refine Z9u ?_)
    refine Za5 ?_
    refine Zad ?_
    (repeat (refine st_q rfl rfl rfl ?_))
    (refine Z8y ?_; (repeat (first | refine Z9v rfl ?_ | refine Z9w ?_)); refine Z9u ?_)
    refine Z8f (t := false) rfl (fun e => by cases e) (fun _ => ?_)
    refine Za4 ?_
    refine Za5 ?_
    refine Zad ?_
    have e1 : IntKind.wrap .i64 ((bs.length : Int) - (i : Int)) = ((bs.length - i : Nat) : Int) := by rw [w64 _ (by omega) (by omega)]; omega
    have e2 : IntKind.wrap .i64 (((bs.length - i : Nat) : Int) - 3) = ((q.length : Nat) : Int) := by rw [w64 _ (by omega) (by omega)]; omega
    (repeat (refine st_q rfl rfl rfl ?_))
    rw [Zam, e1, e2]
    (refine Z8y ?_; (repeat (first | refine Z9v rfl ?_ | refine Z9w ?_)); refine Z9u ?_)
    refine Za3 (p := (n : Int) > (q.length : Int)) rfl (fun h => ?_) (fun h => ?_)
    · refine Z9z ?_
      (repeat (refine st_q rfl rfl rfl ?_))
      (refine Z8y ?_; (repeat (first | refine Z9v rfl ?_ | refine Z9w ?_)); refine Z9u ?_)
      refine Z8d ?_
      exact ares rfl (HSub.refl _) ⟨by rw [Zo3, hr]; exact (if_pos (by omega)).mpr rfl, rfl⟩
    refine Za4 ?_
    have e3 : IntKind.wrap .i64 ((i : Int) + 3) = ((i + 3 : Nat) : Int) := by rw [w64 _ (by omega) (by omega)]; omega
    have e4 : IntKind.wrap .i64 (((i + 3 : Nat) : Int) + (n : Int)) = ((i + 3 + n : Nat) : Int) := by rw [w64 _ (by omega) (by omega)]; omega
    refine Z9z ?_
    (repeat (first | refine st_q rfl rfl rfl ?_ | refine Z8v rfl (st_q rfl rfl rfl ?_) | refine Z8w rfl ?_ | refine Z8x rfl ?_))
    rw [e3, e4]
    refine Z99 (a := ((i + 3 : Nat) : Int)) (b := ((i + 3 + n : Nat) : Int)) rfl rfl (by rw [Zam]; omega) ?_
    have e5 : ((bytes bs).drop ((i + 3 : Nat) : Int).toNat).take (((i + 3 + n : Nat) : Int) - ((i + 3 : Nat) : Int)).toNat = bytes (q.take n) := by
      rw [Int.toNat_natCast, show (((i + 3 + n : Nat) : Int) - ((i + 3 : Nat) : Int)).toNat = n by omega, Zap, Zaq, ← List.drop_drop, hl, hq]
    rw [e5]
    (repeat (refine st_q rfl rfl rfl ?_))
    (refine Z8y ?_; (repeat (first | refine Z9v rfl ?_ | refine Z9w ?_)); refine Z9u ?_)
    refine Z8d ?_
    exact ares rfl (HSub.refl _) ⟨by rw [Zo3, hr]; exact (if_neg (by omega)).mpr ⟨_, rfl⟩, rfl⟩
def Bad (l : List UInt8) : Prop := rdH l = none ∨ ∃ n o q, rdH l = some (n, o, q) ∧ q.length < n
theorem Zo7 {σ : Zc} {bs : List UInt8} {f : Bool} {i : Nat} {l : List UInt8} (hi : i ≤ bs.length) (hl : bs.drop i = l) (hb : bs.length ≤ 140737488355328) (h : Bad l) : Z1q Try.prog Zcz [.slc 1 (bytes bs) f, .int .i64 i] σ fun r σ' => r = err3 ∧ σ' = σ := by
  refine (Zo6 hi hl hb).mono fun r σ' h' => ⟨?_, h'.2⟩
  have h' := h'.1
  unfold Zo3 at h'
  rcases h with h | ⟨n, o, q, h, hn⟩
  · rw [h] at h'; exact h'
  · rw [h] at h'; simp only [if_pos hn] at h'; exact h'
theorem Zo8 {σ : Zc} {bs : List UInt8} {f : Bool} {i : Nat} {l : List UInt8} (hi : i ≤ bs.length) (hl : bs.drop i = l) (hb : bs.length ≤ 140737488355328) {n : Nat} {o : Bool} {q : List UInt8} (h : rdH l = some (n, o, q)) (hn : n ≤ q.length) :
    Z1q Try.prog Zcz [.slc 1 (bytes bs) f, .int .i64 i] σ fun r σ' => (∃ g, r = .tup [.slc 1 (bytes (q.take n)) g, .bool o, .int .i64 0]) ∧ σ' = σ := by
  refine (Zo6 hi hl hb).mono fun r σ' h' => ⟨?_, h'.2⟩
  have h' := h'.1
  unfold Zo3 at h'
  rw [h] at h'
  simp only [if_neg (Nat.not_lt.2 hn)] at h'
  exact h'
theorem Zo9 {σ : Zc} {bs : List UInt8} {f : Bool} (hb : bs.length ≤ 140737488355328) : Z1q Try.prog Zcy [.slc 1 (bytes bs) f] σ fun r σ' => ∃ β, Grow r bs β ∧ σ' = β ++ σ := by
  refine Z8t rfl Zmr (Nat.le_of_ble_eq_true rfl) ?_
  refine Z9z ?_
  (repeat (refine st_q rfl rfl rfl ?_))
  (refine Z8y ?_; (repeat (first | refine Z9v rfl ?_ | refine Z9w ?_)); refine Z9u ?_)
  refine Za5 ?_
  refine Zad ?_
  refine st_q rfl rfl rfl ?_
  have key : ∀ F : Z26, F 0 = some (.slc 1 (bytes bs) f) → AWp Try.prog Zmd.n (Zmd.code.snd 2) (ARet Zmd.res fun r σ' => ∃ β, Grow r bs β ∧ σ' = β ++ σ) F σ := fun F hF => by
    refine Z9z ?_
    refine st_q rfl rfl rfl ?_
    refine st_q (v := .slc 1 (bytes bs) f) (vs := [.slc 1 (bytes bs) f]) (by simp [evs, ev, fset, hF]) rfl rfl ?_
    refine Zat (β := []) (xs := []) (ys := bs) (Grow.nil 1) rfl rfl (by simpa using hb) fun b hbk => ?_
    (repeat (refine st_q rfl rfl rfl ?_))
    (refine Z8y ?_; (repeat (first | refine Z9v rfl ?_ | refine Z9w ?_)); refine Z9u ?_)
    refine Z8d ?_
    exact ares rfl (HSub.refl _) ⟨[(b, .cells 1 (bytes ([] ++ bs)))], .inr ⟨b, rfl, rfl⟩, rfl⟩
  refine Z8u rfl (?_ : Z25 _ (.isnil false) _ _ _)
  have h0 : AWp Try.prog Zmd.n (.seq (.region Zmb [2]) .ret) (Z8e Try.prog Zmd.n (Zmd.code.snd 2) (ARet Zmd.res fun r σ' => ∃ β, Grow r [] β ∧ σ' = β ++ σ)) Z27 σ := by
    refine Z9z ?_
    (repeat (refine st_q rfl rfl rfl ?_))
    (refine Z8y ?_; (repeat (first | refine Z9v rfl ?_ | refine Z9w ?_)); refine Z9u ?_)
    refine Z8d ?_
    exact ares rfl (HSub.refl _) ⟨[], Grow.nil 0, rfl⟩
  refine ⟨fun _ => ?_, fun he t => ?_⟩
  · (refine Z8y ?_; (repeat (first | refine Z9v rfl ?_ | refine Z9w ?_)); refine Z9u ?_)
    refine Z8f (t := false) rfl (fun e => by cases e) (fun _ => ?_)
    refine Za4 ?_
    exact key _ rfl
  · have hbs : bs = [] := by
      cases bs with
      | nil => rfl
      | cons a l => cases he
    subst hbs
    (refine Z8y ?_; (repeat (first | refine Z9v rfl ?_ | refine Z9w ?_)); refine Z9u ?_)
    refine Z8f (t := t) rfl (fun _ => ?_) (fun _ => ?_)
    · exact Z9y (keep := []) (Z9u h0)
    · refine Za4 ?_
      exact key _ rfl
theorem Zoa (σ : Zc) {bs : List UInt8} {f : Bool} {most : Int} (hb : bs.length ≤ 140737488355328) :
    Z1q Try.prog Zd1 [.slc 1 (bytes bs) f, .int .i64 most] σ fun r σ' => r = .tup [.slc 1 (bytes (Zfd most bs).2) false, .int .i64 (Zfd most bs).1] ∧ σ' = σ := by
  refine Zb5 (Zl9 σ hb) fun r σ' h => ?_
  obtain ⟨v, β, rfl, ho, rfl⟩ := h
  exact ⟨_, _, Zb6.tup (Zb6.first (Zb6.grow ho)), rfl, rfl⟩
end Go.Abs

