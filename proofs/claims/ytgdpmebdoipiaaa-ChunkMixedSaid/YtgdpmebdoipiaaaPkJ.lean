/- Part J of a proof: merged by program. -/
import Derived.Test.YtgdpmebdoipiaaaPkI
import Derived.Test.YtgdpmebdoipiaaaProg
import Derived.KernelRfl
namespace Go.Abs
open Go
def Zvw : List Z2a := [
  ⟨some 2, .mov, [.c (.slc 0 [] true)], none⟩]
def Zvx : List Z2a := [
  ⟨some 5, .mov, [.t 0], none⟩,
  ⟨some 6, .lens, [.t 5], none⟩,
  ⟨some 3, .mov, [.t 6], none⟩]
def Zvy : List Z2a := [
  ⟨some 7, .mov, [.t 3], none⟩,
  ⟨some 8, (.bin .lss), [.t 7, .c (.int .i64 15)], none⟩]
def Zvz : List Z2a := [
  ⟨some 9, .mov, [.t 3], none⟩,
  ⟨some 10, (.bin .shl), [.t 9, .c (.int .u64 4)], none⟩,
  ⟨some 11, (.conv .u8), [.t 10], none⟩,
  ⟨some 12, (.bsl 1), [.t 11], none⟩,
  ⟨some 13, .mov, [.t 0], none⟩,
  ⟨some 14, (.app 1 1), [.t 12, .t 13], none⟩,
  ⟨some 2, .mov, [.t 14], none⟩]
def Zw0 : List Z2a := [
  ⟨some 15, (.bsl 1), [.c (.int .u8 240)], none⟩,
  ⟨some 4, .mov, [.t 15], none⟩]
def Zw1 : List Z2a := [
  ⟨some 16, .mov, [.t 3], none⟩,
  ⟨some 17, (.bin .sub), [.t 16, .c (.int .i64 15)], none⟩,
  ⟨some 3, .mov, [.t 17], none⟩]
def Zw2 : List Z2a := [
  ⟨some 18, .mov, [.t 3], none⟩,
  ⟨some 19, (.bin .geq), [.t 18, .c (.int .i64 255)], none⟩]
def Zw3 : List Z2a := [
  ⟨some 20, .mov, [.t 4], none⟩,
  ⟨some 21, (.bsl 1), [.c (.int .u8 255)], none⟩,
  ⟨some 22, (.app 1 1), [.t 20, .t 21], none⟩,
  ⟨some 4, .mov, [.t 22], none⟩]
def Zw4 : List Z2a := [
  ⟨some 23, .mov, [.t 3], none⟩,
  ⟨some 24, (.bin .sub), [.t 23, .c (.int .i64 255)], none⟩,
  ⟨some 3, .mov, [.t 24], none⟩]
def Zw5 : Z2b := (.seq (.seq (.region Zw2 [0, 3, 4, 19]) (.cond (.t 19) .skip (.exit 0))) (.block 1 (.seq (.region Zw3 [0, 3, 4]) (.region Zw4 [0, 3, 4]))))
def Zw6 : List Z2a := [
  ⟨some 25, .mov, [.t 4], none⟩,
  ⟨some 26, .mov, [.t 3], none⟩,
  ⟨some 27, (.conv .u8), [.t 26], none⟩,
  ⟨some 28, (.bsl 1), [.t 27], none⟩,
  ⟨some 29, (.app 1 1), [.t 25, .t 28], none⟩,
  ⟨some 30, .mov, [.t 0], none⟩,
  ⟨some 31, (.app 1 1), [.t 29, .t 30], none⟩,
  ⟨some 2, .mov, [.t 31], none⟩]
def Zw7 : Z2y := ⟨32, (.seq (.region Zvw [0]) (.seq (.region Zvx [0, 3]) (.seq (.seq (.region Zvy [0, 3, 8]) (.cond (.t 8) (.seq (.region Zvz [2]) .ret) .skip)) (.seq (.region Zw0 [0, 3, 4]) (.seq (.region Zw1 [0, 3, 4]) (.seq (.block 0 (.loop Zw5)) (.seq (.region Zw6 [2]) .ret))))))), [.t 2]⟩
def Zw8 : List Z2a := [
  ⟨some 6, .mov, [.c (.bool false)], none⟩]
def Zw9 : List Z2a := [
  ⟨some 17, (.call Zck), [], none⟩,
  ⟨some 18, .unot, [.t 17], none⟩]
def Zwa : List Z2a := [
  ⟨some 6, .mov, [.c (.bool false)], none⟩]
def Zwb : List Z2a := [
  ⟨some 19, .mov, [.t 0], none⟩,
  ⟨some 20, .lens, [.t 19], none⟩,
  ⟨some 21, (.bin .gtr), [.t 20, .c (.int .i64 20)], none⟩,
  ⟨some 22, .mov, [.t 21], none⟩,
  ⟨some 23, .mov, [.t 1], some (22, false)⟩,
  ⟨some 24, .lens, [.t 23], some (22, false)⟩,
  ⟨some 25, .mov, [.t 0], some (22, false)⟩,
  ⟨some 26, .lens, [.t 25], some (22, false)⟩,
  ⟨some 27, (.bin .lss), [.t 24, .t 26], some (22, false)⟩,
  ⟨some 28, .pick, [.t 22, .c (.bool true), .t 27], none⟩,
  ⟨some 29, .mov, [.t 28], none⟩,
  ⟨some 30, .mov, [.t 2], some (29, false)⟩,
  ⟨some 31, (.bin .lss), [.t 30, .c (.int .i64 1)], some (29, false)⟩,
  ⟨some 32, .pick, [.t 29, .c (.bool true), .t 31], none⟩,
  ⟨some 33, .mov, [.t 32], none⟩,
  ⟨some 34, .mov, [.t 2], some (33, false)⟩,
  ⟨some 35, (.bin .gtr), [.t 34, .c (.int .i64 500)], some (33, false)⟩,
  ⟨some 36, .pick, [.t 33, .c (.bool true), .t 35], none⟩]
def Zwc : List Z2a := [
  ⟨some 6, .mov, [.c (.bool true)], none⟩]
def Zwd : List Z2a := [
  ⟨some 7, .mov, [.c (.slc 0 [] true)], none⟩,
  ⟨some 8, .mov, [.c (.slc 0 [] true)], none⟩]
def Zwe : List Z2a := [
  ⟨some 9, .mov, [.c (.int .i64 0)], none⟩]
def Zwf : List Z2a := [
  ⟨some 37, .mov, [.t 9], none⟩,
  ⟨some 38, .mov, [.t 0], none⟩,
  ⟨some 39, .lens, [.t 38], none⟩,
  ⟨some 40, (.bin .lss), [.t 37, .t 39], none⟩]
def Zwg : List Z2a := [
  ⟨some 43, .mov, [.t 0], none⟩,
  ⟨some 44, .mov, [.t 9], none⟩,
  ⟨some 45, (.iad 1), [.t 43, .t 44], none⟩,
  ⟨some 46, (.load false 1), [.t 45], none⟩,
  ⟨some 47, .lens, [.t 46], none⟩,
  ⟨some 48, .mov, [.t 2], none⟩,
  ⟨some 49, (.bin .gtr), [.t 47, .t 48], none⟩]
def Zwh : List Z2a := [
  ⟨some 6, .mov, [.c (.bool true)], none⟩]
def Zwi : List Z2a := [
  ⟨some 50, .mov, [.t 0], none⟩,
  ⟨some 51, .mov, [.t 9], none⟩,
  ⟨some 52, (.iad 1), [.t 50, .t 51], none⟩,
  ⟨some 53, (.load false 1), [.t 52], none⟩,
  ⟨some 10, .mov, [.t 53], none⟩]
def Zwj : List Z2a := [
  ⟨some 54, .mov, [.t 1], none⟩,
  ⟨some 55, .mov, [.t 9], none⟩,
  ⟨some 56, (.iad 1), [.t 54, .t 55], none⟩,
  ⟨some 57, (.load false 1), [.t 56], none⟩]
def Zwk : List Z2a := [
  ⟨some 58, .mov, [.t 0], none⟩,
  ⟨some 59, .mov, [.t 9], none⟩,
  ⟨some 60, (.iad 1), [.t 58, .t 59], none⟩,
  ⟨some 61, (.load false 1), [.t 60], none⟩,
  ⟨some 62, (.call Zcv), [.t 61], none⟩,
  ⟨some 10, .mov, [.t 62], none⟩]
def Zwl : List Z2a := [
  ⟨some 63, .mov, [.t 7], none⟩,
  ⟨some 64, .mov, [.t 10], none⟩,
  ⟨some 65, .lens, [.t 64], none⟩,
  ⟨some 66, .mov, [.t 1], none⟩,
  ⟨some 67, .mov, [.t 9], none⟩,
  ⟨some 68, (.iad 1), [.t 66, .t 67], none⟩,
  ⟨some 69, (.load false 1), [.t 68], none⟩,
  ⟨some 70, .unot, [.t 69], none⟩,
  ⟨some 71, (.call Zct), [.t 65, .t 70], none⟩,
  ⟨some 72, (.app 1 1), [.t 63, .t 71], none⟩,
  ⟨some 73, .mov, [.t 10], none⟩,
  ⟨some 74, (.app 1 1), [.t 72, .t 73], none⟩,
  ⟨some 7, .mov, [.t 74], none⟩]
def Zwm : List Z2a := [
  ⟨some 75, .mov, [.t 8], none⟩,
  ⟨some 76, .mov, [.t 0], none⟩,
  ⟨some 77, .mov, [.t 9], none⟩,
  ⟨some 78, (.iad 1), [.t 76, .t 77], none⟩,
  ⟨some 79, (.load false 1), [.t 78], none⟩,
  ⟨some 80, (.app 1 1), [.t 75, .t 79], none⟩,
  ⟨some 8, .mov, [.t 80], none⟩]
def Zwn : List Z2a := [
  ⟨some 41, .mov, [.t 9], none⟩,
  ⟨some 42, (.bin .add), [.t 41, .c (.int .i64 1)], none⟩,
  ⟨some 9, .mov, [.t 42], none⟩]
def Zwo : Z2b := (.seq (.seq (.region Zwf [0, 1, 2, 7, 8, 9, 40]) (.cond (.t 40) .skip (.exit 0))) (.seq (.block 1 (.seq (.seq (.region Zwg [0, 1, 2, 7, 8, 9, 49]) (.cond (.t 49) (.seq (.region Zwh [6]) .ret) .skip)) (.seq (.region Zwi [0, 1, 2, 7, 8, 9, 10]) (.seq (.seq (.region Zwj [0, 1, 2, 7, 8, 9, 10, 57]) (.cond (.t 57) (.region Zwk [0, 1, 2, 7, 8, 9, 10]) .skip)) (.seq (.region Zwl [0, 1, 2, 7, 8, 9]) (.region Zwm [0, 1, 2, 7, 8, 9])))))) (.region Zwn [0, 1, 2, 7, 8, 9])))
def Zwp : List Z2a := [
  ⟨some 82, .mov, [.t 7], none⟩,
  ⟨some 83, .mov, [.t 2], none⟩,
  ⟨some 84, .mov, [.t 8], none⟩,
  ⟨some 85, .lens, [.t 84], none⟩,
  ⟨some 86, (.call Zcl), [.t 82, .c (.int .i64 4), .t 83, .t 85], none⟩,
  ⟨some 81, .mov, [.t 86], none⟩,
  ⟨some 87, (.ext 0), [.t 81], none⟩,
  ⟨some 88, (.ext 1), [.t 81], none⟩,
  ⟨some 11, .mov, [.t 87], none⟩,
  ⟨some 12, .mov, [.t 88], none⟩]
def Zwq : List Z2a := [
  ⟨some 90, .mov, [.t 7], none⟩,
  ⟨some 91, (.call Zcn), [.t 90, .c (.int .i64 4)], none⟩,
  ⟨some 89, .mov, [.t 91], none⟩,
  ⟨some 92, (.ext 0), [.t 89], none⟩,
  ⟨some 93, (.ext 1), [.t 89], none⟩,
  ⟨some 13, .mov, [.t 92], none⟩,
  ⟨some 14, .mov, [.t 93], none⟩]
def Zwr : List Z2a := [
  ⟨some 94, .mov, [.t 12], none⟩,
  ⟨some 95, .mov, [.t 14], none⟩,
  ⟨some 96, (.bin .add), [.t 94, .t 95], none⟩,
  ⟨some 97, (.bin .neq), [.t 96, .c (.int .i64 0)], none⟩,
  ⟨some 98, .mov, [.t 97], none⟩,
  ⟨some 99, .mov, [.t 11], some (98, false)⟩,
  ⟨some 100, .b2s, [.t 99], some (98, false)⟩,
  ⟨some 101, .mov, [.t 8], some (98, false)⟩,
  ⟨some 102, .b2s, [.t 101], some (98, false)⟩,
  ⟨some 103, (.bin .neq), [.t 100, .t 102], some (98, false)⟩,
  ⟨some 104, .pick, [.t 98, .c (.bool true), .t 103], none⟩,
  ⟨some 105, .mov, [.t 104], none⟩,
  ⟨some 106, .mov, [.t 13], some (105, false)⟩,
  ⟨some 107, .mov, [.t 0], some (105, false)⟩,
  ⟨some 108, .lens, [.t 107], some (105, false)⟩,
  ⟨some 109, (.bin .neq), [.t 106, .t 108], some (105, false)⟩,
  ⟨some 110, .pick, [.t 105, .c (.bool true), .t 109], none⟩]
def Zws : List Z2a := [
  ⟨some 6, .mov, [.c (.bool false)], none⟩]
def Zwt : List Z2a := [
  ⟨some 111, .mov, [.t 8], none⟩,
  ⟨some 112, .lens, [.t 111], none⟩,
  ⟨some 113, (.bin .eql), [.t 112, .c (.int .i64 0)], none⟩]
def Zwu : List Z2a := [
  ⟨some 6, .mov, [.c (.bool true)], none⟩]
def Zwv : List Z2a := [
  ⟨some 115, .mov, [.t 7], none⟩,
  ⟨some 116, .mov, [.t 2], none⟩,
  ⟨some 117, .mov, [.t 8], none⟩,
  ⟨some 118, .lens, [.t 117], none⟩,
  ⟨some 119, (.bin .sub), [.t 118, .c (.int .i64 1)], none⟩,
  ⟨some 120, (.call Zcl), [.t 115, .c (.int .i64 4), .t 116, .t 119], none⟩,
  ⟨some 114, .mov, [.t 120], none⟩,
  ⟨some 121, (.ext 0), [.t 114], none⟩,
  ⟨some 122, (.ext 1), [.t 114], none⟩,
  ⟨some 15, .mov, [.t 121], none⟩,
  ⟨some 16, .mov, [.t 122], none⟩]
def Zww : List Z2a := [
  ⟨some 123, .mov, [.t 16], none⟩,
  ⟨some 124, (.bin .eql), [.t 123, .c (.int .i64 4)], none⟩,
  ⟨some 6, .mov, [.t 124], none⟩]
def Zwx : Z2y := ⟨125, (.seq (.region Zw8 [0, 1, 2]) (.seq (.seq (.region Zw9 [0, 1, 2, 18]) (.cond (.t 18) (.seq (.region Zwa [6]) .ret) .skip)) (.seq (.seq (.region Zwb [0, 1, 2, 36]) (.cond (.t 36) (.seq (.region Zwc [6]) .ret) .skip)) (.seq (.region Zwd [0, 1, 2, 7, 8]) (.seq (.seq (.region Zwe [0, 1, 2, 7, 8, 9]) (.block 0 (.loop Zwo))) (.seq (.region Zwp [0, 2, 7, 8, 11, 12]) (.seq (.region Zwq [0, 2, 7, 8, 11, 12, 13, 14]) (.seq (.seq (.region Zwr [2, 7, 8, 110]) (.cond (.t 110) (.seq (.region Zws [6]) .ret) .skip)) (.seq (.seq (.region Zwt [2, 7, 8, 113]) (.cond (.t 113) (.seq (.region Zwu [6]) .ret) .skip)) (.seq (.region Zwv [16]) (.seq (.region Zww [6]) .ret))))))))))), [.t 6]⟩
end Go.Abs
namespace Go.Abs
open Go Go.Proofs
theorem Zwy : Z2z Try.prog [] Zcv = some Zw7.erase := by kernel_rfl
theorem Zwz : Z2z Try.prog [] Zci = some Zwx.erase := by kernel_rfl
end Go.Abs
namespace Go.Abs
open Go Go.Proofs Go.Abs.Lz
set_option linter.unusedVariables false
set_option linter.unusedSimpArgs false
theorem put0 (p : List UInt8) : putF p 0 0 = UInt8.ofNat (min p.length 15 * 16) :: (Zfi p.length ++ p) := by
  rw [putF]; simp
theorem Zx0 {l : List Z2a} {F : Z26} {σ : Zc} {Q : Z26 → Zc → Prop} {d : Nat} {args : List Zw} {x : Z0} {xs ys : List UInt8} (h1 : evs F args = some [.slc 1 (bytes xs) true, x]) (hxs : xs ≠ []) (hy : Z1m σ 1 x = some (bytes ys)) (hb : xs.length + ys.length ≤ 140737488355328)
    (h0 : ys = [] → aops Try.prog l (fset d (some (.slc 1 (bytes xs) true)) F) σ Q) (h : ys ≠ [] → ∀ b', b' ∉ Zh σ → aops Try.prog l (fset d (some (.arr 1 b' 0 (xs ++ ys).length)) F) ((b', .cells 1 (bytes (xs ++ ys))) :: σ) Q) : aops Try.prog (⟨some d, .app 1 1, args, none⟩ :: l) F σ Q := by
  refine ⟨_, h1, bytes ys, hy, by simpa [Zam] using hb, .inl rfl, ?_⟩
  cases xs with
  | nil => exact absurd rfl hxs
  | cons a xs =>
    refine ⟨fun hn => h0 ?_, fun hn b hb => ?_⟩
    · cases ys with
      | nil => rfl
      | cons c ys => cases hn
    · have := h (fun e => hn (by rw [e]; rfl)) b hb
      rw [Zan, List.length_append] at this
      refine (?_ : aops Try.prog l (fset d (some (.arr 1 b 0 ((bytes (a :: xs)).length + (bytes ys).length))) F) _ Q)
      simpa [Zam, bytes] using this
def Zx1 (v : Z0) (xs : List UInt8) (β : Zc) : Prop := (v = .slc 1 (bytes xs) true ∧ xs ≠ [] ∧ β = []) ∨ ∃ b, v = .arr 1 b 0 xs.length ∧ β = [(b, .cells 1 (bytes xs))]
theorem Zx2 {l : List Z2a} {F : Z26} {Q : Z26 → Zc → Prop} {d : Nat} {args : List Zw} {v x : Z0} {xs ys : List UInt8} {β τ : Zc} (ho : Zx1 v xs β) (h1 : evs F args = some [v, x]) (hy : Z1m (β ++ τ) 1 x = some (bytes ys)) (hne : ys ≠ []) (hb : xs.length + ys.length ≤ 140737488355328)
    (h : ∀ b', b' ∉ Zh (β ++ τ) → aops Try.prog l (fset d (some (.arr 1 b' 0 (xs ++ ys).length)) F) ((b', .cells 1 (bytes (xs ++ ys))) :: τ) Q) : aops Try.prog (⟨some d, .app 1 1, args, none⟩ :: l) F (β ++ τ) Q := by
  rcases ho with ⟨rfl, hx, rfl⟩ | ⟨b, rfl, rfl⟩
  · exact Zx0 h1 hx hy hb (fun e => absurd e hne) fun _ b' hb' => h b' hb'
  · exact Zat (.inr ⟨b, rfl, rfl⟩) h1 hy hb h
theorem Zx3 {σ : Zc} {bs : List UInt8} {f : Bool} (hb : bs.length ≤ 10000000) : Z1q Try.prog Zcv [.slc 1 (bytes bs) f] σ fun r σ' => r = .slc 1 (bytes (putF bs 0 0)) false ∧ σ' = σ := by
  refine Zb5 (R := fun r σ' => (r = .slc 1 (bytes (putF bs 0 0)) true ∧ σ' = σ) ∨ ∃ β, Grow r (putF bs 0 0) β ∧ σ' = β ++ σ) ?_ fun r σ' h => ?_
  case refine_2 =>
    rcases h with ⟨rfl, rfl⟩ | ⟨β, ho, rfl⟩
    · exact ⟨_, _, Z8n.of_le VRle.full (HSub.refl _), rfl, rfl⟩
    · exact ⟨_, _, Zb6.one (Zb6.grow ho), rfl, rfl⟩
  rw [put0]
  refine Z8t rfl Zwy (Nat.le_of_ble_eq_true rfl) ?_
  refine Z9z ?_
  (repeat (refine st_q rfl rfl rfl ?_))
  (refine Z8y ?_; (repeat (first | refine Z9v rfl ?_ | refine Z9w ?_)); refine Z9u ?_)
  refine Z9z ?_
  (repeat (refine st_q rfl rfl rfl ?_))
  rw [Zam]
  (repeat (refine st_q rfl rfl rfl ?_))
  (refine Z8y ?_; (repeat (first | refine Z9v rfl ?_ | refine Z9w ?_)); refine Z9u ?_)
  refine Za5 ?_
  refine Zad ?_
  (repeat (refine st_q rfl rfl rfl ?_))
  (refine Z8y ?_; (repeat (first | refine Z9v rfl ?_ | refine Z9w ?_)); refine Z9u ?_)
  refine Za3 (p := (bs.length : Int) < 15) rfl (fun h => ?_) (fun h => ?_)
  · refine Z9z ?_
    refine st_q rfl rfl rfl ?_
    refine Z95 rfl (by decide) ?_
    change aops _ _ (fset _ (some (.int .i64 (IntKind.wrap .i64 ((bs.length : Int) * 16)))) _) _ _
    have e1 : IntKind.wrap .i64 ((bs.length : Int) * 16) = ((bs.length * 16 : Nat) : Int) := by rw [w64 _ (by omega) (by omega)]; omega
    have e2 : Zfi bs.length = [] := by rw [Zfi, if_pos (by omega)]
    rw [e1, e2, show min bs.length 15 = bs.length by omega]
    refine st_q rfl rfl rfl ?_
    rw [Zke]
    refine st_q rfl rfl rfl ?_
    refine st_q rfl rfl rfl ?_
    refine Zx0 (xs := [UInt8.ofNat (bs.length * 16)]) (ys := bs) rfl (by simp) rfl (by simp only [List.length_cons, List.length_nil]; omega) (fun e => ?_) fun _ b hbk => ?_
    · subst e
      (repeat (refine st_q rfl rfl rfl ?_))
      (refine Z8y ?_; (repeat (first | refine Z9v rfl ?_ | refine Z9w ?_)); refine Z9u ?_)
      refine Z8d ?_
      exact ares rfl (HSub.refl _) (.inl ⟨rfl, rfl⟩)
    · (repeat (refine st_q rfl rfl rfl ?_))
      (refine Z8y ?_; (repeat (first | refine Z9v rfl ?_ | refine Z9w ?_)); refine Z9u ?_)
      refine Z8d ?_
      exact ares rfl (HSub.refl _) (.inr ⟨[(b, .cells 1 (bytes ([UInt8.ofNat (bs.length * 16)] ++ bs)))], .inr ⟨b, rfl, rfl⟩, rfl⟩)
  refine Za4 ?_
  have e2 : Zfi bs.length = Zfh (bs.length - 15) := by rw [Zfi, if_neg (by omega)]
  have e3 : UInt8.ofNat (min bs.length 15 * 16) = 240 := by rw [show min bs.length 15 = 15 by omega]; rfl
  rw [e2, e3]
  refine Z9z ?_
  (repeat (refine st_q rfl rfl rfl ?_))
  (refine Z8y ?_; (repeat (first | refine Z9v rfl ?_ | refine Z9w ?_)); refine Z9u ?_)
  refine Z9z ?_
  (repeat (refine st_q rfl rfl rfl ?_))
  have e4 : IntKind.wrap .i64 ((bs.length : Int) - 15) = ((bs.length - 15 : Nat) : Int) := by rw [w64 _ (by omega) (by omega)]; omega
  rw [e4]
  (repeat (refine st_q rfl rfl rfl ?_))
  (refine Z8y ?_; (repeat (first | refine Z9v rfl ?_ | refine Z9w ?_)); refine Z9u ?_)
  refine Za6 ?_
  refine Zaa (fun k F σ' => ∃ (v : Z0) (o : List UInt8) (β : Zc), F = fset 0 (some (.slc 1 (bytes bs) f)) (fset 3 (some (.int .i64 (k : Nat))) (fset 4 (some v) Z27)) ∧ σ' = β ++ σ ∧ Zx1 v o β ∧ o ++ Zfh k = 240 :: Zfh (bs.length - 15) ∧ o.length + k ≤ bs.length + 1) (n := bs.length - 15)
    ⟨.slc 1 (bytes [240]) true, [240], [], rfl, rfl, .inl ⟨rfl, by simp, rfl⟩, rfl, by simp only [List.length_cons, List.length_nil]; omega⟩ ?_
  rintro k F σ' ⟨v, o, β, rfl, rfl, ho, he, hl⟩
  refine Za5 ?_
  refine Zad ?_
  (repeat (refine st_q rfl rfl rfl ?_))
  (refine Z8y ?_; (repeat (first | refine Z9v rfl ?_ | refine Z9w ?_)); refine Z9u ?_)
  refine Za3 (p := (k : Int) ≥ 255) rfl (fun h2 => ?_) (fun h2 => ?_)
  · refine Za4 ?_
    refine Z8h ?_
    refine Z9z ?_
    (repeat (refine st_q rfl rfl rfl ?_))
    refine Zx2 ho (ys := [255]) rfl rfl (by simp) (by simp only [List.length_cons, List.length_nil]; omega) fun b' hb' => ?_
    (repeat (refine st_q rfl rfl rfl ?_))
    (refine Z8y ?_; (repeat (first | refine Z9v rfl ?_ | refine Z9w ?_)); refine Z9u ?_)
    refine awp_region ?_
    (repeat (refine st_q rfl rfl rfl ?_))
    have e5 : IntKind.wrap .i64 ((k : Int) - 255) = ((k - 255 : Nat) : Int) := by rw [w64 _ (by omega) (by omega)]; omega
    rw [e5]
    (repeat (refine st_q rfl rfl rfl ?_))
    refine Z8y ?_
    refine Zac (keep := [0, 3, 4]) ?_
    ((repeat (first | refine Z9v rfl ?_ | refine Z9w ?_)); refine Z9u ?_)
    refine ⟨_, k - 255, HSub.refl _, ⟨_, o ++ [255], [(b', .cells 1 (bytes (o ++ [255])))], rfl, rfl, .inr ⟨b', rfl, rfl⟩, ?_, by simp only [List.length_append, List.length_cons, List.length_nil]; omega⟩, by omega⟩
    rw [← he]
    conv => rhs; rw [Zfh, dif_pos (by omega)]
    simp
  · have e6 : Zfh k = [UInt8.ofNat k] := by rw [Zfh, dif_neg (by omega)]
    rw [e6] at he
    refine Zbo (fun _ _ => rfl) ?_
    refine Z9z ?_
    (repeat (refine st_q rfl rfl rfl ?_))
    rw [Zke]
    refine Zx2 ho (ys := [UInt8.ofNat k]) rfl rfl (by simp) (by simp only [List.length_cons, List.length_nil]; omega) fun b1 hb1 => ?_
    refine st_q rfl rfl rfl ?_
    refine Zat (β := [(b1, .cells 1 (bytes (o ++ [UInt8.ofNat k])))]) (xs := o ++ [UInt8.ofNat k]) (ys := bs) (.inr ⟨b1, rfl, rfl⟩) rfl rfl (by simp only [List.length_append, List.length_cons, List.length_nil]; omega) fun b2 hb2 => ?_
    (repeat (refine st_q rfl rfl rfl ?_))
    (refine Z8y ?_; (repeat (first | refine Z9v rfl ?_ | refine Z9w ?_)); refine Z9u ?_)
    refine Z8d ?_
    rw [he]
    exact ares rfl (HSub.refl _) (.inr ⟨[(b2, .cells 1 (bytes (240 :: Zfh (bs.length - 15) ++ bs)))], .inr ⟨b2, rfl, rfl⟩, rfl⟩)
def itm (p : List UInt8) (k : Bool) : List UInt8 × List UInt8 := (if k = true then hdF ((putF p 0 0).length : Nat) false ++ putF p 0 0 else hdF (p.length : Nat) true ++ p, p)
theorem Zx4 (p : List UInt8) (h : p.length ≤ 500) : (putF p 0 0).length ≤ 507 := by
  have := Zfr p 0 0
  omega
theorem Zx5 {s : Nat} {p : List UInt8} {k : Bool} (h : p.length ≤ s) (hs : s ≤ 500) : Zn4 s (itm p k).1 (itm p k).2 := by
  cases k with
  | false => exact Zn5 h (by omega)
  | true =>
    refine Zn6 (by have := Zx4 p (by omega); omega) ?_
    rw [Zfd, if_neg (by omega)]
    refine Zfb ?_
    rw [Zfv, if_neg (by simp only [List.length_nil, Int.toNat_natCast]; omega)]; rfl
theorem Zx6 {p : List UInt8} {k : Bool} (h : p.length ≤ 500) : (itm p k).1.length ≤ 510 := by
  have := Zx4 p h
  cases k <;> simp only [itm, if_true, Bool.false_eq_true, if_false, List.length_append, Znh] <;> omega
theorem Zx7 {N : Nat} {a : Z2b} {Q : Z87} {F : Z26} {d : Nat} {v : Z0} {xs : List UInt8} {β τ : Zc} (ho : Grow v xs β) (hF : F d = some v) (h : AWp Try.prog N a Q (fset d (some (.slc 1 (bytes xs) false)) F) τ) : AWp Try.prog N a Q F (β ++ τ) := by
  rcases ho with ⟨⟨z, rfl⟩, rfl, rfl⟩ | ⟨b, rfl, rfl⟩
  · refine awp_vs (fun K w tmps hr hfr => ⟨K, Kr.le.refl K, hr, hfr.size, fun i y e => ?_⟩) h
    simp only [fset] at e
    split at e
    · rename_i hi
      subst hi
      simp only [Option.some.injEq] at e
      subst e
      exact VRle.full K _ (VRle.nil_slc z 1 true K _ (hfr.at_ i _ hF))
    · exact hfr.at_ i y e
  · rw [← Zam] at hF
    exact Zb1 hF h
def Zx8 (ls : List (List UInt8)) : List Z0 := ls.map fun p => .slc 1 (bytes p) false
def Zx9 (ps : List Bool) : List Z0 := ps.map .bool
def mInv (ls : List (List UInt8)) (ps : List Bool) (s : Nat) (its : List (List UInt8 × List UInt8)) (σ : Zc) (k : Nat) (F : Z26) (σ' : Zc) : Prop :=
  ∃ (i : Nat) (vb vw : Z0) (xb xw : List UInt8) (βb βw : Zc), F = fset 0 (some (.slc 1 (Zx8 ls) false)) (fset 1 (some (.slc 1 (Zx9 ps) false)) (fset 2 (some (.int .i64 s)) (fset 7 (some vb) (fset 8 (some vw) (fset 9 (some (.int .i64 i)) Z27))))) ∧
    σ' = βb ++ (βw ++ σ) ∧ Grow vb xb βb ∧ Grow vw xw βw ∧ i ≤ ls.length ∧ k = ls.length - i ∧ xb.length ≤ 510 * i ∧ xw.length ≤ 500 * i ∧ xb = (its.take i).flatMap (·.1) ∧ xw = (its.take i).flatMap (·.2) ∧ ∀ c ∈ its.take i, Zn4 s c.1 c.2
theorem Zxa {ls : List (List UInt8)} {ps : List Bool} {s : Nat} {its : List (List UInt8 × List UInt8)} {σ : Zc} {Q : Z87} {i : Nat} {vb vw : Z0} {xb xw : List UInt8} {βb βw : Zc} {p y : List UInt8} {k g : Bool}
    (hob : Grow vb xb βb) (how : Grow vw xw βw) (hlp : ls[i]? = some p) (hps : ps[i]? = some k) (hit : its[i]? = some (itm p k)) (hy : hdF (y.length : Nat) (!k) ++ y = (itm p k).1) (hl20 : ls.length ≤ 20) (hp : p.length ≤ s) (hs : s ≤ 500)
    (h1 : xb.length ≤ 510 * i) (h2 : xw.length ≤ 500 * i) (h3 : xb = (its.take i).flatMap (·.1)) (h4 : xw = (its.take i).flatMap (·.2)) (h5 : ∀ c ∈ its.take i, Zn4 s c.1 c.2) :
    AWp Try.prog Zwx.n (.seq (.region Zwl [0, 1, 2, 7, 8, 9]) (.region Zwm [0, 1, 2, 7, 8, 9])) (Z8g 1 (Z8e Try.prog Zwx.n (.region Zwn [0, 1, 2, 7, 8, 9]) (Za9 (mInv ls ps s its σ) (ls.length - i) Q)))
      (fset 0 (some (.slc 1 (Zx8 ls) false)) (fset 1 (some (.slc 1 (Zx9 ps) false)) (fset 2 (some (.int .i64 s)) (fset 7 (some vb) (fset 8 (some vw) (fset 9 (some (.int .i64 i)) (fset 10 (some (.slc 1 (bytes y) g)) Z27))))))) (βb ++ (βw ++ σ)) := by
  have hil : i < ls.length := (List.getElem?_eq_some_iff.1 hlp).1
  have hxl : (Zx8 ls)[(i : Int).toNat]? = some (.slc 1 (bytes p) false) := by rw [Int.toNat_natCast, Zx8, List.getElem?_map, hlp]; rfl
  have hxp : (Zx9 ps)[(i : Int).toNat]? = some (.bool k) := by rw [Int.toNat_natCast, Zx9, List.getElem?_map, hps]; rfl
  have hilen := Zx6 (p := p) (k := k) (by omega)
  have hyl := congrArg List.length hy
  rw [List.length_append, Znh] at hyl
  refine Z9z ?_
  refine st_q rfl rfl rfl ?_
  refine st_q rfl rfl rfl ?_
  refine st_q rfl rfl rfl ?_
  rw [Zam]
  refine st_q rfl rfl rfl ?_
  refine st_q rfl rfl rfl ?_
  refine Z93 rfl (by omega) hxp ?_
  (repeat (refine st_q rfl rfl rfl ?_))
  refine Z9t rfl (Znx _ _) ?_
  refine Zat hob (ys := hdF (y.length : Nat) (!k)) rfl rfl (by rw [Znh]; omega) fun b1 hb1 => ?_
  refine st_q rfl rfl rfl ?_
  refine Zat (β := [(b1, .cells 1 (bytes (xb ++ hdF (y.length : Nat) (!k))))]) (xs := xb ++ hdF (y.length : Nat) (!k)) (ys := y) (.inr ⟨b1, rfl, rfl⟩) rfl rfl (by rw [List.length_append, Znh]; omega) fun b2 hb2 => ?_
  rw [List.append_assoc, hy]
  (repeat (refine st_q rfl rfl rfl ?_))
  (refine Z8y ?_; (repeat (first | refine Z9v rfl ?_ | refine Z9w ?_)); refine Z9u ?_)
  refine Zb4 (β := [(b2, .cells 1 (bytes (xb ++ (itm p k).1)))]) (γ := βw) ?_
  refine Zbm (fun _ _ => rfl) ?_
  refine st_q rfl rfl rfl ?_
  refine st_q rfl rfl rfl ?_
  refine st_q rfl rfl rfl ?_
  refine Z93 rfl (by omega) hxl ?_
  refine st_q rfl rfl rfl ?_
  refine Zat how (ys := p) rfl rfl (by omega) fun b3 hb3 => ?_
  (repeat (refine st_q rfl rfl rfl ?_))
  (refine Z8y ?_; (repeat (first | refine Z9v rfl ?_ | refine Z9w ?_)); refine Z9u ?_)
  have e1 : IntKind.wrap .i64 ((i : Int) + 1) = ((i + 1 : Nat) : Int) := by rw [w64 _ (by omega) (by omega)]; omega
  refine Zb4 (β := [(b3, .cells 1 (bytes (xw ++ p)))]) (γ := [(b2, .cells 1 (bytes (xb ++ (itm p k).1)))]) ?_
  refine awp_region ?_
  (repeat (refine st_q rfl rfl rfl ?_))
  rw [e1]
  (repeat (refine st_q rfl rfl rfl ?_))
  refine Z8y ?_
  refine Zac (keep := [0, 1, 2, 7, 8, 9]) ?_
  ((repeat (first | refine Z9v rfl ?_ | refine Z9w ?_)); refine Z9u ?_)
  have htk : its.take (i + 1) = its.take i ++ [itm p k] := by rw [List.take_add_one, hit]; rfl
  refine ⟨_, ls.length - (i + 1), HSub.refl _, ⟨i + 1, _, _, xb ++ (itm p k).1, xw ++ p, [(b2, .cells 1 (bytes (xb ++ (itm p k).1)))], [(b3, .cells 1 (bytes (xw ++ p)))], rfl, rfl, .inr ⟨b2, rfl, rfl⟩, .inr ⟨b3, rfl, rfl⟩, by omega, rfl, by rw [List.length_append]; omega, by rw [List.length_append]; omega, ?_, ?_, ?_⟩, by omega⟩
  · rw [htk, List.flatMap_append, ← h3]; simp
  · rw [htk, List.flatMap_append, ← h4]; simp [itm]
  · intro c hc
    rw [htk, List.mem_append] at hc
    rcases hc with hc | hc
    · exact h5 c hc
    · rw [List.mem_singleton] at hc
      subst hc
      exact Zx5 hp hs
theorem Zxb (ls : List (List UInt8)) (ps : List Bool) (size : Int) (σ : Zc) : Z1q Try.prog Zci [.slc 1 (Zx8 ls) false, .slc 1 (Zx9 ps) false, .int .i64 size] σ fun r σ' => r = .bool true ∧ σ' = σ := by
  have hml : (Zx8 ls).length = ls.length := List.length_map ..
  have hmp : (Zx9 ps).length = ps.length := List.length_map ..
  refine Z8t rfl Zwz (Nat.le_of_ble_eq_true rfl) ?_
  refine Z9z ?_
  (repeat (refine st_q rfl rfl rfl ?_))
  (refine Z8y ?_; (repeat (first | refine Z9v rfl ?_ | refine Z9w ?_)); refine Z9u ?_)
  refine Za5 ?_
  refine Zad ?_
  refine Z9t rfl (Zup _) ?_
  (repeat (refine st_q rfl rfl rfl ?_))
  (refine Z8y ?_; (repeat (first | refine Z9v rfl ?_ | refine Z9w ?_)); refine Z9u ?_)
  refine Z8f (t := false) rfl (fun e => by cases e) (fun _ => ?_)
  refine Za4 ?_
  refine Za5 ?_
  refine Zad ?_
  have hret : ∀ (X : Z2b) (F : Z26), AWp Try.prog Zwx.n (.seq (.region Zwc [6]) .ret) (Z8e Try.prog Zwx.n X (ARet Zwx.res fun r σ' => r = .bool true ∧ σ' = σ)) F σ := fun X F => by
    refine Z9z ?_
    (repeat (refine st_q rfl rfl rfl ?_))
    (refine Z8y ?_; (repeat (first | refine Z9v rfl ?_ | refine Z9w ?_)); refine Z9u ?_)
    refine Z8d ?_
    exact ares rfl (HSub.refl _) ⟨rfl, rfl⟩
  (repeat (first | refine st_q rfl rfl rfl ?_ | refine Z8v rfl (st_q rfl rfl rfl ?_) | refine Z8w rfl ?_ | refine Z8x rfl ?_))
  rw [hml]
  by_cases c1 : (ls.length : Int) > 20
  · (rw [show decide ((ls.length : Int) > 20) = true from decide_eq_true (by omega)])
    (repeat (first | refine st_q rfl rfl rfl ?_ | refine Z8v rfl (st_q rfl rfl rfl ?_) | refine Z8w rfl ?_ | refine Z8x rfl ?_))
    (refine Z8y ?_; (repeat (first | refine Z9v rfl ?_ | refine Z9w ?_)); refine Z9u ?_)
    exact Z8f rfl (fun _ => hret _ _) (fun e => by cases e)
  (rw [show decide ((ls.length : Int) > 20) = false from decide_eq_false (by omega)])
  (repeat (first | refine st_q rfl rfl rfl ?_ | refine Z8v rfl (st_q rfl rfl rfl ?_) | refine Z8w rfl ?_ | refine Z8x rfl ?_))
  rw [hmp, hml]
  by_cases c2 : (ps.length : Int) < (ls.length : Int)
  · (rw [show decide ((ps.length : Int) < (ls.length : Int)) = true from decide_eq_true (by omega)])
    (repeat (first | refine st_q rfl rfl rfl ?_ | refine Z8v rfl (st_q rfl rfl rfl ?_) | refine Z8w rfl ?_ | refine Z8x rfl ?_))
    (refine Z8y ?_; (repeat (first | refine Z9v rfl ?_ | refine Z9w ?_)); refine Z9u ?_)
    exact Z8f rfl (fun _ => hret _ _) (fun e => by cases e)
  (rw [show decide ((ps.length : Int) < (ls.length : Int)) = false from decide_eq_false (by omega)])
  (repeat (first | refine st_q rfl rfl rfl ?_ | refine Z8v rfl (st_q rfl rfl rfl ?_) | refine Z8w rfl ?_ | refine Z8x rfl ?_))
  by_cases c3 : size < 1
  · (rw [show decide (size < 1) = true from decide_eq_true (by omega)])
    (repeat (first | refine st_q rfl rfl rfl ?_ | refine Z8v rfl (st_q rfl rfl rfl ?_) | refine Z8w rfl ?_ | refine Z8x rfl ?_))
    (refine Z8y ?_; (repeat (first | refine Z9v rfl ?_ | refine Z9w ?_)); refine Z9u ?_)
    exact Z8f rfl (fun _ => hret _ _) (fun e => by cases e)
  (rw [show decide (size < 1) = false from decide_eq_false (by omega)])
  (repeat (first | refine st_q rfl rfl rfl ?_ | refine Z8v rfl (st_q rfl rfl rfl ?_) | refine Z8w rfl ?_ | refine Z8x rfl ?_))
  (refine Z8y ?_; (repeat (first | refine Z9v rfl ?_ | refine Z9w ?_)); refine Z9u ?_)
  refine Za3 (p := size > 500) rfl (fun _ => hret _ _) (fun c4 => ?_)
  refine Za4 ?_
  obtain ⟨s, rfl⟩ : ∃ s : Nat, size = s := ⟨size.toNat, by omega⟩
  obtain ⟨its, hits⟩ : ∃ its, its = List.zipWith itm ls ps := ⟨_, rfl⟩
  have hil : its.length = ls.length := by rw [hits, List.length_zipWith]; omega
  refine Z9z ?_
  (repeat (refine st_q rfl rfl rfl ?_))
  (refine Z8y ?_; (repeat (first | refine Z9v rfl ?_ | refine Z9w ?_)); refine Z9u ?_)
  refine Za5 ?_
  refine Zad ?_
  (repeat (refine st_q rfl rfl rfl ?_))
  (refine Z8y ?_; (repeat (first | refine Z9v rfl ?_ | refine Z9w ?_)); refine Z9u ?_)
  refine Z8h ?_
  refine Zaa (mInv ls ps s its σ) (n := ls.length) ⟨0, .slc 0 [] true, .slc 0 [] true, [], [], [], [], rfl, rfl, Grow.nil 0, Grow.nil 0, by omega, rfl, by simp, by simp, rfl, rfl, by simp⟩ ?_
  rintro k F σ' ⟨i, vb, vw, xb, xw, βb, βw, rfl, rfl, hob, how, hi, rfl, h1, h2, h3, h4, h5⟩
  have hsub : HSub σ (βb ++ (βw ++ σ)) := HSub.of_sublist ((List.sublist_append_right _ _).trans (List.sublist_append_right _ _))
  refine Za5 ?_
  refine Zad ?_
  (repeat (refine st_q rfl rfl rfl ?_))
  rw [hml]
  (refine Z8y ?_; (repeat (first | refine Z9v rfl ?_ | refine Z9w ?_)); refine Z9u ?_)
  refine Za3 (p := (i : Int) < (ls.length : Int)) rfl (fun h => ?_) (fun h => ?_)
  · obtain ⟨p, hlp⟩ : ∃ p, ls[i]? = some p := ⟨_, List.getElem?_eq_getElem (by omega)⟩
    obtain ⟨k, hps⟩ : ∃ k, ps[i]? = some k := ⟨_, List.getElem?_eq_getElem (by omega)⟩
    have hit : its[i]? = some (itm p k) := by rw [hits, List.getElem?_zipWith, hlp, hps]
    have hxl : (Zx8 ls)[(i : Int).toNat]? = some (.slc 1 (bytes p) false) := by rw [Int.toNat_natCast, Zx8, List.getElem?_map, hlp]; rfl
    have hxp : (Zx9 ps)[(i : Int).toNat]? = some (.bool k) := by rw [Int.toNat_natCast, Zx9, List.getElem?_map, hps]; rfl
    refine Za4 ?_
    refine Za6 ?_
    refine Za5 ?_
    refine Zad ?_
    refine st_q rfl rfl rfl ?_
    refine st_q rfl rfl rfl ?_
    refine Z93 rfl (by omega) hxl ?_
    (repeat (refine st_q rfl rfl rfl ?_))
    rw [Zam]
    (refine Z8y ?_; (repeat (first | refine Z9v rfl ?_ | refine Z9w ?_)); refine Z9u ?_)
    refine Za3 (p := (p.length : Int) > (s : Int)) rfl (fun h6 => ?_) (fun h6 => ?_)
    · refine Z9z ?_
      (repeat (refine st_q rfl rfl rfl ?_))
      (refine Z8y ?_; (repeat (first | refine Z9v rfl ?_ | refine Z9w ?_)); refine Z9u ?_)
      refine Z8d ?_
      exact ares rfl hsub ⟨rfl, rfl⟩
    refine Za4 ?_
    refine Z9z ?_
    refine st_q rfl rfl rfl ?_
    refine st_q rfl rfl rfl ?_
    refine Z93 rfl (by omega) hxl ?_
    (repeat (refine st_q rfl rfl rfl ?_))
    (refine Z8y ?_; (repeat (first | refine Z9v rfl ?_ | refine Z9w ?_)); refine Z9u ?_)
    refine Za5 ?_
    refine Zad ?_
    refine st_q rfl rfl rfl ?_
    refine st_q rfl rfl rfl ?_
    refine Z93 rfl (by omega) hxp ?_
    (repeat (refine st_q rfl rfl rfl ?_))
    (refine Z8y ?_; (repeat (first | refine Z9v rfl ?_ | refine Z9w ?_)); refine Z9u ?_)
    cases k with
    | true =>
      refine Z8f (t := true) rfl (fun _ => ?_) (fun e => by cases e)
      refine Zad ?_
      refine st_q rfl rfl rfl ?_
      refine st_q rfl rfl rfl ?_
      refine Z93 rfl (by omega) hxl ?_
      refine st_q rfl rfl rfl ?_
      refine Z9t rfl (Zx3 (by omega)) ?_
      (repeat (refine st_q rfl rfl rfl ?_))
      (refine Z8y ?_; (repeat (first | refine Z9v rfl ?_ | refine Z9w ?_)); refine Z9u ?_)
      exact Zxa hob how hlp hps hit rfl (by omega) (by omega) (by omega) h1 h2 h3 h4 h5
    | false =>
      refine Z8f (t := false) rfl (fun e => by cases e) (fun _ => ?_)
      refine Za4 ?_
      (refine Z9y (keep := [0, 1, 2, 7, 8, 9, 10]) ?_; ((repeat (first | refine Z9v rfl ?_ | refine Z9w ?_)); refine Z9u ?_))
      exact Zxa hob how hlp hps hit rfl (by omega) (by omega) (by omega) h1 h2 h3 h4 h5
  obtain rfl : i = ls.length := by omega
  refine Zbo (fun _ _ => rfl) ?_
  refine Zx7 (d := 7) hob rfl ?_
  refine Zx7 (d := 8) how rfl ?_
  (refine Z9y (keep := [0, 2, 7, 8]) ?_; ((repeat (first | refine Z9v rfl ?_ | refine Z9w ?_)); refine Z9u ?_))
  rw [List.take_of_length_le (by omega)] at h3 h4 h5
  have hwl : (its.flatMap (·.2)).length = xw.length := by rw [h4]
  have hD : ∀ m : Nat, m ≤ 262144 → decF xb 4 (s : Nat) (m : Nat) = if m < xw.length then (4, []) else (0, xw) := fun m hm => by
    rw [dec4 (by omega) (by omega) hm, h3, Zn7 its [] h5 (by simp), h4]; simp
  have hC : cntF xb 4 = (ls.length, 0) := by rw [cnt4, h3, Zn8 its 0 h5, hil]; simp
  have hD1 : decF xb 4 (s : Nat) (xw.length : Nat) = (0, xw) := by rw [hD _ (by omega), if_neg (by omega)]
  refine Z9z ?_
  (repeat (refine st_q rfl rfl rfl ?_))
  rw [Zam]
  refine Z9t rfl (Zuh (by omega) hD1) ?_
  (repeat (refine st_q rfl rfl rfl ?_))
  (refine Z8y ?_; (repeat (first | refine Z9v rfl ?_ | refine Z9w ?_)); refine Z9u ?_)
  refine Z9z ?_
  (repeat (refine st_q rfl rfl rfl ?_))
  refine Z9t rfl (Zuj (by omega) hC) ?_
  (repeat (refine st_q rfl rfl rfl ?_))
  (refine Z8y ?_; (repeat (first | refine Z9v rfl ?_ | refine Z9w ?_)); refine Z9u ?_)
  refine Za5 ?_
  refine Zad ?_
  (repeat (first | refine st_q rfl rfl rfl ?_ | refine Z8v rfl (st_q rfl rfl rfl ?_) | refine Z8w rfl ?_ | refine Z8x rfl ?_))
  refine Z8v rfl (st_q rfl Zl0 rfl ?_)
  (repeat (first | refine st_q rfl rfl rfl ?_ | refine Z8v rfl (st_q rfl rfl rfl ?_) | refine Z8w rfl ?_ | refine Z8x rfl ?_))
  refine Z8v rfl (st_q rfl Zl0 rfl ?_)
  refine Z8v rfl (st_q rfl rfl rfl ?_)
  rw [show decide (xw ≠ xw) = false from decide_eq_false (fun h => h rfl)]
  (repeat (first | refine st_q rfl rfl rfl ?_ | refine Z8v rfl (st_q rfl rfl rfl ?_) | refine Z8w rfl ?_ | refine Z8x rfl ?_))
  rw [hml, show decide ((ls.length : Int) ≠ (ls.length : Int)) = false from decide_eq_false (fun h => h rfl)]
  (repeat (first | refine st_q rfl rfl rfl ?_ | refine Z8v rfl (st_q rfl rfl rfl ?_) | refine Z8w rfl ?_ | refine Z8x rfl ?_))
  (refine Z8y ?_; (repeat (first | refine Z9v rfl ?_ | refine Z9w ?_)); refine Z9u ?_)
  refine Z8f (t := false) rfl (fun e => by cases e) (fun _ => ?_)
  refine Za4 ?_
  refine Za5 ?_
  refine Zad ?_
  (repeat (first | refine st_q rfl rfl rfl ?_ | refine Z8v rfl (st_q rfl rfl rfl ?_) | refine Z8w rfl ?_ | refine Z8x rfl ?_))
  rw [Zam]
  (refine Z8y ?_; (repeat (first | refine Z9v rfl ?_ | refine Z9w ?_)); refine Z9u ?_)
  refine Za3 (p := (xw.length : Int) = 0) rfl (fun h7 => ?_) (fun h7 => ?_)
  · refine Z9z ?_
    (repeat (refine st_q rfl rfl rfl ?_))
    (refine Z8y ?_; (repeat (first | refine Z9v rfl ?_ | refine Z9w ?_)); refine Z9u ?_)
    refine Z8d ?_
    exact ares rfl (HSub.refl _) ⟨rfl, rfl⟩
  refine Za4 ?_
  have e8 : IntKind.wrap .i64 ((xw.length : Int) - 1) = ((xw.length - 1 : Nat) : Int) := by rw [w64 _ (by omega) (by omega)]; omega
  have hD2 : decF xb 4 (s : Nat) ((xw.length - 1 : Nat) : Nat) = (4, []) := by rw [hD _ (by omega), if_pos (by omega)]
  refine Z9z ?_
  (repeat (refine st_q rfl rfl rfl ?_))
  rw [Zam, e8]
  refine Z9t rfl (Zuh (by omega) hD2) ?_
  (repeat (refine st_q rfl rfl rfl ?_))
  (refine Z8y ?_; (repeat (first | refine Z9v rfl ?_ | refine Z9w ?_)); refine Z9u ?_)
  refine Z9z ?_
  (repeat (first | refine st_q rfl rfl rfl ?_ | refine Z8v rfl (st_q rfl rfl rfl ?_) | refine Z8w rfl ?_ | refine Z8x rfl ?_))
  (refine Z8y ?_; (repeat (first | refine Z9v rfl ?_ | refine Z9w ?_)); refine Z9u ?_)
  refine Z8d ?_
  exact ares rfl (HSub.refl _) ⟨rfl, rfl⟩
end Go.Abs

