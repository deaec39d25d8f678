/- Part D of a proof: merged by program. -/
import Derived.Test.YtgmefkhincnajaaPkC
import Derived.Test.YtgmefkhincnajaaProg
import Derived.KernelRfl
namespace Go.Abs
open Go
def Zh9 : List Z2a := [
  ⟨some 1, (.box 6), [.t 0], none⟩,
  ⟨some 2, .mov, [.c (.int .i64 0)], none⟩]
def Zha : List Z2a := [
  ⟨some 3, (.alloc (.int .i64 0)), [], none⟩,
  ⟨none, (.store 1), [.t 3, .c (.int .i64 0)], none⟩]
def Zhb : List Z2a := [
  ⟨some 4, (.load true 6), [.t 1], none⟩,
  ⟨some 5, (.call Zf9), [.t 4, .c (.int .i64 1), .t 3], none⟩,
  ⟨some 2, .mov, [.t 5], none⟩]
def Zhc : Z2y := ⟨6, (.seq (.region Zh9 [1]) (.seq (.region Zha [1, 3]) (.seq (.region Zhb [2]) .ret))), [.t 2]⟩
def Zhd : List Z2a := [
  ⟨some 2, .mov, [.c (.slc 0 [] true)], none⟩]
def Zhe : List Z2a := [
  ⟨some 3, .mov, [.t 0], none⟩,
  ⟨some 4, .mov, [.t 0], none⟩,
  ⟨some 5, .lens, [.t 4], none⟩,
  ⟨some 6, .mov, [.t 0], none⟩,
  ⟨some 7, .lens, [.t 6], none⟩,
  ⟨some 8, (.clip 8), [.t 3, .t 5, .t 7], none⟩,
  ⟨some 2, .mov, [.t 8], none⟩]
def Zhf : Z2y := ⟨9, (.seq (.region Zhd [0]) (.seq (.region Zhe [2]) .ret)), [.t 2]⟩
def Zib : List Z2a := [
  ⟨some 3, (.box 6), [.t 0], none⟩,
  ⟨some 6, .mov, [.c (.int .i64 0)], none⟩]
def Zic : List Z2a := [
  ⟨some 11, .mov, [.t 1], none⟩,
  ⟨some 12, (.bin .gtr), [.t 11, .c (.int .i64 16)], none⟩,
  ⟨some 13, .mov, [.t 12], none⟩,
  ⟨some 14, .mov, [.t 2], some (13, false)⟩,
  ⟨some 15, .nilc, [.t 14], some (13, false)⟩,
  ⟨some 16, (.load false 1), [.t 15], some (13, false)⟩,
  ⟨some 17, (.bin .geq), [.t 16, .c (.int .i64 100)], some (13, false)⟩,
  ⟨some 18, .pick, [.t 13, .c (.bool true), .t 17], none⟩,
  ⟨some 10, .mov, [.t 18], none⟩]
def Zid : List Z2a := [
  ⟨some 6, .mov, [.c (.int .i64 4)], none⟩]
def Zie : List Z2a := [
  ⟨some 20, (.fad 0), [.t 3], none⟩,
  ⟨some 21, (.load false 1), [.t 20], none⟩,
  ⟨some 22, (.bin .eql), [.t 21, .c (.int .i64 5)], none⟩,
  ⟨some 23, .mov, [.t 22], none⟩,
  ⟨some 24, (.fad 0), [.t 3], some (23, false)⟩,
  ⟨some 25, (.load false 1), [.t 24], some (23, false)⟩,
  ⟨some 26, (.bin .eql), [.t 25, .c (.int .i64 6)], some (23, false)⟩,
  ⟨some 27, .pick, [.t 23, .c (.bool true), .t 26], none⟩,
  ⟨some 19, .mov, [.t 27], none⟩]
def Zif : List Z2a := [
  ⟨some 6, .mov, [.c (.int .i64 5)], none⟩]
def Zig : List Z2a := [
  ⟨some 29, (.fad 0), [.t 3], none⟩,
  ⟨some 30, (.load false 1), [.t 29], none⟩,
  ⟨some 31, (.bin .lss), [.t 30, .c (.int .i64 0)], none⟩,
  ⟨some 32, .mov, [.t 31], none⟩,
  ⟨some 33, (.fad 0), [.t 3], some (32, false)⟩,
  ⟨some 34, (.load false 1), [.t 33], some (32, false)⟩,
  ⟨some 35, (.bin .gtr), [.t 34, .c (.int .i64 17)], some (32, false)⟩,
  ⟨some 36, .pick, [.t 32, .c (.bool true), .t 35], none⟩,
  ⟨some 37, .mov, [.t 36], none⟩,
  ⟨some 38, (.load true 6), [.t 3], some (37, false)⟩,
  ⟨some 39, (.call Zg6), [.t 38], some (37, false)⟩,
  ⟨some 40, .unot, [.t 39], some (37, false)⟩,
  ⟨some 41, .pick, [.t 37, .c (.bool true), .t 40], none⟩,
  ⟨some 28, .mov, [.t 41], none⟩]
def Zih : List Z2a := [
  ⟨some 6, .mov, [.c (.int .i64 1)], none⟩]
def Zii : List Z2a := [
  ⟨some 42, .mov, [.t 2], none⟩,
  ⟨some 43, .nilc, [.t 42], none⟩,
  ⟨some 44, (.load false 1), [.t 43], none⟩,
  ⟨some 45, (.bin .add), [.t 44, .c (.int .i64 1)], none⟩,
  ⟨some 46, .nilc, [.t 42], none⟩,
  ⟨none, (.store 1), [.t 46, .t 45], none⟩]
def Zij : List Z2a := [
  ⟨some 47, (.fad 2), [.t 3], none⟩,
  ⟨some 48, (.load false 1), [.t 47], none⟩,
  ⟨some 49, .lens, [.t 48], none⟩,
  ⟨some 50, .mov, [.c (.int .i64 0)], none⟩]
def Zik : List Z2a := [
  ⟨some 51, (.bin .lss), [.t 50, .t 49], none⟩]
def Zil : List Z2a := [
  ⟨some 52, (.iad 6), [.t 48, .t 50], none⟩,
  ⟨some 53, (.load true 6), [.t 52], none⟩,
  ⟨some 8, (.alloc (.agg [(.int .i64 0), (.slc 0 [] true), (.slc 0 [] true), (.int .i64 0), (.int .i64 0), (.int .i64 0)])), [], none⟩,
  ⟨none, (.store 6), [.t 8, .t 53], none⟩]
def Zim : List Z2a := [
  ⟨some 54, (.load true 6), [.t 8], none⟩,
  ⟨some 55, .mov, [.t 1], none⟩,
  ⟨some 56, (.bin .add), [.t 55, .c (.int .i64 1)], none⟩,
  ⟨some 57, .mov, [.t 2], none⟩,
  ⟨some 58, (.call Zf9), [.t 54, .t 56, .t 57], none⟩,
  ⟨some 9, .mov, [.t 58], none⟩]
def Zin : List Z2a := [
  ⟨some 59, .mov, [.t 9], none⟩,
  ⟨some 60, (.bin .neq), [.t 59, .c (.int .i64 0)], none⟩]
def Zio : List Z2a := [
  ⟨some 61, .mov, [.t 9], none⟩,
  ⟨some 6, .mov, [.t 61], none⟩]
def Zip : List Z2a := [
  ⟨some 62, (.bin .add), [.t 50, .c (.int .i64 1)], none⟩,
  ⟨some 50, .mov, [.t 62], none⟩]
def Ziq : Z2b := (.seq (.region Zik [1, 2, 48, 49, 50, 51]) (.seq (.cond (.t 51) .skip (.exit 1)) (.seq (.block 2 (.seq (.region Zil [1, 2, 8, 48, 49, 50]) (.seq (.region Zim [1, 2, 9, 48, 49, 50]) (.seq (.region Zin [1, 2, 9, 48, 49, 50, 60]) (.cond (.t 60) (.seq (.region Zio [6]) .ret) .skip))))) (.region Zip [1, 2, 48, 49, 50]))))
def Zir : List Z2a := [
  ⟨some 6, .mov, [.c (.int .i64 0)], none⟩]
def Zis : Z2y := ⟨63, (.seq (.region Zib [1, 2, 3, 14, 15, 16, 17, 24, 25, 26, 33, 34, 35, 38, 39, 40]) (.seq (.block 0 (.seq (.region Zic [1, 2, 3, 10, 24, 25, 26, 33, 34, 35, 38, 39, 40]) (.cond (.t 10) (.seq (.region Zid [6]) .ret) (.seq (.region Zie [1, 2, 3, 19, 33, 34, 35, 38, 39, 40]) (.cond (.t 19) (.seq (.region Zif [6]) .ret) (.seq (.region Zig [1, 2, 3, 28]) (.cond (.t 28) (.seq (.region Zih [6]) .ret) .skip))))))) (.seq (.region Zii [1, 2, 3]) (.seq (.seq (.region Zij [1, 2, 48, 49, 50]) (.block 1 (.loop Ziq))) (.seq (.region Zir [6]) .ret))))), [.t 6]⟩
def Zit : List Z2a := [
  ⟨some 2, .mov, [.c (.slc 0 [] true)], none⟩]
def Ziu : List Z2a := [
  ⟨some 3, .mov, [.t 0], none⟩,
  ⟨some 4, .mov, [.t 0], none⟩,
  ⟨some 5, .lens, [.t 4], none⟩,
  ⟨some 6, .mov, [.t 0], none⟩,
  ⟨some 7, .lens, [.t 6], none⟩,
  ⟨some 8, (.clip 1), [.t 3, .t 5, .t 7], none⟩,
  ⟨some 2, .mov, [.t 8], none⟩]
def Ziv : Z2y := ⟨9, (.seq (.region Zit [0]) (.seq (.region Ziu [2]) .ret)), [.t 2]⟩
def Ziw : List Z2a := [
  ⟨some 2, .mov, [.c (.slc 0 [] true)], none⟩]
def Zix : List Z2a := [
  ⟨some 3, .mov, [.t 0], none⟩,
  ⟨some 4, (.isnil false), [.t 3, .c (.slc 0 [] true)], none⟩]
def Ziy : List Z2a := [
  ⟨some 2, .mov, [.c (.slc 0 [] true)], none⟩]
def Ziz : List Z2a := [
  ⟨some 5, (.bsl 1), [], none⟩,
  ⟨some 6, .mov, [.t 0], none⟩,
  ⟨some 7, (.app 1 16), [.t 5, .t 6], none⟩,
  ⟨some 2, .mov, [.t 7], none⟩]
def Zj0 : Z2y := ⟨8, (.seq (.region Ziw [0]) (.seq (.seq (.region Zix [0, 4]) (.cond (.t 4) (.seq (.region Ziy [2]) .ret) .skip)) (.seq (.region Ziz [2]) .ret))), [.t 2]⟩
def Zj1 : List Z2a := [
  ⟨some 2, .mov, [.c (.slc 0 [] true)], none⟩]
def Zj2 : List Z2a := [
  ⟨some 3, .mov, [.t 0], none⟩,
  ⟨some 4, .mov, [.t 0], none⟩,
  ⟨some 5, .lens, [.t 4], none⟩,
  ⟨some 6, .mov, [.t 0], none⟩,
  ⟨some 7, .lens, [.t 6], none⟩,
  ⟨some 8, (.clip 1), [.t 3, .t 5, .t 7], none⟩,
  ⟨some 2, .mov, [.t 8], none⟩]
def Zj3 : Z2y := ⟨9, (.seq (.region Zj1 [0]) (.seq (.region Zj2 [2]) .ret)), [.t 2]⟩
end Go.Abs
namespace Go.Abs
open Go Go.Proofs
theorem Zlb : Z2z Try.prog [] Ze2 = some Zhc.erase := by kernel_rfl
theorem Zlc : Z2z Try.prog [] Ze3 = some Zhf.erase := by kernel_rfl
theorem Zlf : Z2z Try.prog [] Zf9 = some Zis.erase := by kernel_rfl
theorem Zlg : Z2z Try.prog [] Zfa = some Ziv.erase := by kernel_rfl
theorem Zlh : Z2z Try.prog [] Zfb = some Zj0.erase := by kernel_rfl
theorem Zli : Z2z Try.prog [] Zfc = some Zj3.erase := by kernel_rfl
end Go.Abs
namespace Go.Abs
open Go Go.Proofs
set_option linter.unusedVariables false
set_option linter.unusedSimpArgs false
set_option maxHeartbeats 4000000
attribute [local irreducible] AWp aops KP
inductive Ty.Fit : Ty → Prop
  | mk {t : Ty} (h1 : t.kids.length ≤ 140737488355328) (h2 : t.names.length ≤ 140737488355328) (h4 : ∀ s ∈ t.names, s.length ≤ maxLen) (h : ∀ k ∈ t.kids, Ty.Fit k) : Ty.Fit t
theorem Zmy : ∀ (t : Ty) (deep n : Nat), n ≤ 100 → (chk deep n t).1 ≤ 100 := by
  refine Ty.ind fun k ns ks l p s ih deep n hn => ?_
  have hL : ∀ (ks : List Ty), (∀ t ∈ ks, ∀ (deep n : Nat), n ≤ 100 → (chk deep n t).1 ≤ 100) → ∀ deep n, n ≤ 100 → (chkL deep n ks).1 ≤ 100 := by
    intro ks
    induction ks with
    | nil => intro _ deep n hn; simpa [chkL] using hn
    | cons t ts ih2 =>
      intro h deep n hn
      rw [chkL]
      split
      · exact h t (by simp) deep n hn
      · exact ih2 (fun t ht => h t (by simp [ht])) deep _ (h t (by simp) deep n hn)
  rw [chk]
  split
  · exact hn
  · split
    · exact hn
    · exact hL ks ih (deep + 1) (n + 1) (by omega)
theorem Zmz : ∀ (t : Ty) (deep n : Nat), (chk deep n t).2 ≤ 5 := by
  refine Ty.ind fun k ns ks l p s ih deep n => ?_
  have hL : ∀ (ks : List Ty), (∀ t ∈ ks, ∀ (deep n : Nat), (chk deep n t).2 ≤ 5) → ∀ deep n, (chkL deep n ks).2 ≤ 5 := by
    intro ks
    induction ks with
    | nil => intro _ deep n; simp [chkL]
    | cons t ts ih2 =>
      intro h deep n
      rw [chkL]
      split
      · exact h t (by simp) deep n
      · exact ih2 (fun t ht => h t (by simp [ht])) deep _
  rw [chk]
  split
  · simp
  · split
    · simp only [ownF]; split <;> (try split) <;> simp
    · exact hL ks ih (deep + 1) (n + 1)
theorem Zn0 : ∀ (t : Ty), t.Fit → ∀ (deep n b : Nat), deep ≤ 17 → n ≤ 100 → ∀ σ, Z1q Try.prog Zf9 [encT t, .int .i64 (deep : Int), .ptr b 0 0] ((b, .cells 1 [.int .i64 (n : Int)]) :: σ) fun r σ' => r = .int .i64 ((chk deep n t).2 : Int) ∧ σ' = (b, .cells 1 [.int .i64 ((chk deep n t).1 : Int)]) :: σ := by
  refine Ty.ind fun k ns ks l p s ih hfit deep n b hd hn σ => ?_
  cases hfit with
  | mk hk1 hn1 hn4 hkids =>
  have hright := Zmx (.mk k ns ks l p s) hk1 hn1 hn4
  simp only [encT, Ty.kind, Ty.names, Ty.kids, Ty.len, Ty.prec, Ty.scale] at *
  refine Z8t rfl Zlf (Nat.le_of_ble_eq_true rfl) ?_
  refine Z9z ?_
  refine Z9j rfl (Z0.fit_iff.1 rfl) fun pb hpb => ?_
  (repeat (refine st_q rfl rfl rfl ?_))
  (refine Z8y ?_; (repeat (first | refine Z9v rfl ?_ | refine Z9w ?_)); refine Z9u ?_)
  refine Zb3 (d := 3) (cs := [.int .i64 k, .slc 1 (ns.map .str) false, .slc 6 (Zln ks) false, .int .i64 l, .int .i64 p, .int .i64 s]) rfl ?_
  (repeat (first | refine st_q rfl rfl rfl ?_ | refine awp_seq ?_ | refine Zbm (fun _ _ => rfl) ?_ | refine Z8h ?_))
  by_cases g1 : 16 < deep
  · (rw [show decide ((16 : Int) < (deep : Int)) = true from decide_eq_true (by omega)])
    (repeat (first | refine st_q rfl rfl rfl ?_ | refine Z8w rfl ?_ | (refine Z8y ?_; (repeat (first | refine Z9v rfl ?_ | refine Z9w ?_)); refine Z9u ?_) | refine awp_seq ?_ | refine Zbm (fun _ _ => rfl) ?_ | refine Z8f (t := true) rfl (fun _ => ?_) (fun e => by cases e)))
    refine Z8d ?_
    exact ares rfl (HSub.refl _) ⟨by rw [chk, if_pos (.inl g1)]; rfl, by rw [chk, if_pos (.inl g1)]⟩
  (rw [show decide ((16 : Int) < (deep : Int)) = false from decide_eq_false (by omega)])
  (repeat refine Z8v rfl (st_q rfl rfl rfl ?_))
  refine Z8v rfl (Z92 rfl Z8z rfl rfl ?_)
  (repeat (first | refine st_q rfl rfl rfl ?_ | refine Z8v rfl (st_q rfl rfl rfl ?_) | (refine Z8y ?_; (repeat (first | refine Z9v rfl ?_ | refine Z9w ?_)); refine Z9u ?_)))
  by_cases g2 : 100 ≤ n
  · (rw [show decide ((100 : Int) ≤ (n : Int)) = true from decide_eq_true (by omega)])
    (repeat (first | refine st_q rfl rfl rfl ?_ | (refine Z8y ?_; (repeat (first | refine Z9v rfl ?_ | refine Z9w ?_)); refine Z9u ?_) | refine awp_seq ?_ | refine Zbm (fun _ _ => rfl) ?_ | refine Z8f (t := true) rfl (fun _ => ?_) (fun e => by cases e)))
    refine Z8d ?_
    exact ares rfl (HSub.refl _) ⟨by rw [chk, if_pos (.inr g2)]; rfl, by rw [chk, if_pos (.inr g2)]⟩
  (rw [show decide ((100 : Int) ≤ (n : Int)) = false from decide_eq_false (by omega)])
  (repeat (first | refine st_q rfl rfl rfl ?_ | refine awp_seq ?_ | refine Zbm (fun _ _ => rfl) ?_ | refine Z8f (t := false) rfl (fun e => by cases e) (fun _ => ?_)))
  have hc0 : ¬ (16 < deep ∨ 100 ≤ n) := by omega
  by_cases g3 : k = 5
  · (rw [show decide (k = 5) = true from decide_eq_true (by omega)])
    (repeat (first | refine st_q rfl rfl rfl ?_ | refine Z8w rfl ?_ | (refine Z8y ?_; (repeat (first | refine Z9v rfl ?_ | refine Z9w ?_)); refine Z9u ?_) | refine awp_seq ?_ | refine Zbm (fun _ _ => rfl) ?_ | refine Z8f (t := true) rfl (fun _ => ?_) (fun e => by cases e)))
    have hc1 : ownF k ns ks.length l p s = 5 := by simp [ownF, g3]
    refine Z8d ?_
    exact ares rfl (HSub.refl _) ⟨by rw [chk, if_neg hc0, hc1, if_pos (by decide)]; rfl, by rw [chk, if_neg hc0, hc1, if_pos (by decide)]⟩
  (rw [show decide (k = 5) = false from decide_eq_false (by omega)])
  (repeat (first | refine st_q rfl rfl rfl ?_ | refine Z8v rfl (st_q rfl rfl rfl ?_) | (refine Z8y ?_; (repeat (first | refine Z9v rfl ?_ | refine Z9w ?_)); refine Z9u ?_)))
  by_cases g4 : k = 6
  · (rw [show decide (k = 6) = true from decide_eq_true (by omega)])
    (repeat (first | refine st_q rfl rfl rfl ?_ | (refine Z8y ?_; (repeat (first | refine Z9v rfl ?_ | refine Z9w ?_)); refine Z9u ?_) | refine awp_seq ?_ | refine Zbm (fun _ _ => rfl) ?_ | refine Z8f (t := true) rfl (fun _ => ?_) (fun e => by cases e)))
    have hc1 : ownF k ns ks.length l p s = 5 := by simp [ownF, g4]
    refine Z8d ?_
    exact ares rfl (HSub.refl _) ⟨by rw [chk, if_neg hc0, hc1, if_pos (by decide)]; rfl, by rw [chk, if_neg hc0, hc1, if_pos (by decide)]⟩
  (rw [show decide (k = 6) = false from decide_eq_false (by omega)])
  (repeat (first | refine st_q rfl rfl rfl ?_ | refine awp_seq ?_ | refine Zbm (fun _ _ => rfl) ?_ | refine Z8f (t := false) rfl (fun e => by cases e) (fun _ => ?_)))
  by_cases g5 : k < 0
  · (rw [show decide (k < 0) = true from decide_eq_true (by omega)])
    (repeat (first | refine st_q rfl rfl rfl ?_ | refine Z8w rfl ?_ | (refine Z8y ?_; (repeat (first | refine Z9v rfl ?_ | refine Z9w ?_)); refine Z9u ?_) | refine awp_seq ?_ | refine Zbm (fun _ _ => rfl) ?_ | refine Z8f (t := true) rfl (fun _ => ?_) (fun e => by cases e)))
    have hc1 : ownF k ns ks.length l p s = 1 := by simp [ownF, g3, g4, g5]
    refine Z8d ?_
    exact ares rfl (HSub.refl _) ⟨by rw [chk, if_neg hc0, hc1, if_pos (by decide)]; rfl, by rw [chk, if_neg hc0, hc1, if_pos (by decide)]⟩
  (rw [show decide (k < 0) = false from decide_eq_false (by omega)])
  (repeat (first | refine st_q rfl rfl rfl ?_ | refine Z8v rfl (st_q rfl rfl rfl ?_)))
  by_cases g6 : 17 < k
  · (rw [show decide (17 < k) = true from decide_eq_true (by omega)])
    (repeat (first | refine st_q rfl rfl rfl ?_ | refine Z8w rfl ?_ | (refine Z8y ?_; (repeat (first | refine Z9v rfl ?_ | refine Z9w ?_)); refine Z9u ?_) | refine awp_seq ?_ | refine Zbm (fun _ _ => rfl) ?_ | refine Z8f (t := true) rfl (fun _ => ?_) (fun e => by cases e)))
    have hc1 : ownF k ns ks.length l p s = 1 := by simp [ownF, g3, g4, g6]
    refine Z8d ?_
    exact ares rfl (HSub.refl _) ⟨by rw [chk, if_neg hc0, hc1, if_pos (by decide)]; rfl, by rw [chk, if_neg hc0, hc1, if_pos (by decide)]⟩
  (rw [show decide (17 < k) = false from decide_eq_false (by omega)])
  (repeat refine Z8v rfl (st_q rfl rfl rfl ?_))
  refine Z8v rfl (Z9t rfl (hright _) ?_)
  cases hR : Zlw k ns ks.length l p s with
  | false =>
    (repeat (first | refine st_q rfl rfl rfl ?_ | refine Z8v rfl (st_q rfl rfl rfl ?_) | (refine Z8y ?_; (repeat (first | refine Z9v rfl ?_ | refine Z9w ?_)); refine Z9u ?_) | refine awp_seq ?_ | refine Zbm (fun _ _ => rfl) ?_ | refine Z8f (t := true) rfl (fun _ => ?_) (fun e => by cases e)))
    have hc1 : ownF k ns ks.length l p s = 1 := by simp [ownF, g3, g4, hR]
    refine Z8d ?_
    exact ares rfl (HSub.refl _) ⟨by rw [chk, if_neg hc0, hc1, if_pos (by decide)]; rfl, by rw [chk, if_neg hc0, hc1, if_pos (by decide)]⟩
  | true =>
    have hc1 : ownF k ns ks.length l p s = 0 := by simp [ownF, g3, g4, hR]; omega
    have hchk : chk deep n (.mk k ns ks l p s) = chkL (deep + 1) (n + 1) ks := by rw [chk, if_neg hc0, hc1]; simp
    rw [hchk]
    (repeat (first | refine st_q rfl rfl rfl ?_ | refine Z8v rfl (st_q rfl rfl rfl ?_) | (refine Z8y ?_; (repeat (first | refine Z9v rfl ?_ | refine Z9w ?_)); refine Z9u ?_) | refine awp_seq ?_ | refine Zbm (fun _ _ => rfl) ?_ | refine Zbn (fun _ _ => rfl) ?_ | refine Z8f (t := false) rfl (fun e => by cases e) (fun _ => ?_)))
    refine Z92 rfl Z8z rfl rfl ?_
    (repeat refine st_q rfl rfl rfl ?_)
    refine Z9a rfl Z8z rfl (by decide) (Z0.fit_iff.1 rfl) (fun _ => ⟨rfl, rfl⟩) Z9b ?_
    rw [show IntKind.wrap .i64 ((n : Int) + 1) = ((n + 1 : Nat) : Int) by rw [w64 _ (by omega) (by omega)]; omega]
    (repeat (first | refine st_q rfl rfl rfl ?_ | (refine Z8y ?_; (repeat (first | refine Z9v rfl ?_ | refine Z9w ?_)); refine Z9u ?_) | refine awp_seq ?_ | refine Zbm (fun _ _ => rfl) ?_ | refine Z8h ?_))
    refine Zaa (fun m F σ' => ∃ (i n' : Nat), F = fset 1 (some (.int .i64 (deep : Int))) (fset 2 (some (.ptr b 0 0)) (fset 48 (some (.slc 6 (Zln ks) false)) (fset 49 (some (.int .i64 (ks.length : Int))) (fset 50 (some (.int .i64 (i : Int))) Z27)))) ∧
      σ' = (b, .cells 1 [.int .i64 (n' : Int)]) :: σ ∧ i ≤ ks.length ∧ n' ≤ 100 ∧ chkL (deep + 1) (n + 1) ks = chkL (deep + 1) n' (ks.drop i) ∧ m = ks.length - i) (n := ks.length)
      ⟨0, n + 1, by rw [Zlr]; rfl, rfl, by omega, by omega, rfl, rfl⟩ ?_
    rintro m F σ' ⟨i, n', rfl, rfl, hi, hn', hch, rfl⟩
    (repeat (first | refine st_q rfl rfl rfl ?_ | (refine Z8y ?_; (repeat (first | refine Z9v rfl ?_ | refine Z9w ?_)); refine Z9u ?_) | refine awp_seq ?_ | refine Zbm (fun _ _ => rfl) ?_))
    refine Za3 (p := (i : Int) < (ks.length : Int)) rfl (fun h3 => ?_) (fun h3 => ?_)
    · have hil : i < ks.length := by omega
      have hx : (Zln ks)[(i : Int).toNat]? = some (encT ks[i]) := Zls (by rw [Int.toNat_natCast, List.getElem?_eq_getElem hil])
      have hdrop : ks.drop i = ks[i] :: ks.drop (i + 1) := List.drop_eq_getElem_cons hil
      (repeat (first | refine awp_seq ?_ | refine Zbm (fun _ _ => rfl) ?_ | refine Z8h ?_ | refine Zbn (fun _ _ => rfl) ?_))
      refine Z93 rfl (by omega) hx ?_
      rw [Zlp]
      (repeat refine st_q rfl rfl rfl ?_)
      refine Z9k (by simp [Z0.cells, Z0.one]) fun vb hvb => ?_
      refine Z9a rfl Z8z rfl (by decide) (Z0.fit_iff.1 rfl) (fun h => by cases h) Z9b ?_
      (refine Z8y ?_; (repeat (first | refine Z9v rfl ?_ | refine Z9w ?_)); refine Z9u ?_)
      refine Zb3 (d := 8) (cs := Zlo ks[i]) rfl ?_
      (repeat (first | refine st_q rfl rfl rfl ?_ | refine awp_seq ?_ | refine Zbm (fun _ _ => rfl) ?_))
      rw [show IntKind.wrap .i64 ((deep : Int) + 1) = ((deep + 1 : Nat) : Int) by rw [w64 _ (by omega) (by omega)]; omega]
      skip
      have hcw := ih ks[i] (List.getElem_mem hil) (hkids _ (List.getElem_mem hil)) (deep + 1) n' b (by omega) hn' σ
      rw [Zlp] at hcw
      refine Z9t rfl hcw ?_
      (repeat (first | refine st_q rfl rfl rfl ?_ | (refine Z8y ?_; (repeat (first | refine Z9v rfl ?_ | refine Z9w ?_)); refine Z9u ?_) | refine awp_seq ?_ | refine Zbm (fun _ _ => rfl) ?_))
      have he := Zmz ks[i] (deep + 1) n'
      have hle := Zmy ks[i] (deep + 1) n' hn'
      rw [hdrop, chkL] at hch
      by_cases g7 : (chk (deep + 1) n' ks[i]).2 = 0
      · rw [if_neg (by omega)] at hch
        (rw [show decide ((((chk (deep + 1) n' ks[i]).2 : Nat) : Int) ≠ 0) = false from decide_eq_false (by omega)])
        (repeat (first | refine Zbn (fun _ _ => rfl) ?_ | refine Z8f (t := false) rfl (fun e => by cases e) (fun _ => ?_)))
        refine Zbp ?_
        (repeat (refine st_q rfl rfl rfl ?_))
        rw [show IntKind.wrap .i64 ((i : Int) + 1) = ((i + 1 : Nat) : Int) by rw [w64 _ (by omega) (by omega)]; omega]
        (refine Z8y ?_; (repeat (first | refine Z9v rfl ?_ | refine Z9w ?_)); refine Z9u ?_)
        exact ⟨_, ks.length - (i + 1), HSub.refl _, ⟨i + 1, _, rfl, rfl, by omega, hle, hch, rfl⟩, by omega⟩
      · rw [if_pos g7] at hch
        (rw [show decide ((((chk (deep + 1) n' ks[i]).2 : Nat) : Int) ≠ 0) = true from decide_eq_true (by omega)])
        (repeat (first | refine st_q rfl rfl rfl ?_ | (refine Z8y ?_; (repeat (first | refine Z9v rfl ?_ | refine Z9w ?_)); refine Z9u ?_) | refine awp_seq ?_ | refine Zbm (fun _ _ => rfl) ?_ | refine Z8f (t := true) rfl (fun _ => ?_) (fun e => by cases e)))
        refine Z8d ?_
        exact ares rfl (HSub.refl _) ⟨by rw [hch]; rfl, by rw [hch]⟩
    · (repeat (first | refine st_q rfl rfl rfl ?_ | (refine Z8y ?_; (repeat (first | refine Z9v rfl ?_ | refine Z9w ?_)); refine Z9u ?_) | refine awp_seq ?_ | refine Zbm (fun _ _ => rfl) ?_ | refine Zbo (fun _ _ => rfl) ?_))
      have hd0 : ks.drop i = [] := List.drop_of_length_le (by omega)
      rw [hd0, chkL] at hch
      refine Z8d ?_
      exact ares rfl (HSub.refl _) ⟨by rw [hch]; rfl, by rw [hch]⟩
theorem Zn1 (t : Ty) (h : t.Fit) (σ : Zc) : Z1q Try.prog Ze2 [encT t] σ fun r σ' => r = .int .i64 (Zlx t : Int) ∧ σ' = σ := by
  have hw := fun b => Zn0 t h 1 0 b (by omega) (by omega) σ
  rw [Zlp] at *
  refine Z8t rfl Zlb (Nat.le_of_ble_eq_true rfl) ?_
  refine Z9z ?_
  refine Z9j rfl (Z0.fit_iff.1 rfl) fun pb hpb => ?_
  (repeat (refine st_q rfl rfl rfl ?_))
  (refine Z8y ?_; (repeat (first | refine Z9v rfl ?_ | refine Z9w ?_)); refine Z9u ?_)
  refine Zb3 (d := 1) (cs := Zlo t) rfl ?_
  (repeat (first | refine awp_seq ?_ | refine Zbm (fun _ _ => rfl) ?_))
  refine Z9k (by simp [Z0.cells, Z0.one]) fun vb hvb => ?_
  refine Z9a rfl Z8z rfl (by decide) (Z0.fit_iff.1 rfl) (fun h => ⟨rfl, rfl⟩) Z9b ?_
  (repeat (first | refine st_q rfl rfl rfl ?_ | (refine Z8y ?_; (repeat (first | refine Z9v rfl ?_ | refine Z9w ?_)); refine Z9u ?_) | refine awp_seq ?_ | refine Zbm (fun _ _ => rfl) ?_))
  refine Z9t rfl (hw vb) ?_
  (repeat (first | refine st_q rfl rfl rfl ?_ | (refine Z8y ?_; (repeat (first | refine Z9v rfl ?_ | refine Z9w ?_)); refine Z9u ?_)))
  refine Z8d ?_
  exact ares rfl (HSub.tail _ _) ⟨rfl, rfl⟩
end Go.Abs
namespace Go.Abs
open Go Go.Proofs
set_option linter.unusedVariables false
set_option linter.unusedSimpArgs false
set_option maxHeartbeats 4000000
attribute [local irreducible] AWp aops KP
end Go.Abs
namespace Go.Abs
open Go Go.Proofs
set_option linter.unusedVariables false
set_option linter.unusedSimpArgs false
set_option maxHeartbeats 4000000
attribute [local irreducible] AWp aops KP
end Go.Abs
namespace Go.Abs
open Go Go.Proofs
set_option linter.unusedVariables false
set_option linter.unusedSimpArgs false
set_option maxHeartbeats 4000000
attribute [local irreducible] AWp aops KP
theorem Zn5 (xs : List Z0) (f : Bool) (σ : Zc) : Z1q Try.prog Zfa [.slc 1 xs f] σ fun r σ' => r = .slc 1 xs true ∧ σ' = σ := by
  refine Z8t rfl Zlg (Nat.le_of_ble_eq_true rfl) ?_
  (repeat (first | refine st_q rfl rfl rfl ?_ | (refine Z8y ?_; (repeat (first | refine Z9v rfl ?_ | refine Z9w ?_)); refine Z9u ?_) | refine awp_seq ?_ | refine Zbm (fun _ _ => rfl) ?_))
  refine Z9r rfl (by omega) (by omega) ?_
  rw [Int.toNat_natCast, List.take_length]
  (repeat (first | refine st_q rfl rfl rfl ?_ | (refine Z8y ?_; (repeat (first | refine Z9v rfl ?_ | refine Z9w ?_)); refine Z9u ?_)))
  refine Z8d ?_
  exact ares rfl (HSub.refl _) ⟨rfl, rfl⟩
theorem Zn7 (xs : List Z0) (f : Bool) (σ : Zc) : Z1q Try.prog Zfc [.slc 1 xs f] σ fun r σ' => r = .slc 1 xs true ∧ σ' = σ := by
  refine Z8t rfl Zli (Nat.le_of_ble_eq_true rfl) ?_
  (repeat (first | refine st_q rfl rfl rfl ?_ | (refine Z8y ?_; (repeat (first | refine Z9v rfl ?_ | refine Z9w ?_)); refine Z9u ?_) | refine awp_seq ?_ | refine Zbm (fun _ _ => rfl) ?_))
  refine Z9r rfl (by omega) (by omega) ?_
  rw [Int.toNat_natCast, List.take_length]
  (repeat (first | refine st_q rfl rfl rfl ?_ | (refine Z8y ?_; (repeat (first | refine Z9v rfl ?_ | refine Z9w ?_)); refine Z9u ?_)))
  refine Z8d ?_
  exact ares rfl (HSub.refl _) ⟨rfl, rfl⟩
theorem Zn8 {v : Z0} {xs : List Z0} {β : Zc} (ho : Zbr 1 v xs β) (σ : Zc) : Z1q Try.prog Zfc [v] (β ++ σ) fun r σ' => r = .slc 1 xs true ∧ σ' = σ := by
  rcases ho with ⟨⟨z, rfl⟩, rfl, rfl⟩ | ⟨b, rfl, rfl⟩
  · exact Z1q.args (VRle.nil_slc z 1 true) (Zn7 [] true σ)
  refine Z8t rfl Zli (Nat.le_of_ble_eq_true rfl) ?_
  (repeat (first | refine st_q rfl rfl rfl ?_ | (refine Z8y ?_; (repeat (first | refine Z9v rfl ?_ | refine Z9w ?_)); refine Z9u ?_) | refine awp_seq ?_ | refine Zbm (fun _ _ => rfl) ?_))
  refine Z9q rfl Z8z (by omega) (by omega) (by omega) Z9h ?_
  rw [List.drop_zero, Int.toNat_natCast, List.take_length]
  (repeat (first | refine st_q rfl rfl rfl ?_ | (refine Z8y ?_; (repeat (first | refine Z9v rfl ?_ | refine Z9w ?_)); refine Z9u ?_)))
  refine Z8d ?_
  exact ares rfl (HSub.refl _) ⟨rfl, rfl⟩
theorem Zn9 (xs : List Z0) (f : Bool) (σ : Zc) : Z1q Try.prog Ze3 [.slc 8 xs f] σ fun r σ' => r = .slc 8 xs true ∧ σ' = σ := by
  refine Z8t rfl Zlc (Nat.le_of_ble_eq_true rfl) ?_
  (repeat (first | refine st_q rfl rfl rfl ?_ | (refine Z8y ?_; (repeat (first | refine Z9v rfl ?_ | refine Z9w ?_)); refine Z9u ?_) | refine awp_seq ?_ | refine Zbm (fun _ _ => rfl) ?_))
  refine Z9r rfl (by omega) (by omega) ?_
  rw [Int.toNat_natCast, List.take_length]
  (repeat (first | refine st_q rfl rfl rfl ?_ | (refine Z8y ?_; (repeat (first | refine Z9v rfl ?_ | refine Z9w ?_)); refine Z9u ?_)))
  refine Z8d ?_
  exact ares rfl (HSub.refl _) ⟨rfl, rfl⟩
theorem Zna {v : Z0} {xs : List Z0} {β : Zc} (ho : Zbr 8 v xs β) (σ : Zc) : Z1q Try.prog Ze3 [v] (β ++ σ) fun r σ' => r = .slc 8 xs true ∧ σ' = σ := by
  rcases ho with ⟨⟨z, rfl⟩, rfl, rfl⟩ | ⟨b, rfl, rfl⟩
  · exact Z1q.args (VRle.nil_slc z 8 true) (Zn9 [] true σ)
  refine Z8t rfl Zlc (Nat.le_of_ble_eq_true rfl) ?_
  (repeat (first | refine st_q rfl rfl rfl ?_ | (refine Z8y ?_; (repeat (first | refine Z9v rfl ?_ | refine Z9w ?_)); refine Z9u ?_) | refine awp_seq ?_ | refine Zbm (fun _ _ => rfl) ?_))
  refine Z9q rfl Z8z (by omega) (by omega) (by omega) Z9h ?_
  rw [List.drop_zero, Int.toNat_natCast, List.take_length]
  (repeat (first | refine st_q rfl rfl rfl ?_ | (refine Z8y ?_; (repeat (first | refine Z9v rfl ?_ | refine Z9w ?_)); refine Z9u ?_)))
  refine Z8d ?_
  exact ares rfl (HSub.refl _) ⟨rfl, rfl⟩
theorem Znb (xs : List Z0) (f : Bool) (he : ∀ x ∈ xs, x.elem 1) (hb : xs.length * 16 ≤ 140737488355328) (σ : Zc) : Z1q Try.prog Zfb [.slc 1 xs f] σ fun r σ' => r = .slc 1 xs false ∧ σ' = σ := by
  refine Z8t rfl Zlh (Nat.le_of_ble_eq_true rfl) ?_
  have key : ∀ t : Bool, (t = true → xs = []) → AWp Try.prog Zj0.n (.cond (.t 4) (.seq (.region Ziy [2]) .ret) .skip) (Z8e Try.prog Zj0.n (Zj0.code.snd 2) (ARet Zj0.res fun r σ' => r = .slc 1 xs false ∧ σ' = σ))
      (fset 0 (some (.slc 1 xs f)) (fset 4 (some (.bool t)) Z27)) σ := by
    intro t ht
    cases t with
    | true =>
      (repeat (first | refine st_q rfl rfl rfl ?_ | (refine Z8y ?_; (repeat (first | refine Z9v rfl ?_ | refine Z9w ?_)); refine Z9u ?_) | refine awp_seq ?_ | refine Zbm (fun _ _ => rfl) ?_ | refine Z8f (t := true) rfl (fun _ => ?_) (fun e => by cases e)))
      refine Z8d ?_
      refine Zau rfl ?_ (HSub.refl _) ⟨rfl, rfl⟩
      rw [ht rfl]
      exact VRle.trans (VRle.nil_slc 0 1 true) VRle.full
    | false =>
      (repeat (first | refine st_q rfl rfl rfl ?_ | refine awp_seq ?_ | refine Zbm (fun _ _ => rfl) ?_ | refine Zbn (fun _ _ => rfl) ?_ | refine Z8f (t := false) rfl (fun e => by cases e) (fun _ => ?_)))
      refine Z9p rfl (ys := xs) (by simp [Z1m]) (by simpa using hb) fun b hb => ?_
      (repeat (first | refine st_q rfl rfl rfl ?_ | (refine Z8y ?_; (repeat (first | refine Z9v rfl ?_ | refine Z9w ?_)); refine Z9u ?_)))
      refine Z8d ?_
      exact Zbu rfl (Zb6.one (Zb6.freeze rfl)) ⟨rfl, rfl⟩
  (repeat (first | refine st_q rfl rfl rfl ?_ | (refine Z8y ?_; (repeat (first | refine Z9v rfl ?_ | refine Z9w ?_)); refine Z9u ?_) | refine awp_seq ?_ | refine Zbm (fun _ _ => rfl) ?_))
  refine Z8u rfl ?_
  refine ⟨fun _ => ?_, fun hx t => ?_⟩
  · (refine Z8y ?_; (repeat (first | refine Z9v rfl ?_ | refine Z9w ?_)); refine Z9u ?_)
    exact key false (fun h => by cases h)
  · (refine Z8y ?_; (repeat (first | refine Z9v rfl ?_ | refine Z9w ?_)); refine Z9u ?_)
    exact key t (fun _ => hx)
end Go.Abs
namespace Go.Abs
open Go Go.Proofs
set_option linter.unusedVariables false
set_option linter.unusedSimpArgs false
set_option maxHeartbeats 4000000
attribute [local irreducible] AWp aops KP
inductive Ty.Small : Ty → Prop
  | mk {t : Ty} (h1 : t.kids.length ≤ 300) (h2 : t.names.length ≤ 300) (h4 : ∀ s ∈ t.names, s.length ≤ 100) (h : ∀ k ∈ t.kids, Ty.Small k) : Ty.Small t
theorem Ty.Small.fit : ∀ t : Ty, t.Small → t.Fit := by
  refine Ty.ind fun k ns ks l p s ih h => ?_
  cases h with
  | mk h1 h2 h4 h3 => exact .mk (by omega) (by omega) (fun s hs => Nat.le_trans (h4 s hs) (by unfold maxLen; omega)) fun t ht => ih t ht (h3 t ht)
theorem Znc : ∀ ks : List Ty, ks.length ≤ cntL ks
  | [] => by simp [cntL]
  | .mk k ns ks l p s :: ts => by have := Znc ts; simp only [List.length_cons, cntL, cnt]; omega
theorem Znd : ∀ (t : Ty) (deep n : Nat), (chk deep n t).2 = 0 → (chk deep n t).1 = n + cnt t ∧ t.Small ∧ n + cnt t ≤ 100 := by
  refine Ty.ind fun k ns ks l p s ih deep n h => ?_
  have hL : ∀ (ks : List Ty), (∀ t ∈ ks, ∀ (deep n : Nat), (chk deep n t).2 = 0 → (chk deep n t).1 = n + cnt t ∧ t.Small ∧ n + cnt t ≤ 100) → ∀ deep n, n ≤ 100 → (chkL deep n ks).2 = 0 → (chkL deep n ks).1 = n + cntL ks ∧ (∀ t ∈ ks, t.Small) ∧ n + cntL ks ≤ 100 := by
    intro ks
    induction ks with
    | nil => intro _ deep n hn h; simp [chkL, cntL]; exact hn
    | cons t ts ih2 =>
      intro ht deep n hn h
      rw [chkL] at h ⊢
      split at h
      · rename_i hne; exact absurd h hne
      · rename_i hne
        rw [if_neg hne]
        have h1 := ht t (by simp) deep n (by simpa using hne)
        have h2 := ih2 (fun t ht' => ht t (by simp [ht'])) deep (chk deep n t).1 (by omega) h
        refine ⟨by rw [h2.1, h1.1, cntL]; omega, fun u hu => ?_, by rw [cntL]; have := h2.2.2; omega⟩
        rcases List.mem_cons.1 hu with rfl | hu
        · exact h1.2.1
        · exact h2.2.1 u hu
  rw [chk] at h ⊢
  split at h
  · simp at h
  · rename_i hc
    rw [if_neg hc]
    split at h
    · rename_i ho; exact absurd h ho
    · rename_i ho
      rw [if_neg ho]
      have h1 := hL ks ih (deep + 1) (n + 1) (by omega) h
      have hlen := Znc ks
      refine ⟨by rw [h1.1, cnt]; omega, .mk ?_ ?_ ?_ ?_, by rw [cnt]; have := h1.2.2; omega⟩
      · show ks.length ≤ 300
        have := h1.2.2; omega
      · show ns.length ≤ 300
        simp only [ne_eq, Decidable.not_not, ownF] at ho
        split at ho
        · cases ho
        · split at ho
          · cases ho
          · rename_i hr
            simp only [not_or, Bool.not_eq_false] at hr
            have hr' := hr.2.2
            simp only [Zlw, Bool.and_eq_true, Bool.or_eq_true, decide_eq_true_eq, List.isEmpty_iff] at hr'
            obtain ⟨⟨⟨⟨q1, q2⟩, _⟩, _⟩, _⟩ := hr'
            rcases q2 with q2 | q2
            · subst q2
              simp [Zlv] at q1
              have := h1.2.2; omega
            · rw [q2]; simp
      · show ∀ s ∈ ns, s.length ≤ 100
        simp only [ne_eq, Decidable.not_not, ownF] at ho
        split at ho
        · cases ho
        · split at ho
          · cases ho
          · rename_i hr
            simp only [not_or, Bool.not_eq_false] at hr
            have hr' := hr.2.2
            simp only [Zlw, Bool.and_eq_true, Zlu, List.all_eq_true, decide_eq_true_eq] at hr'
            exact fun s hs => (hr'.1.1.2.1 s hs).2
      · exact h1.2.1
theorem Zne : ∀ (ks : List Ty) (a i : Nat) (t : Ty), ks[i]? = some t → Zly a (ks.take (i + 1)) = Zly a (ks.take i) ++ [a + cntL (ks.take i)]
  | [], a, i, t, h => by simp at h
  | u :: ks, a, 0, t, h => by simp [Zly, cntL]
  | u :: ks, a, i + 1, t, h => by
    simp only [List.take_succ_cons, Zly, cntL, List.cons_append]
    rw [Zne ks (a + cnt u) i t (by simpa using h), Nat.add_assoc]
theorem Znf : ∀ (ks : List Ty) (a i : Nat) (parent : Int) (deep : Nat) (t : Ty), ks[i]? = some t → Zm0 a parent deep (ks.take (i + 1)) = Zm0 a parent deep (ks.take i) ++ Zlz (a + cntL (ks.take i)) parent deep t
  | [], a, i, _, _, t, h => by simp at h
  | u :: ks, a, 0, _, _, t, h => by simp at h; subst h; simp [Zm0, cntL]
  | u :: ks, a, i + 1, parent, deep, t, h => by
    simp only [List.take_succ_cons, Zm0, cntL, List.append_assoc]
    rw [Znf ks (a + cnt u) i parent deep t (by simpa using h), Nat.add_assoc]
theorem Zng : ∀ (ks : List Ty) (a : Nat) (parent : Int) (deep : Nat), (Zm0 a parent deep ks).length = cntL ks
  | [], _, _, _ => rfl
  | t :: ts, a, parent, deep => by rw [Zm0, List.length_append, Zm1, Zng ts, cntL]
theorem Znh : ∀ (ks : List Ty) (i : Nat) (t : Ty), ks[i]? = some t → cntL (ks.take (i + 1)) = cntL (ks.take i) + cnt t ∧ cntL (ks.take i) + cnt t ≤ cntL ks
  | [], i, t, h => by simp at h
  | u :: ks, 0, t, h => by simp at h; subst h; simp [cntL]
  | u :: ks, i + 1, t, h => by
    have := Znh ks i t (by simpa using h)
    simp only [List.take_succ_cons, cntL]
    omega
theorem Zni (ns : List (List UInt8)) : ∀ x ∈ ns.map Z0.str, x.elem 1 := fun x hx => by
  obtain ⟨s, _, rfl⟩ := List.mem_map.1 hx
  exact ⟨rfl, fun c hc => by rw [List.mem_singleton.1 hc]; rfl⟩
end Go.Abs
namespace Go.Abs
open Go Go.Proofs
set_option linter.unusedVariables false
set_option linter.unusedSimpArgs false
set_option maxHeartbeats 4000000
attribute [local irreducible] AWp aops KP
end Go.Abs
namespace Go.Abs
open Go Go.Proofs
set_option linter.unusedVariables false
set_option linter.unusedSimpArgs false
set_option maxHeartbeats 4000000
attribute [local irreducible] AWp aops KP
end Go.Abs
namespace Go.Abs
open Go Go.Proofs
set_option linter.unusedVariables false
set_option linter.unusedSimpArgs false
set_option maxHeartbeats 4000000
inductive Ty.Ok : Ty → Prop
  | mk {t : Ty} (h1 : ownF t.kind t.names t.kids.length t.len t.prec t.scale = 0) (h : ∀ k ∈ t.kids, Ty.Ok k) : Ty.Ok t
inductive Vl.Fit : Vl → Prop
  | mk {v : Vl} (h1 : -9223372036854775808 ≤ v.i ∧ v.i ≤ 9223372036854775807) (h2 : v.b.length ≤ 9223372036854775807) (h3 : v.kids.length ≤ 9223372036854775807) (h : ∀ k ∈ v.kids, Vl.Fit k) : Vl.Fit v
theorem Ztu : ∀ (t : Ty) (deep n : Nat), (chk deep n t).2 = 0 → t.Ok := by
  refine Ty.ind fun k ns ks l p s ih deep n h => ?_
  have hL : ∀ (ks : List Ty), (∀ t ∈ ks, ∀ (deep n : Nat), (chk deep n t).2 = 0 → t.Ok) → ∀ deep n, (chkL deep n ks).2 = 0 → ∀ t ∈ ks, t.Ok := by
    intro ks
    induction ks with
    | nil => intro _ deep n h t ht; cases ht
    | cons t ts ih2 =>
      intro ht deep n h u hu
      rw [chkL] at h
      split at h
      · rename_i hne; exact absurd h hne
      · rename_i hne
        rcases List.mem_cons.1 hu with rfl | hu
        · exact ht u (by simp) deep n (by simpa using hne)
        · exact ih2 (fun t ht' => ht t (by simp [ht'])) deep _ h u hu
  rw [chk] at h
  split at h
  · simp at h
  · split at h
    · rename_i ho; exact absurd h ho
    · rename_i ho
      refine .mk ?_ (hL ks ih (deep + 1) (n + 1) h)
      show ownF k ns ks.length l p s = 0
      simpa using ho
theorem Ty.Ok.kinds {t : Ty} (h : t.Ok) : Zlv t.kind t.names.length t.kids.length = true ∧ 0 ≤ t.kind ∧ t.kind ≤ 17 := by
  cases h with
  | mk h1 _ =>
    rw [ownF] at h1
    split at h1
    · cases h1
    · split at h1
      · cases h1
      · rename_i hr
        simp only [not_or, Bool.not_eq_false] at hr
        have := hr.2.2
        simp only [Zlw, Bool.and_eq_true] at this
        exact ⟨this.1.1.1.1, by omega, by omega⟩
theorem Ztv {t : Ty} (h : t.Ok) {i n : Int} {b : List UInt8} {ks j : Nat} (ho : ownV t i n b ks = 0) (hj : j < ks) : Zmf t.kind i j < t.kids.length ∧ (t.kind = 13 → 0 ≤ i) := by
  obtain ⟨h1, h2, h3⟩ := h.kinds
  simp only [ownV] at ho
  split at ho
  · cases ho
  rename_i hA
  simp only [not_or, not_and, Bool.not_eq_false, Bool.not_eq_true] at hA
  obtain ⟨a1, _, a3⟩ := hA
  have hleaf := a3 (by omega)
  simp only [Zlt, Bool.not_eq_false', Bool.or_eq_true, decide_eq_true_eq] at hleaf
  split at ho
  · cases ho
  simp only [Zlv] at h1
  simp only [Zmf]
  by_cases k10 : t.kind = 10
  · rw [if_pos k10] at h1 ⊢
    simp at h1
    exact ⟨by omega, by omega⟩
  rw [if_neg k10] at h1 ⊢
  by_cases k11 : t.kind = 11
  · rw [if_pos k11] at h1 ⊢
    simp at h1
    exact ⟨by omega, by omega⟩
  rw [if_neg k11] at h1 ⊢
  by_cases k13 : t.kind = 13
  · rw [if_pos k13]
    have : decide (0 ≤ i ∧ i < (t.kids.length : Int)) = true := by
      rw [Zme] at a1
      split at a1
      · cases a1
      · simpa [k13] using a1
    simp at this
    exact ⟨by omega, fun _ => this.1⟩
  rw [if_neg k13]
  have k12 : t.kind = 12 := by omega
  rw [if_neg k10, if_neg k11, if_pos k12] at ho
  split at ho
  · cases ho
  · exact ⟨by omega, fun h => absurd h k13⟩
theorem Ztw {t : Ty} (h : t.Ok) {i : Int} {j : Nat} (hlt : Zmf t.kind i j < t.kids.length) : (kidT t i j).Ok := by
  cases h with
  | mk _ hk =>
    refine hk _ ?_
    rw [kidT, List.getD_eq_getElem?_getD, List.getElem?_eq_getElem hlt]
    exact List.getElem_mem hlt
theorem Ztx (t : Ty) (i : Int) : ∀ (ks : List Vl) (j : Nat) (v : Vl), ks[j]? = some v → Zmg t i j (ks.drop j) = if t.kind = 11 ∧ j % 2 = 0 ∧ v.null = true then 1 else if vchk (kidT t i j) v ≠ 0 then vchk (kidT t i j) v else Zmg t i (j + 1) (ks.drop (j + 1)) := by
  intro ks j v h
  obtain ⟨hj, rfl⟩ := List.getElem?_eq_some_iff.1 h
  rw [List.drop_eq_getElem_cons hj, Zmg]
attribute [local irreducible] AWp aops
end Go.Abs
namespace Go.Abs
open Go Go.Proofs
set_option linter.unusedVariables false
set_option linter.unusedSimpArgs false
instance : Inhabited Col := ⟨⟨[], [], [], [], []⟩⟩
def col0 : Col := ⟨[], [], [], [], []⟩
def Zye (k : Int) (v : Vl) (c : Col) : Col :=
  if Zmb k = true then { c with texts := c.texts ++ [v.b] }
  else if k = 10 then { c with lens := c.lens ++ [(v.kids.length : Int)] }
  else if k = 11 then { c with lens := c.lens ++ [((v.kids.length / 2 : Nat) : Int)] }
  else if k ≠ 12 then { c with ints := c.ints ++ [v.i] }
  else c
def Zyf (k : Int) (v : Vl) (c : Col) : Col := if k = 9 then { c with ns := c.ns ++ [v.n] } else c
def Zyg (b : Bool) (c : Col) : Col := { c with here := c.here ++ [b] }
def addC (k : Int) (v : Vl) (c : Col) : Col := Zyf k v (Zye k v (Zyg true c))
def kidC (l : List Nd) (at_ : Nat) (k i : Int) (j : Nat) : Nat :=
  match l[at_]? with
  | some nd => nd.kids.getD (Zmf k i j) 0
  | none => 0
def Zyh (l : List Nd) (at_ : Nat) : Int :=
  match l[at_]? with
  | some nd => nd.t.kind
  | none => 0
mutual
def putF (l : List Nd) (at_ : Nat) : Vl → List Col → List Col × Bool
  | .mk nu i n b ks, cols =>
    if 16384 ≤ (cols.getD at_ col0).here.length then (cols, false)
    else if nu = true then (cols.set at_ (Zyg false (cols.getD at_ col0)), true)
    else putL l at_ i 0 ks (cols.set at_ (addC (Zyh l at_) (.mk nu i n b ks) (cols.getD at_ col0)))
def putL (l : List Nd) (at_ : Nat) (i : Int) (j : Nat) : List Vl → List Col → List Col × Bool
  | [], cols => (cols, true)
  | v :: vs, cols =>
    let r := putF l (kidC l at_ (Zyh l at_) i j) v cols
    if r.2 = true then putL l at_ i (j + 1) vs r.1 else (r.1, false)
end
inductive At (l : List Nd) : Nat → Ty → Prop
  | mk {at_ : Nat} {t : Ty} {nd : Nd} (h : l[at_]? = some nd) (ht : nd.t = t) (hk : nd.kids.length = t.kids.length)
      (hkids : ∀ (j x : Nat) (u : Ty), nd.kids[j]? = some x → t.kids[j]? = some u → At l x u) : At l at_ t
theorem Zyi : ∀ (ks : List Ty) (a : Nat), (Zly a ks).length = ks.length
  | [], _ => rfl
  | t :: ks, a => by rw [Zly, List.length_cons, List.length_cons, Zyi ks]
theorem Zyj : ∀ (ks : List Ty) (a j x : Nat), (Zly a ks)[j]? = some x → x = a + cntL (ks.take j)
  | [], a, j, x, h => by simp [Zly] at h
  | t :: ks, a, 0, x, h => by simp [Zly] at h; simp [cntL, h]
  | t :: ks, a, j + 1, x, h => by
    simp only [Zly, List.getElem?_cons_succ] at h
    rw [Zyj ks _ j x h, List.take_succ_cons, cntL]
    omega
theorem Zyk : ∀ (ks : List Ty) (a j : Nat) (p : Int) (d : Nat) (u : Ty), ks[j]? = some u → ∃ post, Zm0 a p d ks = Zm0 a p d (ks.take j) ++ (Zlz (a + cntL (ks.take j)) p d u ++ post)
  | [], a, j, p, d, u, h => by simp at h
  | t :: ks, a, 0, p, d, u, h => by
    simp only [List.getElem?_cons_zero, Option.some.injEq] at h
    subst h
    exact ⟨Zm0 (a + cnt t) p d ks, by simp only [List.take_zero, cntL, Zm0, List.nil_append, Nat.add_zero]⟩
  | t :: ks, a, j + 1, p, d, u, h => by
    simp only [List.getElem?_cons_succ] at h
    obtain ⟨post, hp⟩ := Zyk ks (a + cnt t) j p d u h
    refine ⟨post, ?_⟩
    rw [Zm0, hp, List.take_succ_cons, Zm0, cntL, List.append_assoc, Nat.add_assoc]
theorem Zyl : ∀ (t : Ty) (pre post : List Nd) (p : Int) (d : Nat), At (pre ++ (Zlz pre.length p d t ++ post)) pre.length t := by
  refine Ty.ind fun k ns ks le pr sc ih pre post p d => ?_
  rw [Zlz]
  refine At.mk (nd := ⟨.mk k ns ks le pr sc, Zly (pre.length + 1) ks, p, d⟩) (by rw [List.getElem?_append_right (Nat.le_refl _), Nat.sub_self]; rfl) rfl (Zyi ks _) fun j x u hx hu => ?_
  have hx' := Zyj _ _ _ _ hx
  have hu' : ks[j]? = some u := hu
  obtain ⟨post', hp⟩ := Zyk ks (pre.length + 1) j (pre.length : Int) (d + 1) u hu'
  have hlen : (Zm0 (pre.length + 1) (pre.length : Int) (d + 1) (ks.take j)).length = cntL (ks.take j) := Zng _ _ _ _
  have := ih u (List.mem_of_getElem? hu') (pre ++ (⟨.mk k ns ks le pr sc, Zly (pre.length + 1) ks, p, d⟩ :: Zm0 (pre.length + 1) (pre.length : Int) (d + 1) (ks.take j))) (post' ++ post) (pre.length : Int) (d + 1)
  have hl2 : (pre ++ ((⟨.mk k ns ks le pr sc, Zly (pre.length + 1) ks, p, d⟩ : Nd) :: Zm0 (pre.length + 1) (pre.length : Int) (d + 1) (ks.take j))).length = x := by
    rw [List.length_append, List.length_cons, hlen, hx']; omega
  rw [hl2] at this
  rw [hp, ← hx']
  simpa [List.append_assoc] using this
theorem At.lt {l : List Nd} {at_ : Nat} {t : Ty} (h : At l at_ t) : at_ < l.length := by
  cases h with
  | mk h _ _ _ => exact (List.getElem?_eq_some_iff.1 h).1
theorem Zym (t : Ty) (h : Zlx t = 0) : At (Zm4 t) 0 t := by
  have := Zyl t [] [] (-1) 1
  rw [Zm4, if_pos h]
  simpa using this
end Go.Abs

