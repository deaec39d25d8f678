/- Part G of a proof: merged by program. -/
import Derived.Test.YtgmefkhincnajaaPkE
import Derived.Test.YtgmefkhincnajaaProg
import Derived.KernelRfl
namespace Go.Abs
open Go
def Z1am : List Z2a := [
  ⟨some 2,(.box 5),[.t 0],none⟩,⟨some 3,(.box 5),[.t 1],none⟩,⟨some 4,.mov,[.c (.bool false)],none⟩]
def Z1an : List Z2a := [
  ⟨some 6,(.fad 0),[.t 2],none⟩,⟨some 7,(.load false 1),[.t 6],none⟩,⟨some 8,(.fad 0),[.t 3],none⟩,⟨some 9,(.load false 1),[.t 8],none⟩,⟨some 10,(.binb .neq),[.t 7,.t 9],none⟩,⟨some 11,.mov,[.t 10],none⟩,⟨some 12,(.fad 1),[.t 2],some (11,false)⟩,⟨some 13,(.load false 1),[.t 12],some (11,false)⟩,⟨some 14,(.fad 1),[.t 3],some (11,false)⟩,⟨some 15,(.load false 1),[.t 14],some (11,false)⟩,⟨some 16,(.bin .neq),[.t 13,.t 15],some (11,false)⟩,⟨some 17,.pick,[.t 11,.c (.bool true),.t 16],none⟩,⟨some 18,.mov,[.t 17],none⟩,⟨some 19,(.fad 2),[.t 2],some (18,false)⟩,⟨some 20,(.load false 1),[.t 19],some (18,false)⟩,⟨some 21,(.fad 2),[.t 3],some (18,false)⟩,⟨some 22,(.load false 1),[.t 21],some (18,false)⟩,⟨some 23,(.bin .neq),[.t 20,.t 22],some (18,false)⟩,⟨some 24,.pick,[.t 18,.c (.bool true),.t 23],none⟩,⟨some 25,.mov,[.t 24],none⟩,⟨some 26,(.fad 3),[.t 2],some (25,false)⟩,⟨some 27,(.load false 1),[.t 26],some (25,false)⟩,⟨some 28,.b2s,[.t 27],some (25,false)⟩,⟨some 29,(.fad 3),[.t 3],some (25,false)⟩,⟨some 30,(.load false 1),[.t 29],some (25,false)⟩,⟨some 31,.b2s,[.t 30],some (25,false)⟩,⟨some 32,(.bin .neq),[.t 28,.t 31],some (25,false)⟩,⟨some 33,.pick,[.t 25,.c (.bool true),.t 32],none⟩,⟨some 34,.mov,[.t 33],none⟩,⟨some 35,(.fad 4),[.t 2],some (34,false)⟩,⟨some 36,(.load false 1),[.t 35],some (34,false)⟩,⟨some 37,.lens,[.t 36],some (34,false)⟩,⟨some 38,(.fad 4),[.t 3],some (34,false)⟩,⟨some 39,(.load false 1),[.t 38],some (34,false)⟩,⟨some 40,.lens,[.t 39],some (34,false)⟩,⟨some 41,(.bin .neq),[.t 37,.t 40],some (34,false)⟩,⟨some 42,.pick,[.t 34,.c (.bool true),.t 41],none⟩]
def Z1ao : List Z2a := [
  ⟨some 4,.mov,[.c (.bool false)],none⟩]
def Z1ap : List Z2a := [
  ⟨some 5,.mov,[.c (.int .i64 0)],none⟩]
def Z1aq : List Z2a := [
  ⟨some 43,.mov,[.t 5],none⟩,⟨some 44,(.fad 4),[.t 2],none⟩,⟨some 45,(.load false 1),[.t 44],none⟩,⟨some 46,.lens,[.t 45],none⟩,⟨some 47,(.bin .lss),[.t 43,.t 46],none⟩]
def Z1ar : List Z2a := [
  ⟨some 50,(.fad 4),[.t 2],none⟩,⟨some 51,(.load false 1),[.t 50],none⟩,⟨some 52,.mov,[.t 5],none⟩,⟨some 53,(.iad 5),[.t 51,.t 52],none⟩,⟨some 54,(.load true 5),[.t 53],none⟩,⟨some 55,(.fad 4),[.t 3],none⟩,⟨some 56,(.load false 1),[.t 55],none⟩,⟨some 57,.mov,[.t 5],none⟩,⟨some 58,(.iad 5),[.t 56,.t 57],none⟩,⟨some 59,(.load true 5),[.t 58],none⟩,⟨some 60,(.call Zd2),[.t 54,.t 59],none⟩,⟨some 61,.unot,[.t 60],none⟩]
def Z1as : List Z2a := [
  ⟨some 4,.mov,[.c (.bool false)],none⟩]
def Z1at : List Z2a := [
  ⟨some 48,.mov,[.t 5],none⟩,⟨some 49,(.bin .add),[.t 48,.c (.int .i64 1)],none⟩,⟨some 5,.mov,[.t 49],none⟩]
def Z1au : Z2b := (.seq (.seq (.region Z1aq [2,3,5,47]) (.cond (.t 47) .skip (.exit 0))) (.seq (.block 1 (.seq (.region Z1ar [2,3,5,61]) (.cond (.t 61) (.seq (.region Z1as [4]) .ret) .skip))) (.region Z1at [2,3,5])))
def Z1av : List Z2a := [
  ⟨some 4,.mov,[.c (.bool true)],none⟩]
def Z1aw : Z2y := ⟨62,(.seq (.region Z1am [2,3,12,13,14,15,16,19,20,21,22,23,26,27,28,29,30,31,32,35,36,37,38,39,40,41]) (.seq (.seq (.region Z1an [2,3,42]) (.cond (.t 42) (.seq (.region Z1ao [4]) .ret) .skip)) (.seq (.seq (.region Z1ap [2,3,5]) (.block 0 (.loop Z1au))) (.seq (.region Z1av [4]) .ret)))),[.t 4]⟩
end Go.Abs
namespace Go.Abs
open Go Go.Proofs
theorem Z1ay : Z2z Try.prog [] Zd2 = some Z1aw.erase := by kernel_rfl
end Go.Abs
namespace Go.Abs
open Go Go.Proofs
set_option linter.unusedVariables false
set_option linter.unusedSimpArgs false
theorem u8_lt (a b : UInt8) : (a < b) ↔ a.toNat < b.toNat := UInt8.lt_iff_toNat_lt
theorem Z1kf : ∀ a b : List UInt8, Lib.compareBytes b a = - Lib.compareBytes a b
  | [], [] => rfl
  | [], _ :: _ => rfl
  | _ :: _, [] => rfl
  | a :: xs, b :: bs => by
    simp only [Lib.compareBytes]
    simp only [u8_lt]
    (repeat' split) <;> first | omega | exact Z1kf xs bs | rfl
theorem Z1kg : ∀ a b c : List UInt8, Lib.compareBytes a b < 0 → Lib.compareBytes b c ≤ 0 → Lib.compareBytes a c < 0
  | [], [], _, h, _ => by simp [Lib.compareBytes] at h
  | [], _ :: _, [], _, h => by simp [Lib.compareBytes] at h
  | [], _ :: _, _ :: _, _, _ => by simp [Lib.compareBytes]
  | _ :: _, [], _, h, _ => by simp [Lib.compareBytes] at h
  | _ :: _, _ :: _, [], _, h => by simp [Lib.compareBytes] at h
  | a :: xs, b :: bs, c :: cs, h1, h2 => by
    simp only [Lib.compareBytes, u8_lt] at h1 h2 ⊢
    split at h1
    · split at h2
      · rw [if_pos (by omega)]; omega
      · split at h2
        · omega
        · rw [if_pos (by omega)]; omega
    · split at h1
      · omega
      · split at h2
        · rw [if_pos (by omega)]; omega
        · split at h2
          · omega
          · rw [if_neg (by omega), if_neg (by omega)]
            exact Z1kg xs bs cs h1 h2
theorem Z1kh {k : Int} (hk : Zlt k = true) (a b : Vl) (ha : a.null = false) (hb : b.null = false) : (cmpV k a b).1 = if Zmb k = true then Lib.compareBytes a.b b.b else if cmpI a.i b.i ≠ 0 then cmpI a.i b.i else cmpI a.n b.n := by
  have h : ¬ (Zlt k = false ∨ a.null = true ∨ b.null = true) := by simp [hk, ha, hb]
  unfold cmpV
  rw [if_neg h]
  split <;> rfl
theorem Z1ki {k : Int} (hk : Zlt k = true) (a b : Vl) (ha : a.null = false) (hb : b.null = false) : (cmpV k b a).1 = - (cmpV k a b).1 := by
  rw [Z1kh hk b a hb ha, Z1kh hk a b ha hb]
  cases Zmb k with
  | true => exact Z1kf _ _
  | false =>
    simp only [Bool.false_eq_true, if_false, cmpI]
    (repeat' split) <;> omega
theorem Z1kj (x y u v : Int) : (if cmpI x y ≠ 0 then cmpI x y else cmpI u v) < 0 ↔ x < y ∨ (x = y ∧ u < v) := by
  unfold cmpI
  rcases Int.lt_trichotomy x y with h | h | h
  · simp [h]
  · subst h
    simp only [Int.lt_irrefl, if_false, ne_eq, not_true_eq_false, false_or, true_and]
    (repeat' split) <;> omega
  · rw [if_neg (show ¬ x < y by omega), if_pos h]
    simp
    omega
theorem Z1kk (x y u v : Int) : (if cmpI x y ≠ 0 then cmpI x y else cmpI u v) ≤ 0 ↔ x < y ∨ (x = y ∧ u ≤ v) := by
  unfold cmpI
  rcases Int.lt_trichotomy x y with h | h | h
  · simp [h]
  · subst h
    simp only [Int.lt_irrefl, if_false, ne_eq, not_true_eq_false, false_or, true_and]
    (repeat' split) <;> omega
  · rw [if_neg (show ¬ x < y by omega), if_pos h]
    simp
    omega
theorem Z1kl {k : Int} (hk : Zlt k = true) (a b c : Vl) (ha : a.null = false) (hb : b.null = false) (hc : c.null = false) (h1 : (cmpV k a b).1 < 0) (h2 : (cmpV k b c).1 ≤ 0) : (cmpV k a c).1 < 0 := by
  rw [Z1kh hk a b ha hb] at h1
  rw [Z1kh hk b c hb hc] at h2
  rw [Z1kh hk a c ha hc]
  cases ht : Zmb k with
  | true =>
    rw [ht] at h1 h2
    exact Z1kg _ _ _ h1 h2
  | false =>
    rw [ht] at h1 h2
    simp only [Bool.false_eq_true, if_false] at h1 h2 ⊢
    rw [Z1kj] at h1 ⊢
    rw [Z1kk] at h2
    omega
theorem Z1km {k : Int} (hk : Zlt k = true) (a b c : Vl) (ha : a.null = false) (hb : b.null = false) (hc : c.null = false) (h1 : (cmpV k a b).1 ≤ 0) (h2 : (cmpV k b c).1 < 0) : (cmpV k a c).1 < 0 := by
  have e1 := Z1ki hk a c ha hc
  have e2 := Z1ki hk a b ha hb
  by_cases h : (cmpV k a c).1 < 0
  · exact h
  · have := Z1kl hk b c a hb hc ha h2 (by omega)
    omega
theorem Z1kn {k : Int} (hk : Zlt k = true) (a : Vl) (ha : a.null = false) : (cmpV k a a).1 = 0 := by
  have := Z1ki hk a a ha ha
  omega
structure Sp where
  has : Bool
  min : Vl
  max : Vl
def spOf (s : Stt) : Sp := ⟨s.has, s.min, s.max⟩
def sp0 : Sp := ⟨false, vl0, vl0⟩
def Z1ko (k : Int) (s : Sp) (v : Vl) : Sp :=
  if Zxk k = true then ⟨true, if s.has = false ∨ (cmpV k v s.min).1 < 0 then v else s.min, if s.has = false ∨ 0 < (cmpV k v s.max).1 then v else s.max⟩ else s
def Z1kp (p : Int × Bool) (a : Int) : Int × Bool := if p.2 = true then addF p.1 a else p
def getsC (c : Col) (n : Nat) : List (Vl × Int) := (List.range n).map fun i => (getV c i, getA c i)
def colN (c : Col) : Nat := max c.ints.length c.texts.length
def valsC (c : Col) : List (Vl × Int) := getsC c (colN c)
def ofL (k : Int) (l : List (Vl × Int)) (s : Stt) : Stt :=
  ⟨s.count, s.null, ((l.map (·.1)).foldl (Z1ko k) (spOf s)).has, ((l.map (·.1)).foldl (Z1ko k) (spOf s)).min, ((l.map (·.1)).foldl (Z1ko k) (spOf s)).max, ((l.map (·.2)).foldl Z1kp (s.sum, s.sums)).2, ((l.map (·.2)).foldl Z1kp (s.sum, s.sums)).1⟩
def spC (k : Int) (c : Col) : Sp := ((valsC c).map (·.1)).foldl (Z1ko k) sp0
def smC (k : Int) (c : Col) : Int × Bool := ((valsC c).map (·.2)).foldl Z1kp (0, Zxj k)
structure Bnd (k : Int) (vs : List Vl) (s : Sp) : Prop where
  nmin : s.min.null = false
  nmax : s.max.null = false
  all : s.has = true → ∀ v ∈ vs, 0 ≤ (cmpV k v s.min).1 ∧ (cmpV k v s.max).1 ≤ 0
  min : s.has = true → s.min ∈ vs
  max : s.has = true → s.max ∈ vs
  none : s.has = false → Zxk k = true → vs = []
  zero : s.has = false → s = sp0
theorem Z1kt {k : Int} (h : Zxk k = true) : Zlt k = true := by
  simp only [Zxk, Bool.and_eq_true] at h
  exact h.1
theorem Bnd.step {k : Int} {vs : List Vl} {s : Sp} (h : Bnd k vs s) (hnr : Zxk k = false → s.has = false) {v : Vl} (hv : v.null = false) : Bnd k (vs ++ [v]) (Z1ko k s v) := by
  obtain ⟨n1, n2, ha, hmi, hma, hno, hz⟩ := h
  unfold Z1ko
  cases hr : Zxk k with
  | false =>
    have hh := hnr hr
    rw [if_neg (by simp)]
    exact ⟨n1, n2, fun e => (by rw [hh] at e; cases e), fun e => (by rw [hh] at e; cases e), fun e => (by rw [hh] at e; cases e), fun _ e => by simp [hr] at e, hz⟩
  | true =>
    rw [if_pos rfl]
    have hk := Z1kt hr
    have hvv := Z1kn hk v hv
    cases hh : s.has with
    | false =>
      rw [if_pos (.inl rfl), if_pos (.inl rfl), hno hh hr]
      refine ⟨hv, hv, fun _ x hx => ?_, fun _ => by simp, fun _ => by simp, fun e => (by cases e), fun e => (by cases e)⟩
      rw [List.mem_singleton.1 hx]
      show 0 ≤ (cmpV k v v).1 ∧ (cmpV k v v).1 ≤ 0
      omega
    | true =>
      have ha' := ha hh
      have a1 := Z1ki hk v s.min hv n1
      have a2 := Z1ki hk v s.max hv n2
      refine ⟨?_, ?_, fun _ x hx => ⟨?_, ?_⟩, fun _ => ?_, fun _ => ?_, fun e => (by cases e), fun e => (by cases e)⟩
      · simp only []; split <;> assumption
      · simp only []; split <;> assumption
      · simp only [Bool.true_eq_false, false_or]
        split
        · rename_i h1
          rcases List.mem_append.1 hx with e | e
          · have h2 := ha' x e
            by_cases hxn : x.null = true
            · have : (cmpV k x v).1 = 0 := by unfold cmpV; rw [if_pos (.inr (.inl hxn))]
              omega
            · have hxn : x.null = false := by simpa using hxn
              have h3 := Z1kl hk v s.min x hv n1 hxn h1 (by have := Z1ki hk x s.min hxn n1; omega)
              have := Z1ki hk x v hxn hv
              omega
          · rw [List.mem_singleton.1 e]; omega
        · rename_i h1
          rcases List.mem_append.1 hx with e | e
          · exact (ha' x e).1
          · rw [List.mem_singleton.1 e]; omega
      · simp only [Bool.true_eq_false, false_or]
        split
        · rename_i h1
          rcases List.mem_append.1 hx with e | e
          · have h2 := ha' x e
            by_cases hxn : x.null = true
            · have : (cmpV k x v).1 = 0 := by unfold cmpV; rw [if_pos (.inr (.inl hxn))]
              omega
            · have hxn : x.null = false := by simpa using hxn
              have h3 := Z1km hk x s.max v hxn n2 hv h2.2 (by omega)
              omega
          · rw [List.mem_singleton.1 e]; omega
        · rename_i h1
          rcases List.mem_append.1 hx with e | e
          · exact (ha' x e).2
          · rw [List.mem_singleton.1 e]; omega
      · simp only [Bool.true_eq_false, false_or]
        split
        · simp
        · exact List.mem_append_left _ (hmi hh)
      · simp only [Bool.true_eq_false, false_or]
        split
        · simp
        · exact List.mem_append_left _ (hma hh)
def Z1kx (k : Int) (a b : Sp) : Sp :=
  if a.has = false then b else if b.has = false then a
  else ⟨true, if (cmpV k b.min a.min).1 < 0 then b.min else a.min, if 0 < (cmpV k b.max a.max).1 then b.max else a.max⟩
def appC (a b : Col) : Col := ⟨a.here ++ b.here, a.ints ++ b.ints, a.ns ++ b.ns, a.texts ++ b.texts, a.lens ++ b.lens⟩
def appCs (xs cs : List Col) : List Col := List.zipWith appC xs cs
theorem Z1kz (b : Bool) (x c : Col) : Zyg b (appC x c) = appC x (Zyg b c) := by simp [Zyg, appC]
theorem Z1l0 (k : Int) (v : Vl) (x c : Col) : addC k v (appC x c) = appC x (addC k v c) := by
  unfold addC Zyf Zye Zyg appC
  (repeat' split) <;> simp
theorem Z22f (f : Col → Col) (hf : ∀ x c, f (appC x c) = appC x (f c)) : ∀ (xs cs : List Col) (i : Nat), xs.length = cs.length → (appCs xs cs).set i (f ((appCs xs cs).getD i col0)) = appCs xs (cs.set i (f (cs.getD i col0)))
  | [], [], i, _ => by simp [appCs]
  | x :: xs, c :: cs, 0, _ => by simp [appCs, hf]
  | x :: xs, c :: cs, i + 1, h => by
    have := Z22f f hf xs cs i (by simpa using h)
    simp only [appCs, List.zipWith_cons_cons, List.set_cons_succ, List.getD_cons_succ] at this ⊢
    rw [this]
  | [], _ :: _, _, h => by simp at h
  | _ :: _, [], _, h => by simp at h
theorem Z22g : ∀ (xs cs : List Col) (i : Nat), xs.length = cs.length → (cs.getD i col0).here.length ≤ ((appCs xs cs).getD i col0).here.length
  | [], [], i, _ => by simp [appCs]
  | x :: xs, c :: cs, 0, _ => by simp [appCs, appC]
  | x :: xs, c :: cs, i + 1, h => by
    have := Z22g xs cs i (by simpa using h)
    simpa [appCs] using this
  | [], _ :: _, _, h => by simp at h
  | _ :: _, [], _, h => by simp at h
theorem Z22h (l : List Nd) : ∀ (v : Vl) (at_ : Nat) (xs cs : List Col), xs.length = cs.length → (putF l at_ v (appCs xs cs)).2 = true → (putF l at_ v cs).2 = true ∧ (putF l at_ v (appCs xs cs)).1 = appCs xs (putF l at_ v cs).1 := by
  refine Vl.ind fun nu i n bs vks ih at_ xs cs hl h => ?_
  have hL : ∀ (vks : List Vl), (∀ v ∈ vks, ∀ (at_ : Nat) (xs cs : List Col), xs.length = cs.length → (putF l at_ v (appCs xs cs)).2 = true → (putF l at_ v cs).2 = true ∧ (putF l at_ v (appCs xs cs)).1 = appCs xs (putF l at_ v cs).1) →
      ∀ (j : Nat) (xs cs : List Col), xs.length = cs.length → (putL l at_ i j vks (appCs xs cs)).2 = true → (putL l at_ i j vks cs).2 = true ∧ (putL l at_ i j vks (appCs xs cs)).1 = appCs xs (putL l at_ i j vks cs).1 := by
    intro vks
    induction vks with
    | nil => intro _ j xs cs _ _; exact ⟨rfl, rfl⟩
    | cons v vs ih2 =>
      intro hv j xs cs hl h
      rw [putL] at h
      split at h
      · rename_i h1
        obtain ⟨g1, g2⟩ := hv v (by simp) _ xs cs hl h1
        rw [g2] at h
        rw [putL, putL, if_pos h1, if_pos g1, g2]
        exact ih2 (fun v h => hv v (List.mem_cons_of_mem _ h)) _ xs _ (by rw [hl, Z1i3]) h
      · cases h
  have hle := Z22g xs cs at_ hl
  rw [putF] at h ⊢
  rw [putF]
  split at h
  · cases h
  · rename_i h1
    rw [if_neg h1, if_neg (by omega)]
    split at h
    · rename_i h2
      rw [if_pos h2, if_pos h2]
      exact ⟨rfl, Z22f (Zyg false) (Z1kz false) xs cs at_ hl⟩
    · rename_i h2
      rw [if_neg h2, if_neg h2]
      rw [Z22f (fun c => addC (Zyh l at_) (.mk nu i n bs vks) c) (Z1l0 _ _) xs cs at_ hl] at h ⊢
      exact hL vks (fun v hm at_ xs cs => ih v hm at_ xs cs) 0 xs _ (by rw [hl, List.length_set]) h
theorem Z22i (l : List Nd) : ∀ (rows : List Vl) (xs cs : List Col), xs.length = cs.length → (Z1i5 l rows (appCs xs cs)).2 = true → (Z1i5 l rows cs).2 = true ∧ (Z1i5 l rows (appCs xs cs)).1 = appCs xs (Z1i5 l rows cs).1
  | [], xs, cs, _, _ => ⟨rfl, rfl⟩
  | v :: vs, xs, cs, hl, h => by
    rw [Z1i5] at h
    split at h
    · rename_i h1
      obtain ⟨g1, g2⟩ := Z22h l v 0 xs cs hl h1
      rw [g2] at h
      rw [Z1i5, Z1i5, if_pos h1, if_pos g1, g2]
      exact Z22i l vs xs _ (by rw [hl, Z1i3]) h
    · cases h
theorem Z22j (l : List Nd) : ∀ (r1 r2 : List Vl) (cs : List Col), Z1i5 l (r1 ++ r2) cs = if (Z1i5 l r1 cs).2 = true then Z1i5 l r2 (Z1i5 l r1 cs).1 else Z1i5 l r1 cs
  | [], r2, cs => by simp [Z1i5]
  | v :: vs, r2, cs => by
    rw [List.cons_append, Z1i5, Z1i5]
    split
    · exact Z22j l vs r2 _
    · simp
theorem Z22k : ∀ (xs : List Col), appCs xs (List.replicate xs.length col0) = xs
  | [] => rfl
  | x :: xs => by
    have := Z22k xs
    simp only [appCs, List.length_cons, List.replicate_succ, List.zipWith_cons_cons] at this ⊢
    rw [this]
    simp [appC, col0]
theorem Z1l1 {t : Ty} {rows : List Vl} (h : (Z1i6 t rows).2 = 0) : Zlx t = 0 ∧ rowsE t rows = 0 ∧ (Z1i5 (Zm4 t) rows (List.replicate (Zm4 t).length col0)).2 = true ∧ (Z1i6 t rows).1 = (Z1i5 (Zm4 t) rows (List.replicate (Zm4 t).length col0)).1 := by
  unfold Z1i6 at h ⊢
  split at h
  · rename_i h0; exact absurd h h0
  · rename_i h0
    split at h
    · rename_i h1; exact absurd h h1
    · rename_i h1
      split at h
      · rename_i h2
        rw [if_neg h0, if_neg h1, if_pos h2]
        exact ⟨by simpa using h0, by simpa using h1, h2, rfl⟩
      · cases h
theorem Z22l {t : Ty} {r1 r2 : List Vl} (h1 : (Z1i6 t r1).2 = 0) (h2 : (Z1i6 t r2).2 = 0) (h : (Z1i6 t (r1 ++ r2)).2 = 0) : (Z1i6 t (r1 ++ r2)).1 = appCs (Z1i6 t r1).1 (Z1i6 t r2).1 := by
  obtain ⟨_, _, a1, a2⟩ := Z1l1 h1
  obtain ⟨_, _, b1, b2⟩ := Z1l1 h2
  obtain ⟨_, _, c1, c2⟩ := Z1l1 h
  rw [Z22j, if_pos a1] at c1 c2
  rw [c2, a2, b2]
  generalize Zm4 t = l at *
  have hlen : (Z1i5 l r1 (List.replicate l.length col0)).1.length = l.length := by rw [Z1jt, List.length_replicate]
  generalize (Z1i5 l r1 (List.replicate l.length col0)).1 = xs at *
  have e := Z22k xs
  rw [hlen] at e
  rw [← e] at c1
  have := Z22i l r2 xs (List.replicate l.length col0) (by rw [hlen, List.length_replicate]) c1
  rw [← this.2, e]
theorem Z1l2 {t : Ty} {rows : List Vl} (h : (Z1i6 t rows).2 = 0) : (Z1i6 t rows).1.length = (Zm4 t).length := by
  rw [(Z1l1 h).2.2.2, Z1jt, List.length_replicate]
structure ColOk (k : Int) (c : Col) : Prop where
  good : c.Good k
  rng : c.Rng
  sm : c.Sm
theorem ColOk.fit {k : Int} {c : Col} (h : ColOk k c) : c.Fit := by
  obtain ⟨_, ⟨h1, h2⟩, ⟨s1, s2, s3, s4, s5⟩⟩ := h
  exact ⟨by omega, by omega, by omega, by omega, by omega, h1, fun t ht => by have := h2 t ht; omega⟩
theorem Z1l3 {t : Ty} {rows : List Vl} (hf : ∀ v ∈ rows, v.Fit) (h : (Z1i6 t rows).2 = 0) {j : Nat} {c : Col} (hc : (Z1i6 t rows).1[j]? = some c) : ColOk (Zyh (Zm4 t) j) c := by
  obtain ⟨h0, h1, h2, h3⟩ := Z1l1 h
  have hok := Z1i8 h1
  rw [h3] at hc
  generalize Zm4 t = l at *
  have hz : ∀ j c, (List.replicate l.length col0)[j]? = some c → c = col0 := fun j c e => List.eq_of_mem_replicate (List.mem_of_getElem? e)
  have hq : ∀ v ∈ rows, v.Sht := fun v hv => Z1jw v t (hf v hv) (hok v hv).1
  have hqk : ∀ v : Vl, v.Sht → ∀ k ∈ v.kids, k.Sht := fun v hv k hk => by cases hv with | mk _ _ h => exact h k hk
  refine ⟨?_, ?_, ?_⟩
  · exact Z1js l (fun j c => c.Good (Zyh l j)) Vl.Sht hqk (fun j c h => Z1k0 h) (fun j c v h _ _ => Z1k1 h) rows _ hq (fun j c e => by rw [hz j c e]; exact Z1k2 _) j c hc
  · exact Z1js l (fun _ c => c.Rng) Vl.Sht hqk (fun j c h => ⟨h.1, h.2⟩) (fun j c v h hv _ => Z1jy h hv) rows _ hq (fun j c e => by rw [hz j c e]; exact ⟨by simp [col0], by simp [col0]⟩) j c hc
  · refine Z1ju l rows _ (fun c hc => ?_) c (List.mem_of_getElem? hc)
    rw [List.eq_of_mem_replicate hc]
    exact ⟨by simp [col0], by simp [col0], by simp [col0], by simp [col0], by simp [col0]⟩
theorem Good.n {k : Int} {c : Col} (h : c.Good k) : (Zmb k = true ∧ c.ints = [] ∧ c.ns = [] ∧ colN c = c.texts.length) ∨ (c.texts = [] ∧ colN c = c.ints.length ∧ (c.ns = [] ∨ c.ns.length = c.ints.length) ∧ (c.ns = [] ↔ (k ≠ 9 ∨ c.ints = []))) := by
  obtain ⟨h1, h2, h3, h4⟩ := h
  unfold colN
  cases ht : Zmb k with
  | true =>
    have := Z1jz ht
    rw [if_pos (.inl ht)] at h2
    rw [if_neg (by omega)] at h3
    exact .inl ⟨rfl, List.length_eq_zero_iff.1 h2, List.length_eq_zero_iff.1 h3, by omega⟩
  | false =>
    rw [if_neg (by simp [ht])] at h1
    refine .inr ⟨List.length_eq_zero_iff.1 h1, by omega, ?_, ?_⟩
    · by_cases h9 : k = 9
      · rw [if_pos h9] at h3
        rw [if_neg (by rw [ht]; simp; omega)] at h2
        exact .inr (by omega)
      · rw [if_neg h9] at h3
        exact .inl (List.length_eq_zero_iff.1 h3)
    · by_cases h9 : k = 9
      · rw [if_pos h9] at h3
        rw [if_neg (by rw [ht]; simp; omega)] at h2
        rw [← List.length_eq_zero_iff, ← List.length_eq_zero_iff, h3, h2]
        simp [h9]
      · rw [if_neg h9] at h3
        simp [List.length_eq_zero_iff.1 h3, h9]
def Z1l6 (k : Int) (a b : Stt) : Stt :=
  ⟨IntKind.wrap .i64 (a.count + b.count), a.null || b.null, a.has || b.has,
   if a.has = false then b.min else if b.has = true ∧ (cmpV k b.min a.min).1 < 0 then b.min else a.min,
   if a.has = false then b.max else if b.has = true ∧ 0 < (cmpV k b.max a.max).1 then b.max else a.max,
   if a.sums = true ∧ b.sums = true then (addF a.sum b.sum).2 else false,
   if a.sums = true ∧ b.sums = true then (addF a.sum b.sum).1 else 0⟩
end Go.Abs
namespace Go.Abs
open Go Go.Proofs
set_option linter.unusedVariables false
set_option linter.unusedSimpArgs false
mutual
def pcon (l : List Nd) (at_ c : Nat) : Vl → Col
  | .mk nu i n b ks =>
    if nu = true then (if c = at_ then Zyg false col0 else col0)
    else appC (if c = at_ then addC (Zyh l at_) (.mk nu i n b ks) col0 else col0) (pconL l at_ c i 0 ks)
def pconL (l : List Nd) (at_ c : Nat) (i : Int) (j : Nat) : List Vl → Col
  | [] => col0
  | v :: vs => appC (pcon l (kidC l at_ (Zyh l at_) i j) c v) (pconL l at_ c i (j + 1) vs)
end
def Z1lm (l : List Nd) (c : Nat) : List Vl → Col
  | [] => col0
  | v :: vs => appC (pcon l 0 c v) (Z1lm l c vs)
theorem Z1ln (a : Col) : appC a col0 = a := by simp [appC, col0]
theorem Z1lo (a : Col) : appC col0 a = a := by simp [appC, col0]
theorem Z1lp (a b c : Col) : appC (appC a b) c = appC a (appC b c) := by simp [appC]
theorem Z1lq (k : Int) (v : Vl) (x : Col) : addC k v x = appC x (addC k v col0) := by
  rw [← Z1l0, Z1ln]
theorem Z1lr (b : Bool) (x : Col) : Zyg b x = appC x (Zyg b col0) := by
  rw [← Z1kz, Z1ln]
theorem Z1ls (cs : List Col) (i c : Nat) (x : Col) (hc : c < cs.length) : (cs.set i x).getD c col0 = if c = i then x else cs.getD c col0 := by
  rw [List.getD_eq_getElem?_getD, List.getD_eq_getElem?_getD]
  by_cases h : c = i
  · subst h; rw [List.getElem?_set_self hc, if_pos rfl]; rfl
  · rw [List.getElem?_set_ne (fun e => h e.symm), if_neg h]
theorem Z1lt (l : List Nd) : ∀ (v : Vl) (at_ : Nat) (cs : List Col) (c : Nat), c < cs.length → (putF l at_ v cs).2 = true → (putF l at_ v cs).1.getD c col0 = appC (cs.getD c col0) (pcon l at_ c v) := by
  refine Vl.ind fun nu i n b ks ih at_ cs c hc h => ?_
  have hL : ∀ (ks : List Vl), (∀ v ∈ ks, ∀ (at_ : Nat) (cs : List Col) (c : Nat), c < cs.length → (putF l at_ v cs).2 = true → (putF l at_ v cs).1.getD c col0 = appC (cs.getD c col0) (pcon l at_ c v)) →
      ∀ (j : Nat) (cs : List Col), c < cs.length → (putL l at_ i j ks cs).2 = true → (putL l at_ i j ks cs).1.getD c col0 = appC (cs.getD c col0) (pconL l at_ c i j ks) := by
    intro ks
    induction ks with
    | nil => intro _ j cs _ _; rw [putL, pconL, Z1ln]
    | cons v vs ih2 =>
      intro hv j cs hc h
      rw [putL] at h ⊢
      rw [pconL]
      split at h
      · rename_i h1
        rw [if_pos h1, ih2 (fun v hm => hv v (List.mem_cons_of_mem _ hm)) _ _ (by rw [Z1i3]; exact hc) h, hv v (by simp) _ _ _ hc h1, Z1lp]
      · cases h
  rw [putF] at h ⊢
  rw [pcon]
  split at h
  · cases h
  rename_i hlt
  rw [if_neg hlt]
  split at h
  · rename_i hnu
    rw [if_pos hnu, if_pos hnu, Z1ls _ _ _ _ hc]
    split
    · rename_i e; subst e; exact Z1lr _ _
    · rw [Z1ln]
  · rename_i hnu
    rw [if_neg hnu, if_neg hnu, hL ks ih 0 _ (by rw [List.length_set]; exact hc) h, Z1ls _ _ _ _ hc, ← Z1lp]
    split
    · rename_i e; subst e; rw [Z1lq]
    · rw [Z1ln]
theorem Z1lu (l : List Nd) : ∀ (rows : List Vl) (cs : List Col) (c : Nat), c < cs.length → (Z1i5 l rows cs).2 = true → (Z1i5 l rows cs).1.getD c col0 = appC (cs.getD c col0) (Z1lm l c rows)
  | [], cs, c, _, _ => by rw [Z1i5, Z1lm, Z1ln]
  | v :: vs, cs, c, hc, h => by
    rw [Z1i5] at h ⊢
    rw [Z1lm]
    split at h
    · rename_i h1
      rw [if_pos h1, Z1lu l vs _ c (by rw [Z1i3]; exact hc) h, Z1lt l v 0 cs c hc h1, Z1lp]
    · cases h
theorem Z1lv {t : Ty} {rows : List Vl} (h : (Z1i6 t rows).2 = 0) {c : Nat} (hc : c < (Zm4 t).length) : (Z1i6 t rows).1[c]? = some (Z1lm (Zm4 t) c rows) := by
  obtain ⟨_, _, h2, h3⟩ := Z1l1 h
  have hl := Z1l2 h
  have := Z1lu (Zm4 t) rows (List.replicate (Zm4 t).length col0) c (by rw [List.length_replicate]; exact hc) h2
  rw [← h3, List.getD_eq_getElem?_getD, List.getElem?_eq_getElem (by omega), Option.getD_some] at this
  rw [List.getElem?_eq_getElem (by omega), this]
  have e : (List.replicate (Zm4 t).length col0).getD c col0 = col0 := by
    rw [List.getD_eq_getElem?_getD, List.getElem?_replicate, if_pos hc]; rfl
  rw [e, Z1lo]
structure Nok (l : List Nd) (i : Nat) (n : Nd) : Prop where
  len : n.kids.length = n.t.kids.length
  kids : ∀ j x, n.kids[j]? = some x → ∃ u m, n.t.kids[j]? = some u ∧ x = i + 1 + cntL (n.t.kids.take j) ∧ l[x]? = some m ∧ m.t = u ∧ m.parent = (i : Int) ∧ m.deep = n.deep + 1
structure Par (l : List Nd) (i : Nat) (n : Nd) : Prop where
  par : ∃ (p : Nat) (q : Nd) (j : Nat), n.parent = (p : Int) ∧ p < i ∧ l[p]? = some q ∧ q.kids[j]? = some i ∧ n.deep = q.deep + 1
structure TreeN (l : List Nd) : Prop where
  nok : ∀ i n, l[i]? = some n → Nok l i n
  par : ∀ i n, l[i]? = some n → 0 < i → Par l i n
  root : ∀ n, l[0]? = some n → n.parent = -1 ∧ n.deep = 1
theorem Z1lw (t : Ty) (a : Nat) (p : Int) (d : Nat) (rest : List Nd) : (Zlz a p d t ++ rest)[0]? = some ⟨t, Zly (a + 1) t.kids, p, d⟩ := by
  obtain ⟨k, ns, ks, l, pr, s⟩ := t
  rw [Zlz]; rfl
theorem Z1lx (k : Int) (ns : List (List UInt8)) (ks : List Ty) (le pr sc : Int) (pre post : List Nd) (p : Int) (d j : Nat) (u : Ty) (hu : ks[j]? = some u) :
    ∃ pre' post', pre ++ (Zlz pre.length p d (.mk k ns ks le pr sc) ++ post) = pre' ++ (Zlz pre'.length (pre.length : Int) (d + 1) u ++ post') ∧ pre'.length = pre.length + 1 + cntL (ks.take j) := by
  obtain ⟨post', hp⟩ := Zyk ks (pre.length + 1) j (pre.length : Int) (d + 1) u hu
  have hlen : (Zm0 (pre.length + 1) (pre.length : Int) (d + 1) (ks.take j)).length = cntL (ks.take j) := Zng _ _ _ _
  refine ⟨pre ++ (⟨.mk k ns ks le pr sc, Zly (pre.length + 1) ks, p, d⟩ :: Zm0 (pre.length + 1) (pre.length : Int) (d + 1) (ks.take j)), post' ++ post, ?_, ?_⟩
  · have hl2 : (pre ++ ((⟨.mk k ns ks le pr sc, Zly (pre.length + 1) ks, p, d⟩ : Nd) :: Zm0 (pre.length + 1) (pre.length : Int) (d + 1) (ks.take j))).length = pre.length + 1 + cntL (ks.take j) := by
      rw [List.length_append, List.length_cons, hlen]; omega
    rw [hl2, Zlz, hp]
    simp [List.append_assoc]
  · rw [List.length_append, List.length_cons, hlen]; omega
theorem Z1ly : ∀ (t : Ty), 1 ≤ cnt t := fun t => by
  obtain ⟨k, ns, ks, l, pr, s⟩ := t
  rw [cnt]; omega
theorem Z1lz : ∀ (ks : List Ty) (a i : Nat), a ≤ i → i < a + cntL ks → ∃ j u, ks[j]? = some u ∧ a + cntL (ks.take j) ≤ i ∧ i < a + cntL (ks.take j) + cnt u
  | [], a, i, h1, h2 => by rw [cntL] at h2; omega
  | t :: ts, a, i, h1, h2 => by
    rw [cntL] at h2
    by_cases h : i < a + cnt t
    · exact ⟨0, t, rfl, by simp [cntL]; exact h1, by simpa [cntL] using h⟩
    · obtain ⟨j, u, e1, e2, e3⟩ := Z1lz ts (a + cnt t) i (by omega) (by omega)
      exact ⟨j + 1, u, by simpa using e1, by rw [List.take_succ_cons, cntL]; omega, by rw [List.take_succ_cons, cntL]; omega⟩
theorem Z1m0 : ∀ (t : Ty) (pre post : List Nd) (p : Int) (d i : Nat) (n : Nd), pre.length ≤ i → i < pre.length + cnt t → (pre ++ (Zlz pre.length p d t ++ post))[i]? = some n →
    Nok (pre ++ (Zlz pre.length p d t ++ post)) i n ∧ (i = pre.length → n.parent = p ∧ n.deep = d) ∧ (pre.length < i → Par (pre ++ (Zlz pre.length p d t ++ post)) i n) := by
  refine Ty.ind fun k ns ks le pr sc ih pre post p d i n h1 h2 hn => ?_
  have hroot : (pre ++ (Zlz pre.length p d (.mk k ns ks le pr sc) ++ post))[pre.length]? = some ⟨.mk k ns ks le pr sc, Zly (pre.length + 1) ks, p, d⟩ := by
    rw [List.getElem?_append_right (Nat.le_refl _), Nat.sub_self, Z1lw]; rfl
  have hkid : ∀ j x u, (Zly (pre.length + 1) ks)[j]? = some x → ks[j]? = some u → x = pre.length + 1 + cntL (ks.take j) ∧ (pre ++ (Zlz pre.length p d (.mk k ns ks le pr sc) ++ post))[x]? = some ⟨u, Zly (x + 1) u.kids, (pre.length : Int), d + 1⟩ := by
    intro j x u hx hu
    have hx' := Zyj _ _ _ _ hx
    obtain ⟨pre', post', e, el⟩ := Z1lx k ns ks le pr sc pre post p d j u hu
    refine ⟨hx', ?_⟩
    have e2 : x = pre'.length := by omega
    rw [e, e2, List.getElem?_append_right (Nat.le_refl _), Nat.sub_self, Z1lw]
  by_cases hi : i = pre.length
  · subst hi
    rw [hroot] at hn
    cases hn
    refine ⟨⟨Zyi ks _, fun j x hx => ?_⟩, fun _ => ⟨rfl, rfl⟩, fun h => absurd h (by omega)⟩
    have hj : j < ks.length := by
      have := (List.getElem?_eq_some_iff.1 hx).1
      rw [Zyi] at this; exact this
    have hu := List.getElem?_eq_getElem hj
    obtain ⟨a1, a2⟩ := hkid j x _ hx hu
    exact ⟨_, _, hu, a1, a2, rfl, rfl, rfl⟩
  · rw [cnt] at h2
    obtain ⟨j, u, e1, e2, e3⟩ := Z1lz ks (pre.length + 1) i (by omega) (by omega)
    obtain ⟨pre', post', e, el⟩ := Z1lx k ns ks le pr sc pre post p d j u e1
    have hx : (Zly (pre.length + 1) ks)[j]? = some pre'.length := by
      have hj : j < (Zly (pre.length + 1) ks).length := by
        rw [Zyi]; exact (List.getElem?_eq_some_iff.1 e1).1
      rw [List.getElem?_eq_getElem hj]
      have := Zyj _ _ _ _ (List.getElem?_eq_getElem hj)
      rw [this, el]
    rw [e] at hn hroot ⊢
    obtain ⟨b1, b2, b3⟩ := ih u (List.mem_of_getElem? e1) pre' post' (pre.length : Int) (d + 1) i n (by omega) (by omega) hn
    refine ⟨b1, fun h => absurd h hi, fun _ => ?_⟩
    by_cases h4 : i = pre'.length
    · obtain ⟨c1, c2⟩ := b2 h4
      exact ⟨⟨pre.length, _, j, c1, by omega, hroot, by rw [h4]; exact hx, c2⟩⟩
    · exact b3 (by omega)
theorem Z1m1 (t : Ty) : TreeN (Zm4 t) := by
  rw [Zm4]
  split
  · have h := Z1m0 t [] [] (-1) 1
    simp only [List.length_nil, List.nil_append, List.append_nil, Nat.zero_add] at h
    have hlt : ∀ {i n}, (Zlz 0 (-1) 1 t)[i]? = some n → i < cnt t := fun {i n} hn => by
      have := (List.getElem?_eq_some_iff.1 hn).1
      rw [Zm1] at this; exact this
    exact ⟨fun i n hn => (h i n (by omega) (hlt hn) hn).1, fun i n hn hi => (h i n (by omega) (hlt hn) hn).2.2 hi, fun n hn => (h 0 n (by omega) (hlt hn) hn).2.1 rfl⟩
  · exact ⟨fun i n hn => by simp at hn, fun i n hn => by simp at hn, fun n hn => by simp at hn⟩
inductive Anc (l : List Nd) (a : Nat) : Nat → Prop
  | refl : Anc l a a
  | step {c p : Nat} {n : Nd} (hc : l[c]? = some n) (hp : n.parent = (p : Int)) (h : Anc l a p) : Anc l a c
theorem TreeN.up {l : List Nd} (h : TreeN l) {i p : Nat} {n : Nd} (hn : l[i]? = some n) (hp : n.parent = (p : Int)) : p < i := by
  by_cases h0 : i = 0
  · subst h0
    have := (h.root n hn).1
    omega
  · obtain ⟨⟨p', q, j, e1, e2, _⟩⟩ := h.par i n hn (by omega)
    omega
theorem Anc.le {l : List Nd} (h : TreeN l) {a c : Nat} (ha : Anc l a c) : a ≤ c := by
  induction ha with
  | refl => exact Nat.le_refl _
  | step hc hp _ ih => have := h.up hc hp; omega
theorem Anc.over {l : List Nd} {a x c : Nat} {m : Nd} (hx : l[x]? = some m) (hp : m.parent = (a : Int)) (h : Anc l x c) : Anc l a c := by
  induction h with
  | refl => exact .step hx hp .refl
  | step hc hp' _ ih => exact .step hc hp' ih
theorem Z1pf {t : Ty} (h : Zlx t = 0) : ∃ n, (Zm4 t)[0]? = some n ∧ n.t = t := by
  have := Z1lw t 0 (-1) 1 []
  rw [List.append_nil] at this
  rw [Zm4, if_pos h]
  exact ⟨_, this, rfl⟩
end Go.Abs
namespace Go.Abs
open Go Go.Proofs
set_option linter.unusedVariables false
set_option linter.unusedSimpArgs false
theorem Z1pr (a b : Col) : (appC a b).here.length = a.here.length + b.here.length := by simp [appC]
theorem Z1ps (k : Int) (v : Vl) (c : Col) : (addC k v c).here.length = c.here.length + 1 := by
  unfold addC Zyf Zye Zyg
  (repeat' split) <;> simp
theorem Z1pt (b : Bool) (c : Col) : (Zyg b c).here.length = c.here.length + 1 := by simp [Zyg]
theorem Z1pu (l : List Nd) : ∀ (v : Vl) (a : Nat) (cs : List Col), (∀ c, c < cs.length → (cs.getD c col0).here.length + (pcon l a c v).here.length ≤ 16384) → (putF l a v cs).2 = true := by
  refine Vl.ind fun nu i n b ks ih a cs h => ?_
  have hL : ∀ (ks : List Vl), (∀ v ∈ ks, ∀ (a : Nat) (cs : List Col), (∀ c, c < cs.length → (cs.getD c col0).here.length + (pcon l a c v).here.length ≤ 16384) → (putF l a v cs).2 = true) →
      ∀ (j : Nat) (cs : List Col), (∀ c, c < cs.length → (cs.getD c col0).here.length + (pconL l a c i j ks).here.length ≤ 16384) → (putL l a i j ks cs).2 = true := by
    intro ks
    induction ks with
    | nil => intro _ j cs _; rfl
    | cons v vs ih2 =>
      intro hv j cs h
      have h1 : (putF l (kidC l a (Zyh l a) i j) v cs).2 = true := hv v (by simp) _ _ fun c hc => by
        have := h c hc
        rw [pconL, Z1pr] at this
        omega
      rw [putL]
      simp only [h1, if_true]
      refine ih2 (fun v hm => hv v (List.mem_cons_of_mem _ hm)) _ _ fun c hc => ?_
      rw [Z1i3] at hc
      rw [Z1lt l v _ cs c hc h1, Z1pr]
      have := h c hc
      rw [pconL, Z1pr] at this
      omega
  have h0 : (cs.getD a col0).here.length < 16384 := by
    by_cases ha : a < cs.length
    · have := h a ha
      rw [pcon] at this
      split at this
      · rw [if_pos rfl, Z1pt] at this; have e0 : col0.here.length = 0 := rfl; omega
      · rw [if_pos rfl, Z1pr, Z1ps] at this; have e0 : col0.here.length = 0 := rfl; omega
    · have e : cs.getD a col0 = col0 := by rw [List.getD_eq_getElem?_getD, List.getElem?_eq_none (by omega)]; rfl
      rw [e]; simp [col0]
  rw [putF, if_neg (by omega)]
  split
  · rfl
  · rename_i hnu
    refine hL ks ih 0 _ fun c hc => ?_
    rw [List.length_set] at hc
    rw [Z1ls _ _ _ _ hc]
    have := h c hc
    rw [pcon, if_neg hnu, Z1pr] at this
    split
    · rename_i e
      subst e
      rw [if_pos rfl, Z1ps] at this
      rw [Z1ps]
      have e0 : col0.here.length = 0 := rfl
      omega
    · rename_i e
      rw [if_neg e] at this
      have e0 : col0.here.length = 0 := rfl
      omega
theorem Z1pv (l : List Nd) : ∀ (rows : List Vl) (cs : List Col), (∀ c, c < cs.length → (cs.getD c col0).here.length + (Z1lm l c rows).here.length ≤ 16384) → (Z1i5 l rows cs).2 = true
  | [], cs, _ => rfl
  | v :: vs, cs, h => by
    have h1 : (putF l 0 v cs).2 = true := Z1pu l v 0 cs fun c hc => by
      have := h c hc
      rw [Z1lm, Z1pr] at this
      omega
    rw [Z1i5, if_pos h1]
    refine Z1pv l vs _ fun c hc => ?_
    rw [Z1i3] at hc
    rw [Z1lt l v 0 cs c hc h1, Z1pr]
    have := h c hc
    rw [Z1lm, Z1pr] at this
    omega
theorem Z1pw {t : Ty} {rows : List Vl} (h0 : Zlx t = 0) (h1 : ∀ v ∈ rows, vchk t v = 0 ∧ v.null = false) (h2 : ∀ c, c < (Zm4 t).length → (Z1lm (Zm4 t) c rows).here.length ≤ 16384) : (Z1i6 t rows).2 = 0 := by
  have hE : rowsE t rows = 0 := by
    induction rows with
    | nil => rfl
    | cons v vs ih =>
      obtain ⟨a, b⟩ := h1 v (by simp)
      have hv : rowE t v = 0 := by rw [rowE, if_neg (by rw [b]; simp)]; exact a
      rw [rowsE, hv, if_neg (by simp)]
      refine ih (fun w hw => h1 w (List.mem_cons_of_mem _ hw)) fun c hc => ?_
      have := h2 c hc
      rw [Z1lm, Z1pr] at this
      omega
  have hP : (Z1i5 (Zm4 t) rows (List.replicate (Zm4 t).length col0)).2 = true := Z1pv _ _ _ fun c hc => by
    rw [List.length_replicate] at hc
    have := h2 c hc
    rw [List.getD_eq_getElem?_getD, List.getElem?_replicate, if_pos hc]
    simp only [Option.getD_some, col0, List.length_nil]
    omega
  rw [Z1i6, if_neg (by omega), if_neg (by omega), if_pos hP]
theorem Z1px (l : List Nd) (c : Nat) : ∀ (a b : List Vl), Z1lm l c (a ++ b) = appC (Z1lm l c a) (Z1lm l c b)
  | [], b => by rw [List.nil_append, Z1lm, Z1lo]
  | v :: a, b => by rw [List.cons_append, Z1lm, Z1lm, Z1px l c a b, Z1lp]
def tB5 : Ty := .mk 0 [] [] 0 0 0
def tS5 : Ty := .mk 12 [[97]] [tB5] 0 0 0
def tN5 : Ty := .mk 12 [[115]] [tS5] 0 0 0
def Z1pz : List Nd := [⟨tN5, [1], -1, 1⟩, ⟨tS5, [2], 0, 2⟩, ⟨tB5, [], 1, 3⟩]
def inN5 (nu i : Bool) : Vl := if nu = true then .mk true 0 0 [] [] else .mk false 0 0 [] [.mk i 0 0 [] []]
def rowN5 (nu i : Bool) : Vl := .mk false 0 0 [] [inN5 nu i]
end Go.Abs
namespace Go.Abs
open Go Go.Proofs
set_option linter.unusedVariables false
set_option linter.unusedSimpArgs false
set_option maxHeartbeats 4000000
attribute [local irreducible] AWp aops KP
structure Tm where
  col : Int
  op : Int
  v : Vl
def Z17q (t : Tm) : List Z0 := .int .i64 t.col :: .int .i64 t.op :: Zm6 t.v
def encM (t : Tm) : Z0 := .agg (Z17q t)
structure WfN (l : List Nd) : Prop where
  len : l.length ≤ 1000000
  up : ∀ (i : Nat) (n : Nd), l[i]? = some n → -1 ≤ n.parent ∧ n.parent < i
  kids : ∀ n ∈ l, n.kids.length ≤ 1000000
def tyN (n : Nd) : Ty := .mk n.t.kind [] [] n.t.len n.t.prec n.t.scale
def Z17r : Vl → Bool
  | .mk nu i n b ks => decide (nu = false ∧ i = 0 ∧ n = 0 ∧ b.length = 0 ∧ ks.length = 0)
def idxF : List Nat → Int → Nat → Int
  | [], _, _ => -1
  | k :: ks, c, i => if (k : Int) = c then (i : Int) else idxF ks c (i + 1)
def upF (l : List Nd) : Nat → Int → Bool
  | 0, _ => true
  | f + 1, p => if p < 0 ∨ (l.length : Int) ≤ p then true else
    match l[p.toNat]? with
    | none => true
    | some n => if n.t.kind = 12 then upF l f n.parent else false
def goodF (l : List Nd) (col : Int) : Bool :=
  if col < 0 ∨ (l.length : Int) ≤ col then false else
  match l[col.toNat]? with
  | none => false
  | some n => Zlt n.t.kind && upF l (n.parent + 1).toNat n.parent
def Z17x (op c : Int) : Bool :=
  if op = 1 then decide (c = 0) else if op = 2 then decide (c ≠ 0) else if op = 3 then decide (c < 0) else if op = 4 then decide (c ≤ 0) else if op = 5 then decide (c > 0) else decide (c ≥ 0)
end Go.Abs
namespace Go.Abs
open Go Go.Proofs
set_option linter.unusedVariables false
set_option linter.unusedSimpArgs false
set_option maxHeartbeats 4000000
attribute [local irreducible] AWp aops KP
mutual
def Z1az : Vl → Vl → Bool
  | .mk nu i n b ks, w => (nu == w.null) && (decide (i = w.i) && (decide (n = w.n) && (decide (b = w.b) && (decide (ks.length = w.kids.length) && Z1b0 ks w.kids))))
def Z1b0 : List Vl → List Vl → Bool
  | [], _ => true
  | v :: vs, ws => Z1az v (ws.getD 0 default) && Z1b0 vs (ws.drop 1)
end
theorem Z1b1 : ∀ v : Vl, Z1az v v = true := by
  refine Vl.ind fun nu i n b ks ih => ?_
  have hL : ∀ (ks : List Vl), (∀ v ∈ ks, Z1az v v = true) → Z1b0 ks ks = true := by
    intro ks
    induction ks with
    | nil => intro _; rfl
    | cons v vs ih2 => intro h; rw [Z1b0]; simp [h v (by simp), ih2 (fun v hv => h v (by simp [hv]))]
  rw [Z1az]
  simp [Vl.null, Vl.i, Vl.n, Vl.b, Vl.kids, hL ks ih]
theorem Z1b2 : ∀ (ks ws : List Vl) (j : Nat) (v w : Vl), ks[j]? = some v → ws[j]? = some w → Z1b0 (ks.drop j) (ws.drop j) = (Z1az v w && Z1b0 (ks.drop (j + 1)) (ws.drop (j + 1))) := by
  intro ks ws j v w h1 h2
  obtain ⟨h1', rfl⟩ := List.getElem?_eq_some_iff.1 h1
  obtain ⟨h2', rfl⟩ := List.getElem?_eq_some_iff.1 h2
  rw [List.drop_eq_getElem_cons h1', Z1b0, List.drop_eq_getElem_cons h2']
  simp [h2']
theorem Z1b3 : ∀ (a : Vl), a.Fit → ∀ (b : Vl) (σ : Zc), Z1q Try.prog Zd2 [encV a, encV b] σ fun r σ' => r = .bool (Z1az a b) ∧ σ' = σ := by
  refine Vl.ind fun nu i n bs ks ih hf b σ => ?_
  cases hf with
  | mk _ hb hk hks =>
  have hk : ks.length ≤ 9223372036854775807 := hk
  rw [Zm7, Zm7]
  obtain ⟨bn, bi, b_n, bb, bk⟩ := b
  refine Z8t rfl Z1ay (Nat.le_of_ble_eq_true rfl) ?_
  refine Z9z ?_
  refine Z9j rfl (Kfi rfl) fun b2 hb2 => ?_
  refine Z9j rfl (Kfi rfl) fun b3 hb3 => ?_
  (repeat (refine st_q rfl rfl rfl ?_))
  (refine Z8y ?_; (repeat (first | refine Z9v rfl ?_ | refine Z9w ?_)); refine Z9u ?_)
  refine Zb3 (d := 3) (cs := [.bool bn, .int .i64 bi, .int .i64 b_n, .slc 1 (bytes bb) false, .slc 5 (Zm5 bk) false]) rfl ?_
  refine Zb3 (d := 2) (cs := [.bool nu, .int .i64 i, .int .i64 n, .slc 1 (bytes bs) false, .slc 5 (Zm5 ks) false]) rfl ?_
  generalize hX : Z1az (.mk nu i n bs ks) (.mk bn bi b_n bb bk) = X
  simp only [Z1az, Vl.null, Vl.i, Vl.n, Vl.b, Vl.kids] at hX
  have eL : ∀ l : List Vl, (Zm5 l).length = l.length := Zm9
  cases q0 : (nu == bn) with
  | false =>
    have q0' : (!(nu == bn)) = true := by rw [q0]; rfl
    (repeat (first | refine st_q rfl rfl rfl ?_ | refine awp_seq ?_ | refine Zbm (fun _ _ => rfl) ?_))
    rw [q0']
    (repeat (first | refine st_q rfl rfl rfl ?_ | refine Z8w rfl ?_ | (refine Z8y ?_; (repeat (first | refine Z9v rfl ?_ | refine Z9w ?_)); refine Z9u ?_) | refine awp_seq ?_ | refine Zbm (fun _ _ => rfl) ?_ | refine Kc1 rfl ?_))
    (refine Z8d ?_; exact Kar rfl ⟨(by rw [← hX, q0]; rfl), rfl⟩)
  | true =>
  have q0' : (!(nu == bn)) = false := by rw [q0]; rfl
  (repeat (first | refine st_q rfl rfl rfl ?_ | refine awp_seq ?_ | refine Zbm (fun _ _ => rfl) ?_))
  rw [q0']
  (repeat (first | refine st_q rfl rfl rfl ?_ | refine Z8v rfl (st_q rfl rfl rfl ?_)))
  by_cases q1 : i = bi
  rotate_left
  · (rw [decide_eq_true (p := i ≠ bi) (by omega)])
    (repeat (first | refine st_q rfl rfl rfl ?_ | refine Z8w rfl ?_ | (refine Z8y ?_; (repeat (first | refine Z9v rfl ?_ | refine Z9w ?_)); refine Z9u ?_) | refine awp_seq ?_ | refine Zbm (fun _ _ => rfl) ?_ | refine Kc1 rfl ?_))
    (refine Z8d ?_; exact Kar rfl ⟨(by rw [← hX]; simp [q1, Z8m]), rfl⟩)
  (rw [decide_eq_false (p := i ≠ bi) (by omega)])
  (repeat (first | refine st_q rfl rfl rfl ?_ | refine Z8v rfl (st_q rfl rfl rfl ?_)))
  by_cases q2 : n = b_n
  rotate_left
  · (rw [decide_eq_true (p := n ≠ b_n) (by omega)])
    (repeat (first | refine st_q rfl rfl rfl ?_ | refine Z8w rfl ?_ | (refine Z8y ?_; (repeat (first | refine Z9v rfl ?_ | refine Z9w ?_)); refine Z9u ?_) | refine awp_seq ?_ | refine Zbm (fun _ _ => rfl) ?_ | refine Kc1 rfl ?_))
    (refine Z8d ?_; exact Kar rfl ⟨(by rw [← hX]; simp [q2, Z8m]), rfl⟩)
  (rw [decide_eq_false (p := n ≠ b_n) (by omega)])
  (repeat (first | refine st_q rfl rfl rfl ?_ | refine Z8v rfl (st_q rfl rfl rfl ?_) | refine Z8v rfl (Zbz rfl rfl ?_)))
  by_cases q3 : bs = bb
  rotate_left
  · rw [show decide (bs ≠ bb) = true from decide_eq_true q3]
    (repeat (first | refine st_q rfl rfl rfl ?_ | refine Z8w rfl ?_ | (refine Z8y ?_; (repeat (first | refine Z9v rfl ?_ | refine Z9w ?_)); refine Z9u ?_) | refine awp_seq ?_ | refine Zbm (fun _ _ => rfl) ?_ | refine Kc1 rfl ?_))
    (refine Z8d ?_; exact Kar rfl ⟨(by rw [← hX]; simp [q3, Z8m]), rfl⟩)
  rw [show decide (bs ≠ bb) = false from decide_eq_false (fun h => h q3)]
  (repeat (first | refine st_q rfl rfl rfl ?_ | refine Z8v rfl (st_q rfl rfl rfl ?_) | (refine Z8y ?_; (repeat (first | refine Z9v rfl ?_ | refine Z9w ?_)); refine Z9u ?_)))
  rw [eL, eL]
  by_cases q4 : ks.length = bk.length
  rotate_left
  · (rw [decide_eq_true (p := (ks.length : Int) ≠ (bk.length : Int)) (by omega)])
    (repeat (first | refine st_q rfl rfl rfl ?_ | (refine Z8y ?_; (repeat (first | refine Z9v rfl ?_ | refine Z9w ?_)); refine Z9u ?_) | refine awp_seq ?_ | refine Zbm (fun _ _ => rfl) ?_ | refine Kc1 rfl ?_))
    (refine Z8d ?_; exact Kar rfl ⟨(by rw [← hX]; simp [q4, Z8m]), rfl⟩)
  (rw [decide_eq_false (p := (ks.length : Int) ≠ (bk.length : Int)) (by omega)])
  (repeat (first | refine st_q rfl rfl rfl ?_ | (refine Z8y ?_; (repeat (first | refine Z9v rfl ?_ | refine Z9w ?_)); refine Z9u ?_) | refine awp_seq ?_ | refine Zbm (fun _ _ => rfl) ?_ | refine Z8h ?_ | refine Zbn (fun _ _ => rfl) ?_ | refine Kc2 rfl ?_))
  have hX : Z1b0 ks bk = X := by rw [← hX]; simp [q0, q1, q2, q3, q4]
  refine Zaa (fun m F σ' => ∃ (j : Nat), F = fset 2 (some (.iptr [.bool nu, .int .i64 i, .int .i64 n, .slc 1 (bytes bs) false, .slc 5 (Zm5 ks) false])) (fset 3 (some (.iptr [.bool bn, .int .i64 bi, .int .i64 b_n, .slc 1 (bytes bb) false, .slc 5 (Zm5 bk) false])) (fset 5 (some (.int .i64 (j : Int))) Z27)) ∧
    σ = σ' ∧ j ≤ ks.length ∧ Z1b0 (ks.drop j) (bk.drop j) = X ∧ m = ks.length - j) (n := ks.length) ⟨0, rfl, rfl, by omega, hX, rfl⟩ ?_
  rintro m F σ' ⟨j, rfl, rfl, hj, hXj, rfl⟩
  (repeat (first | refine st_q rfl rfl rfl ?_ | (refine Z8y ?_; (repeat (first | refine Z9v rfl ?_ | refine Z9w ?_)); refine Z9u ?_) | refine awp_seq ?_ | refine Zbm (fun _ _ => rfl) ?_))
  rw [eL]
  refine Za3 (p := (j : Int) < (ks.length : Int)) rfl (fun h5 => ?_) (fun h5 => ?_)
  · have hjl : j < ks.length := by omega
    have hjl2 : j < bk.length := by omega
    have h1 : (Zm5 ks)[((j : Nat) : Int).toNat]? = some (.agg (Zm6 ks[j])) := by rw [← Zm7]; exact Zma (by rw [Int.toNat_natCast, List.getElem?_eq_getElem hjl])
    have h2 : (Zm5 bk)[((j : Nat) : Int).toNat]? = some (.agg (Zm6 bk[j])) := by rw [← Zm7]; exact Zma (by rw [Int.toNat_natCast, List.getElem?_eq_getElem hjl2])
    rw [Z1b2 ks bk j ks[j] bk[j] (List.getElem?_eq_getElem hjl) (List.getElem?_eq_getElem hjl2)] at hXj
    have hc := ih ks[j] (List.getElem_mem hjl) (hks _ (List.getElem_mem hjl)) bk[j]
    rw [Zm7, Zm7] at hc
    (repeat (first | refine st_q rfl rfl rfl ?_ | refine awp_seq ?_ | refine Zbm (fun _ _ => rfl) ?_ | refine Z8h ?_ | refine Zbn (fun _ _ => rfl) ?_))
    refine Z93 rfl (by omega) h1 ?_
    (repeat refine st_q rfl rfl rfl ?_)
    refine Z93 rfl (by omega) h2 ?_
    (repeat refine st_q rfl rfl rfl ?_)
    (first | refine Z9t rfl (hc _) ?_ | refine Z8v rfl (Z9t rfl (hc _) ?_) | refine Zbw rfl hc ?_ | refine Z8v rfl (Zbw rfl hc ?_))
    cases hs : Z1az ks[j] bk[j] with
    | false =>
      rw [hs, Bool.false_and] at hXj
      (repeat (first | refine st_q rfl rfl rfl ?_ | (refine Z8y ?_; (repeat (first | refine Z9v rfl ?_ | refine Z9w ?_)); refine Z9u ?_) | refine awp_seq ?_ | refine Zbm (fun _ _ => rfl) ?_ | refine Kc1 rfl ?_))
      (refine Z8d ?_; exact Kar rfl ⟨(by rw [← hXj]; rfl), rfl⟩)
    | true =>
      rw [hs, Bool.true_and] at hXj
      (repeat (first | refine st_q rfl rfl rfl ?_ | (refine Z8y ?_; (repeat (first | refine Z9v rfl ?_ | refine Z9w ?_)); refine Z9u ?_) | refine Zbn (fun _ _ => rfl) ?_ | refine Kc2 rfl ?_))
      refine Zbp ?_
      (repeat (refine st_q rfl rfl rfl ?_))
      rw [Kwr j (by omega)]
      (refine Z8y ?_; (repeat (first | refine Z9v rfl ?_ | refine Z9w ?_)); refine Z9u ?_)
      exact ⟨_, ks.length - (j + 1), HSub.refl _, ⟨j + 1, rfl, rfl, by omega, hXj, rfl⟩, by omega⟩
  · (repeat (first | refine st_q rfl rfl rfl ?_ | (refine Z8y ?_; (repeat (first | refine Z9v rfl ?_ | refine Z9w ?_)); refine Z9u ?_) | refine awp_seq ?_ | refine Zbm (fun _ _ => rfl) ?_ | refine Zbo (fun _ _ => rfl) ?_))
    rw [List.drop_of_length_le (by omega), Z1b0] at hXj
    (refine Z8d ?_; exact Kar rfl ⟨(by rw [← hXj]; rfl), rfl⟩)
end Go.Abs
namespace Go.Abs
open Go Go.Proofs
set_option linter.unusedVariables false
set_option linter.unusedSimpArgs false
set_option maxHeartbeats 4000000
attribute [local irreducible] AWp aops KP
end Go.Abs
namespace Go.Abs
open Go Go.Proofs
set_option linter.unusedVariables false
set_option linter.unusedSimpArgs false
set_option maxHeartbeats 4000000
attribute [local irreducible] AWp aops KP
def Z1l9 (a b : Stt) : Bool := decide (a.count = b.count) && ((a.null == b.null) && ((a.has == b.has) && (Z1az a.min b.min && (Z1az a.max b.max && ((a.sums == b.sums) && decide (a.sum = b.sum))))))
end Go.Abs
namespace Go.Abs
open Go Go.Proofs
set_option linter.unusedVariables false
set_option linter.unusedSimpArgs false
set_option maxHeartbeats 4000000
attribute [local irreducible] AWp aops KP
end Go.Abs

