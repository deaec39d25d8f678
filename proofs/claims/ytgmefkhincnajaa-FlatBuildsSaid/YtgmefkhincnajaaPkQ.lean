/- Part Q of a proof: merged by program. -/
import Derived.Test.YtgmefkhincnajaaPkL
import Derived.Test.YtgmefkhincnajaaProg
import Derived.KernelRfl
set_option linter.unusedVariables false
set_option linter.unusedSimpArgs false
set_option maxHeartbeats 4000000
namespace Go.Abs
open Go
def Z19c : List Z2b := [
 ⟨some 4,.mov,[.c (.slc 0 [] true)],none⟩,⟨some 5,.mov,[.c (.int .i64 0)],none⟩]
def Z19d : List Z2b := [
 ⟨some 10,.mov,[.t 0],none⟩,⟨some 11,.lens,[.t 10],none⟩,⟨some 12,(.mks 1 1 (.bool false)),[.t 11,.t 11],none⟩,⟨some 6,.mov,[.t 12],none⟩]
def Z19e : List Z2b := [
 ⟨some 7,.mov,[.c (.int .i64 0)],none⟩]
def Z19f : List Z2b := [
 ⟨some 13,.mov,[.t 7],none⟩,⟨some 14,.mov,[.t 1],none⟩,⟨some 15,.lens,[.t 14],none⟩,⟨some 16,(.bin .lss),[.t 13,.t 15],none⟩]
def Z19g : List Z2b := [
 ⟨some 19,.mov,[.t 1],none⟩,⟨some 20,.mov,[.t 7],none⟩,⟨some 21,(.iad 1),[.t 19,.t 20],none⟩,⟨some 22,(.load false 1),[.t 21],none⟩,⟨some 23,(.bin .lss),[.t 22,.c (.int .i64 0)],none⟩,⟨some 24,.mov,[.t 23],none⟩,⟨some 25,.mov,[.t 1],some (24,false)⟩,⟨some 26,.mov,[.t 7],some (24,false)⟩,⟨some 27,(.iad 1),[.t 25,.t 26],some (24,false)⟩,⟨some 28,(.load false 1),[.t 27],some (24,false)⟩,⟨some 29,.mov,[.t 0],some (24,false)⟩,⟨some 30,.lens,[.t 29],some (24,false)⟩,⟨some 31,(.bin .geq),[.t 28,.t 30],some (24,false)⟩,⟨some 32,.pick,[.t 24,.c (.bool true),.t 31],none⟩]
def Z19h : List Z2b := [
 ⟨some 4,.mov,[.c (.slc 0 [] true)],none⟩,⟨some 5,.mov,[.c (.int .i64 1)],none⟩]
def Z19i : List Z2b := [
 ⟨some 17,.mov,[.t 7],none⟩,⟨some 18,(.bin .add),[.t 17,.c (.int .i64 1)],none⟩,⟨some 7,.mov,[.t 18],none⟩]
def Z19j : Z2c := (.seq (.seq (.region Z19f [0,1,6,7,16,25,26,27,28,29,30,31]) (.cond (.t 16) .skip (.exit 0))) (.seq (.block 1 (.seq (.region Z19g [0,1,6,7,25,26,27,28,29,30,31,32]) (.cond (.t 32) (.seq (.region Z19h [4,5]) .ret) .skip))) (.region Z19i [0,1,6,7,25,26,27,28,29,30,31])))
def Z19k : List Z2b := [
 ⟨some 8,.mov,[.c (.int .i64 0)],none⟩]
def Z19l : List Z2b := [
 ⟨some 33,.mov,[.t 8],none⟩,⟨some 34,.mov,[.t 1],none⟩,⟨some 35,.lens,[.t 34],none⟩,⟨some 36,(.bin .lss),[.t 33,.t 35],none⟩]
def Z19m : List Z2b := [
 ⟨some 39,.mov,[.t 0],none⟩,⟨some 40,.mov,[.t 6],none⟩,⟨some 41,.mov,[.t 1],none⟩,⟨some 42,.mov,[.t 8],none⟩,⟨some 43,(.iad 1),[.t 41,.t 42],none⟩,⟨some 44,(.load false 1),[.t 43],none⟩,⟨some 45,(.call Zee),[.t 39,.t 40,.t 44],none⟩]
def Z19n : List Z2b := [
 ⟨some 46,.mov,[.t 1],none⟩,⟨some 47,.mov,[.t 8],none⟩,⟨some 48,(.iad 1),[.t 46,.t 47],none⟩,⟨some 49,(.load false 1),[.t 48],none⟩,⟨some 9,.mov,[.t 49],none⟩]
def Z19o : List Z2b := [
 ⟨some 50,.mov,[.t 9],none⟩,⟨some 51,(.bin .geq),[.t 50,.c (.int .i64 0)],none⟩]
def Z19p : List Z2b := [
 ⟨some 57,.mov,[.t 0],none⟩,⟨some 58,.mov,[.t 9],none⟩,⟨some 59,(.iad 9),[.t 57,.t 58],none⟩,⟨some 60,(.fad 0),[.t 59],none⟩,⟨some 61,(.fad 0),[.t 60],none⟩,⟨some 62,(.load false 1),[.t 61],none⟩,⟨some 63,(.bin .neq),[.t 62,.c (.int .i64 12)],none⟩]
def Z19q : List Z2b := [
 ⟨some 64,.mov,[.t 0],none⟩,⟨some 65,.mov,[.t 6],none⟩,⟨some 66,.mov,[.t 9],none⟩,⟨some 67,(.call Zee),[.t 64,.t 65,.t 66],none⟩]
def Z19r : List Z2b := [
 ⟨some 68,.mov,[.t 6],none⟩,⟨some 69,.mov,[.t 9],none⟩,⟨some 70,(.iad 1),[.t 68,.t 69],none⟩,⟨none,(.store 1),[.t 70,.c (.bool true)],none⟩]
def Z19s : List Z2b := [
 ⟨some 52,.mov,[.t 0],none⟩,⟨some 53,.mov,[.t 9],none⟩,⟨some 54,(.iad 9),[.t 52,.t 53],none⟩,⟨some 55,(.fad 7),[.t 54],none⟩,⟨some 56,(.load false 1),[.t 55],none⟩,⟨some 9,.mov,[.t 56],none⟩]
def Z19t : Z2c := (.seq (.seq (.region Z19o [0,1,6,8,9,51]) (.cond (.t 51) .skip (.exit 4))) (.seq (.block 5 (.seq (.seq (.region Z19p [0,1,6,8,9,63]) (.cond (.t 63) (.region Z19q [0,1,6,8,9]) .skip)) (.region Z19r [0,1,6,8,9]))) (.region Z19s [0,1,6,8,9])))
def Z19u : List Z2b := [
 ⟨some 37,.mov,[.t 8],none⟩,⟨some 38,(.bin .add),[.t 37,.c (.int .i64 1)],none⟩,⟨some 8,.mov,[.t 38],none⟩]
def Z19v : Z2c := (.seq (.seq (.region Z19l [0,1,6,8,36]) (.cond (.t 36) .skip (.exit 2))) (.seq (.block 3 (.seq (.region Z19m [0,1,6,8]) (.seq (.region Z19n [0,1,6,8,9]) (.block 4 (.loop Z19t))))) (.region Z19u [0,1,6,8])))
def Z19w : List Z2b := [
 ⟨some 71,.mov,[.t 6],none⟩,⟨some 4,.mov,[.t 71],none⟩,⟨some 5,.mov,[.c (.int .i64 0)],none⟩]
def Z19x : Z2z := ⟨72,(.seq (.region Z19c [0,1,25,26,27,28,29,30,31]) (.seq (.region Z19d [0,1,6,25,26,27,28,29,30,31]) (.seq (.seq (.region Z19e [0,1,6,7,25,26,27,28,29,30,31]) (.block 0 (.loop Z19j))) (.seq (.seq (.region Z19k [0,1,6,8]) (.block 2 (.loop Z19v))) (.seq (.region Z19w [4,5]) .ret))))),[.t 4,.t 5]⟩
def Z19y : List Z2b := [
 ⟨some 7,.mov,[.t 1],none⟩,⟨some 8,.mov,[.t 2],none⟩,⟨some 9,(.iad 1),[.t 7,.t 8],none⟩,⟨none,(.store 1),[.t 9,.c (.bool true)],none⟩]
def Z19z : List Z2b := [
 ⟨some 6,.mov,[.c (.int .i64 0)],none⟩]
def Z1a0 : List Z2b := [
 ⟨some 10,.mov,[.t 6],none⟩,⟨some 11,.mov,[.t 0],none⟩,⟨some 12,.mov,[.t 2],none⟩,⟨some 13,(.iad 9),[.t 11,.t 12],none⟩,⟨some 14,(.fad 6),[.t 13],none⟩,⟨some 15,(.load false 1),[.t 14],none⟩,⟨some 16,.lens,[.t 15],none⟩,⟨some 17,(.bin .lss),[.t 10,.t 16],none⟩]
def Z1a1 : List Z2b := [
 ⟨some 20,.mov,[.t 0],none⟩,⟨some 21,.mov,[.t 1],none⟩,⟨some 22,.mov,[.t 0],none⟩,⟨some 23,.mov,[.t 2],none⟩,⟨some 24,(.iad 9),[.t 22,.t 23],none⟩,⟨some 25,(.fad 6),[.t 24],none⟩,⟨some 26,(.load false 1),[.t 25],none⟩,⟨some 27,.mov,[.t 6],none⟩,⟨some 28,(.iad 1),[.t 26,.t 27],none⟩,⟨some 29,(.load false 1),[.t 28],none⟩,⟨some 30,(.call Zee),[.t 20,.t 21,.t 29],none⟩]
def Z1a2 : List Z2b := [
 ⟨some 18,.mov,[.t 6],none⟩,⟨some 19,(.bin .add),[.t 18,.c (.int .i64 1)],none⟩,⟨some 6,.mov,[.t 19],none⟩]
def Z1a3 : Z2c := (.seq (.seq (.region Z1a0 [0,1,2,6,17]) (.cond (.t 17) .skip (.exit 0))) (.seq (.block 1 (.region Z1a1 [0,1,2,6])) (.region Z1a2 [0,1,2,6])))
def Z1a4 : Z2z := ⟨31,(.seq (.region Z19y [0,1,2]) (.seq (.region Z19z [0,1,2,6]) (.block 0 (.loop Z1a3)))),[]⟩
end Go.Abs
namespace Go.Abs
open Go Go.Proofs
theorem Z1a5 : Z30 Try.prog [] Zd4 = some Z19x.erase := by kernel_rfl
theorem Z1a6 : Z30 Try.prog [] Zee = some Z1a4.erase := by kernel_rfl
end Go.Abs
namespace Go.Abs
open Go Go.Proofs
attribute [local irreducible] AWp aops KP
def takeR (cols : List Col) (keep : List Bool) (t : Ty) : Nat → Tk → Option (List Vl × Tk)
 | 0, s => some ([], s)
 | n + 1, s => match takeT cols keep t 0 s with
  | none => none
  | some (v, s1) => match takeR cols keep t n s1 with
   | none => none
   | some (vs, s2) => some (v :: vs, s2)
theorem Z1a7 (t : Ty) : Z12x (Zmf t) := by
 have hT := Z18f t
 refine ⟨Nat.le_trans (Zxj t) (by decide), fun n hn => ?_, fun n hn x hx => ?_⟩
 ·obtain ⟨i, hi⟩ := List.getElem?_of_mem hn
  have hN := hT.nok i n hi
  have h100 := Zxj t
  rcases Nat.lt_or_ge n.kids.length 1001 with h | h
  ·omega
  ·obtain ⟨u, m, e1, e2, e3, _⟩ := hN.kids 1000 _ (List.getElem?_eq_getElem (by omega))
   have hlt := (List.getElem?_eq_some_iff.1 e3).1
   have hc : ∀ (ks : List Ty), ks.length ≤ cntL ks := by
    intro ks
    induction ks with
    | nil => simp [cntL]
    | cons a b ih => have := Z18c a; rw [cntL, List.length_cons]; omega
   have h1 := hc (n.t.kids.take 1000)
   rw [List.length_take, ← hN.len] at h1
   omega
 ·obtain ⟨i, hi⟩ := List.getElem?_of_mem hn
  obtain ⟨j, hj⟩ := List.getElem?_of_mem hx
  obtain ⟨u, m, e1, e2, e3, _⟩ := (hT.nok i n hi).kids j x hj
  exact (List.getElem?_eq_some_iff.1 e3).1
structure Asks (l : List Nd) (cols : List Col) (keep : List Bool) (n : Nat) (want : Nat → Nat) (key : Nat → Bool) : Prop where
 w0 : want 0 = n
 k0 : key 0 = true
 kid : ∀ i nd, l[i]? = some nd → keep.getD i false = true → ∀ (j x : Nat), nd.kids[j]? = some x → want x = askF nd.t.kind (cols.getD i col0) j ∧ key x = (decide (nd.t.kind = 11) && decide (j = 0))
 right : ∀ i nd, l[i]? = some nd → keep.getD i false = true → Right nd (cols.getD i col0) (want i) (!key i)
def DoneK (l : List Nd) (i j x : Nat) : Prop := x = 0 ∨ ∃ p q m, l[p]? = some q ∧ q.kids[m]? = some x ∧ (p < i ∨ p = i ∧ m < j)
structure AskI (l : List Nd) (keep : List Bool) (want : Nat → Nat) (key : Nat → Bool) (i j : Nat) (W : List Int) (B : List Bool) : Prop where
 lw : W.length = l.length
 lb : B.length = l.length
 eq : ∀ x, x < l.length → keep.getD x false = true → DoneK l i j x → W[x]? = some ((want x : Nat) : Int) ∧ B[x]? = some (key x)
theorem AskI.up {l : List Nd} (hT : TreeN l) {cols : List Col} {keep : List Bool} {n : Nat} {want : Nat → Nat} {key : Nat → Bool} (hA : Asks l cols keep n want key) {i j : Nat} {W : List Int} {B : List Bool} (h : AskI l keep want key i j W B)
  {nd : Nd} (hnd : l[i]? = some nd) (hk : keep.getD i false = true) {x : Nat} (hx : nd.kids[j]? = some x) :
  AskI l keep want key i (j + 1) (W.set x (askF nd.t.kind (cols.getD i col0) j : Nat)) (B.set x (decide (nd.t.kind = 11) && decide (j = 0))) := by
 obtain ⟨u, m, e1, e2, e3, e4, e5, _⟩ := (hT.nok i nd hnd).kids j x hx
 have hxl := (List.getElem?_eq_some_iff.1 e3).1
 refine ⟨by rw [List.length_set]; exact h.lw, by rw [List.length_set]; exact h.lb, fun y hy hky hd => ?_⟩
 obtain ⟨k1, k2⟩ := hA.kid i nd hnd hk j x hx
 by_cases e : y = x
 ·subst e
  rw [List.getElem?_set_self (by rw [h.lw]; exact hy), List.getElem?_set_self (by rw [h.lb]; exact hy), k1, k2]
  exact ⟨rfl, rfl⟩
 ·rw [List.getElem?_set_ne (fun e' => e e'.symm), List.getElem?_set_ne (fun e' => e e'.symm)]
  refine h.eq y hy hky ?_
  rcases hd with rfl | ⟨p, q, m', h1, h2, h3⟩
  ·exact .inl rfl
  ·refine .inr ⟨p, q, m', h1, h2, ?_⟩
   rcases h3 with h3 | ⟨rfl, h3⟩
   ·exact .inl h3
   ·refine .inr ⟨rfl, ?_⟩
    rw [hnd] at h1
    cases h1
    rcases Nat.lt_or_eq_of_le (Nat.le_of_lt_succ h3) with h4 | h4
    ·exact h4
    ·subst h4
     rw [hx] at h2
     cases h2
     exact absurd rfl e
theorem AskI.next {l : List Nd} (hT : TreeN l) {keep : List Bool} {want : Nat → Nat} {key : Nat → Bool} {i j : Nat} {W : List Int} {B : List Bool} (h : AskI l keep want key i j W B) {nd : Nd} (hnd : l[i]? = some nd) (hj : nd.kids.length ≤ j) : AskI l keep want key (i + 1) 0 W B := by
 refine ⟨h.lw, h.lb, fun y hy hky hd => h.eq y hy hky ?_⟩
 rcases hd with rfl | ⟨p, q, m', h1, h2, h3⟩
 ·exact .inl rfl
 ·refine .inr ⟨p, q, m', h1, h2, ?_⟩
  rcases h3 with h3 | ⟨_, h3⟩
  ·rcases Nat.lt_or_eq_of_le (Nat.le_of_lt_succ h3) with h4 | h4
   ·exact .inl h4
   ·subst h4
    rw [hnd] at h1
    cases h1
    have := (List.getElem?_eq_some_iff.1 h2).1
    exact .inr ⟨rfl, by omega⟩
  ·omega
theorem AskI.skip {l : List Nd} (hT : TreeN l) {keep : List Bool} (hW : Whole l keep) {want : Nat → Nat} {key : Nat → Bool} {i j : Nat} {W : List Int} {B : List Bool} (h : AskI l keep want key i j W B) {nd : Nd} (hnd : l[i]? = some nd) (hk : keep.getD i false = false) : AskI l keep want key (i + 1) 0 W B := by
 refine ⟨h.lw, h.lb, fun y hy hky hd => h.eq y hy hky ?_⟩
 rcases hd with rfl | ⟨p, q, m', h1, h2, h3⟩
 ·exact .inl rfl
 ·refine .inr ⟨p, q, m', h1, h2, ?_⟩
  rcases h3 with h3 | ⟨_, h3⟩
  ·rcases Nat.lt_or_eq_of_le (Nat.le_of_lt_succ h3) with h4 | h4
   ·exact .inl h4
   ·subst h4
    have := (hW p q h1 y (List.mem_of_getElem? h2)).1 hky
    rw [hk] at this
    cases this
  ·omega
theorem AskI.at {l : List Nd} (hT : TreeN l) {keep : List Bool} {want : Nat → Nat} {key : Nat → Bool} {i : Nat} {W : List Int} {B : List Bool} (h : AskI l keep want key i 0 W B) {nd : Nd} (hnd : l[i]? = some nd) (hk : keep.getD i false = true) : W[i]? = some ((want i : Nat) : Int) ∧ B[i]? = some (key i) := by
 refine h.eq i (List.getElem?_eq_some_iff.1 hnd).1 hk ?_
 by_cases e : i = 0
 ·exact .inl e
 ·obtain ⟨⟨p, q, m, e1, e2, e3, e4, _⟩⟩ := hT.par i nd hnd (by omega)
  exact .inr ⟨p, q, m, e3, e4, .inl e2⟩
end Go.Abs
namespace Go.Abs
open Go Go.Proofs
mutual
def prV (l : List Nd) (keep : List Bool) (a : Nat) : Vl → Vl
 | .mk nu i n b ks => .mk nu i n b (prL l keep a i 0 ks)
def prL (l : List Nd) (keep : List Bool) (a : Nat) (i : Int) (j : Nat) : List Vl → List Vl
 | [] => []
 | v :: vs => if keep.getD (kidC l a (Zrz l a) i j) false = true then prV l keep (kidC l a (Zrz l a) i j) v :: prL l keep a i (j + 1) vs else prL l keep a i (j + 1) vs
end
structure Stand (l : List Nd) (keep : List Bool) (s : Tk) (P : Nat → Col) : Prop where
 sz : s.sz l.length
 at_ : ∀ c, c < l.length → keep.getD c false = true → s.at_.getD c 0 = (P c).here.length
 he : ∀ c, c < l.length → keep.getD c false = true → s.he.getD c 0 = (P c).here.count true
 good : ∀ c, c < l.length → keep.getD c false = true → (P c).Good (Zrz l c)
theorem Stand.congr {l : List Nd} {keep : List Bool} {s : Tk} {P P' : Nat → Col} (h : Stand l keep s P) (e : ∀ c, P c = P' c) : Stand l keep s P' := by
 rw [show P' = P from funext fun c => (e c).symm]; exact h
theorem Z1a8 (xs : List Nat) (a c y : Nat) (ha : a < xs.length) : (xs.set a y).getD c 0 = if c = a then y else xs.getD c 0 := by
 rw [List.getD_eq_getElem?_getD, List.getD_eq_getElem?_getD]
 by_cases h : c = a
 ·subst h; rw [List.getElem?_set_self ha, if_pos rfl]; rfl
 ·rw [List.getElem?_set_ne (fun e => h e.symm), if_neg h]
theorem Stand.null {l : List Nd} {keep : List Bool} {s : Tk} {P : Nat → Col} (h : Stand l keep s P) {a : Nat} (ha : a < l.length) (hk : keep.getD a false = true) : Stand l keep ⟨s.at_.set a (s.at_.getD a 0 + 1), s.he⟩ (fun c => appC (P c) (if c = a then Zry false col0 else col0)) := by
 obtain ⟨⟨s1, s2⟩, h1, h2, h3⟩ := h
 refine ⟨⟨by rw [List.length_set]; exact s1, s2⟩, fun c hc hkc => ?_, fun c hc hkc => ?_, fun c hc hkc => ?_⟩
 ·show (s.at_.set a _).getD c 0 = _
  rw [Z1a8 _ _ _ _ (by omega)]
  by_cases e : c = a
  ·subst e; rw [if_pos rfl, if_pos rfl, h1 c hc hkc]; simp [appC, Zry, col0]
  ·rw [if_neg e, if_neg e, Z188]; exact h1 c hc hkc
 ·show s.he.getD c 0 = _
  by_cases e : c = a
  ·subst e; rw [if_pos rfl, h2 c hc hkc]; simp [appC, Zry, col0]
  ·rw [if_neg e, Z188]; exact h2 c hc hkc
 ·by_cases e : c = a
  ·subst e
   simp only [if_true]
   exact Z18k (h3 c hc hkc) (Zt3 (Zt5 _))
  ·simp only [if_neg e, Z188]; exact h3 c hc hkc
theorem Stand.own {l : List Nd} {keep : List Bool} {s : Tk} {P : Nat → Col} (h : Stand l keep s P) {a : Nat} (ha : a < l.length) (hk : keep.getD a false = true) (v : Vl) :
  Stand l keep ⟨s.at_.set a (s.at_.getD a 0 + 1), s.he.set a (s.he.getD a 0 + 1)⟩ (fun c => appC (P c) (if c = a then addC (Zrz l a) v col0 else col0)) := by
 obtain ⟨⟨s1, s2⟩, h1, h2, h3⟩ := h
 have hc1 : ∀ k, (addC k v col0).here.length = 1 := fun k => by
  unfold addC Zrx Zrw Zry
  (repeat' split) <;> rfl
 refine ⟨⟨by rw [List.length_set]; exact s1, by rw [List.length_set]; exact s2⟩, fun c hc hkc => ?_, fun c hc hkc => ?_, fun c hc hkc => ?_⟩
 ·show (s.at_.set a _).getD c 0 = _
  rw [Z1a8 _ _ _ _ (by omega)]
  by_cases e : c = a
  ·subst e; rw [if_pos rfl, if_pos rfl, h1 c hc hkc]; simp [appC, hc1]
  ·rw [if_neg e, if_neg e, Z188]; exact h1 c hc hkc
 ·show (s.he.set a _).getD c 0 = _
  rw [Z1a8 _ _ _ _ (by omega)]
  by_cases e : c = a
  ·subst e; rw [if_pos rfl, if_pos rfl, h2 c hc hkc]; simp [appC, Z18l]
  ·rw [if_neg e, if_neg e, Z188]; exact h2 c hc hkc
 ·by_cases e : c = a
  ·subst e
   simp only [if_true]
   exact Z18k (h3 c hc hkc) (Zt4 (Zt5 _))
  ·simp only [if_neg e, Z188]; exact h3 c hc hkc
def Holds (l : List Nd) (keep : List Bool) (cols : List Col) (P D : Nat → Col) : Prop := ∀ c, c < l.length → keep.getD c false = true → ∃ Q, cols.getD c col0 = appC (appC (P c) (D c)) Q
theorem Holds.first {l : List Nd} {keep : List Bool} {cols : List Col} {P D E : Nat → Col} (h : Holds l keep cols P (fun c => appC (D c) (E c))) : Holds l keep cols P D := fun c hc hk => by
 obtain ⟨Q, hQ⟩ := h c hc hk
 exact ⟨appC (E c) Q, by rw [hQ, Z189, Z189, Z189]⟩
theorem Holds.rest {l : List Nd} {keep : List Bool} {cols : List Col} {P D E : Nat → Col} (h : Holds l keep cols P (fun c => appC (D c) (E c))) : Holds l keep cols (fun c => appC (P c) (D c)) E := fun c hc hk => by
 obtain ⟨Q, hQ⟩ := h c hc hk
 exact ⟨Q, by rw [hQ, Z189, Z189, Z189, Z189]⟩
def Z1a9 (l : List Nd) (keep : List Bool) (cols : List Col) (v : Vl) : Prop := ∀ (a : Nat) (n : Nd), l[a]? = some n → n.t.Ok → vchk n.t v = 0 → keep.getD a false = true → ∀ (s : Tk) (P : Nat → Col), Stand l keep s P → Holds l keep cols P (fun c => pcon l a c v) →
 ∃ s', takeT cols keep n.t a s = some (prV l keep a v, s') ∧ Stand l keep s' (fun c => appC (P c) (pcon l a c v))
structure KidI (l : List Nd) (keep : List Bool) (cols : List Col) (a : Nat) (n : Nd) (i : Int) (j : Nat) (v : Vl) : Prop where
 ok : Z1a9 l keep cols v
 ex : ∃ q, l[a + 1 + cntL (n.t.kids.take (Zmq n.t.kind i j))]? = some q ∧ n.t.kids[Zmq n.t.kind i j]? = some q.t ∧ q.t.Ok ∧ vchk q.t v = 0 ∧ kidC l a (Zrz l a) i j = a + 1 + cntL (n.t.kids.take (Zmq n.t.kind i j)) ∧
  (n.t.kind ≠ 12 → keep.getD (a + 1 + cntL (n.t.kids.take (Zmq n.t.kind i j))) false = true)
end Go.Abs
namespace Go.Abs
open Go Go.Proofs
theorem Z1aa {cols : List Col} {keep : List Bool} : ∀ {ks : List Ty} {i a : Nat} {s : Tk} {u : Ty}, ks[i]? = some u → takeN cols keep ks i a s = takeT cols keep u (a + cntL (ks.take i)) s
 | [], i, a, s, u, h => by simp at h
 | t :: ts, 0, a, s, u, h => by
  simp only [List.getElem?_cons_zero, Option.some.injEq] at h
  subst h
  rw [takeN, List.take_zero, cntL, Nat.add_zero]
 | t :: ts, i + 1, a, s, u, h => by
  rw [takeN, Z1aa (by simpa using h), List.take_succ_cons, cntL, Nat.add_assoc]
end Go.Abs
namespace Go.Abs
open Go Go.Proofs
def tB5 : Ty := .mk 0 [] [] 0 0 0
def tS5 : Ty := .mk 12 [[97]] [tB5] 0 0 0
def tN5 : Ty := .mk 12 [[115]] [tS5] 0 0 0
def Z1ab : List Nd := [⟨tN5, [1], -1, 1⟩, ⟨tS5, [2], 0, 2⟩, ⟨tB5, [], 1, 3⟩]
def inN5 (nu i : Bool) : Vl := if nu = true then .mk true 0 0 [] [] else .mk false 0 0 [] [.mk i 0 0 [] []]
def rowN5 (nu i : Bool) : Vl := .mk false 0 0 [] [inN5 nu i]
end Go.Abs
namespace Go.Abs
open Go Go.Proofs
def keyF (l : List Nd) (x : Nat) : Bool :=
 match l[x]? with
 | none => false
 | some nd => if nd.parent < 0 then true else
  match l[nd.parent.toNat]? with
  | none => false
  | some q => decide (q.t.kind = 11) && decide (q.kids[0]? = some x)
theorem Z1ac {l : List Nd} (hT : TreeN l) {i : Nat} {n : Nd} (hn : l[i]? = some n) {j x : Nat} (hx : n.kids[j]? = some x) : keyF l x = (decide (n.t.kind = 11) && decide (j = 0)) := by
 have hN := hT.nok i n hn
 obtain ⟨u, m, e1, e2, e3, e4, e5, _⟩ := hN.kids j x hx
 have hinj : n.kids[0]? = some x ↔ j = 0 := by
  constructor
  ·intro h
   obtain ⟨u', m', f1, f2, f3, _⟩ := hN.kids 0 x h
   rw [List.take_zero, cntL] at f2
   by_cases e : j = 0
   ·exact e
   ·have h0 : 0 < n.t.kids.length := (List.getElem?_eq_some_iff.1 f1).1
    have hjl := (List.getElem?_eq_some_iff.1 e1).1
    have key : ∀ (ks : List Ty) (j : Nat), 0 < j → 0 < ks.length → 0 < cntL (ks.take j) := by
     intro ks j hj hk
     match ks, j, hk with
     | t :: ts, j + 1, _ =>
      have := Z18c t
      rw [List.take_succ_cons, cntL]; omega
    have := key n.t.kids j (by omega) h0
    omega
  ·intro e; rw [← e]; exact hx
 rw [keyF, e3]
 simp only
 rw [e5, if_neg (by omega), Int.toNat_natCast, hn]
 simp only
 congr 1
 exact decide_eq_decide.2 hinj
def ownC (k : Int) (v : Vl) : Col := if v.null = true then Zry false col0 else addC k v col0
theorem Z1ad {l : List Nd} (hT : TreeN l) (Pr : Nat → Col → Prop) (h0 : ∀ c, Pr c col0) (happ : ∀ c A B, Pr c A → Pr c B → Pr c (appC A B))
  (hown : ∀ (a : Nat) (n : Nd) (v : Vl), l[a]? = some n → n.t.Ok → vchk n.t v = 0 → (keyF l a = true → v.null = false) → Pr a (ownC n.t.kind v)) :
  ∀ (v : Vl) (a : Nat) (n : Nd), l[a]? = some n → n.t.Ok → vchk n.t v = 0 → (keyF l a = true → v.null = false) → ∀ c, Pr c (pcon l a c v) := by
 refine Vl.ind fun nu i m b ks ih a n hn hok hv hkey c => ?_
 have hO := hown a n _ hn hok hv hkey
 have hkind : Zrz l a = n.t.kind := by rw [Zrz, hn]
 cases nu with
 | true =>
  rw [pcon, if_pos rfl]
  split
  ·rename_i e; subst e; exact hO
  ·exact h0 c
 | false =>
  rw [pcon, if_neg (by simp)]
  refine happ _ _ _ ?_ ?_
  ·split
   ·rename_i e; subst e; rw [hkind]; exact hO
   ·exact h0 c
  ·have hL : ∀ (vs : List Vl) (j : Nat), (∀ m w, vs[m]? = some w → ks[j + m]? = some w) → Pr c (pconL l a c i j vs) := by
    intro vs
    induction vs with
    | nil => intro j _; rw [pconL]; exact h0 c
    | cons w vs ih2 =>
     intro j hj
     rw [pconL]
     refine happ _ _ _ ?_ (ih2 (j + 1) fun m w' hw => by have := hj (m + 1) w' (by simpa using hw); rw [show j + 1 + m = j + (m + 1) by omega]; exact this)
     have hw0 := hj 0 w rfl
     rw [Nat.add_zero] at hw0
     obtain ⟨x, q, x1, x2, x3, x4, x5, x6, x7⟩ := Z18i hT hn hok hv hw0
     rw [x2]
     refine ih w (List.mem_of_getElem? hw0) x q x3 x6 x7 (fun hkx => ?_) c
     rw [Z1ac hT hn x1] at hkx
     simp only [Bool.and_eq_true, decide_eq_true_eq] at hkx
     obtain ⟨k11, kj⟩ := hkx
     have hj2 : j % 2 = 0 := by
      rw [Zmq, if_neg (by omega), if_pos k11] at kj
      exact kj
     have hvL := (Z18h hv).2
     have key : ∀ (ks : List Vl) (p : Nat), Zmr n.t i p ks = 0 → ∀ (m : Nat) (w : Vl), ks[m]? = some w → (p + m) % 2 = 0 → w.null = false := by
      intro ks
      induction ks with
      | nil => intro p _ m w h; simp at h
      | cons y ys ih3 =>
       intro p h m w hw hp
       rw [Zmr] at h
       split at h
       ·cases h
       ·rename_i hne
        split at h
        ·rename_i h1; exact absurd h h1
        ·cases m with
         | zero =>
          simp only [List.getElem?_cons_zero, Option.some.injEq] at hw
          subst hw
          cases e : y.null with
          | false => rfl
          | true => exact absurd ⟨k11, by simpa using hp, e⟩ hne
         | succ m => exact ih3 (p + 1) h m w (by simpa using hw) (by rw [show p + 1 + m = p + (m + 1) by omega]; exact hp)
     exact key ks 0 hvL j w hw0 (by rw [Nat.zero_add]; exact hj2)
   exact hL ks 0 fun m w hw => by rw [Nat.zero_add]; exact hw
def cntK (k : Int) (c : Col) (j : Nat) : Nat := if k = 10 ∨ k = 11 then (c.lens.map Int.toNat).sum else if k = 13 then c.ints.count (j : Int) else c.here.count true
theorem Z1ae : ∀ (l : List Int) (out : Nat), (∀ v ∈ l, 0 ≤ v) → out + (l.map Int.toNat).sum ≤ 16384 → sumL l out = out + (l.map Int.toNat).sum
 | [], out, _, _ => by simp [sumL]
 | v :: vs, out, h, hs => by
  have hv := h v (by simp)
  simp only [List.map_cons, List.sum_cons] at hs ⊢
  rw [sumL, if_neg (by omega), Z1ae vs _ (fun w hw => h w (List.mem_cons_of_mem _ hw)) (by omega)]
  omega
def Z1af (k i : Int) (j : Nat) : Nat → Nat → Nat
 | _, 0 => 0
 | p, n + 1 => (if Zmq k i p = j then 1 else 0) + Z1af k i j (p + 1) n
end Go.Abs
namespace Go.Abs
open Go Go.Proofs
structure PrC (l : List Nd) (c : Nat) (A : Col) : Prop where
 ns : Zrz l c = 9 → A.ns.length = A.ints.length
 ints : ∀ nd, l[c]? = some nd → ∀ (i : Nat) v, A.ints[i]? = some v → Z17x (tyK nd) v (if nd.t.kind = 9 then A.ns.getD i 0 else 0) = true
 texts : ∀ nd, l[c]? = some nd → ∀ b ∈ A.texts, vchk (tyK nd) (.mk false 0 0 b []) = 0
 lens : ∀ v ∈ A.lens, 0 ≤ v ∧ v ≤ 16384
 key : keyF l c = true → A.here.count true = A.here.length
theorem PrC.z (l : List Nd) (c : Nat) : PrC l c col0 := by
 constructor <;> simp [col0]
theorem PrC.app {l : List Nd} {c : Nat} {A B : Col} (a : PrC l c A) (b : PrC l c B) : PrC l c (appC A B) := by
 obtain ⟨a1, a2, a3, a4, a5⟩ := a
 obtain ⟨b1, b2, b3, b4, b5⟩ := b
 refine ⟨fun h => ?_, fun nd hn i v hv => ?_, fun nd hn t ht => ?_, fun v hv => ?_, fun h => ?_⟩
 ·simp only [appC, List.length_append]; rw [a1 h, b1 h]
 ·simp only [appC] at hv ⊢
  have hk : Zrz l c = nd.t.kind := by rw [Zrz, hn]
  by_cases e : i < A.ints.length
  ·rw [List.getElem?_append_left e] at hv
   have := a2 nd hn i v hv
   by_cases k9 : nd.t.kind = 9
   ·rw [if_pos k9] at this ⊢
    have hl := a1 (by rw [hk]; exact k9)
    rw [List.getD_eq_getElem?_getD, List.getElem?_append_left (by omega), ← List.getD_eq_getElem?_getD]
    exact this
   ·rw [if_neg k9] at this ⊢; exact this
  ·rw [List.getElem?_append_right (by omega)] at hv
   have := b2 nd hn _ v hv
   by_cases k9 : nd.t.kind = 9
   ·rw [if_pos k9] at this ⊢
    have hl := a1 (by rw [hk]; exact k9)
    rw [List.getD_eq_getElem?_getD, List.getElem?_append_right (by omega), ← List.getD_eq_getElem?_getD, hl]
    exact this
   ·rw [if_neg k9] at this ⊢; exact this
 ·simp only [appC] at ht
  rcases List.mem_append.1 ht with h | h
  ·exact a3 nd hn t h
  ·exact b3 nd hn t h
 ·simp only [appC] at hv
  rcases List.mem_append.1 hv with h | h
  ·exact a4 v h
  ·exact b4 v h
 ·simp only [appC, List.count_append, List.length_append]; rw [a5 h, b5 h]
theorem PrC.own {l : List Nd} (hT : TreeN l) {a : Nat} {n : Nd} {v : Vl} (hn : l[a]? = some n) (hok : n.t.Ok) (hv : vchk n.t v = 0) (hkey : keyF l a = true → v.null = false) : PrC l a (ownC n.t.kind v) := by
 obtain ⟨nu, i, m, b, ks⟩ := v
 cases nu with
 | true =>
  refine ⟨?_, ?_, ?_, ?_, fun h => by have := hkey h; cases this⟩ <;> simp [ownC, Vl.null, Zry, col0]
 | false =>
  have hkl := (hT.nok a n hn).len
  obtain ⟨ho, _⟩ := Z18h hv
  have hO : ownC n.t.kind (.mk false i m b ks) = addC n.t.kind (.mk false i m b ks) col0 := rfl
  rw [hO]
  have hkinds := hok.kinds
  have hnum : Zmp n.t.kind n.t.kids.length n.t.prec i m = true ∧ (b ≠ [] → Zmm n.t.kind = true) ∧ (ks.length ≠ 0 → Zm4 n.t.kind = false) := by
   unfold ownV at ho
   split at ho
   ·cases ho
   ·rename_i h1
    simp only [not_or, not_and, Bool.not_eq_false, Bool.not_eq_true] at h1
    exact ⟨h1.1, h1.2.1, h1.2.2⟩
  obtain ⟨u1, u2, u3⟩ := hnum
  have hb0 : Zmm n.t.kind = false → b = [] := fun h => by
   by_cases e : b = []
   ·exact e
   ·have := u2 e; rw [h] at this; cases this
  have hm0 : n.t.kind ≠ 9 → m = 0 := fun h => by
   rw [Zmp] at u1
   split at u1
   ·cases u1
   ·rename_i h2; simp only [not_and, Decidable.not_not] at h2
    by_cases e : m = 0
    ·exact e
    ·exact absurd (h2 e) h
  have hks0 : Zm4 n.t.kind = true → ks = [] := fun h => by
   by_cases e : ks.length = 0
   ·exact List.length_eq_zero_iff.1 e
   ·have := u3 e; rw [h] at this; cases this
  have hh : (addC n.t.kind (.mk false i m b ks) col0).here = [true] := by
   unfold addC Zrx Zrw Zry col0
   (repeat' split) <;> rfl
  have hvK : Zm4 n.t.kind = true → vchk (tyK n) (.mk false i m b []) = 0 := fun h => by
   have e := hks0 h
   subst e
   have e1 : ownV (tyK n) i m b ([] : List Vl).length = ownV n.t i m b ([] : List Vl).length := by
    unfold ownV
    have e2 : (tyK n).kids.length = n.t.kids.length := by rw [← hkl]; simp [tyK, Ty.kids]
    have e3 : (tyK n).kind = n.t.kind := rfl
    have e4 : (tyK n).prec = n.t.prec := rfl
    have e5 : (tyK n).len = n.t.len := rfl
    rw [e2, e3, e4, e5]
   rw [vchk, if_neg (by simp), if_neg (by rw [e1, ho]; simp)]
   rfl
  have hkind : Zrz l a = n.t.kind := by rw [Zrz, hn]
  by_cases k10 : n.t.kind = 10
  ·have e : addC n.t.kind (.mk false i m b ks) col0 = ⟨[true], [], [], [], [(ks.length : Int)]⟩ := by simp [addC, Zrx, Zrw, Zry, col0, k10, Zmm, Vl.kids]
   rw [e]
   refine ⟨fun _ => rfl, by simp, by simp, ?_, fun _ => rfl⟩
   intro v hv
   rw [List.mem_singleton.1 hv]
   unfold ownV at ho
   (repeat' split at ho) <;> first | omega | (exfalso; omega)
  by_cases k11 : n.t.kind = 11
  ·have e : addC n.t.kind (.mk false i m b ks) col0 = ⟨[true], [], [], [], [((ks.length : Int) / 2)]⟩ := by simp [addC, Zrx, Zrw, Zry, col0, k11, Zmm, Vl.kids]
   rw [e]
   refine ⟨fun _ => rfl, by simp, by simp, ?_, fun _ => rfl⟩
   intro v hv
   rw [List.mem_singleton.1 hv]
   unfold ownV at ho
   (repeat' split at ho) <;> first | omega | (exfalso; omega)
  by_cases k12 : n.t.kind = 12
  ·have e : addC n.t.kind (.mk false i m b ks) col0 = ⟨[true], [], [], [], []⟩ := by simp [addC, Zrx, Zrw, Zry, col0, k12, Zmm]
   rw [e]
   exact ⟨fun _ => rfl, by simp, by simp, by simp, fun _ => rfl⟩
  by_cases k13 : n.t.kind = 13
  ·have e : addC n.t.kind (.mk false i m b ks) col0 = ⟨[true], [i], [], [], []⟩ := by simp [addC, Zrx, Zrw, Zry, col0, k13, Zmm, Vl.i]
   rw [e]
   refine ⟨fun h => by rw [hkind] at h; omega, ?_, by simp, by simp, fun _ => rfl⟩
   intro nd hnd j v hv
   rw [hn] at hnd
   cases hnd
   match j, hv with
   | 0, hv =>
    simp only [List.getElem?_cons_zero, Option.some.injEq] at hv
    subst hv
    rw [Z17x, if_pos (by show n.t.kind = 13; exact k13)]
    rw [Zmp] at u1
    rw [k13] at u1
    split at u1
    ·cases u1
    ·have e2 : (tyK n).kids.length = n.t.kids.length := by rw [← hkl]; simp [tyK, Ty.kids]
     rw [e2]
     simpa using u1
   | j + 1, hv => simp at hv
  have hleaf : Zm4 n.t.kind = true := by simp [Zm4, k10, k11, k12, k13]
  have hvK := hvK hleaf
  by_cases hT7 : Zmm n.t.kind = true
  ·have hk := Zt2 hT7
   have hm := hm0 (by omega)
   have hz : i = 0 := by
    rw [Zmp] at u1
    rw [if_neg (by omega), if_neg (by omega), if_neg (by omega), if_neg (by omega), if_neg (by omega), if_neg (by omega), if_neg (by omega), if_neg (by omega), if_neg (by omega)] at u1
    exact of_decide_eq_true u1
   subst hm hz
   have e : addC n.t.kind (.mk false 0 0 b ks) col0 = ⟨[true], [], [], [b], []⟩ := by rw [addC, Zrx, if_neg (by omega), Zrw, if_pos hT7]; rfl
   rw [e]
   refine ⟨fun _ => rfl, by simp, ?_, by simp, fun _ => rfl⟩
   intro nd hnd t ht
   rw [hn] at hnd
   cases hnd
   rw [List.mem_singleton.1 ht]
   exact hvK
  have hbb := hb0 (by simpa using hT7)
  subst hbb
  by_cases k9 : n.t.kind = 9
  ·have e : addC n.t.kind (.mk false i m [] ks) col0 = ⟨[true], [i], [m], [], []⟩ := by simp [addC, Zrx, Zrw, Zry, col0, k9, Zmm, Vl.i, Vl.n]
   rw [e]
   refine ⟨fun _ => rfl, ?_, by simp, by simp, fun _ => rfl⟩
   intro nd hnd j v hv
   rw [hn] at hnd
   cases hnd
   match j, hv with
   | 0, hv =>
    simp only [List.getElem?_cons_zero, Option.some.injEq] at hv
    subst hv
    rw [Z17x, if_neg (by show ¬ n.t.kind = 13; exact k13), if_pos k9]
    exact decide_eq_true hvK
   | j + 1, hv => simp at hv
  ·have hm := hm0 k9
   subst hm
   have e : addC n.t.kind (.mk false i 0 [] ks) col0 = ⟨[true], [i], [], [], []⟩ := by rw [addC, Zrx, if_neg k9, Zrw, if_neg hT7, if_neg k10, if_neg k11, if_pos k12]; rfl
   rw [e]
   refine ⟨fun h => by rw [hkind] at h; omega, ?_, by simp, by simp, fun _ => rfl⟩
   intro nd hnd j v hv
   rw [hn] at hnd
   cases hnd
   match j, hv with
   | 0, hv =>
    simp only [List.getElem?_cons_zero, Option.some.injEq] at hv
    subst hv
    rw [Z17x, if_neg (by show ¬ n.t.kind = 13; exact k13), if_neg k9]
    exact decide_eq_true hvK
   | j + 1, hv => simp at hv
theorem PrC.rows {l : List Nd} (hT : TreeN l) {n0 : Nd} (h0 : l[0]? = some n0) (hok : n0.t.Ok) : ∀ (rows : List Vl), (∀ v ∈ rows, vchk n0.t v = 0 ∧ v.null = false) → ∀ c, PrC l c (Z187 l c rows)
 | [], _, c => PrC.z l c
 | v :: vs, h, c => by
  obtain ⟨h1, h2⟩ := h v (by simp)
  rw [Z187]
  refine PrC.app ?_ (PrC.rows hT h0 hok vs (fun w hw => h w (List.mem_cons_of_mem _ hw)) c)
  exact Z1ad hT (PrC l) (PrC.z l) (fun c A B => PrC.app) (fun a n v hn hok hv hk => PrC.own hT hn hok hv hk) v 0 n0 h0 hok h1 (fun _ => h2) c
theorem Z1ag {l : List Nd} (hT : TreeN l) : Whole l (List.replicate l.length true) := by
 intro i n hn x hx
 obtain ⟨j, hj⟩ := List.getElem?_of_mem hx
 obtain ⟨_, _, _, _, hxl, _⟩ := (hT.nok i n hn).kids j x hj
 have h1 := (List.getElem?_eq_some_iff.1 hn).1
 have h2 := (List.getElem?_eq_some_iff.1 hxl).1
 have e : ∀ y, y < l.length → (List.replicate l.length true).getD y false = true := fun y hy => by rw [List.getD_eq_getElem?_getD, List.getElem?_replicate, if_pos hy]; rfl
 exact ⟨fun _ => e i h1, fun _ => .inl (e x h2)⟩
end Go.Abs
namespace Go.Abs
open Go Go.Proofs
attribute [local irreducible] AWp aops KP
def fillN : Nat → Nat → List Bool → List Bool
 | _, 0, k => k
 | a, n + 1, k => fillN (a + 1) n (k.set a true)
theorem Z1ah : ∀ (n a : Nat) (k : List Bool), (fillN a n k).length = k.length
 | 0, _, _ => rfl
 | n + 1, a, k => by rw [fillN, Z1ah n, List.length_set]
theorem Z1ai : ∀ (m a n : Nat) (k : List Bool), fillN a (m + n) k = fillN (a + m) n (fillN a m k)
 | 0, a, n, k => by rw [Nat.zero_add, fillN, Nat.add_zero]
 | m + 1, a, n, k => by rw [show m + 1 + n = m + n + 1 by omega, fillN, Z1ai m, fillN, show a + 1 + m = a + (m + 1) by omega]
theorem Z1aj : ∀ (n a : Nat) (k : List Bool) (x : Nat), (fillN a n k).getD x false = true ↔ (a ≤ x ∧ x < a + n ∧ x < k.length) ∨ k.getD x false = true
 | 0, a, k, x => by
  rw [fillN]
  constructor
  ·exact .inr
  ·rintro (h | h)
   ·omega
   ·exact h
 | n + 1, a, k, x => by
  rw [fillN, Z1aj n, List.length_set, List.getD_eq_getElem?_getD, List.getD_eq_getElem?_getD, List.getElem?_set]
  by_cases e : a = x
  ·subst e
   rw [if_pos rfl]
   by_cases hl : a < k.length
   ·rw [if_pos hl]
    simp
    omega
   ·rw [if_neg hl, List.getElem?_eq_none (by omega)]
    simp
    omega
  ·rw [if_neg e]
   constructor
   ·rintro (h | h)
    ·exact .inl (by omega)
    ·exact .inr h
   ·rintro (h | h)
    ·exact .inl (by omega)
    ·exact .inr h
theorem Z1ak {l : List Bool} {i : Nat} (x : Z0) (hx : ∃ b, x = .bool b) : (l.map Z0.bool).set (0 + ((i : Nat) : Int).toNat) (Z1t x 0 (Z0.bool true).cells) = (l.set i true).map Z0.bool := by
 obtain ⟨b, rfl⟩ := hx
 rw [Nat.zero_add, Int.toNat_natCast, List.map_set]; rfl
theorem Z1al {l : List Nd} (hT : TreeN l) (hll : l.length ≤ 1000) : ∀ (t : Ty) (a : Nat) (n : Nd), l[a]? = some n → n.t = t → ∀ (H : Zc) (b : Nat) (k : List Bool), Zd H b = some (.cells 1 (k.map .bool)) → k.length = l.length → ∀ f,
  Z1s Try.prog Zee [.slc 9 (l.map encR) f, .arr 1 b 0 l.length, .int .i64 (a : Int)] H fun r H' => r = .tup [] ∧ H' = Ze H b (.cells 1 ((fillN a (cnt t) k).map .bool)) := by
 refine Ty.ind fun kd nms ks le pr sc ih a n hn hnt H b k hb hk f => ?_
 have hal := (List.getElem?_eq_some_iff.1 hn).1
 have hkl := (hT.nok a n hn).len
 have hnk : n.t.kids = ks := by rw [hnt]; rfl
 rw [hnk] at hkl
 have hks : ks.length ≤ 1000 := by
  have := (hT.nok a n hn).len
  by_cases e : ks.length = 0
  ·omega
  ·have hx := List.getElem?_eq_getElem (show ks.length - 1 < n.kids.length by omega)
   obtain ⟨u, m, e1, e2, e3, _⟩ := (hT.nok a n hn).kids _ _ hx
   have h3 := (List.getElem?_eq_some_iff.1 e3).1
   have key : ∀ (ks : List Ty), ks.length ≤ cntL ks := by
    intro ks
    induction ks with
    | nil => exact Nat.le_refl _
    | cons t ts ih => have := Z18c t; rw [cntL, List.length_cons]; omega
   have := key (n.t.kids.take (ks.length - 1))
   rw [List.length_take, hnk] at this
   rw [hnk] at e2
   omega
 have hx0 : (l.map encR)[(a : Int).toNat]? = some (encR n) := by rw [Int.toNat_natCast, List.getElem?_map, hn]; rfl
 have hb0 : (k.map Z0.bool)[0 + ((a : Nat) : Int).toNat]? = some (.bool (k[a]'(by omega))) := by rw [Nat.zero_add, Int.toNat_natCast, List.getElem?_map, List.getElem?_eq_getElem (by omega)]; rfl
 have hil : (ints n.kids).length = n.kids.length := List.length_map ..
 refine Z94 rfl Z1a6 (Nat.le_of_ble_eq_true rfl) ?_
 refine Za1 ?_
 repeat refine Kq rfl rfl rfl ?_
 refine Z9e rfl ⟨by omega, by omega⟩ ?_
 refine Z9g rfl hb hb0 (by decide) (Kfi rfl) (fun _ => ⟨rfl, rfl⟩) rfl ?_
 rw [Z1ak _ ⟨_, rfl⟩]
 (refine Z99 ?_; (repeat(first|refine Z9x rfl ?_|refine Z9y ?_)); refine Z9w ?_)
 (repeat(first|refine Kq rfl rfl rfl ?_|(refine Z99 ?_; (repeat(first|refine Z9x rfl ?_|refine Z9y ?_)); refine Z9w ?_)|refine Ks ?_|refine Zb1 (fun _ _ => rfl) ?_|refine Z8s ?_))
 obtain ⟨I, hI⟩ : ∃ I : Nat → Z27 → Zc → Prop, I = fun m F σ' => ∃ j : Nat, F = fset 0 (some (.slc 9 (l.map encR) f)) (fset 1 (some (.arr 1 b 0 l.length)) (fset 2 (some (.int .i64 (a : Nat))) (fset 6 (some (.int .i64 (j : Nat))) Z28))) ∧ Ze H b (.cells 1 ((fillN (a + 1) (cntL (ks.take j)) (k.set a true)).map .bool)) = σ' ∧ j ≤ ks.length ∧ m = ks.length - j := ⟨_, rfl⟩
 refine Za6 I (n := ks.length) (by rw [hI]; exact ⟨0, rfl, rfl, by omega, by omega⟩) ?_
 intro m0 F σ' hIm
 rw [hI] at hIm
 obtain ⟨j, rfl, rfl, hj, rfl⟩ := hIm
 (repeat(first|refine Kq rfl rfl rfl ?_|refine Ks ?_|refine Zb1 (fun _ _ => rfl) ?_))
 refine Z9d rfl (by omega) hx0 ?_
 (repeat(first|refine Kq rfl rfl rfl ?_|(refine Z99 ?_; (repeat(first|refine Z9x rfl ?_|refine Z9y ?_)); refine Z9w ?_)))
 rw [hil, hkl]
 refine Za2 (p := (j : Int) < (ks.length : Int)) rfl (fun h5 => ?_) (fun h5 => ?_)
 ·have hjl : j < ks.length := by omega
  have hx := List.getElem?_eq_getElem (show j < n.kids.length by omega)
  obtain ⟨u, m, e1, e2, e3, e4, _⟩ := (hT.nok a n hn).kids _ _ hx
  rw [hnk] at e1 e2
  have hux : (ints n.kids)[(j : Int).toNat]? = some (.int .i64 ((n.kids[j] : Nat) : Int)) := by rw [Int.toNat_natCast, ints, List.getElem?_map, hx]; rfl
  generalize n.kids[j] = x at e2 e3 hux
  have hcs := Z18q ks j u e1
  have hc := ih u (List.mem_of_getElem? e1) x m e3 e4 (Ze H b (.cells 1 ((fillN (a + 1) (cntL (ks.take j)) (k.set a true)).map .bool))) b (fillN (a + 1) (cntL (ks.take j)) (k.set a true)) (Z5l hb) (by rw [Z1ah, List.length_set, hk]) f
  rw [Zab, e2, ← Z1ai, ← hcs, ← e2] at hc
  (repeat(first|refine Kq rfl rfl rfl ?_|refine Ks ?_|refine Zb1 (fun _ _ => rfl) ?_|refine Z8s ?_|refine Zb2 (fun _ _ => rfl) ?_))
  refine Z9d rfl (by omega) hx0 ?_
  repeat refine Kq rfl rfl rfl ?_
  refine Z9d rfl (by omega) hux ?_
  repeat refine Kq rfl rfl rfl ?_
  refine Z9v rfl hc ?_
  (repeat(refine Z99 ?_; (repeat(first|refine Z9x rfl ?_|refine Z9y ?_)); refine Z9w ?_))
  refine Zb4 ?_
  repeat refine Kq rfl rfl rfl ?_
  rw [Kwr j (by omega)]
  (refine Z99 ?_; (repeat(first|refine Z9x rfl ?_|refine Z9y ?_)); refine Z9w ?_)
  refine ⟨_, ks.length - (j + 1), HSub.refl _, ?_, by omega⟩
  rw [hI]
  exact ⟨j + 1, rfl, rfl, by omega, rfl⟩
 ·have e : ks.take j = ks := List.take_of_length_le (by omega)
  rw [e]
  refine Z8n ?_
  refine ⟨[], rfl, .tup [], _, Z8y.of_sub (HSub.refl _), rfl, ?_⟩
  rw [cnt, show 1 + cntL ks = cntL ks + 1 by omega, fillN]
end Go.Abs
namespace Go.Abs
open Go Go.Proofs
attribute [local irreducible] AWp aops KP
def upwF (l : List Nd) : Nat → Int → List Bool → List Bool
 | 0, _, k => k
 | f + 1, p, k => if p < 0 then k else match l[p.toNat]? with
  | none => k
  | some nd => upwF l f nd.parent ((if nd.t.kind ≠ 12 then fillN p.toNat (cnt nd.t) k else k).set p.toNat true)
theorem Z1am (l : List Nd) : ∀ (f : Nat) (p : Int) (k : List Bool), (upwF l f p k).length = k.length
 | 0, _, _ => rfl
 | f + 1, p, k => by
  rw [upwF]
  split
  ·rfl
  ·split
   ·rfl
   ·rw [Z1am l f, List.length_set]
    split
    ·rw [Z1ah]
    ·rfl
def sizeC (l : List Nd) (c : Nat) : Nat := match l[c]? with | some nd => cnt nd.t | none => 0
def Z1an (l : List Nd) : List Int → List Bool → List Bool
 | [], k => k
 | c :: cs, k => Z1an l cs (upwF l (c.toNat + 1) c (fillN c.toNat (sizeC l c.toNat) k))
def Z1ao (l : List Nd) (cols : List Int) : Bool := cols.all fun c => decide (0 ≤ c ∧ c < l.length)
def Z1ap (l : List Nd) (cols : List Int) : List Bool := Z1an l cols (List.replicate l.length false)
theorem Z1aq {p : Int → Bool} {l : List Int} (h : ∀ i (hi : i < l.length), p l[i] = true) : l.all p = true := by
 rw [List.all_eq_true]
 intro x hx
 obtain ⟨i, hi, rfl⟩ := List.getElem_of_mem hx
 exact h i hi
theorem Z1ar {l : List Nd} (hT : TreeN l) (hll : l.length ≤ 1000) (cols : List Int) (hcl : cols.length ≤ 1000000) (f g : Bool) (σ : Zc) :
  Z1s Try.prog Zd4 [.slc 9 (l.map encR) f, .slc 1 (cols.map (.int .i64)) g] σ fun r σ' => r = .tup [.slc 1 ((if Z1ao l cols = true then Z1ap l cols else []).map .bool) false, .int .i64 (if Z1ao l cols = true then 0 else 1)] ∧ σ' = σ := by
 have hml : (l.map encR).length = l.length := List.length_map ..
 have hmc : (cols.map (Z0.int .i64)).length = cols.length := List.length_map ..
 refine Z94 rfl Z1a5 (Nat.le_of_ble_eq_true rfl) ?_
 (repeat(first|refine Kq rfl rfl rfl ?_|(refine Z99 ?_; (repeat(first|refine Z9x rfl ?_|refine Z9y ?_)); refine Z9w ?_)|refine Ks ?_|refine Zb1 (fun _ _ => rfl) ?_))
 rw [hml]
 refine Z9p rfl (Kfi rfl) (by omega) (by omega) (by omega) (by omega) fun b hb => ?_
 rw [Int.toNat_natCast]
 (repeat(first|refine Kq rfl rfl rfl ?_|(refine Z99 ?_; (repeat(first|refine Z9x rfl ?_|refine Z9y ?_)); refine Z9w ?_)|refine Ks ?_|refine Zb1 (fun _ _ => rfl) ?_|refine Z8s ?_))
 have hr0 : (List.replicate l.length (Z0.bool false)) = (List.replicate l.length false).map .bool := by rw [List.map_replicate]
 rw [hr0]
 refine Za6 (fun m F σ' => ∃ i : Nat, F = fset 0 (some (.slc 9 (l.map encR) f)) (fset 1 (some (.slc 1 (cols.map (.int .i64)) g)) (fset 6 (some (.arr 1 b 0 l.length)) (fset 7 (some (.int .i64 (i : Nat))) Z28))) ∧ (b, Zb.cells 1 ((List.replicate l.length false).map .bool)) :: σ = σ' ∧ i ≤ cols.length ∧ (∀ j (hj : j < cols.length), j < i → decide (0 ≤ cols[j] ∧ cols[j] < l.length) = true) ∧ m = cols.length - i) (n := cols.length)
  ⟨0, rfl, rfl, by omega, fun j hj h => by omega, by omega⟩ ?_
 rintro m F σ' ⟨i, rfl, rfl, hi, hok, rfl⟩
 (repeat(first|refine Kq rfl rfl rfl ?_|(refine Z99 ?_; (repeat(first|refine Z9x rfl ?_|refine Z9y ?_)); refine Z9w ?_)|refine Ks ?_|refine Zb1 (fun _ _ => rfl) ?_))
 rw [hmc]
 refine Za2 (p := (i : Int) < (cols.length : Nat)) rfl (fun h3 => ?_) (fun h3 => ?_)
 ·have hil : i < cols.length := by omega
  have hx := Zrn (f := Z0.int .i64) hil
  have hbad : ¬ (0 ≤ cols[i] ∧ cols[i] < l.length) → Z1ao l cols = false := fun h => by
   rw [Z1ao, List.all_eq_false]
   exact ⟨_, List.getElem_mem hil, by simpa using h⟩
  have hok2 : (0 ≤ cols[i] ∧ cols[i] < l.length) → ∀ j (hj : j < cols.length), j < i + 1 → decide (0 ≤ cols[j] ∧ cols[j] < l.length) = true := fun h j hj hlt => by
   by_cases e : j = i
   ·subst e; exact decide_eq_true h
   ·exact hok j hj (by omega)
  generalize cols[i] = y at hx hbad hok2
  (repeat(first|refine Kq rfl rfl rfl ?_|refine Ks ?_|refine Zb1 (fun _ _ => rfl) ?_|refine Z8s ?_|refine Zb2 (fun _ _ => rfl) ?_))
  refine Z9d rfl (by omega) hx ?_
  (repeat refine Kq rfl rfl rfl ?_)
  by_cases h4 : y < 0
  ·(rw [decide_eq_true (p := y < 0) (by omega)])
   (repeat(first|refine Kq rfl rfl rfl ?_|refine Z97 rfl ?_|(refine Z99 ?_; (repeat(first|refine Z9x rfl ?_|refine Z9y ?_)); refine Z9w ?_)|refine Ks ?_|refine Zb1 (fun _ _ => rfl) ?_|refine Kc1 rfl ?_))
   rw [hbad (by omega)]
   refine Z8o ?_
   exact Zag rfl (VRle.tup (VRle.cons (VRle.nilF _ _) (VRle.refl _))) (HSub.tail _ _) ⟨rfl, rfl⟩
  (rw [decide_eq_false (p := y < 0) (by omega)])
  (repeat refine Z96 rfl (Kq rfl rfl rfl ?_))
  refine Z96 rfl (Z9d rfl (by omega) hx ?_)
  (repeat(first|refine Kq rfl rfl rfl ?_|refine Z96 rfl (Kq rfl rfl rfl ?_)|(refine Z99 ?_; (repeat(first|refine Z9x rfl ?_|refine Z9y ?_)); refine Z9w ?_)))
  rw [hml]
  by_cases h5 : (l.length : Int) ≤ y
  ·(rw [decide_eq_true (p := (l.length : Int) ≤ y) (by omega)])
   (repeat(first|refine Kq rfl rfl rfl ?_|(refine Z99 ?_; (repeat(first|refine Z9x rfl ?_|refine Z9y ?_)); refine Z9w ?_)|refine Ks ?_|refine Zb1 (fun _ _ => rfl) ?_|refine Kc1 rfl ?_))
   rw [hbad (by omega)]
   refine Z8o ?_
   exact Zag rfl (VRle.tup (VRle.cons (VRle.nilF _ _) (VRle.refl _))) (HSub.tail _ _) ⟨rfl, rfl⟩
  (rw [decide_eq_false (p := (l.length : Int) ≤ y) (by omega)])
  (repeat(first|refine Zb2 (fun _ _ => rfl) ?_|refine Kc2 rfl ?_))
  (refine Za0 (keep := [0, 1, 6, 7]) ?_; ((repeat(first|refine Z9x rfl ?_|refine Z9y ?_)); refine Z9w ?_))
  refine Zb4 ?_
  repeat refine Kq rfl rfl rfl ?_
  rw [Kwr i (by omega)]
  (refine Z99 ?_; (repeat(first|refine Z9x rfl ?_|refine Z9y ?_)); refine Z9w ?_)
  exact ⟨_, cols.length - (i + 1), HSub.refl _, ⟨i + 1, rfl, rfl, by omega, hok2 (by omega), rfl⟩, by omega⟩
 have hin : Z1ao l cols = true := Z1aq fun j hj => hok j hj (by omega)
 rw [hin, if_pos rfl, if_pos rfl]
 refine Zb3 (fun _ _ => rfl) ?_
 (refine Za0 (keep := [0, 1, 6]) ?_; ((repeat(first|refine Z9x rfl ?_|refine Z9y ?_)); refine Z9w ?_))
 (repeat(first|refine Kq rfl rfl rfl ?_|(refine Z99 ?_; (repeat(first|refine Z9x rfl ?_|refine Z9y ?_)); refine Z9w ?_)|refine Ks ?_|refine Zb1 (fun _ _ => rfl) ?_|refine Z8s ?_))
 obtain ⟨I, hI⟩ : ∃ I : Nat → Z27 → Zc → Prop, I = fun m F σ' => ∃ (i : Nat) (k : List Bool), F = fset 0 (some (.slc 9 (l.map encR) f)) (fset 1 (some (.slc 1 (cols.map (.int .i64)) g)) (fset 6 (some (.arr 1 b 0 l.length)) (fset 8 (some (.int .i64 (i : Nat))) Z28))) ∧ (b, Zb.cells 1 (k.map .bool)) :: σ = σ' ∧ k.length = l.length ∧ Z1an l (cols.drop i) k = Z1ap l cols ∧ i ≤ cols.length ∧ m = cols.length - i := ⟨_, rfl⟩
 refine Za6 I (n := cols.length) (by rw [hI]; exact ⟨0, _, rfl, rfl, by simp, rfl, by omega, by omega⟩) ?_
 intro m0 F σ' hIm
 rw [hI] at hIm
 obtain ⟨i, k, rfl, rfl, hkl, hX, hi2, rfl⟩ := hIm
 (repeat(first|refine Kq rfl rfl rfl ?_|(refine Z99 ?_; (repeat(first|refine Z9x rfl ?_|refine Z9y ?_)); refine Z9w ?_)|refine Ks ?_|refine Zb1 (fun _ _ => rfl) ?_))
 rw [hmc]
 refine Za2 (p := (i : Int) < (cols.length : Nat)) rfl (fun h4 => ?_) (fun h4 => ?_)
 ·have hil : i < cols.length := by omega
  have hx := Zrn (f := Z0.int .i64) hil
  have hy := of_decide_eq_true (hok i hil (by omega))
  rw [List.drop_eq_getElem_cons hil, Z1an] at hX
  generalize cols[i] = y at hx hy hX
  obtain ⟨c, rfl⟩ : ∃ c : Nat, y = (c : Int) := ⟨y.toNat, by omega⟩
  rw [Int.toNat_natCast] at hX
  have hcl2 : c < l.length := by omega
  have hn := List.getElem?_eq_getElem hcl2
  have hsz : sizeC l c = cnt l[c].t := by rw [sizeC, hn]
  rw [hsz] at hX
  have hA := Z1al hT hll l[c].t c l[c] hn rfl ((b, Zb.cells 1 (k.map .bool)) :: σ) b k Z9a hkl f
  rw [Z9h] at hA
  have hk1l : (fillN c (cnt l[c].t) k).length = l.length := by rw [Z1ah, hkl]
  generalize fillN c (cnt l[c].t) k = k1 at hX hA hk1l
  clear hsz hn
  (repeat(first|refine Kq rfl rfl rfl ?_|refine Ks ?_|refine Zb1 (fun _ _ => rfl) ?_|refine Z8s ?_|refine Zb2 (fun _ _ => rfl) ?_))
  refine Z9d rfl (by omega) hx ?_
  repeat refine Kq rfl rfl rfl ?_
  refine Z9v rfl hA ?_
  (repeat(first|refine Kq rfl rfl rfl ?_|(refine Z99 ?_; (repeat(first|refine Z9x rfl ?_|refine Z9y ?_)); refine Z9w ?_)|refine Ks ?_|refine Zb1 (fun _ _ => rfl) ?_))
  refine Z9d rfl (by omega) hx ?_
  (repeat(first|refine Kq rfl rfl rfl ?_|(refine Z99 ?_; (repeat(first|refine Z9x rfl ?_|refine Z9y ?_)); refine Z9w ?_)|refine Z8s ?_))
  obtain ⟨J, hJ⟩ : ∃ J : Nat → Z27 → Zc → Prop, J = fun m F σ' => ∃ (p : Int) (k : List Bool) (fl : Nat), F = fset 0 (some (.slc 9 (l.map encR) f)) (fset 1 (some (.slc 1 (cols.map (.int .i64)) g)) (fset 6 (some (.arr 1 b 0 l.length)) (fset 8 (some (.int .i64 (i : Nat))) (fset 9 (some (.int .i64 p)) Z28)))) ∧ (b, Zb.cells 1 (k.map .bool)) :: σ = σ' ∧ k.length = l.length ∧ Z1an l (cols.drop (i + 1)) (upwF l fl p k) = Z1ap l cols ∧ -1 ≤ p ∧ p < l.length ∧ (p + 1).toNat ≤ fl ∧ m = (p + 1).toNat := ⟨_, rfl⟩
  refine Za6 J (n := c + 1) (by rw [hJ]; exact ⟨c, k1, c + 1, rfl, rfl, hk1l, hX, by omega, by omega, by omega, by omega⟩) ?_
  intro m1 F σ' hJm
  rw [hJ] at hJm
  obtain ⟨p, k2, fl, rfl, rfl, hk2l, hX2, hp1, hp2, hfl, rfl⟩ := hJm
  (repeat(first|refine Kq rfl rfl rfl ?_|(refine Z99 ?_; (repeat(first|refine Z9x rfl ?_|refine Z9y ?_)); refine Z9w ?_)|refine Ks ?_|refine Zb1 (fun _ _ => rfl) ?_))
  refine Za2 (p := (0 : Int) ≤ p) rfl (fun h5 => ?_) (fun h5 => ?_)
  ·obtain ⟨a, rfl⟩ : ∃ a : Nat, p = (a : Int) := ⟨p.toNat, by omega⟩
   have hal : a < l.length := by omega
   have hn := List.getElem?_eq_getElem hal
   have hpar : l[a].parent = -1 ∨ ∃ q : Nat, l[a].parent = (q : Int) ∧ q < a := by
    by_cases e : a = 0
    ·subst e; exact .inl (hT.root _ hn).1
    ·obtain ⟨⟨q, _, _, e1, e2, _⟩⟩ := hT.par a _ hn (by omega)
     exact .inr ⟨q, e1, e2⟩
   have hpp : -1 ≤ l[a].parent ∧ l[a].parent < a := by rcases hpar with e | ⟨q, e, _⟩ <;> omega
   clear hpar
   have hxn : (l.map encR)[(a : Int).toNat]? = some (encR l[a]) := by rw [Int.toNat_natCast, List.getElem?_map, hn]; rfl
   have hA := Z1al hT hll l[a].t a l[a] hn rfl ((b, Zb.cells 1 (k2.map .bool)) :: σ) b k2 Z9a hk2l f
   rw [Z9h] at hA
   obtain ⟨fl', hfl'⟩ : ∃ f, fl = f + 1 := ⟨fl - 1, by omega⟩
   subst hfl'
   rw [upwF, if_neg (by omega), Int.toNat_natCast, hn] at hX2
   simp only at hX2
   generalize l[a] = nd at hpp hxn hA hX2
   (repeat(first|refine Kq rfl rfl rfl ?_|refine Ks ?_|refine Zb1 (fun _ _ => rfl) ?_|refine Z8s ?_|refine Zb2 (fun _ _ => rfl) ?_))
   refine Z9d rfl (by omega) hxn ?_
   (repeat(first|refine Kq rfl rfl rfl ?_|(refine Z99 ?_; (repeat(first|refine Z9x rfl ?_|refine Z9y ?_)); refine Z9w ?_)))
   by_cases k12 : nd.t.kind = 12
   ·(rw [decide_eq_false (p := nd.t.kind ≠ 12) (by omega)])
    rw [if_neg (by omega)] at hX2
    have hk3l := hk2l
    (repeat(first|refine Kq rfl rfl rfl ?_|refine Zb1 (fun _ _ => rfl) ?_|refine Zb2 (fun _ _ => rfl) ?_|refine Kc2 rfl ?_))
    have hb0 : ((k2).map Z0.bool)[0 + ((a : Nat) : Int).toNat]? = some (.bool ((k2)[a]'(by omega))) := by rw [Nat.zero_add, Int.toNat_natCast, List.getElem?_map, List.getElem?_eq_getElem (by omega)]; rfl
    refine Z9e rfl ⟨by omega, by omega⟩ ?_
    refine Z9g rfl Z9a hb0 (by decide) (Kfi rfl) (fun _ => ⟨rfl, rfl⟩) Z9h ?_
    rw [Z1ak _ ⟨_, rfl⟩]
    (repeat(refine Z99 ?_; (repeat(first|refine Z9x rfl ?_|refine Z9y ?_)); refine Z9w ?_))
    refine Zb4 ?_
    repeat refine Kq rfl rfl rfl ?_
    refine Z9d rfl (by omega) hxn ?_
    repeat refine Kq rfl rfl rfl ?_
    (refine Z99 ?_; (repeat(first|refine Z9x rfl ?_|refine Z9y ?_)); refine Z9w ?_)
    refine ⟨_, (nd.parent + 1).toNat, HSub.refl _, ?_, by omega⟩
    rw [hJ]
    exact ⟨nd.parent, (k2).set a true, fl', rfl, rfl, by rw [List.length_set, hk3l], hX2, by omega, by omega, by omega, rfl⟩
   ·(rw [decide_eq_true (p := nd.t.kind ≠ 12) (by omega)])
    rw [if_pos k12] at hX2
    have hk3l : (fillN a (cnt nd.t) k2).length = l.length := by rw [Z1ah, hk2l]
    generalize fillN a (cnt nd.t) k2 = k3 at hX2 hA hk3l
    (repeat(first|refine Kq rfl rfl rfl ?_|refine Zb1 (fun _ _ => rfl) ?_|refine Kc1 rfl ?_))
    refine Z9v rfl hA ?_
    (repeat(first|refine Kq rfl rfl rfl ?_|(refine Z99 ?_; (repeat(first|refine Z9x rfl ?_|refine Z9y ?_)); refine Z9w ?_)|refine Zb1 (fun _ _ => rfl) ?_))
    have hb0 : ((k3).map Z0.bool)[0 + ((a : Nat) : Int).toNat]? = some (.bool ((k3)[a]'(by omega))) := by rw [Nat.zero_add, Int.toNat_natCast, List.getElem?_map, List.getElem?_eq_getElem (by omega)]; rfl
    refine Z9e rfl ⟨by omega, by omega⟩ ?_
    refine Z9g rfl Z9a hb0 (by decide) (Kfi rfl) (fun _ => ⟨rfl, rfl⟩) Z9h ?_
    rw [Z1ak _ ⟨_, rfl⟩]
    (repeat(refine Z99 ?_; (repeat(first|refine Z9x rfl ?_|refine Z9y ?_)); refine Z9w ?_))
    refine Zb4 ?_
    repeat refine Kq rfl rfl rfl ?_
    refine Z9d rfl (by omega) hxn ?_
    repeat refine Kq rfl rfl rfl ?_
    (refine Z99 ?_; (repeat(first|refine Z9x rfl ?_|refine Z9y ?_)); refine Z9w ?_)
    refine ⟨_, (nd.parent + 1).toNat, HSub.refl _, ?_, by omega⟩
    rw [hJ]
    exact ⟨nd.parent, (k3).set a true, fl', rfl, rfl, by rw [List.length_set, hk3l], hX2, by omega, by omega, by omega, rfl⟩
  ·have e : upwF l fl p k2 = k2 := by
    cases fl with
    | zero => rfl
    | succ fl => rw [upwF, if_pos (by omega)]
   rw [e] at hX2
   (repeat refine Zb3 (fun _ _ => rfl) ?_)
   refine Zb4 ?_
   repeat refine Kq rfl rfl rfl ?_
   rw [Kwr i (by omega)]
   (refine Z99 ?_; (repeat(first|refine Z9x rfl ?_|refine Z9y ?_)); refine Z9w ?_)
   refine ⟨_, cols.length - (i + 1), HSub.refl _, ?_, by omega⟩
   rw [hI]
   exact ⟨i + 1, k2, rfl, rfl, hk2l, hX2, by omega, rfl⟩
 ·rw [List.drop_of_length_le (by omega), Z1an] at hX
  subst hX
  refine Zb3 (fun _ _ => rfl) ?_
  (refine Za0 (keep := [6]) ?_; ((repeat(first|refine Z9x rfl ?_|refine Z9y ?_)); refine Z9w ?_))
  refine Zai (d := 6) (xs := (Z1ap l cols).map .bool) (by rw [List.length_map, hkl]; rfl) ?_
  (repeat(first|refine Kq rfl rfl rfl ?_|(refine Z99 ?_; (repeat(first|refine Z9x rfl ?_|refine Z9y ?_)); refine Z9w ?_)|refine Ks ?_|refine Zb1 (fun _ _ => rfl) ?_))
  refine Z8o ?_
  exact Kar rfl ⟨rfl, rfl⟩
end Go.Abs
namespace Go.Abs
open Go Go.Proofs
attribute [local irreducible] AWp aops KP
mutual
def projF (l : List Nd) (keep : List Bool) (a : Nat) : Vl → Vl
 | .mk nu i n b ks => if nu = true ∨ Zrz l a ≠ 12 then .mk nu i n b ks else .mk false 0 0 [] (projL l keep (match l[a]? with | some nd => nd.kids | none => []) ks)
def projL (l : List Nd) (keep : List Bool) (xs : List Nat) : List Vl → List Vl
 | [] => []
 | v :: vs => match xs with
  | [] => []
  | x :: xs => if keep.getD x false = true then projF l keep x v :: projL l keep xs vs else projL l keep xs vs
end
end Go.Abs
namespace Go.Abs
open Go Go.Proofs
theorem Anc.trans {l : List Nd} {a b c : Nat} (h1 : Anc l a b) (h2 : Anc l b c) : Anc l a c := by
 induction h2 with
 | refl => exact h1
 | step hc hp _ ih => exact .step hc hp ih
theorem Z1as : ∀ (ks : List Ty) (j : Nat) (u : Ty), ks[j]? = some u → cntL (ks.take j) + cnt u ≤ cntL ks
 | [], j, u, h => by simp at h
 | t :: ts, 0, u, h => by
  simp only [List.getElem?_cons_zero, Option.some.injEq] at h
  subst h
  rw [List.take_zero, cntL, cntL]; omega
 | t :: ts, j + 1, u, h => by
  have := Z1as ts j u (by simpa using h)
  rw [List.take_succ_cons, cntL, cntL]; omega
theorem Z1at (t : Ty) : cnt t = 1 + cntL t.kids := by obtain ⟨k, ns, ks, a, b, c⟩ := t; rw [cnt]; rfl
theorem Z1au {l : List Nd} (hT : TreeN l) {a x : Nat} (h : Anc l a x) : ∀ {n : Nd} (hn : l[x]? = some n), a ≤ x ∧ x + cnt n.t ≤ a + sizeC l a := by
 induction h with
 | refl => intro n hn; rw [sizeC, hn]; exact ⟨Nat.le_refl _, Nat.le_refl _⟩
 | @step c p m hc hp hh ih =>
  intro n hn
  have hlt := hT.up hc hp
  obtain ⟨⟨p', q, j, e1, e2, e3, e4, _⟩⟩ := hT.par c m hc (by omega)
  rw [hp] at e1
  have := Int.ofNat.inj e1
  subst this
  obtain ⟨h1, h2⟩ := ih e3
  obtain ⟨u, m', f1, f2, f3, f4, _⟩ := (hT.nok p q e3).kids j c e4
  have e5 : n = m' := by rw [hn] at f3; exact Option.some.inj f3
  have := Z1as q.t.kids j u f1
  rw [Z1at q.t] at h2
  rw [e5, f4]
  omega
theorem Z1av {l : List Nd} (hT : TreeN l) : ∀ (d a x : Nat) (n : Nd), x - a = d → l[a]? = some n → a ≤ x → x < a + cnt n.t → Anc l a x := by
 intro d
 induction d using Nat.strongRecOn with
 | _ d ih =>
  intro a x n hd hn h1 h2
  by_cases e : x = a
  ·subst e; exact .refl
  ·rw [Z1at] at h2
   obtain ⟨j, u, e1, e2, e3⟩ := Z18d n.t.kids (a + 1) x (by omega) (by omega)
   have hjl : j < n.kids.length := by rw [(hT.nok a n hn).len]; exact (List.getElem?_eq_some_iff.1 e1).1
   obtain ⟨u', m, f1, f2, f3, f4, f5, _⟩ := (hT.nok a n hn).kids j _ (List.getElem?_eq_getElem hjl)
   rw [e1] at f1
   cases f1
   have := ih (x - n.kids[j]) (by omega) n.kids[j] x m rfl f3 (by omega) (by rw [f4]; omega)
   exact this.over f3 f5
theorem Z1aw {l : List Nd} (hT : TreeN l) {a : Nat} {n : Nd} (hn : l[a]? = some n) {k : List Bool} (hk : k.length = l.length) {x : Nat} (hx : x < l.length) : (fillN a (cnt n.t) k).getD x false = true ↔ Anc l a x ∨ k.getD x false = true := by
 rw [Z1aj]
 constructor
 ·rintro (⟨h1, h2, _⟩ | h)
  ·exact .inl (Z1av hT _ a x n rfl hn h1 h2)
  ·exact .inr h
 ·rintro (h | h)
  ·have := Z1au hT h (List.getElem?_eq_getElem hx)
   rw [sizeC, hn] at this
   have hp : 1 ≤ cnt l[x].t := by rw [Z1at]; omega
   simp only at this
   exact .inl ⟨this.1, by omega, by omega⟩
  ·exact .inr h
theorem Z1ax {k : List Bool} {a x : Nat} (ha : a < k.length) : (k.set a true).getD x false = true ↔ x = a ∨ k.getD x false = true := by
 rw [List.getD_eq_getElem?_getD, List.getD_eq_getElem?_getD]
 by_cases e : x = a
 ·subst e; rw [List.getElem?_set_self ha]; simp
 ·rw [List.getElem?_set_ne (fun h => e h.symm)]; simp [e]
def UpK (l : List Nd) (c x : Nat) : Prop := ∃ q, Anc l q c ∧ (q = x ∨ (Zrz l q ≠ 12 ∧ Anc l q x))
theorem Z1ay {l : List Nd} (hT : TreeN l) {x : Nat} (hx : x < l.length) : ∀ (fl : Nat) (p : Int) (k : List Bool), k.length = l.length → -1 ≤ p → p < l.length → (p + 1).toNat ≤ fl → ((upwF l fl p k).getD x false = true ↔ k.getD x false = true ∨ (0 ≤ p ∧ UpK l p.toNat x))
 | 0, p, k, hk, h1, h2, h3 => by
  rw [upwF]
  constructor
  ·exact .inl
  ·rintro (h | h)
   ·exact h
   ·omega
 | fl + 1, p, k, hk, h1, h2, h3 => by
  rw [upwF]
  by_cases h0 : p < 0
  ·rw [if_pos h0]
   constructor
   ·exact .inl
   ·rintro (h | h)
    ·exact h
    ·omega
  ·rw [if_neg h0]
   obtain ⟨a, rfl⟩ : ∃ a : Nat, p = (a : Int) := ⟨p.toNat, by omega⟩
   rw [Int.toNat_natCast]
   have hal : a < l.length := by omega
   have hn := List.getElem?_eq_getElem hal
   rw [hn]
   simp only
   have hkind : Zrz l a = l[a].t.kind := by rw [Zrz, hn]
   have hpar : l[a].parent = -1 ∨ ∃ q : Nat, l[a].parent = (q : Int) ∧ q < a := by
    by_cases e : a = 0
    ·subst e; exact .inl (hT.root _ hn).1
    ·obtain ⟨⟨q, _, _, e1, e2, _⟩⟩ := hT.par a _ hn (by omega)
     exact .inr ⟨q, e1, e2⟩
   have hk1 : (if l[a].t.kind ≠ 12 then fillN a (cnt l[a].t) k else k).length = l.length := by
    split
    ·rw [Z1ah, hk]
    ·exact hk
   have hpp : -1 ≤ l[a].parent ∧ l[a].parent < a := by rcases hpar with e | ⟨q, e, _⟩ <;> omega
   rw [Z1ay hT hx fl _ _ (by rw [List.length_set]; exact hk1) (by omega) (by omega) (by omega), Z1ax (by rw [hk1]; exact hal)]
   have hmid : (if l[a].t.kind ≠ 12 then fillN a (cnt l[a].t) k else k).getD x false = true ↔ (Zrz l a ≠ 12 ∧ Anc l a x) ∨ k.getD x false = true := by
    rw [hkind]
    split
    ·rename_i h; rw [Z1aw hT hn hk hx]; simp [h]
    ·rename_i h; simp [h]
   rw [hmid]
   have hup : UpK l a x ↔ (a = x ∨ (Zrz l a ≠ 12 ∧ Anc l a x)) ∨ (0 ≤ l[a].parent ∧ UpK l l[a].parent.toNat x) := by
    constructor
    ·rintro ⟨q, hq, hqx⟩
     cases hq with
     | refl => exact .inl hqx
     | step hc hp hh =>
      rw [hn] at hc
      cases hc
      exact .inr ⟨by omega, q, by rw [hp, Int.toNat_natCast]; exact hh, hqx⟩
    ·rintro (h | ⟨h0', q, hq, hqx⟩)
     ·exact ⟨a, .refl, h⟩
     ·exact ⟨q, .step hn (p := l[a].parent.toNat) (by omega) hq, hqx⟩
   rw [hup]
   have h00 : (0 : Int) ≤ (a : Int) := by omega
   constructor
   ·rintro ((h | h | h) | h)
    ·exact .inr ⟨h00, .inl (.inl h.symm)⟩
    ·exact .inr ⟨h00, .inl (.inr h)⟩
    ·exact .inl h
    ·exact .inr ⟨h00, .inr h⟩
   ·rintro (h | ⟨_, (h | h) | h⟩)
    ·exact .inl (.inr (.inr h))
    ·exact .inl (.inl h.symm)
    ·exact .inl (.inr (.inl h))
    ·exact .inr h
def KeepC (l : List Nd) (cols : List Int) (x : Nat) : Prop := ∃ c ∈ cols, Anc l c.toNat x ∨ UpK l c.toNat x
theorem Z1az (l : List Nd) : ∀ (cols : List Int) (k : List Bool), (Z1an l cols k).length = k.length
 | [], _ => rfl
 | c :: cs, k => by rw [Z1an, Z1az l cs, Z1am, Z1ah]
theorem Z1b0 {l : List Nd} (hT : TreeN l) {x : Nat} (hx : x < l.length) : ∀ (cols : List Int) (k : List Bool), k.length = l.length → (∀ c ∈ cols, 0 ≤ c ∧ c < l.length) → ((Z1an l cols k).getD x false = true ↔ k.getD x false = true ∨ KeepC l cols x)
 | [], k, _, _ => by simp [Z1an, KeepC]
 | c :: cs, k, hk, hc => by
  obtain ⟨c1, c2⟩ := hc c (by simp)
  have hn := List.getElem?_eq_getElem (show c.toNat < l.length by omega)
  have hs : sizeC l c.toNat = cnt l[c.toNat].t := by rw [sizeC, hn]
  rw [Z1an, Z1b0 hT hx cs _ (by rw [Z1am, Z1ah, hk]) (fun d hd => hc d (List.mem_cons_of_mem _ hd)), hs, Z1ay hT hx _ _ _ (by rw [Z1ah, hk]) (by omega) c2 (by omega), Z1aw hT hn hk hx]
  constructor
  ·rintro (((h | h) | ⟨_, h⟩) | ⟨d, hd, h⟩)
   ·exact .inr ⟨c, by simp, .inl h⟩
   ·exact .inl h
   ·exact .inr ⟨c, by simp, .inr h⟩
   ·exact .inr ⟨d, List.mem_cons_of_mem _ hd, h⟩
  ·rintro (h | ⟨d, hd, h⟩)
   ·exact .inl (.inl (.inr h))
   ·rcases List.mem_cons.1 hd with e | e
    ·subst e
     rcases h with h | h
     ·exact .inl (.inl (.inl h))
     ·exact .inl (.inr ⟨c1, h⟩)
    ·exact .inr ⟨d, e, h⟩
theorem Z1b1 {l : List Nd} (hT : TreeN l) {cols : List Int} (hc : ∀ c ∈ cols, 0 ≤ c ∧ c < l.length) {x : Nat} (hx : x < l.length) : (Z1ap l cols).getD x false = true ↔ KeepC l cols x := by
 rw [Z1ap, Z1b0 hT hx cols _ (by simp) hc]
 constructor
 ·rintro (h | h)
  ·rw [List.getD_eq_getElem?_getD, List.getElem?_replicate, if_pos hx] at h; cases h
  ·exact h
 ·exact .inr
theorem Z1b2 (l : List Nd) (cols : List Int) : (Z1ap l cols).length = l.length := by rw [Z1ap, Z1az, List.length_replicate]
theorem KeepC.up {l : List Nd} {cols : List Int} {x i : Nat} {q : Nd} (hx : l[x]? = some q) (hp : q.parent = (i : Int)) (h : KeepC l cols x) : KeepC l cols i := by
 obtain ⟨c, hc, h⟩ := h
 refine ⟨c, hc, ?_⟩
 have inv : ∀ {p : Nat}, Anc l p x → p = x ∨ Anc l p i := fun {p} h => by
  cases h with
  | refl => exact .inl rfl
  | step hc hp' hh =>
   rw [hx] at hc
   cases hc
   rw [hp] at hp'
   exact .inr (by rw [Int.ofNat.inj hp']; exact hh)
 have self : Anc l x c.toNat → UpK l c.toNat i := fun h => ⟨i, h.over hx hp, .inl rfl⟩
 rcases h with h | ⟨p, hpc, h | ⟨k12, h⟩⟩
 ·rcases inv h with e | e
  ·exact .inr (self (by rw [e]; exact .refl))
  ·exact .inl e
 ·subst h; exact .inr (self hpc)
 ·rcases inv h with e | e
  ·subst e; exact .inr (self hpc)
  ·exact .inr ⟨p, hpc, .inr ⟨k12, e⟩⟩
theorem KeepC.down {l : List Nd} {cols : List Int} {i y : Nat} (h : KeepC l cols i) (k12 : Zrz l i ≠ 12) (hy : Anc l i y) : KeepC l cols y := by
 obtain ⟨c, hc, h⟩ := h
 refine ⟨c, hc, ?_⟩
 rcases h with h | ⟨p, hpc, h | ⟨k, h⟩⟩
 ·exact .inl (h.trans hy)
 ·subst h; exact .inr ⟨p, hpc, .inr ⟨k12, hy⟩⟩
 ·exact .inr ⟨p, hpc, .inr ⟨k, h.trans hy⟩⟩
theorem Z1b3 {l : List Nd} (hT : TreeN l) {cols : List Int} (hc : ∀ c ∈ cols, 0 ≤ c ∧ c < l.length) : Whole l (Z1ap l cols) := by
 intro i n hn x hx
 obtain ⟨j, hj⟩ := List.getElem?_of_mem hx
 obtain ⟨u, q, _, _, hq, _, hp, _⟩ := (hT.nok i n hn).kids j x hj
 have h1 := (List.getElem?_eq_some_iff.1 hn).1
 have h2 := (List.getElem?_eq_some_iff.1 hq).1
 rw [Z1b1 hT hc h1, Z1b1 hT hc h2]
 refine ⟨fun h => h.up hq hp, fun h => ?_⟩
 by_cases k12 : n.t.kind = 12
 ·exact .inr k12
 ·exact .inl (h.down (by rw [Zrz, hn]; exact k12) (.step hq hp .refl))
theorem Z1b4 {l : List Nd} (hT : TreeN l) {cols : List Int} (hc : ∀ c ∈ cols, 0 ≤ c ∧ c < l.length) (hne : cols ≠ []) : (Z1ap l cols).getD 0 false = true := by
 obtain ⟨c, cs, rfl⟩ := List.exists_cons_of_ne_nil hne
 obtain ⟨c1, c2⟩ := hc c (by simp)
 rw [Z1b1 hT hc (by omega)]
 have : ∀ (a : Nat), a < l.length → Anc l 0 a := by
  intro a
  induction a using Nat.strongRecOn with
  | _ a ih =>
   intro ha
   by_cases e : a = 0
   ·subst e; exact .refl
   ·obtain ⟨⟨q, _, _, e1, e2, _⟩⟩ := hT.par a _ (List.getElem?_eq_getElem ha) (by omega)
    exact .step (List.getElem?_eq_getElem ha) e1 (ih q e2 (by omega))
 exact ⟨c, by simp, .inr ⟨0, this _ (by omega), .inl rfl⟩⟩
end Go.Abs
namespace Go.Abs
open Go Go.Proofs
def askP (k : Int) (c : Col) (h j : Nat) : Nat := if k = 10 ∨ k = 11 then ((c.lens.take h).map Int.toNat).sum else if k = 13 then (c.ints.take h).count (j : Int) else h
theorem Z1b5 {α : Type} (xs : List α) {h h' : Nat} (hh : h ≤ h') : ∃ r, xs.take h' = xs.take h ++ r := by
 refine ⟨(xs.take h').drop h, ?_⟩
 have := List.take_append_drop h (xs.take h')
 rw [List.take_take, Nat.min_eq_left hh] at this
 exact this.symm
theorem Z1b6 {k : Int} {c : Col} {h h' j : Nat} (hh : h ≤ h') : askP k c h j ≤ askP k c h' j := by
 unfold askP
 split
 ·obtain ⟨r, e⟩ := Z1b5 c.lens hh
  rw [e, List.map_append, List.sum_append]; omega
 ·split
  ·obtain ⟨r, e⟩ := Z1b5 c.ints hh
   rw [e, List.count_append]; omega
  ·exact hh
theorem Z1b7 {k : Int} (hk : k = 10 ∨ k = 11) {c : Col} {h j : Nat} {v : Int} (hv : c.lens[h]? = some v) : askP k c (h + 1) j = askP k c h j + v.toNat := by
 unfold askP
 rw [if_pos hk, if_pos hk, List.take_add_one, hv, List.map_append, List.sum_append]
 simp
theorem Z1b8 {c : Col} {h j : Nat} {v : Int} (hv : c.ints[h]? = some v) : askP 13 c (h + 1) j = askP 13 c h j + (if v = (j : Int) then 1 else 0) := by
 unfold askP
 rw [if_neg (by decide), if_pos rfl, if_neg (by decide), if_pos rfl, List.take_add_one, hv, List.count_append]
 simp [List.count_cons]
theorem Z1b9 {k : Int} (h1 : ¬ (k = 10 ∨ k = 11)) (h2 : k ≠ 13) {c : Col} {h j : Nat} : askP k c h j = h := by
 unfold askP
 rw [if_neg h1, if_neg h2]
theorem Z1ba {n : Nd} {c : Col} {w : Nat} {b : Bool} (hR : Right n c w b) (j : Nat) : askF n.t.kind c (j : Int) = askP n.t.kind c (Zxn c) j := by
 unfold askF askP
 have hg := hR.good
 split
 ·rename_i hk
  have e : c.lens.length = Zxn c := by rw [hg.lens, if_pos hk]; rfl
  rw [← e, List.take_length]
  have hs := hR.sum (by rcases hk with h | h <;> simp [lenF, h])
  have := Z1ae
  rw [askF, if_pos hk] at hs
  have hgen : ∀ (ls : List Int) (out : Nat), (∀ v ∈ ls, 0 ≤ v) → sumL ls out ≤ 16384 → sumL ls out = out + (ls.map Int.toNat).sum := by
   intro ls
   induction ls with
   | nil => intro out _ _; simp [sumL]
   | cons v vs ih =>
    intro out h hs
    rw [sumL] at hs ⊢
    split at hs
    ·omega
    ·rename_i h1
     rw [if_neg h1, ih _ (fun w hw => h w (List.mem_cons_of_mem _ hw)) hs, List.map_cons, List.sum_cons]; omega
  rw [hgen _ _ hR.lens hs, Nat.zero_add]
 ·split
  ·rename_i h1 h2
   have hk : ¬ (Zmm n.t.kind = true ∨ n.t.kind = 10 ∨ n.t.kind = 11 ∨ n.t.kind = 12) := by rw [h2]; decide
   have e : c.ints.length = Zxn c := by rw [hg.ints, if_neg hk]; rfl
   rw [← e, List.take_length]
  ·rfl
structure Con (l : List Nd) (cols : List Col) (keep : List Bool) (a e : Nat) (s : Tk) : Prop where
 he : ∀ p nd, l[p]? = some nd → a ≤ p → p < e → keep.getD p false = true → s.he.getD p 0 = ((cols.getD p col0).here.take (s.at_.getD p 0)).count true
 kid : ∀ p nd, l[p]? = some nd → a ≤ p → p < e → keep.getD p false = true → ∀ (j x : Nat), nd.kids[j]? = some x → keep.getD x false = true → s.at_.getD x 0 = askP nd.t.kind (cols.getD p col0) (s.he.getD p 0) j
theorem nest {l : List Nd} (hT : TreeN l) : ∀ (t : Ty) (r : Nat) (nd : Nd), l[r]? = some nd → nd.t = t → ∀ (p : Nat) (nd' : Nd), l[p]? = some nd' → r ≤ p → p < r + cnt t → p + cnt nd'.t ≤ r + cnt t := by
 refine Ty.ind fun k ns ks le pr sc ih r nd hnd hndt p nd' hp h1 h2 => ?_
 by_cases e : p = r
 ·subst e
  rw [hnd] at hp
  cases hp
  rw [hndt]; exact Nat.le_refl _
 ·have hc : cnt (.mk k ns ks le pr sc) = 1 + cntL ks := by rw [cnt]
  obtain ⟨j, u, e1, e2, e3⟩ := Z18d ks (r + 1) p (by omega) (by omega)
  have hN := hT.nok r nd hnd
  have hks : nd.t.kids = ks := by rw [hndt]; rfl
  have hj : j < nd.kids.length := by rw [hN.len, hks]; exact (List.getElem?_eq_some_iff.1 e1).1
  obtain ⟨u', m, f1, f2, f3, f4, _⟩ := hN.kids j _ (List.getElem?_eq_getElem hj)
  rw [hks] at f1 f2
  rw [e1] at f1
  cases f1
  have := ih u (List.mem_of_getElem? e1) _ m (f2 ▸ f3) f4 p nd' hp (by omega) (by omega)
  have := Z1as ks j u e1
  omega
theorem Con.congr {l : List Nd} (hT : TreeN l) {cols : List Col} {keep : List Bool} {a : Nat} {nd : Nd} (hnd : l[a]? = some nd) {s s' : Tk} (hs : ∀ y, a ≤ y → y < a + cnt nd.t → s'.at_.getD y 0 = s.at_.getD y 0 ∧ s'.he.getD y 0 = s.he.getD y 0) (h : Con l cols keep a (a + cnt nd.t) s) : Con l cols keep a (a + cnt nd.t) s' := by
 refine ⟨fun p nd' hp h1 h2 hk => ?_, fun p nd' hp h1 h2 hk j x hx hkx => ?_⟩
 ·rw [(hs p h1 h2).1, (hs p h1 h2).2]
  exact h.he p nd' hp h1 h2 hk
 ·obtain ⟨u, m, e1, e2, e3, e4, _⟩ := (hT.nok p nd' hp).kids j x hx
  have hn := nest hT nd.t a nd hnd rfl p nd' hp h1 h2
  have := Z1as _ _ _ e1
  have := Z18c u
  rw [Z1at] at hn
  rw [(hs p h1 h2).2, (hs x (by omega) (by omega)).1]
  exact h.kid p nd' hp h1 h2 hk j x hx hkx
theorem Con.part {l : List Nd} {cols : List Col} {keep : List Bool} {a e a' e' : Nat} {s : Tk} (h : Con l cols keep a e s) (h1 : a ≤ a') (h2 : e' ≤ e) : Con l cols keep a' e' s :=
 ⟨fun p nd hp i1 i2 => h.he p nd hp (by omega) (by omega), fun p nd hp i1 i2 => h.kid p nd hp (by omega) (by omega)⟩
structure Took (l : List Nd) (cols : List Col) (keep : List Bool) (a e : Nat) (s s' : Tk) : Prop where
 con : Con l cols keep a e s'
 at_ : s'.at_.getD a 0 = s.at_.getD a 0 + 1
 out : ∀ y, (y < a ∨ e ≤ y) → s'.at_.getD y 0 = s.at_.getD y 0 ∧ s'.he.getD y 0 = s.he.getD y 0
structure Z1bb (l : List Nd) (cols : List Col) (keep : List Bool) (a : Nat) (ks : List Ty) (f : Nat → Nat) (s : Tk) : Prop where
 sz : s.sz l.length
 at_ : ∀ (m : Nat) (u : Ty), ks[m]? = some u → keep.getD (a + 1 + cntL (ks.take m)) false = true → s.at_.getD (a + 1 + cntL (ks.take m)) 0 = f m
 con : ∀ (m : Nat) (u : Ty), ks[m]? = some u → Con l cols keep (a + 1 + cntL (ks.take m)) (a + 1 + cntL (ks.take m) + cnt u) s
theorem Z1bc : ∀ (ks : List Ty) (m m' : Nat) (u : Ty), ks[m]? = some u → m < m' → cntL (ks.take m) + cnt u ≤ cntL (ks.take m')
 | [], m, m', u, h, _ => by simp at h
 | t :: ts, 0, 0, u, h, hl => by omega
 | t :: ts, 0, m' + 1, u, h, _ => by
  simp only [List.getElem?_cons_zero, Option.some.injEq] at h
  subst h
  rw [List.take_zero, List.take_succ_cons, cntL, cntL]; omega
 | t :: ts, m + 1, 0, u, h, hl => by omega
 | t :: ts, m + 1, m' + 1, u, h, hl => by
  have := Z1bc ts m m' u (by simpa using h) (by omega)
  rw [List.take_succ_cons, List.take_succ_cons, cntL, cntL]; omega
theorem Z1bb.one {l : List Nd} (hT : TreeN l) {cols : List Col} {keep : List Bool} {a : Nat} {ks : List Ty} {f : Nat → Nat} {s s' : Tk} (h : Z1bb l cols keep a ks f s) (hn : ∀ (m : Nat) (u : Ty), ks[m]? = some u → ∃ nd, l[a + 1 + cntL (ks.take m)]? = some nd ∧ nd.t = u)
  {m : Nat} {u : Ty} (hu : ks[m]? = some u) (hk : keep.getD (a + 1 + cntL (ks.take m)) false = true) (hs' : s'.sz l.length) (ht : Took l cols keep (a + 1 + cntL (ks.take m)) (a + 1 + cntL (ks.take m) + cnt u) s s') :
  Z1bb l cols keep a ks (fun i => if i = m then f m + 1 else f i) s' := by
 have hout : ∀ (m' : Nat) (u' : Ty), ks[m']? = some u' → m' ≠ m → ∀ y, a + 1 + cntL (ks.take m') ≤ y → y < a + 1 + cntL (ks.take m') + cnt u' → s'.at_.getD y 0 = s.at_.getD y 0 ∧ s'.he.getD y 0 = s.he.getD y 0 := by
  intro m' u' hu' hne y h1 h2
  refine ht.out y ?_
  rcases Nat.lt_or_gt_of_ne hne with h3 | h3
  ·have := Z1bc ks m' m u' hu' h3
   exact .inl (by omega)
  ·have := Z1bc ks m m' u hu h3
   exact .inr (by omega)
 refine ⟨hs', fun m' u' hu' hk' => ?_, fun m' u' hu' => ?_⟩
 ·by_cases e : m' = m
  ·subst e
   show _ = if m' = m' then _ else _
   rw [if_pos rfl, ht.at_, h.at_ m' u' hu' hk']
  ·show _ = if m' = m then _ else _
   have := Z18c u'
   rw [if_neg e, (hout m' u' hu' e _ (Nat.le_refl _) (by omega)).1, h.at_ m' u' hu' hk']
 ·by_cases e : m' = m
  ·subst e
   rw [hu] at hu'
   cases hu'
   exact ht.con
  ·obtain ⟨nd, hnd, rfl⟩ := hn m' u' hu'
   exact Con.congr hT hnd (hout m' nd.t hu' e) (h.con m' nd.t hu')
theorem Z1bb.mono {l : List Nd} {cols : List Col} {keep : List Bool} {a : Nat} {ks : List Ty} {f g : Nat → Nat} {s : Tk} (h : Z1bb l cols keep a ks f s) (hfg : ∀ m, m < ks.length → keep.getD (a + 1 + cntL (ks.take m)) false = true → f m = g m) : Z1bb l cols keep a ks g s :=
 ⟨h.sz, fun m u hu hk => by rw [h.at_ m u hu hk]; exact hfg m (List.getElem?_eq_some_iff.1 hu).1 hk, h.con⟩
def Prog (l : List Nd) (cols : List Col) (keep : List Bool) (t : Ty) : Prop :=
 ∀ (a : Nat) (nd : Nd), l[a]? = some nd → nd.t = t → keep.getD a false = true → ∀ s : Tk, s.sz l.length → Con l cols keep a (a + cnt t) s → s.at_.getD a 0 < (cols.getD a col0).here.length →
  ∃ v s', takeT cols keep t a s = some (v, s') ∧ Took l cols keep a (a + cnt t) s s'
theorem Z1bd {l : List Nd} (hT : TreeN l) {cols : List Col} {keep : List Bool} {a : Nat} {ks : List Ty} (ih : ∀ u ∈ ks, Prog l cols keep u) (hn : ∀ (m : Nat) (u : Ty), ks[m]? = some u → ∃ nd, l[a + 1 + cntL (ks.take m)]? = some nd ∧ nd.t = u) :
  ∀ (r m : Nat), m + r = ks.length → ∀ (f : Nat → Nat) (s : Tk), Z1bb l cols keep a ks f s → (∀ m', m ≤ m' → m' < ks.length → keep.getD (a + 1 + cntL (ks.take m')) false = true → f m' < (cols.getD (a + 1 + cntL (ks.take m')) col0).here.length) →
   ∃ vs s', takeS cols keep (ks.drop m) (a + 1 + cntL (ks.take m)) s = some (vs, s') ∧ Z1bb l cols keep a ks (fun i => if m ≤ i then f i + 1 else f i) s' ∧ ∀ y, (y ≤ a ∨ a + 1 + cntL ks ≤ y) → s'.at_.getD y 0 = s.at_.getD y 0 ∧ s'.he.getD y 0 = s.he.getD y 0
 | 0, m, hm, f, s, hK, hl => by
  refine ⟨[], s, ?_, hK.mono fun i hi _ => ?_, fun y _ => ⟨rfl, rfl⟩⟩
  ·rw [List.drop_of_length_le (by omega), takeS]
  ·show f i = if m ≤ i then _ else _
   rw [if_neg (by omega)]
 | r + 1, m, hm, f, s, hK, hl => by
  have hml : m < ks.length := by omega
  have hu := List.getElem?_eq_getElem hml
  have hcs := Z18q ks m _ hu
  obtain ⟨nd, hnd, hndt⟩ := hn m _ hu
  rw [List.drop_eq_getElem_cons hml, takeS]
  rw [show a + 1 + cntL (ks.take m) + cnt ks[m] = a + 1 + cntL (ks.take (m + 1)) by omega]
  by_cases hk : keep.getD (a + 1 + cntL (ks.take m)) false = true
  ·have hat := hK.at_ m _ hu hk
   obtain ⟨v, s1, h1, h2⟩ := ih ks[m] (List.getElem_mem hml) _ nd hnd hndt hk s hK.sz (hK.con m _ hu) (by rw [hat]; exact hl m (Nat.le_refl _) hml hk)
   have hs1 := Z18s cols keep l.length _ _ _ _ _ h1 hK.sz
   have hK1 := hK.one hT hn hu hk hs1 h2
   obtain ⟨vs, s', h3, h4, h5⟩ := Z1bd hT ih hn r (m + 1) (by omega) _ s1 hK1 (fun m' h1 h2 h3 => by
    show (if m' = m then _ else _) < _
    rw [if_neg (by omega)]
    exact hl m' (by omega) h2 h3)
   rw [if_pos hk, h1]
   refine ⟨v :: vs, s', by simp only [h3], h4.mono fun i hi _ => ?_, fun y hy => ?_⟩
   ·show (if m + 1 ≤ i then (if i = m then f m + 1 else f i) + 1 else if i = m then f m + 1 else f i) = if m ≤ i then f i + 1 else f i
    by_cases e : i = m
    ·subst e
     rw [if_neg (by omega), if_pos rfl, if_pos (Nat.le_refl _)]
    ·by_cases e2 : m + 1 ≤ i
     ·rw [if_pos e2, if_neg e, if_pos (by omega)]
     ·rw [if_neg e2, if_neg e, if_neg (by omega)]
   ·have := Z1as ks m _ hu
    obtain ⟨q1, q2⟩ := h5 y hy
    obtain ⟨q3, q4⟩ := h2.out y (by omega)
    exact ⟨q1.trans q3, q2.trans q4⟩
  ·obtain ⟨vs, s', h3, h4, h5⟩ := Z1bd hT ih hn r (m + 1) (by omega) _ s hK (fun m' h1 h2 h3 => hl m' (by omega) h2 h3)
   rw [if_neg hk]
   refine ⟨vs, s', h3, h4.mono fun i hi hki => ?_, h5⟩
   show (if m + 1 ≤ i then f i + 1 else f i) = if m ≤ i then f i + 1 else f i
   by_cases e : i = m
   ·subst e
    exact absurd hki hk
   ·by_cases e2 : m + 1 ≤ i
    ·rw [if_pos e2, if_pos (by omega)]
    ·rw [if_neg e2, if_neg (by omega)]
theorem Z1be {cols : List Col} {keep : List Bool} : ∀ (ks : List Ty) (a : Nat) (s : Tk), (∀ m, m < ks.length → keep.getD (a + cntL (ks.take m)) false = true) → takeL cols keep ks a s = takeS cols keep ks a s
 | [], a, s, _ => by rw [takeL, takeS]
 | t :: ts, a, s, h => by
  have h0 := h 0 (by simp)
  rw [List.take_zero, cntL, Nat.add_zero] at h0
  rw [takeL, takeS, if_pos h0]
  split
  ·rfl
  ·rename_i v s1 e
   rw [Z1be ts (a + cnt t) s1 (fun m hm => by
    have := h (m + 1) (by simp; omega)
    rw [List.take_succ_cons, cntL, ← Nat.add_assoc] at this
    exact this)]
theorem Z1bf {l : List Nd} (hT : TreeN l) {cols : List Col} {keep : List Bool} {a : Nat} {ks : List Ty} (ih : ∀ u ∈ ks, Prog l cols keep u) (hn : ∀ (m : Nat) (u : Ty), ks[m]? = some u → ∃ nd, l[a + 1 + cntL (ks.take m)]? = some nd ∧ nd.t = u)
  (hall : ∀ m, m < ks.length → keep.getD (a + 1 + cntL (ks.take m)) false = true) :
  ∀ (n : Nat) (f : Nat → Nat) (s : Tk), Z1bb l cols keep a ks f s → (∀ m', m' < ks.length → f m' + n ≤ (cols.getD (a + 1 + cntL (ks.take m')) col0).here.length) →
   ∃ vs s', iterO (takeL cols keep ks (a + 1)) n s = some (vs, s') ∧ Z1bb l cols keep a ks (fun i => f i + n) s' ∧ ∀ y, (y ≤ a ∨ a + 1 + cntL ks ≤ y) → s'.at_.getD y 0 = s.at_.getD y 0 ∧ s'.he.getD y 0 = s.he.getD y 0
 | 0, f, s, hK, hl => ⟨[], s, rfl, hK, fun y _ => ⟨rfl, rfl⟩⟩
 | n + 1, f, s, hK, hl => by
  obtain ⟨vs, s1, h1, h2, h3⟩ := Z1bd hT ih hn ks.length 0 (by omega) f s hK (fun m' _ h2 _ => by have := hl m' h2; omega)
  rw [List.drop_zero, List.take_zero, cntL, Nat.add_zero] at h1
  rw [← Z1be ks (a + 1) s hall] at h1
  have h2' : Z1bb l cols keep a ks (fun i => f i + 1) s1 := h2.mono fun i _ _ => by show (if 0 ≤ i then _ else _) = _; rw [if_pos (Nat.zero_le _)]
  obtain ⟨ws, s2, h4, h5, h6⟩ := Z1bf hT ih hn hall n _ s1 h2' (fun m' hm => by have := hl m' hm; omega)
  refine ⟨vs ++ ws, s2, by simp only [iterO, h1, h4], h5.mono fun i _ _ => by omega, fun y hy => ?_⟩
  exact ⟨(h6 y hy).1.trans (h3 y hy).1, (h6 y hy).2.trans (h3 y hy).2⟩
theorem gset {xs : List Nat} {a y v : Nat} (ha : a < xs.length) : (xs.set a v).getD y 0 = if y = a then v else xs.getD y 0 := by
 rw [List.getD_eq_getElem?_getD, List.getD_eq_getElem?_getD]
 split
 ·rename_i e
  subst e
  rw [List.getElem?_set_self ha]; rfl
 ·rename_i e
  rw [List.getElem?_set_ne (fun h => e h.symm)]
theorem Con.join {l : List Nd} (hT : TreeN l) {cols : List Col} {keep : List Bool} {a : Nat} {nd : Nd} (hnd : l[a]? = some nd) {h : Nat} {s' : Tk} (hh : s'.he.getD a 0 = h) (hc : h = ((cols.getD a col0).here.take (s'.at_.getD a 0)).count true)
  (hK : Z1bb l cols keep a nd.t.kids (fun m => askP nd.t.kind (cols.getD a col0) h m) s') : Con l cols keep a (a + cnt nd.t) s' := by
 have hN := hT.nok a nd hnd
 have hce := Z1at nd.t
 refine ⟨fun p nd' hp h1 h2 hk => ?_, fun p nd' hp h1 h2 hk j x hx hkx => ?_⟩
 ·by_cases e : p = a
  ·subst e
   rw [hh, hc]
  ·obtain ⟨j, u, e1, e2, e3⟩ := Z18d nd.t.kids (a + 1) p (by omega) (by omega)
   exact (hK.con j u e1).he p nd' hp e2 e3 hk
 ·by_cases e : p = a
  ·subst e
   rw [hnd] at hp
   cases hp
   obtain ⟨u, m, e1, e2, e3, e4, _⟩ := hN.kids j x hx
   subst e2
   rw [hh]
   exact hK.at_ j u e1 hkx
  ·obtain ⟨j', u, e1, e2, e3⟩ := Z18d nd.t.kids (a + 1) p (by omega) (by omega)
   exact (hK.con j' u e1).kid p nd' hp e2 e3 hk j x hx hkx
theorem Z1bg {l : List Nd} (hT : TreeN l) {cols : List Col} {keep : List Bool} {n : Nat} {want : Nat → Nat} {key : Nat → Bool} (hA : Asks l cols keep n want key) (hW : Whole l keep) : ∀ t : Ty, Prog l cols keep t := by
 refine Ty.ind fun k ns ks le pr sc ih a nd hnd hndt hka s hsz hcon hlt => ?_
 have hR := hA.right a nd hnd hka
 have hN := hT.nok a nd hnd
 have hkid := hA.kid a nd hnd hka
 have hk : nd.t.kind = k := by rw [hndt]; rfl
 have hks : nd.t.kids = ks := by rw [hndt]; rfl
 have hal : a < l.length := (List.getElem?_eq_some_iff.1 hnd).1
 have hla : a < s.at_.length := by rw [hsz.1]; exact hal
 have hlh : a < s.he.length := by rw [hsz.2]; exact hal
 have hc : cnt (.mk k ns ks le pr sc) = 1 + cntL ks := by rw [cnt]
 have hH := hcon.he a nd hnd (Nat.le_refl _) (by omega) hka
 have hkn : ∀ (m : Nat) (u : Ty), ks[m]? = some u → ∃ q, l[a + 1 + cntL (ks.take m)]? = some q ∧ q.t = u ∧ nd.kids[m]? = some (a + 1 + cntL (ks.take m)) := by
  intro m u hu
  have hml : m < nd.kids.length := by rw [hN.len, hks]; exact (List.getElem?_eq_some_iff.1 hu).1
  obtain ⟨u', q, f1, f2, f3, f4, _⟩ := hN.kids m _ (List.getElem?_eq_getElem hml)
  rw [hks] at f1 f2
  rw [hu] at f1
  cases f1
  exact ⟨q, f2 ▸ f3, f4, by rw [List.getElem?_eq_getElem hml, f2]⟩
 have hn : ∀ (m : Nat) (u : Ty), ks[m]? = some u → ∃ q, l[a + 1 + cntL (ks.take m)]? = some q ∧ q.t = u := fun m u hu => by
  obtain ⟨q, h1, h2, _⟩ := hkn m u hu
  exact ⟨q, h1, h2⟩
 have hhas : ∀ m, m < ks.length → keep.getD (a + 1 + cntL (ks.take m)) false = true → (cols.getD (a + 1 + cntL (ks.take m)) col0).here.length = askP k (cols.getD a col0) (Zxn (cols.getD a col0)) m := by
  intro m hm hkm
  obtain ⟨q, h1, h2, h3⟩ := hkn m _ (List.getElem?_eq_getElem hm)
  have hRk := hA.right _ q h1 hkm
  have hw := (hkid m _ h3).1
  rw [hRk.here, hw, Z1ba hR, hk]
 have hkall : k ≠ 12 → ∀ m, m < ks.length → keep.getD (a + 1 + cntL (ks.take m)) false = true := by
  intro h12 m hm
  obtain ⟨q, h1, h2, h3⟩ := hkn m _ (List.getElem?_eq_getElem hm)
  rcases (hW a nd hnd _ (List.mem_of_getElem? h3)).2 hka with e | e
  ·exact e
  ·exact absurd (hk.symm.trans e) h12
 have hg := hR.good
 rw [hk] at hg
 have hRi := hR.ints
 have hRl := hR.lens
 have hkk : Zm6 k ns.length ks.length = true := by
  have := hR.tOk.kinds.1
  rw [hndt] at this
  exact this
 have hK0 : Z1bb l cols keep a ks (fun m => askP k (cols.getD a col0) (s.he.getD a 0) m) s := by
  refine ⟨hsz, fun m u hu hkm => ?_, fun m u hu => ?_⟩
  ·obtain ⟨q, h1, h2, h3⟩ := hkn m u hu
   have := hcon.kid a nd hnd (Nat.le_refl _) (by omega) hka m _ h3 hkm
   rw [hk] at this
   exact this
  ·have := Z1as ks m u hu
   exact hcon.part (by omega) (by omega)
 have join : ∀ (s' : Tk) (h : Nat), s'.he.getD a 0 = h → s'.at_.getD a 0 = s.at_.getD a 0 + 1 → h = ((cols.getD a col0).here.take (s.at_.getD a 0 + 1)).count true → Z1bb l cols keep a ks (fun m => askP k (cols.getD a col0) h m) s' → Con l cols keep a (a + cnt (.mk k ns ks le pr sc)) s' := by
  intro s' h e1 e2 e3 hK
  rw [← hndt]
  refine Con.join hT hnd e1 (by rw [e2]; exact e3) ?_
  rw [hk, hks]
  exact hK
 generalize hce : cols.getD a col0 = c at *
 generalize hie : s.at_.getD a 0 = i at *
 generalize hje : s.he.getD a 0 = j at *
 have Zd := List.getElem?_eq_getElem hlt
 have htk : (c.here.take (i + 1)).count true = (c.here.take i).count true + (if c.here[i] = true then 1 else 0) := Zxo hlt
 have hjle : j ≤ i := by
  rw [hH]
  exact Nat.le_trans List.count_le_length (List.length_take_le _ _)
 rw [takeT, hce, hie, hje, Zd]
 have hout : ∀ (s' : Tk) (X : List Nat), (∀ y, (y ≤ a ∨ a + 1 + cntL ks ≤ y) → s'.at_.getD y 0 = (s.at_.set a (i + 1)).getD y 0 ∧ s'.he.getD y 0 = X.getD y 0) → (X = s.he ∨ X = s.he.set a (j + 1)) → ∀ y, (y < a ∨ a + cnt (.mk k ns ks le pr sc) ≤ y) → s'.at_.getD y 0 = s.at_.getD y 0 ∧ s'.he.getD y 0 = s.he.getD y 0 := by
  intro s' X h1 hX y hy
  obtain ⟨q1, q2⟩ := h1 y (by omega)
  have q3 : (s.at_.set a (i + 1)).getD y 0 = s.at_.getD y 0 := by rw [gset hla, if_neg (by omega)]
  refine ⟨q1.trans q3, q2.trans ?_⟩
  rcases hX with rfl | rfl
  ·rfl
  ·rw [gset hlh, if_neg (by omega)]
 have hKs : ∀ (X : List Nat), X.length = l.length → (∀ y, y ≠ a → X.getD y 0 = s.he.getD y 0) → Z1bb l cols keep a ks (fun m => askP k c j m) ⟨s.at_.set a (i + 1), X⟩ := by
  intro X hXl hX
  refine ⟨⟨by rw [List.length_set]; exact hsz.1, hXl⟩, fun m u hu hkm => ?_, fun m u hu => ?_⟩
  ·show (s.at_.set a (i + 1)).getD _ 0 = _
   rw [gset hla, if_neg (by omega)]
   exact hK0.at_ m u hu hkm
  ·obtain ⟨q, hq, rfl⟩ := hn m u hu
   refine Con.congr hT hq (fun y h1 h2 => ⟨?_, hX y (by omega)⟩) (hK0.con m q.t hu)
   show (s.at_.set a (i + 1)).getD _ 0 = _
   rw [gset hla, if_neg (by omega)]
 have hat : (s.at_.set a (i + 1)).getD a 0 = i + 1 := by rw [gset hla, if_pos rfl]
 cases hhb : c.here[i] with
 | false =>
  rw [hhb, if_neg (by simp), Nat.add_zero, ← hH] at htk
  refine ⟨nullV, _, rfl, join _ j ?_ hat htk.symm (hKs s.he hsz.2 fun _ _ => rfl), ?_, hout _ s.he (fun y _ => ⟨rfl, rfl⟩) (.inl rfl)⟩
  ·exact hje
  ·rw [hie]; exact hat
 | true =>
  rw [hhb, if_pos rfl, ← hH] at htk
  have hjn : j < Zxn c := by
   have : (c.here.take (i + 1)).count true ≤ c.here.count true := by
    obtain ⟨r, e⟩ := Z1b5 c.here (show i + 1 ≤ c.here.length by omega)
    rw [List.take_length] at e
    have h2 := congrArg (List.count true) e
    rw [List.count_append] at h2; omega
   have e : Zxn c = c.here.count true := rfl
   omega
  have heS : (s.he.set a (j + 1)).getD a 0 = j + 1 := by rw [gset hlh, if_pos rfl]
  have hK2 := hKs (s.he.set a (j + 1)) (by rw [List.length_set]; exact hsz.2) (fun y hy => by rw [gset hlh, if_neg hy])
  simp only
  rw [if_neg (by omega)]
  have leaf : ks = [] → Took l cols keep a (a + cnt (.mk k ns ks le pr sc)) s ⟨s.at_.set a (i + 1), s.he.set a (j + 1)⟩ := by
   intro h0
   refine ⟨join _ (j + 1) heS hat htk.symm (hK2.mono fun m hm _ => ?_), by rw [hie]; exact hat, hout _ _ (fun y _ => ⟨rfl, rfl⟩) (.inr rfl)⟩
   rw [h0] at hm
   simp at hm
  by_cases k10 : k = 10 ∨ k = 11
  ·rw [if_pos k10]
   have hl : j < c.lens.length := by rw [hg.lens, if_pos k10]; exact hjn
   have hv := List.getElem?_eq_getElem hl
   rw [hv]
   have hstep := fun m => Z1b7 k10 (c := c) (h := j) (j := m) hv
   have hall := hkall (by rcases k10 with e | e <;> omega)
   obtain ⟨vs, s', h1, h2, h3⟩ := Z1bf hT ih hn hall c.lens[j].toNat _ _ hK2 (fun m hm => by
    rw [hhas m hm (hall m hm)]
    have := Z1b6 (k := k) (c := c) (j := m) (show j + 1 ≤ Zxn c by omega)
    have := hstep m
    omega)
   simp only [h1]
   refine ⟨_, s', rfl, join s' (j + 1) ?_ ?_ htk.symm (h2.mono fun m hm _ => (hstep m).symm), ?_, hout s' _ h3 (.inr rfl)⟩
   ·rw [(h3 a (.inl (Nat.le_refl _))).2]; exact heS
   ·rw [(h3 a (.inl (Nat.le_refl _))).1]; exact hat
   ·rw [(h3 a (.inl (Nat.le_refl _))).1, hie]; exact hat
  rw [if_neg k10]
  by_cases k12 : k = 12
  ·rw [if_pos k12]
   have hr := fun (h m : Nat) => Z1b9 (c := c) (h := h) (j := m) k10 (show k ≠ 13 by omega)
   obtain ⟨vs, s', h1, h2, h3⟩ := Z1bd hT ih hn ks.length 0 (by omega) _ _ hK2 (fun m _ hm hkm => by
    rw [hhas m hm hkm, hr, hr]; exact hjn)
   rw [List.drop_zero, List.take_zero, cntL, Nat.add_zero] at h1
   simp only [h1]
   refine ⟨_, s', rfl, join s' (j + 1) ?_ ?_ htk.symm (h2.mono fun m hm _ => ?_), ?_, hout s' _ h3 (.inr rfl)⟩
   ·rw [(h3 a (.inl (Nat.le_refl _))).2]; exact heS
   ·rw [(h3 a (.inl (Nat.le_refl _))).1]; exact hat
   ·show (if 0 ≤ m then _ else _) = _
    rw [if_pos (Nat.zero_le _), hr, hr]
   ·rw [(h3 a (.inl (Nat.le_refl _))).1, hie]; exact hat
  rw [if_neg k12]
  by_cases k13 : k = 13
  ·rw [if_pos k13]
   have hnt : ¬ (Zmm k = true ∨ k = 10 ∨ k = 11 ∨ k = 12) := by rw [k13]; decide
   have hl : j < c.ints.length := by rw [hg.ints, if_neg hnt]; exact hjn
   have hv := List.getElem?_eq_getElem hl
   rw [hv]
   have hnum := hRi j _ hv
   have htk13 : (tyK nd).kind = 13 := by show nd.t.kind = 13; rw [hk]; exact k13
   rw [Z17x, if_pos htk13, Z18m, hN.len, hks, decide_eq_true_eq] at hnum
   subst k13
   have hstep := fun m => Z1b8 (c := c) (h := j) (j := m) hv
   generalize c.ints[j] = v at hnum hstep hv
   have hvl : v.toNat < ks.length := by omega
   have hu := List.getElem?_eq_getElem hvl
   obtain ⟨q, hq, hqt⟩ := hn _ _ hu
   have hkm := hkall (by decide) v.toNat hvl
   have hl2 : askP 13 c j v.toNat < (cols.getD (a + 1 + cntL (ks.take v.toNat)) col0).here.length := by
    rw [hhas _ hvl hkm]
    have := Z1b6 (k := 13) (c := c) (j := v.toNat) (show j + 1 ≤ Zxn c by omega)
    have h2 := hstep v.toNat
    rw [if_pos (by omega)] at h2
    omega
   have hat2 := hK2.at_ _ _ hu hkm
   obtain ⟨w, s', h1, h2⟩ := ih _ (List.getElem_mem hvl) _ q hq hqt hkm _ hK2.sz (hK2.con _ _ hu) (by rw [hat2]; exact hl2)
   have hs' := Z18s cols keep l.length _ _ _ _ _ h1 hK2.sz
   have hK3 := hK2.one hT hn hu hkm hs' h2
   simp only
   rw [if_neg (by omega), Z1aa hu, h1]
   have ha := h2.out a (.inl (by omega))
   refine ⟨_, s', rfl, join s' (j + 1) ?_ ?_ htk.symm (hK3.mono fun m hm _ => ?_), ?_, hout s' _ (fun y hy => ?_) (.inr rfl)⟩
   ·rw [ha.2]; exact heS
   ·rw [ha.1]; exact hat
   ·show (if m = v.toNat then _ else _) = _
    rw [hstep]
    by_cases e : m = v.toNat
    ·subst e
     rw [if_pos rfl, if_pos (by omega)]
    ·rw [if_neg e, if_neg (by omega), Nat.add_zero]
   ·rw [ha.1, hie]; exact hat
   ·have := Z1as ks _ _ hu
    exact h2.out y (by omega)
  rw [if_neg k13]
  have h0 : ks = [] := by
   rw [Zm6, if_neg (by omega), if_neg (by omega), if_neg k12, if_neg k13] at hkk
   exact List.length_eq_zero_iff.1 (by simpa using hkk)
  by_cases kt : Zmm k = true
  ·rw [if_pos kt]
   have hl : j < c.texts.length := by rw [hg.texts, if_pos kt]; exact hjn
   rw [List.getElem?_eq_getElem hl]
   exact ⟨_, _, rfl, leaf h0⟩
  rw [if_neg kt]
  have hl : j < c.ints.length := by rw [hg.ints, if_neg (fun h => by rcases h with h | h | h | h; exact kt h; exact k10 (.inl h); exact k10 (.inr h); exact k12 h)]; exact hjn
  by_cases k9 : k = 9
  ·rw [if_pos k9]
   have hl2 : j < c.ns.length := by rw [hg.ns, if_pos k9]; exact hjn
   rw [List.getElem?_eq_getElem hl, List.getElem?_eq_getElem hl2]
   exact ⟨_, _, rfl, leaf h0⟩
  ·rw [if_neg k9, List.getElem?_eq_getElem hl]
   exact ⟨_, _, rfl, leaf h0⟩
theorem Z1bh {l : List Nd} (hT : TreeN l) {cols : List Col} {keep : List Bool} {n : Nat} {want : Nat → Nat} {key : Nat → Bool} (hA : Asks l cols keep n want key) (hW : Whole l keep) {n0 : Nd} (hn0 : l[0]? = some n0) (hl : cnt n0.t = l.length) (hk0 : keep.getD 0 false = true) :
  ∃ VS sE, takeR cols keep n0.t n ⟨List.replicate l.length 0, List.replicate l.length 0⟩ = some (VS, sE) := by
 have hh := (hA.right 0 n0 hn0 hk0).here
 rw [hA.w0] at hh
 have gen : ∀ (r : Nat) (s : Tk), s.sz l.length → Con l cols keep 0 (0 + cnt n0.t) s → s.at_.getD 0 0 + r = n → ∃ VS sE, takeR cols keep n0.t r s = some (VS, sE) := by
  intro r
  induction r with
  | zero => intro s _ _ _; exact ⟨[], s, rfl⟩
  | succ r ih =>
   intro s hsz hcon hat
   obtain ⟨v, s1, h1, h2⟩ := Z1bg hT hA hW n0.t 0 n0 hn0 rfl hk0 s hsz hcon (by omega)
   obtain ⟨vs, sE, h3⟩ := ih s1 (Z18s cols keep l.length _ _ _ _ _ h1 hsz) h2.con (by rw [h2.at_]; omega)
   exact ⟨v :: vs, sE, by simp only [takeR, h1, h3]⟩
 have hz : ∀ y, (List.replicate l.length 0).getD y 0 = 0 := by
  intro y
  rw [List.getD_eq_getElem?_getD, List.getElem?_replicate]
  split <;> rfl
 refine gen n _ ⟨List.length_replicate, List.length_replicate⟩ ⟨fun p nd hp _ _ _ => ?_, fun p nd hp _ _ _ j x hx _ => ?_⟩ ?_
 ·show (List.replicate l.length 0).getD p 0 = ((cols.getD p col0).here.take ((List.replicate l.length 0).getD p 0)).count true
  rw [hz, List.take_zero]; rfl
 ·show (List.replicate l.length 0).getD x 0 = askP nd.t.kind (cols.getD p col0) ((List.replicate l.length 0).getD p 0) j
  rw [hz, hz]
  unfold askP
  split
  ·simp
  ·split <;> simp
 ·show (List.replicate l.length 0).getD 0 0 + n = n
  rw [hz]; omega
end Go.Abs

