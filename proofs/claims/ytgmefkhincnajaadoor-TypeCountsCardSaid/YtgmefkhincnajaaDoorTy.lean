/-
  Types as9 plain trees: no program in sight, but for how they look in memory.
-/
import Derived.Test.YtgmefkhincnajaaDoorAbsX
set_option linter.unusedVariables false
set_option linter.unusedSimpArgs false
namespace Go.Abs
open Go

inductive Ty where
  | mk (kind : Int) (names : List (List UInt8)) (kids : List Ty) (len prec scale : Int)

namespace Ty
def kind : Ty → Int | .mk k _ _ _ _ _ => k
def names : Ty → List (List UInt8) | .mk _ n _ _ _ _ => n
def kids : Ty → List Ty | .mk _ _ ks _ _ _ => ks
def len : Ty → Int | .mk _ _ _ l _ _ => l
def prec : Ty → Int | .mk _ _ _ _ p _ => p
def scale : Ty → Int | .mk _ _ _ _ _ s => s

theorem ind {p : Ty → Prop} (h : ∀ k ns ks l pr s, (∀ t ∈ ks, p t) → p (.mk k ns ks l pr s)) : ∀ t, p t := by
  intro t
  refine Ty.rec (motive_1 := p) (motive_2 := fun l => ∀ t ∈ l, p t) ?_ ?_ ?_ t
  · intro k ns ks l pr s ih; exact h k ns ks l pr s ih
  · intro t ht; cases ht
  · intro a l ha hl t ht
    rcases List.mem_cons.1 ht with rfl | ht
    · exact ha
    · exact hl t ht
end Ty

def encNames (ns : List (List UInt8)) : AVal := .slc 1 (ns.map .str) false
mutual
def encT : Ty → AVal
  | .mk k ns ks l p s => .agg [.int .i64 k, .slc 1 (ns.map .str) false, .slc 6 (encTs ks) false, .int .i64 l, .int .i64 p, .int .i64 s]
def encTs : List Ty → List AVal
  | [] => []
  | t :: ts => encT t :: encTs ts
end
def cellsT (t : Ty) : List AVal := [.int .i64 t.kind, .slc 1 (t.names.map .str) false, .slc 6 (encTs t.kids) false, .int .i64 t.len, .int .i64 t.prec, .int .i64 t.scale]
theorem encT_eq (t : Ty) : encT t = .agg (cellsT t) := by cases t; simp only [encT, cellsT, Ty.kind, Ty.names, Ty.kids, Ty.len, Ty.prec, Ty.scale]
theorem encTs_eq (ts : List Ty) : encTs ts = ts.map encT := by
  induction ts with
  | nil => rfl
  | cons t ts ih => simp [encTs, ih]
theorem encTs_length (ts : List Ty) : (encTs ts).length = ts.length := by simp [encTs_eq]
theorem encTs_get {ts : List Ty} {i : Nat} {t : Ty} (h : ts[i]? = some t) : (encTs ts)[i]? = some (encT t) := by simp [encTs_eq, h]

/-! ### Which types may be -/

def leafF (k : Int) : Bool := !(decide (k = 10) || decide (k = 11) || decide (k = 12) || decide (k = 13))
def namesOk (ns : List (List UInt8)) : Bool := ns.all (fun s => decide (s ≠ [] ∧ s.length ≤ 100)) && decide ns.Nodup
/-- What kids a kind wants. -/
def kidsOk (k : Int) (names kids : Nat) : Bool :=
  if k = 10 then kids == 1 else if k = 11 then kids == 2 else if k = 12 then kids == names else if k = 13 then decide (1 ≤ kids ∧ kids ≤ 255) else kids == 0
def rightF (k : Int) (ns : List (List UInt8)) (kids : Nat) (l p s : Int) : Bool :=
  kidsOk k ns.length kids && (decide (k = 12) || ns.isEmpty) && namesOk ns &&
  (if k = 16 ∨ k = 17 then decide (1 ≤ l ∧ l ≤ 4096) else decide (l = 0)) &&
  (if k = 14 then decide (1 ≤ p ∧ p ≤ 18 ∧ 0 ≤ s ∧ s ≤ p) else decide (p = 0 ∧ s = 0))
def ownF (k : Int) (ns : List (List UInt8)) (kids : Nat) (l p s : Int) : Nat :=
  if k = 5 ∨ k = 6 then 5 else if k < 0 ∨ 17 < k ∨ rightF k ns kids l p s = false then 1 else 0

mutual
/-- How many types there are then; what is wrong. -/
def chk (deep n : Nat) : Ty → Nat × Nat
  | .mk k ns ks l p s => if 16 < deep ∨ 100 ≤ n then (n, 4) else if ownF k ns ks.length l p s ≠ 0 then (n, ownF k ns ks.length l p s) else chkL (deep + 1) (n + 1) ks
def chkL (deep n : Nat) : List Ty → Nat × Nat
  | [] => (n, 0)
  | t :: ts => if (chk deep n t).2 ≠ 0 then chk deep n t else chkL deep (chk deep n t).1 ts
end
def checkF (t : Ty) : Nat := (chk 1 0 t).2

/-! ### A tree's columns -/

mutual
def cnt : Ty → Nat
  | .mk _ _ ks _ _ _ => 1 + cntL ks
def cntL : List Ty → Nat
  | [] => 0
  | t :: ts => cnt t + cntL ts
end
def kidIdx (at_ : Nat) : List Ty → List Nat
  | [] => []
  | t :: ts => at_ :: kidIdx (at_ + cnt t) ts

structure Nd where
  t : Ty
  kids : List Nat
  parent : Int
  deep : Nat

mutual
def flatT (at_ : Nat) (parent : Int) (deep : Nat) : Ty → List Nd
  | .mk k ns ks l p s => ⟨.mk k ns ks l p s, kidIdx (at_ + 1) ks, parent, deep⟩ :: flatL (at_ + 1) (at_ : Int) (deep + 1) ks
def flatL (at_ : Nat) (parent : Int) (deep : Nat) : List Ty → List Nd
  | [] => []
  | t :: ts => flatT at_ parent deep t ++ flatL (at_ + cnt t) parent deep ts
end

theorem flat_len : (∀ t : Ty, ∀ at_ parent deep, (flatT at_ parent deep t).length = cnt t) := by
  refine Ty.ind fun k ns ks l p s ih at_ parent deep => ?_
  have hL : ∀ (ks : List Ty), (∀ t ∈ ks, ∀ at_ parent deep, (flatT at_ parent deep t).length = cnt t) → ∀ at_ parent deep, (flatL at_ parent deep ks).length = cntL ks := by
    intro ks
    induction ks with
    | nil => intro _ at_ parent deep; simp [flatL, cntL]
    | cons t ts ih2 =>
      intro h at_ parent deep
      simp only [flatL, cntL, List.length_append]
      rw [h t (by simp), ih2 (fun t ht => h t (by simp [ht]))]
  simp only [flatT, cnt, List.length_cons]
  rw [hL ks ih]; omega

def ints (l : List Nat) : List AVal := l.map fun (n : Nat) => AVal.int .i64 (n : Int)
def cellsN (n : Nd) : List AVal := [.int .i64 n.t.kind, .slc 1 (ints n.kids) true, .slc 1 (n.t.names.map .str) true, .int .i64 n.t.len, .int .i64 n.t.prec, .int .i64 n.t.scale, .int .i64 n.parent, .int .i64 (n.deep : Int)]
def cellsR (n : Nd) : List AVal := cellsT n.t ++ [.slc 1 (ints n.kids) false, .int .i64 n.parent, .int .i64 (n.deep : Int)]
def encN (n : Nd) : AVal := .agg (cellsN n)
def encR (n : Nd) : AVal := .agg (cellsR n)

/-- A tree's columns, where it may be. -/
def flattenF (t : Ty) : List Nd := if checkF t = 0 then flatT 0 (-1) 1 t else []

end Go.Abs
