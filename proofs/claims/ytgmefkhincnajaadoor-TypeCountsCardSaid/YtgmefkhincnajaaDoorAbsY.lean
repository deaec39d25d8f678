/-
  A program logic over abstract states, part Y: more single steps.
-/
import Derived.Test.YtgmefkhincnajaaDoorAbsX
namespace Go.Abs
open Go Go.RowKit

set_option linter.unusedVariables false
set_option linter.unusedSimpArgs false
variable {P : Program} {N : Nat} {l : List AOper} {F : AFrame} {σ : AHeap} {Q : AFrame → AHeap → Prop}

/-- Bytes as9 a text. -/
theorem st_b2s {d : Nat} {args : List AOpd} {bs : List UInt8} {f : Bool} {s : Nat} (h1 : evs F args = some [.slc s (bytes bs) f]) (hs : s = 1) (h : aops P l (fset d (some (.str bs)) F) σ Q) : aops P (⟨some d, .b2s, args, none⟩ :: l) F σ Q :=
  st_q h1 (by subst hs; simp [aquiet, ab2s, elemsOf, toBytes_bytes]) rfl h
theorem st_b2sp {d : Nat} {args : List AOpd} {bs : List UInt8} {f : Bool} {s : Nat} (h1 : evs F args = some [.slc s (bytes bs) f]) (hs : s = 1) (h : aops P l (fset d (some (.str bs)) F) σ Q) : aops P (⟨some d, .b2sp, args, none⟩ :: l) F σ Q :=
  st_q h1 (by subst hs; simp [aquiet, ab2sp, toBytes_bytes]) rfl h
/-- The length of a mapped row. -/
theorem st_lensM {α : Type} {f : α → AVal} {d : Nat} {args : List AOpd} {xs : List α} {s : Nat} {u : Bool} (h1 : evs F args = some [.slc s (xs.map f) u]) (h : aops P l (fset d (some (.int .i64 (xs.length : Int))) F) σ Q) : aops P (⟨some d, .lens, args, none⟩ :: l) F σ Q :=
  st_q h1 (by simp [aquiet, alens]) rfl h

theorem resVals_cons {F : AFrame} {σ : AHeap} {r : ARes} {l : List ARes} {v : AVal} {vs : List AVal} (h1 : resVal F σ r = some v) (h2 : resVals F σ l = some vs) : resVals F σ (r :: l) = some (v :: vs) := by simp [resVals, h1, h2]
theorem resVal_cell {F : AFrame} {σ : AHeap} {b s i sz : Nat} {cs xs : List AVal} (hF : F i = some (.ptr b 0 0)) (hg : hget σ b = some (.cells s (.agg cs :: xs))) (hl : cs.length = sz) : resVal F σ (.cell i true sz) = some (.agg cs) := by
  subst hl
  simp [resVal, hF, aload, hg, part_, AVal.cells]

/-! ### Concrete values, seen otherwise -/

theorem vle_cons {a a' b b' : AVal} {l l' : List AVal} (h1 : VRle [a] [a']) (h2 : VRle (b :: l) (b' :: l')) : VRle (a :: b :: l) (a' :: b' :: l') := VRle.cons h1 h2
theorem vle_nil {z z' : Nat} {f : Bool} : VRle [.slc z [] f] [.slc z' [] false] := (VRle.nil_slc z z' f).trans VRle.full
theorem vle_slc {sz : Nat} {xs ys : List AVal} {f : Bool} (hl : ys.length = xs.length) (he : ys.all (AVal.fit sz) = true) (h : VRle (flat xs) (flat ys)) : VRle [.slc sz xs f] [.slc sz ys false] :=
  (VRle.cells hl (fun y hy => AVal.fit_iff.1 (List.all_eq_true.1 he y hy)) h).trans VRle.full
theorem vle_agg {cs ds : List AVal} (h1 : ds.all AVal.one = true) (h : VRle cs ds) : VRle [.agg cs] [.agg ds] := VRle.agg (fun c hc => List.all_eq_true.1 h1 c hc) h
theorem HShift.view {b sz : Nat} {xs ys : List AVal} {σ : AHeap} (hl : ys.length = xs.length) (he : ys.all (AVal.fit sz) = true) (hv : VRle (flat xs) (flat ys)) : HShift ((b, .cells sz xs) :: σ) ((b, .cells sz ys) :: σ) :=
  fun K w r => ⟨K, Kr.le.refl K, r.content hl (fun y hy => AVal.fit_iff.1 (List.all_eq_true.1 he y hy)) (hv K)⟩
end Go.Abs
