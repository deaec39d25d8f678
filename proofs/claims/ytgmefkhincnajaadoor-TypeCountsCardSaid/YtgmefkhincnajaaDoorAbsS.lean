/-
  A program logic over abstract states, part S: single steps, one law each.
-/
import Derived.Test.YtgmefkhincnajaaDoorAbsP
namespace Go.Abs
open Go Go.RowKit

set_option linter.unusedVariables false
set_option linter.unusedSimpArgs false
variable {P : Program} {N : Nat} {l : List AOper} {F : AFrame} {σ : AHeap} {Q : AFrame → AHeap → Prop}

/-- Any operation that keeps the state. -/
theorem st_q {d : Nat} {k : AK} {args : List AOpd} {vs : List AVal} {v : AVal} (h1 : evs F args = some vs) (h2 : aquiet k σ vs = some v) (hq : k.quiet = true)
    (h : aops P l (fset d (some v) F) σ Q) : aops P (⟨some d, k, args, none⟩ :: l) F σ Q := by
  refine ⟨vs, h1, ?_⟩
  rw [astep_quiet hq]
  exact ⟨v, h2, h⟩

/-- Any operation. -/
theorem st_any {dst : Option Nat} {k : AK} {args : List AOpd} {vs : List AVal} (h1 : evs F args = some vs) (h : astep P k vs σ fun r σ' => aops P l (fput dst (some r) F) σ' Q) : aops P (⟨dst, k, args, none⟩ :: l) F σ Q :=
  ⟨vs, h1, h⟩

/-- A guard that lets by. -/
theorem st_gy {dst : Option Nat} {k : AK} {args : List AOpd} {g : Nat} {want : Bool} (h1 : F g = some (.bool want)) (h : aops P (⟨dst, k, args, none⟩ :: l) F σ Q) : aops P (⟨dst, k, args, some (g, want)⟩ :: l) F σ Q :=
  ⟨some want, by rw [h1]; rfl, fun _ => h, fun e => absurd rfl e⟩
/-- A guard that does not. -/
theorem st_gn {dst : Option Nat} {k : AK} {args : List AOpd} {g : Nat} {want : Bool} (h1 : F g = some (.bool (!want))) (h : aops P l (fput dst (some (.tup [])) F) σ Q) : aops P (⟨dst, k, args, some (g, want)⟩ :: l) F σ Q :=
  ⟨some (!want), by rw [h1]; rfl, fun e => by cases want <;> simp at e, fun _ => h⟩
/-- A guard whose slot was passed over. -/
theorem st_gu {dst : Option Nat} {k : AK} {args : List AOpd} {g : Nat} {want : Bool} (h1 : F g = some (.tup [])) (h : aops P l (fput dst (some (.tup [])) F) σ Q) : aops P (⟨dst, k, args, some (g, want)⟩ :: l) F σ Q :=
  ⟨none, by rw [h1]; rfl, fun e => (by cases e), fun _ => h⟩
/-- A guard, either way. -/
theorem st_g {dst : Option Nat} {k : AK} {args : List AOpd} {g : Nat} {want b : Bool} (h1 : F g = some (.bool b)) (hy : b = want → aops P (⟨dst, k, args, none⟩ :: l) F σ Q) (hn : b ≠ want → aops P l (fput dst (some (.tup [])) F) σ Q) : aops P (⟨dst, k, args, some (g, want)⟩ :: l) F σ Q :=
  ⟨some b, by rw [h1]; rfl, fun e => hy (by simpa using e), fun e => hn (by simpa using e)⟩

theorem st_nil (h : Q F σ) : aops P [] F σ Q := h

@[simp] theorem hget_head {b : Nat} {x : ABlk} {σ : AHeap} : hget ((b, x) :: σ) b = some x := by simp [hget]
theorem hget_tail {a b : Nat} {x : ABlk} {σ : AHeap} {y : Option ABlk} (h : a ≠ b) (h' : hget σ b = y) : hget ((a, x) :: σ) b = y := by simp only [hget, if_neg h]; exact h'
theorem hget_tail' {a b : Nat} {x : ABlk} {σ : AHeap} {y : Option ABlk} (h : b ≠ a) (h' : hget σ b = y) : hget ((a, x) :: σ) b = y := hget_tail (fun e => h e.symm) h'

/-- A load behind a pointer into a block of the state. -/
theorem st_ldp {d : Nat} {ag : Bool} {sz : Nat} {args : List AOpd} {b i o s : Nat} {xs : List AVal} {x v : AVal} (h1 : evs F args = some [.ptr b i o]) (hg : hget σ b = some (.cells s xs)) (hx : xs[i]? = some x) (hp : part_ ag sz (x.cells.drop o) = some v)
    (h : aops P l (fset d (some v) F) σ Q) : aops P (⟨some d, .load ag sz, args, none⟩ :: l) F σ Q :=
  st_q h1 (by simp [aquiet, aload, hg, hx, hp]) rfl h

/-- An address of an element of a slice that nobody writes. -/
theorem st_iad {d sz : Nat} {args : List AOpd} {xs : List AVal} {f : Bool} {k : IntKind} {i : Int} {x : AVal} (h1 : evs F args = some [.slc sz xs f, .int k i]) (h0 : 0 ≤ i) (hx : xs[i.toNat]? = some x)
    (h : aops P l (fset d (some (.iptr x.cells)) F) σ Q) : aops P (⟨some d, .iad sz, args, none⟩ :: l) F σ Q :=
  st_q h1 (by simp [aquiet, aiad, h0, hx]) rfl h
theorem st_iada {d sz : Nat} {args : List AOpd} {b off n : Nat} {k : IntKind} {i : Int} (h1 : evs F args = some [.arr sz b off n, .int k i]) (h0 : 0 ≤ i ∧ i < n)
    (h : aops P l (fset d (some (.ptr b (off + i.toNat) 0)) F) σ Q) : aops P (⟨some d, .iad sz, args, none⟩ :: l) F σ Q :=
  st_q h1 (by simp [aquiet, aiad, h0]) rfl h

/-- A number's shift. -/
theorem st_shl {d : Nat} {args : List AOpd} {k k' : IntKind} {a b : Int} (h1 : evs F args = some [.int k a, .int k' b]) (h0 : 0 ≤ b)
    (h : aops P l (fset d (some (.int k (k.wrap (a * 2 ^ (Nat.min b.toNat k.bits))))) F) σ Q) : aops P (⟨some d, .bin .shl, args, none⟩ :: l) F σ Q :=
  st_q h1 (by simp [aquiet, abin, isShift, binShift]; omega) rfl h
theorem st_shr {d : Nat} {args : List AOpd} {k k' : IntKind} {a b : Int} (h1 : evs F args = some [.int k a, .int k' b]) (h0 : 0 ≤ b)
    (h : aops P l (fset d (some (.int k (a.fdiv (2 ^ (Nat.min b.toNat k.bits))))) F) σ Q) : aops P (⟨some d, .bin .shr, args, none⟩ :: l) F σ Q :=
  st_q h1 (by simp [aquiet, abin, isShift, binShift]; omega) rfl h
theorem st_quo {d : Nat} {args : List AOpd} {k : IntKind} {a b : Int} (h1 : evs F args = some [.int k a, .int k b]) (h0 : b ≠ 0)
    (h : aops P l (fset d (some (.int k (k.wrap (a.tdiv b)))) F) σ Q) : aops P (⟨some d, .bin .quo, args, none⟩ :: l) F σ Q :=
  st_q h1 (by simp [aquiet, abin, isShift, binInt, h0]) rfl h
theorem st_rem {d : Nat} {args : List AOpd} {k : IntKind} {a b : Int} (h1 : evs F args = some [.int k a, .int k b]) (h0 : b ≠ 0)
    (h : aops P l (fset d (some (.int k (a.tmod b))) F) σ Q) : aops P (⟨some d, .bin .rem, args, none⟩ :: l) F σ Q :=
  st_q h1 (by simp [aquiet, abin, isShift, binInt, h0]) rfl h

/-- A slice of a slice. -/
theorem st_slc {d sz : Nat} {lo hi mx : Bool} {args : List AOpd} {xs : List AVal} {f : Bool} {rest : List AVal} {a b c : Int} (h1 : evs F args = some (.slc sz xs f :: rest)) (hb : bnds xs.length lo hi mx rest = some (a, b, c)) (h0 : 0 ≤ a ∧ a ≤ b ∧ b ≤ c ∧ c ≤ xs.length)
    (h : aops P l (fset d (some (.slc sz ((xs.drop a.toNat).take (b - a).toNat) (if mx then decide (b = c) else (f && decide (b = xs.length))))) F) σ Q) : aops P (⟨some d, .slc sz lo hi mx, args, none⟩ :: l) F σ Q :=
  st_q h1 (by simp [aquiet, asub, hb, h0]) rfl h

/-- A store. -/
theorem st_store {sz : Nat} {args : List AOpd} {b i o s : Nat} {xs : List AVal} {x v : AVal} (h1 : evs F args = some [.ptr b i o, v]) (hg : hget σ b = some (.cells s xs)) (hx : xs[i]? = some x) (ho : o + sz ≤ s) (hv : v.elem sz) (h1' : x.one = true → o = 0 ∧ sz = 1)
    {σ' : AHeap} (hs : hset σ b (.cells s (xs.set i (putCells x o v.cells))) = σ') (h : aops P l F σ' Q) : aops P (⟨none, .store sz, args, none⟩ :: l) F σ Q := by
  subst hs
  exact ⟨_, h1, s, xs, x, hg, hx, ho, hv, h1', h⟩
theorem hset_head {b : Nat} {x y : ABlk} {σ : AHeap} : hset ((b, x) :: σ) b y = (b, y) :: σ := by simp [hset]
theorem hset_tail {a b : Nat} {x y : ABlk} {σ σ' : AHeap} (h : a ≠ b) (h' : hset σ b y = σ') : hset ((a, x) :: σ) b y = (a, x) :: σ' := by simp only [hset, if_neg h, h']
theorem hset_tail' {a b : Nat} {x y : ABlk} {σ σ' : AHeap} (h : b ≠ a) (h' : hset σ b y = σ') : hset ((a, x) :: σ) b y = (a, x) :: σ' := hset_tail (fun e => h e.symm) h'
theorem hren_head {b b' : Nat} {x y : ABlk} {σ : AHeap} : hren ((b, x) :: σ) b b' y = (b', y) :: σ := by simp [hren]
theorem hren_tail {a b b' : Nat} {x y : ABlk} {σ σ' : AHeap} (h : a ≠ b) (h' : hren σ b b' y = σ') : hren ((a, x) :: σ) b b' y = (a, x) :: σ' := by simp only [hren, if_neg h, h']
theorem hren_tail' {a b b' : Nat} {x y : ABlk} {σ σ' : AHeap} (h : b ≠ a) (h' : hren σ b b' y = σ') : hren ((a, x) :: σ) b b' y = (a, x) :: σ' := hren_tail (fun e => h e.symm) h'
theorem hdel_head {b : Nat} {x : ABlk} {σ : AHeap} : hdel ((b, x) :: σ) b = σ := by simp [hdel]
theorem hdel_tail {a b : Nat} {x : ABlk} {σ σ' : AHeap} (h : a ≠ b) (h' : hdel σ b = σ') : hdel ((a, x) :: σ) b = (a, x) :: σ' := by simp only [hdel, if_neg h, h']

/-- A new variable. -/
theorem st_box {d sz : Nat} {args : List AOpd} {v : AVal} (h1 : evs F args = some [v]) (hv : v.elem sz) (h : ∀ b, b ∉ keys σ → aops P l (fset d (some (.ptr b 0 0)) F) ((b, .cells sz [v]) :: σ) Q) : aops P (⟨some d, .box sz, args, none⟩ :: l) F σ Q :=
  ⟨_, h1, hv, fun b hb => h b hb⟩
theorem st_alloc {d : Nat} {z : AVal} (hz : ∀ c ∈ z.cells, c.one = true) (h : ∀ b, b ∉ keys σ → aops P l (fset d (some (.ptr b 0 0)) F) ((b, .cells z.cells.length [z]) :: σ) Q) : aops P (⟨some d, .alloc z, [], none⟩ :: l) F σ Q :=
  ⟨[], rfl, rfl, hz, fun b hb => h b hb⟩
theorem st_mks {d sz byt : Nat} {z : AVal} {args : List AOpd} {n c : Int} (h1 : evs F args = some [.int .i64 n, .int .i64 c]) (hz : z.elem sz) (h0 : 0 ≤ n) (h2 : n ≤ c) (h3 : c ≤ 9223372036854775807) (h4 : byt * c ≤ 281474976710656)
    (h : ∀ b, b ∉ keys σ → aops P l (fset d (some (.arr sz b 0 n.toNat)) F) ((b, .cells sz (List.replicate n.toNat z)) :: σ) Q) : aops P (⟨some d, .mks sz byt z, args, none⟩ :: l) F σ Q :=
  ⟨_, h1, hz, h0, h2, h3, h4, fun b hb => h b hb⟩
/-- A row of literals that the call owns. -/
theorem st_bslo {d sz : Nat} {args : List AOpd} {vs : List AVal} (h1 : evs F args = some vs) (hv : ∀ v ∈ vs, v.elem sz) (h : ∀ b, b ∉ keys σ → aops P l (fset d (some (.arr sz b 0 vs.length)) F) ((b, .cells sz vs) :: σ) Q) : aops P (⟨some d, .bslo sz, args, none⟩ :: l) F σ Q :=
  ⟨_, h1, hv, fun b hb => h b hb⟩
/-- It is marked: nobody writes it any more. -/
theorem st_strish {d sz s b n : Nat} {args : List AOpd} {xs : List AVal} (h1 : evs F args = some [.arr s b 0 n]) (hg : hget σ b = some (.cells sz xs)) (hn : xs.length = n) (h0 : 0 < n) {σ' : AHeap} (hd : hdel σ b = σ') (h : aops P l (fset d (some (.slc sz xs false)) F) σ' Q) :
    aops P (⟨some d, .strish sz, args, none⟩ :: l) F σ Q := by
  subst hd
  exact ⟨_, h1, xs, hg, hn, h0, h⟩

/-- append to a row of the call's own. -/
theorem st_app {d sz byt s b n : Nat} {args : List AOpd} {x : AVal} {xs ys : List AVal} (h1 : evs F args = some [.arr s b 0 n, x]) (hg : hget σ b = some (.cells sz xs)) (hn : xs.length = n) (hy : elemsOf σ sz x = some ys) (hb : (xs.length + ys.length) * byt ≤ 140737488355328)
    (h : ∀ b', b' ∉ keys σ → aops P l (fset d (some (.arr sz b' 0 (xs.length + ys.length))) F) (hren σ b b' (.cells sz (xs ++ ys))) Q) : aops P (⟨some d, .app sz byt, args, none⟩ :: l) F σ Q :=
  ⟨_, h1, ys, hy, xs, hg, hn, hb, fun b' hb' => h b' hb'⟩
/-- append to nothing. -/
theorem st_app0 {d sz byt z : Nat} {args : List AOpd} {x : AVal} {ys : List AVal} (h1 : evs F args = some [.slc z [] true, x]) (hy : elemsOf σ sz x = some ys) (hb : ys.length * byt ≤ 140737488355328)
    (h : ∀ b', b' ∉ keys σ → aops P l (fset d (some (.arr sz b' 0 ys.length)) F) ((b', .cells sz ys) :: σ) Q) : aops P (⟨some d, .app sz byt, args, none⟩ :: l) F σ Q :=
  ⟨_, h1, ys, hy, by simpa using hb, .inr rfl, fun b' hb' => h b' hb'⟩
/-- 's[:n:n]' of a row of the call's own. -/
theorem st_clip {d sz s b off n : Nat} {args : List AOpd} {k k' : IntKind} {m : Int} {xs : List AVal} (h1 : evs F args = some [.arr s b off n, .int k m, .int k' m]) (hg : hget σ b = some (.cells sz xs)) (ho : off + n ≤ xs.length) (h0 : 0 ≤ m) (hm : m ≤ n) {σ' : AHeap} (hd : hdel σ b = σ')
    (h : aops P l (fset d (some (.slc sz ((xs.drop off).take m.toNat) true)) F) σ' Q) : aops P (⟨some d, .clip sz, args, none⟩ :: l) F σ Q := by
  subst hd
  exact ⟨_, h1, xs, hg, ho, h0, rfl, hm, h⟩
theorem st_clip_slc {d sz : Nat} {args : List AOpd} {k k' : IntKind} {m : Int} {xs : List AVal} {f : Bool} (h1 : evs F args = some [.slc sz xs f, .int k m, .int k' m]) (h0 : 0 ≤ m) (hm : m ≤ xs.length)
    (h : aops P l (fset d (some (.slc sz (xs.take m.toNat) true)) F) σ Q) : aops P (⟨some d, .clip sz, args, none⟩ :: l) F σ Q :=
  ⟨_, h1, .slc sz (xs.take m.toNat) true, by simp [asub, bnds, h0, hm], by simpa [fput] using h⟩

/-- A call, by a contract. -/
theorem st_call {d : Nat} {f : FuncId} {args : List AOpd} {vs : List AVal} {C : AVal → AHeap → Prop} (h1 : evs F args = some vs) (hc : ACalls P f vs σ C) (hne : ∃ r σ', C r σ') (h : ∀ r σ', C r σ' → aops P l (fset d (some r) F) σ' Q) : aops P (⟨some d, .call f, args, none⟩ :: l) F σ Q := by
  refine ⟨_, h1, ?_, hc.mono h⟩
  obtain ⟨r, σ', hC⟩ := hne
  exact ⟨r, σ', h r σ' hC⟩
/-- A call whose answer is known. -/
theorem st_callv {d : Nat} {f : FuncId} {args : List AOpd} {vs : List AVal} {v : AVal} {τ : AHeap} (h1 : evs F args = some vs) (hc : ACalls P f vs σ fun r σ' => r = v ∧ σ' = τ) (h : aops P l (fset d (some v) F) τ Q) : aops P (⟨some d, .call f, args, none⟩ :: l) F σ Q :=
  st_call h1 hc ⟨v, τ, rfl, rfl⟩ fun r σ' ⟨e1, e2⟩ => by subst e1 e2; exact h

/-! ### What is kept of a frame -/

def KP (keep : List Nat) (F : AFrame) (Φ : AFrame → Prop) : Prop := ∃ G, FSub G F ∧ Φ G
theorem kp_nil {F : AFrame} {Φ : AFrame → Prop} (h : Φ fnone) : KP [] F Φ := ⟨_, FSub.none F, h⟩
theorem kp_cons {i : Nat} {l : List Nat} {F : AFrame} {Φ : AFrame → Prop} {x : AVal} (h : F i = some x) (h' : KP l F fun G => Φ (fset i (some x) G)) : KP (i :: l) F Φ := by
  obtain ⟨G, h1, h2⟩ := h'
  exact ⟨_, FSub.set h1 (fun y e => by cases e; exact h), h2⟩
theorem kp_skip {i : Nat} {l : List Nat} {F : AFrame} {Φ : AFrame → Prop} (h' : KP l F Φ) : KP (i :: l) F Φ := by
  obtain ⟨G, h1, h2⟩ := h'
  exact ⟨G, h1, h2⟩

theorem aops_mono {Q Q' : AFrame → AHeap → Prop} (hQ : ∀ F σ, Q F σ → Q' F σ) : ∀ {l : List AOper} {F : AFrame} {σ : AHeap}, aops P l F σ Q → aops P l F σ Q'
  | [], _, _, h => hQ _ _ h
  | _ :: _, _, _, h => aop_mono (fun _ _ h' => aops_mono hQ h') h

theorem kp_weaken {keep : List Nat} {b : ACode} {R : APost} {F : AFrame} {σ : AHeap} (h : KP keep F fun G => AWp P N b R G σ) : AWp P N b R F σ := by
  obtain ⟨G, h1, h2⟩ := h
  exact awp_weaken h1 (HSub.refl σ) h2

/-- A region, and what stands behind it. -/
theorem aw_region {ops : List AOper} {keep : List Nat} {b : ACode} {R : APost} {F : AFrame} {σ : AHeap} (h : aops P ops F σ fun F' σ' => KP keep F' fun G => AWp P N b R G σ') : AWp P N (.seq (.region ops keep) b) R F σ :=
  awp_seq (awp_region (aops_mono (fun _ _ h => kp_weaken h) h))
/-- A region at the end of a piece of code. -/
theorem aw_last {ops : List AOper} {keep : List Nat} {R : APost} {F : AFrame} {σ : AHeap} (h : aops P ops F σ fun F' σ' => R .normal F' σ') : AWp P N (.region ops keep) R F σ := awp_region h

/-- A test, and what stands behind it (where both ways go on, each goes on by itself). -/
theorem aw_cond {x : AOpd} {a b c : ACode} {R : APost} {F : AFrame} {σ : AHeap} {t : Bool} (hx : ev F x = some (.bool t)) (h1 : t = true → AWp P N a (AThen P N c R) F σ) (h2 : t = false → AWp P N b (AThen P N c R) F σ) : AWp P N (.seq (.cond x a b) c) R F σ :=
  awp_seq (awp_cond hx h1 h2)
theorem aw_condp {x : AOpd} {a b c : ACode} {R : APost} {F : AFrame} {σ : AHeap} {p : Prop} [Decidable p] (hx : ev F x = some (.bool (decide p))) (h1 : p → AWp P N a (AThen P N c R) F σ) (h2 : ¬ p → AWp P N b (AThen P N c R) F σ) : AWp P N (.seq (.cond x a b) c) R F σ :=
  aw_cond hx (fun e => h1 (of_decide_eq_true e)) (fun e => h2 (of_decide_eq_false e))
theorem awp_condp {x : AOpd} {a b : ACode} {R : APost} {F : AFrame} {σ : AHeap} {p : Prop} [Decidable p] (hx : ev F x = some (.bool (decide p))) (h1 : p → AWp P N a R F σ) (h2 : ¬ p → AWp P N b R F σ) : AWp P N (.cond x a b) R F σ :=
  awp_cond hx (fun e => h1 (of_decide_eq_true e)) (fun e => h2 (of_decide_eq_false e))
theorem aw_skip {c : ACode} {R : APost} {F : AFrame} {σ : AHeap} (h : AWp P N c R F σ) : AWp P N .skip (AThen P N c R) F σ := awp_skip h
theorem aw_assoc {a b c : ACode} {R : APost} {F : AFrame} {σ : AHeap} (h : AWp P N a (AThen P N b (AThen P N c R)) F σ) : AWp P N (.seq (.seq a b) c) R F σ := awp_seq (awp_seq h)
theorem aw_block {id : Nat} {a c : ACode} {R : APost} {F : AFrame} {σ : AHeap} (h : AWp P N a (AInBlock id (AThen P N c R)) F σ) : AWp P N (.seq (.block id a) c) R F σ := awp_seq (awp_block h)
theorem aw_loop {a c : ACode} {R : APost} {F : AFrame} {σ : AHeap} (I : AFrame → AHeap → Prop) (μ : AFrame → AHeap → Nat) (h0 : I F σ) (round : ∀ F σ, I F σ → AWp P N a (ARound I μ (μ F σ) (AThen P N c R)) F σ) : AWp P N (.seq (.loop a) c) R F σ := awp_seq (awp_loop I μ h0 round)

end Go.Abs
