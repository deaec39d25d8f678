/- Contracts: a tree's columns, the reference's (types.Flatten). -/
import Derived.Test.YtgmefkhincnajaaDoorT5P
namespace Go.Abs
open Go Go.Proofs
set_option linter.unusedVariables false
set_option linter.unusedSimpArgs false
set_option maxHeartbeats 4000000
attribute [local irreducible] AWp aops KP

theorem kidIdx_len : ∀ (l : List Ty) (a : Nat), (kidIdx a l).length = l.length
  | [], _ => rfl
  | t :: l, a => by simp [kidIdx, kidIdx_len l]
theorem encR_elem (n : Nd) : (encR n).elem 9 := ⟨rfl, by
  obtain ⟨⟨k, ns, ks, l, p, s⟩, kids, par, deep⟩ := n
  simp [encR, cellsR, cellsT, AVal.cells, AVal.one]⟩

def rowR (k : Int) (ns : List (List UInt8)) (ks : List Ty) (l p s : Int) (vk : AVal) (parent : Int) (deep : Nat) : AVal :=
  .agg [.int .i64 k, .slc 1 (ns.map .str) false, .slc 6 (encTs ks) false, .int .i64 l, .int .i64 p, .int .i64 s, vk, .int .i64 parent, .int .i64 (deep : Int)]

theorem c_flat : ∀ (t : Ty), t.Small → ∀ (v : AVal) (xs : List AVal) (β : AHeap) (parent : Int) (deep : Nat) (σ : AHeap), GrowG 9 v xs β → (∀ x ∈ xs, x.elem 9) → xs.length + cnt t ≤ 1000 → deep + cnt t ≤ 1000 →
    ACalls Tryd.prog f_ingotref13_flat [v, encT t, .int .i64 parent, .int .i64 (deep : Int)] (β ++ σ) fun r σ' => ∃ β', GrowG 9 r (xs ++ (flatT xs.length parent deep t).map encR) β' ∧ σ' = β' ++ σ := by
  refine Ty.ind fun k ns ks l p s ih hsmall v xs β parent deep σ ho hxe hx hd => ?_
  cases hsmall with
  | mk hk1 hn1 hn4 hkids =>
  simp only [encT, Ty.kind, Ty.names, Ty.kids, Ty.len, Ty.prec, Ty.scale] at *
  have hlenks := cntL_length ks
  refine acalls_enter rfl ingotref13_flat_ok (Nat.le_of_ble_eq_true rfl) ?_
  refine aw_region ?_
  refine st_box rfl (AVal.fit_iff.1 rfl) fun pb hpb => ?_
  (repeat (refine st_q rfl rfl rfl ?_))
  (refine st_nil ?_; (repeat (first | refine kp_cons rfl ?_ | refine kp_skip ?_)); refine kp_nil ?_)
  refine awp_freezeP (d := 5) (cs := [.int .i64 k, .slc 1 (ns.map .str) false, .slc 6 (encTs ks) false, .int .i64 l, .int .i64 p, .int .i64 s]) rfl ?_
  refine aw_region ?_
  refine st_q rfl rfl rfl ?_
  refine st_lens rfl ho.lens ?_
  (repeat (refine st_q rfl rfl rfl ?_))
  (refine st_nil ?_; (repeat (first | refine kp_cons rfl ?_ | refine kp_skip ?_)); refine kp_nil ?_)
  refine aw_region ?_
  (repeat (refine st_q rfl rfl rfl ?_))
  refine st_appG (ys := [.agg [.int .i64 k, .slc 1 (ns.map .str) false, .slc 6 (encTs ks) false, .int .i64 l, .int .i64 p, .int .i64 s, .slc 0 [] true, .int .i64 parent, .int .i64 (deep : Int)]]) ho rfl rfl (by simp only [List.length_cons, List.length_nil]; omega) fun b1 hb1 => ?_
  (repeat (first | refine st_q rfl rfl rfl ?_ | refine st_gy rfl (st_q rfl rfl rfl ?_) | refine st_gn rfl ?_ | refine st_gu rfl ?_ | (refine st_nil ?_; (repeat (first | refine kp_cons rfl ?_ | refine kp_skip ?_)); refine kp_nil ?_) | refine awp_seq ?_ | refine aw_end (fun _ _ => rfl) ?_ | refine awp_block ?_ | refine aw_skipE (fun _ _ => rfl) ?_ | refine aw_exitE (fun _ _ => rfl) ?_ | refine awp_cond (t := true) rfl (fun _ => ?_) (fun e => by cases e) | refine awp_cond (t := false) rfl (fun e => by cases e) (fun _ => ?_)))
  change AWp _ _ _ _ _ ((b1, .cells 9 (xs ++ [rowR k ns ks l p s (.slc 0 [] true) parent deep])) :: σ)
  refine awp_loopN (fun m F σ' => ∃ (i b : Nat) (vk : AVal) (βk : AHeap) (R : List AVal), F = fset 0 (some (.arr 9 b 0 R.length)) (fset 3 (some (.int .i64 (deep : Int))) (fset 5 (some (.iptr [.int .i64 k, .slc 1 (ns.map .str) false, .slc 6 (encTs ks) false, .int .i64 l, .int .i64 p, .int .i64 s])) (fset 9 (some (.int .i64 (xs.length : Int))) (fset 10 (some (.int .i64 (i : Int))) fnone)))) ∧
    σ' = (b, .cells 9 R) :: (βk ++ σ) ∧ R = xs ++ rowR k ns ks l p s vk parent deep :: (flatL (xs.length + 1) (xs.length : Int) (deep + 1) (ks.take i)).map encR ∧ GrowG 1 vk (ints (kidIdx (xs.length + 1) (ks.take i))) βk ∧ i ≤ ks.length ∧ m = ks.length - i) (n := ks.length)
    ⟨0, b1, _, [], _, rfl, rfl, rfl, GrowG.nil 1 0, by omega, rfl⟩ ?_
  rintro m F σ' ⟨i, b, vk, βk, R, rfl, rfl, hR, hok, hi, rfl⟩
  have hRl : R.length = xs.length + 1 + cntL (ks.take i) := by rw [hR]; simp [flatL_len]; omega
  have hvk1 : vk.one = true := by rcases hok with ⟨⟨z, rfl⟩, _, _⟩ | ⟨b, rfl, _⟩ <;> rfl
  have hRe : ∀ x ∈ R, x.elem 9 := by
    intro x hm
    rw [hR] at hm
    rcases List.mem_append.1 hm with hm | hm
    · exact hxe x hm
    rcases List.mem_cons.1 hm with rfl | hm
    · refine ⟨rfl, ?_⟩
      simp only [rowR, AVal.cells, List.mem_cons, List.not_mem_nil, or_false]
      rintro c (rfl | rfl | rfl | rfl | rfl | rfl | rfl | rfl | rfl) <;> first | rfl | exact hvk1
    · obtain ⟨n, _, rfl⟩ := List.mem_map.1 hm
      exact encR_elem n
  (repeat (first | refine st_q rfl rfl rfl ?_ | refine st_gy rfl (st_q rfl rfl rfl ?_) | refine st_gn rfl ?_ | refine st_gu rfl ?_ | (refine st_nil ?_; (repeat (first | refine kp_cons rfl ?_ | refine kp_skip ?_)); refine kp_nil ?_) | refine awp_seq ?_ | refine aw_end (fun _ _ => rfl) ?_ | refine awp_block ?_ | refine aw_skipE (fun _ _ => rfl) ?_ | refine aw_exitE (fun _ _ => rfl) ?_ | refine awp_cond (t := true) rfl (fun _ => ?_) (fun e => by cases e) | refine awp_cond (t := false) rfl (fun e => by cases e) (fun _ => ?_)))
  rw [encTs_length]
  refine awp_condp (p := (i : Int) < (ks.length : Int)) rfl (fun h3 => ?_) (fun h3 => ?_)
  · have hil : i < ks.length := by omega
    have hget : ks[i]? = some ks[i] := List.getElem?_eq_getElem hil
    have hx' : (encTs ks)[(i : Int).toNat]? = some (encT ks[i]) := encTs_get (by rw [Int.toNat_natCast, hget])
    have hcn := cntL_take ks i _ hget
    have hkl := kidIdx_take ks (xs.length + 1) i _ hget
    have hfl := flatL_take ks (xs.length + 1) i (xs.length : Int) (deep + 1) _ hget
    simp only [cnt] at hx hd
    (repeat (first | refine st_q rfl rfl rfl ?_ | refine st_gy rfl (st_q rfl rfl rfl ?_) | refine st_gn rfl ?_ | refine st_gu rfl ?_ | (refine st_nil ?_; (repeat (first | refine kp_cons rfl ?_ | refine kp_skip ?_)); refine kp_nil ?_) | refine awp_seq ?_ | refine aw_end (fun _ _ => rfl) ?_ | refine awp_block ?_ | refine aw_skipE (fun _ _ => rfl) ?_ | refine aw_exitE (fun _ _ => rfl) ?_ | refine awp_cond (t := true) rfl (fun _ => ?_) (fun e => by cases e) | refine awp_cond (t := false) rfl (fun e => by cases e) (fun _ => ?_)))
    refine st_iad rfl (by omega) hx' ?_
    rw [encT_eq]
    (repeat (refine st_q rfl rfl rfl ?_))
    rw [show IntKind.wrap .i64 ((deep : Int) + 1) = ((deep + 1 : Nat) : Int) by rw [w64 _ (by omega) (by omega)]; omega]
    have hcw := ih ks[i] (List.getElem_mem hil) (hkids _ (List.getElem_mem hil)) (.arr 9 b 0 R.length) R [(b, .cells 9 R)] (xs.length : Int) (deep + 1) (βk ++ σ) GrowG.mk hRe (by omega) (by omega)
    rw [encT_eq] at hcw
    refine st_call rfl hcw ?_ ?_
    · obtain ⟨gv, gβ, hgr⟩ := GrowG.ex 9 (R ++ (flatT R.length (xs.length : Int) (deep + 1) ks[i]).map encR)
      exact ⟨_, _, gβ, hgr, rfl⟩
    rintro r2 _ ⟨β2, ho2, rfl⟩
    obtain ⟨b3, rfl, rfl⟩ := ho2.arr (by rw [hR]; simp)
    (repeat (refine st_q rfl rfl rfl ?_))
    (refine st_nil ?_; (repeat (first | refine kp_cons rfl ?_ | refine kp_skip ?_)); refine kp_nil ?_)
    generalize hR3 : R ++ (flatT R.length (xs.length : Int) (deep + 1) ks[i]).map encR = R3
    have hR3' : R3 = xs ++ rowR k ns ks l p s vk parent deep :: (flatL (xs.length + 1) (xs.length : Int) (deep + 1) (ks.take (i + 1))).map encR := by
      rw [← hR3, hfl, hRl, hR]; simp
    have hat : ∀ z, R3[0 + ((xs.length : Nat) : Int).toNat]? = some z ↔ z = rowR k ns ks l p s vk parent deep := fun z => by
      rw [hR3', Nat.zero_add, Int.toNat_natCast]; simp; exact eq_comm
    have hat1 := (hat _).2 rfl
    have hset : ∀ u : AVal, u.one = true → R3.set (0 + ((xs.length : Nat) : Int).toNat) (putCells (rowR k ns ks l p s vk parent deep) (0 + 6) u.cells) = xs ++ rowR k ns ks l p s u parent deep :: (flatL (xs.length + 1) (xs.length : Int) (deep + 1) (ks.take (i + 1))).map encR := by
      intro u hu
      rw [hR3', Nat.zero_add, Int.toNat_natCast, List.set_append_right _ _ (Nat.le_refl _), Nat.sub_self, List.set_cons_zero, AVal.cells_of_one hu]
      rfl
    have hkb : (kidIdx (xs.length + 1) (ks.take i)).length ≤ 1000 := by rw [kidIdx_len, List.length_take]; omega
    have hkid : ints (kidIdx (xs.length + 1) (ks.take (i + 1))) = ints (kidIdx (xs.length + 1) (ks.take i)) ++ [.int .i64 (R.length : Int)] := by rw [hkl, hRl]; simp [ints]
    refine awp_nd fun nd => ?_
    refine aw_end (fun _ _ => rfl) ?_
    refine st_q rfl rfl rfl ?_
    refine st_q rfl rfl rfl ?_
    refine st_q rfl rfl rfl ?_
    refine st_q rfl rfl rfl ?_
    refine st_iada rfl ⟨by omega, by rw [← hR3]; simp; omega⟩ ?_
    refine st_q rfl rfl rfl ?_
    refine st_ldp rfl hget_head hat1 rfl ?_
    refine st_q rfl rfl rfl ?_
    refine st_q rfl rfl rfl ?_
    have hRt : xs.length < R3.length := by rw [← hR3]; simp; omega
    have done : ∀ (b' : Nat) (τ : AHeap), b' ≠ b3 → HSub ((b3, .cells 9 (xs ++ rowR k ns ks l p s (.arr 1 b' 0 (ints (kidIdx (xs.length + 1) (ks.take i)) ++ [AVal.int .i64 (R.length : Int)]).length) parent deep :: (flatL (xs.length + 1) (xs.length : Int) (deep + 1) (ks.take (i + 1))).map encR)) :: (b', .cells 1 (ints (kidIdx (xs.length + 1) (ks.take i)) ++ [AVal.int .i64 (R.length : Int)])) :: σ) τ →
        AWp Tryd.prog ingotref13_flat.n (.region ingotref13_flat_r8 [0, 3, 5, 9, 10]) (ALess (fun m F σ' => ∃ (i b : Nat) (vk : AVal) (βk : AHeap) (R : List AVal), F = fset 0 (some (.arr 9 b 0 R.length)) (fset 3 (some (.int .i64 (deep : Int))) (fset 5 (some (.iptr [.int .i64 k, .slc 1 (ns.map .str) false, .slc 6 (encTs ks) false, .int .i64 l, .int .i64 p, .int .i64 s])) (fset 9 (some (.int .i64 (xs.length : Int))) (fset 10 (some (.int .i64 (i : Int))) fnone)))) ∧
    σ' = (b, .cells 9 R) :: (βk ++ σ) ∧ R = xs ++ rowR k ns ks l p s vk parent deep :: (flatL (xs.length + 1) (xs.length : Int) (deep + 1) (ks.take i)).map encR ∧ GrowG 1 vk (ints (kidIdx (xs.length + 1) (ks.take i))) βk ∧ i ≤ ks.length ∧ m = ks.length - i) (ks.length - i) (AInBlock 0 (AThen Tryd.prog ingotref13_flat.n (ingotref13_flat.code.snd 4) (ARet ingotref13_flat.res fun r σ' => ∃ β', GrowG 9 r (xs ++ (flatT xs.length parent deep (.mk k ns ks l p s)).map encR) β' ∧ σ' = β' ++ σ))))
          (fset 0 (some (.arr 9 b3 0 R3.length)) (fset 3 (some (.int .i64 (deep : Int))) (fset 5 (some (.iptr [.int .i64 k, .slc 1 (ns.map .str) false, .slc 6 (encTs ks) false, .int .i64 l, .int .i64 p, .int .i64 s])) (fset 9 (some (.int .i64 (xs.length : Int))) (fset 10 (some (.int .i64 (i : Int))) fnone))))) τ := by
      intro b' τ hne hτ
      refine aw_round ?_
      (repeat (refine st_q rfl rfl rfl ?_))
      rw [show IntKind.wrap .i64 ((i : Int) + 1) = ((i + 1 : Nat) : Int) by rw [w64 _ (by omega) (by omega)]; omega]
      (refine st_nil ?_; (repeat (first | refine kp_cons rfl ?_ | refine kp_skip ?_)); refine kp_nil ?_)
      refine ⟨_, ks.length - (i + 1), hτ, ⟨i + 1, b3, _, [(b', .cells 1 _)], _, ?_, rfl, rfl, ?_, by omega, rfl⟩, by omega⟩
      · rw [hR3']; simp
      · rw [hkid]; exact GrowG.mk
    rcases hok with ⟨⟨z, rfl⟩, hk0, rfl⟩ | ⟨bk, rfl, rfl⟩
    · refine st_app0 (ys := [.int .i64 (R.length : Int)]) rfl rfl (by simp) fun b' hb' => ?_
      have hne : b' ≠ b3 := fun e => hb' (by rw [e]; simp [keys])
      (repeat (refine st_q rfl rfl rfl ?_))
      refine st_iada rfl ⟨by omega, by omega⟩ ?_
      (repeat (refine st_q rfl rfl rfl ?_))
      refine st_store rfl (hget_tail hne hget_head) hat1 (by decide) (AVal.fit_iff.1 rfl) (fun h => by cases h) (hset_tail hne hset_head) ?_
      rw [hset _ rfl]
      (refine st_nil ?_; (repeat (first | refine kp_cons rfl ?_ | refine kp_skip ?_)); refine kp_nil ?_)
      refine done b' _ hne ?_
      rw [hk0]
      exact HSub.swap _ _ _
    · refine st_app (xs := ints (kidIdx (xs.length + 1) (ks.take i))) (ys := [.int .i64 (R.length : Int)]) (sz := 1) rfl (hget_tail (by
        intro e; subst e; simp [keys] at nd) hget_head) rfl rfl (by simp [ints]; omega) fun b' hb' => ?_
      have hne : b' ≠ b3 := fun e => hb' (by rw [e]; simp [keys])
      simp only [List.singleton_append]
      rw [hren_tail (by intro e; subst e; simp [keys] at nd) hren_head]
      (repeat (refine st_q rfl rfl rfl ?_))
      refine st_iada rfl ⟨by omega, by omega⟩ ?_
      (repeat (refine st_q rfl rfl rfl ?_))
      refine st_store rfl hget_head hat1 (by decide) (AVal.fit_iff.1 rfl) (fun h => by cases h) hset_head ?_
      rw [hset _ rfl]
      (refine st_nil ?_; (repeat (first | refine kp_cons rfl ?_ | refine kp_skip ?_)); refine kp_nil ?_)
      refine done b' _ hne ?_
      rw [List.length_append]
      exact HSub.refl _
  · have hie : i = ks.length := by omega
    subst hie
    rw [List.take_length] at hR hok
    have hfin : xs ++ rowR k ns ks l p s (.slc 1 (ints (kidIdx (xs.length + 1) ks)) false) parent deep :: (flatL (xs.length + 1) (xs.length : Int) (deep + 1) ks).map encR = xs ++ (flatT xs.length parent deep (.mk k ns ks l p s)).map encR := by
      rw [flatT]; rfl
    have hlen : (xs ++ (flatT xs.length parent deep (.mk k ns ks l p s)).map encR).length = R.length := by rw [← hfin, hR]; simp
    have hsh : HShift ((b, .cells 9 R) :: (βk ++ σ)) ((b, .cells 9 (xs ++ (flatT xs.length parent deep (.mk k ns ks l p s)).map encR)) :: σ) := by
      have hye : ∀ y ∈ xs ++ (flatT xs.length parent deep (.mk k ns ks l p s)).map encR, y.elem 9 := by
        intro y hy
        rcases List.mem_append.1 hy with hy | hy
        · exact hxe y hy
        · obtain ⟨n, _, rfl⟩ := List.mem_map.1 hy
          exact encR_elem n
      have hrep : ∀ (K : Kr), (∀ v, VR K vk v → VR K (.slc 1 (ints (kidIdx (xs.length + 1) ks)) false) v) → ∀ vs, VRel K (flat R) vs → VRel K (flat (xs ++ (flatT xs.length parent deep (.mk k ns ks l p s)).map encR)) vs := by
        intro K hK vs hv
        rw [hR, flat_append, flat_cons] at hv
        rw [← hfin, flat_append, flat_cons]
        obtain ⟨m1, m2, rfl, g1, g2⟩ := hv.split
        obtain ⟨m3, m4, rfl, g3, g4⟩ := g2.split
        refine g1.append (VRel.append ?_ g4)
        simp only [rowR, AVal.cells] at g3 ⊢
        obtain ⟨v1, m5, rfl, a1, g3⟩ := g3.ex
        obtain ⟨v2, m5, rfl, a2, g3⟩ := g3.ex
        obtain ⟨v3, m5, rfl, a3, g3⟩ := g3.ex
        obtain ⟨v4, m5, rfl, a4, g3⟩ := g3.ex
        obtain ⟨v5, m5, rfl, a5, g3⟩ := g3.ex
        obtain ⟨v6, m5, rfl, a6, g3⟩ := g3.ex
        obtain ⟨v7, m5, rfl, a7, g3⟩ := g3.ex
        exact .cons a1 (.cons a2 (.cons a3 (.cons a4 (.cons a5 (.cons a6 (.cons (hK _ a7) g3))))))
      rcases hok with ⟨⟨z, rfl⟩, hk0, rfl⟩ | ⟨bk, rfl, rfl⟩
      · intro K w r
        refine ⟨K, Kr.le.refl K, Rel.content (xs := R) r hlen hye (hrep K fun v hv => ?_)⟩
        rw [hk0]
        exact VRle.trans (VRle.nil_slc z 1 true) VRle.full K [v] hv
      · exact HShift.inner hlen hye hrep
    refine aw_exitE (fun _ _ => rfl) ?_
    refine awp_hshift hsh ?_
    (repeat (first | refine st_q rfl rfl rfl ?_ | refine st_gy rfl (st_q rfl rfl rfl ?_) | refine st_gn rfl ?_ | refine st_gu rfl ?_ | (refine st_nil ?_; (repeat (first | refine kp_cons rfl ?_ | refine kp_skip ?_)); refine kp_nil ?_) | refine awp_seq ?_ | refine aw_end (fun _ _ => rfl) ?_ | refine awp_block ?_ | refine aw_skipE (fun _ _ => rfl) ?_ | refine aw_exitE (fun _ _ => rfl) ?_ | refine awp_cond (t := true) rfl (fun _ => ?_) (fun e => by cases e) | refine awp_cond (t := false) rfl (fun e => by cases e) (fun _ => ?_)))
    refine awp_ret ?_
    refine ares rfl (HSub.refl _) ⟨_, .inr ⟨b, ?_, rfl⟩, rfl⟩
    rw [hlen]; rfl
end Go.Abs
namespace Go.Abs
open Go Go.Proofs
theorem c_refFlatten (t : Ty) (hc : ∀ σ, ACalls Tryd.prog f_ingotref13_Check [encT t] σ fun r σ' => r = .int .i64 (checkF t : Int) ∧ σ' = σ) (σ : AHeap) : ACalls Tryd.prog f_ingotref13_Flatten [encT t] σ fun r σ' => r = .slc 9 ((flattenF t).map encR) false ∧ σ' = σ := by
  have hc := hc σ
  have hf := fun (hs : t.Small) => c_flat t hs (.slc 0 [] true) [] [] (-1) 1 σ (GrowG.nil 9 0)
  rw [encT_eq] at *
  refine acalls_enter rfl ingotref13_Flatten_ok (Nat.le_of_ble_eq_true rfl) ?_
  refine aw_region ?_
  refine st_box rfl (AVal.fit_iff.1 rfl) fun pb hpb => ?_
  (repeat (refine st_q rfl rfl rfl ?_))
  (refine st_nil ?_; (repeat (first | refine kp_cons rfl ?_ | refine kp_skip ?_)); refine kp_nil ?_)
  refine awp_freezeP (d := 1) (cs := cellsT t) rfl ?_
  (repeat (first | refine st_q rfl rfl rfl ?_ | refine st_gy rfl (st_q rfl rfl rfl ?_) | refine st_gn rfl ?_ | refine st_gu rfl ?_ | (refine st_nil ?_; (repeat (first | refine kp_cons rfl ?_ | refine kp_skip ?_)); refine kp_nil ?_) | refine awp_seq ?_ | refine aw_end (fun _ _ => rfl) ?_ | refine awp_block ?_ | refine aw_skipE (fun _ _ => rfl) ?_ | refine aw_exitE (fun _ _ => rfl) ?_ | refine awp_cond (t := true) rfl (fun _ => ?_) (fun e => by cases e) | refine awp_cond (t := false) rfl (fun e => by cases e) (fun _ => ?_)))
  refine st_callv rfl hc ?_
  (repeat (first | refine st_q rfl rfl rfl ?_ | refine st_gy rfl (st_q rfl rfl rfl ?_) | refine st_gn rfl ?_ | refine st_gu rfl ?_ | (refine st_nil ?_; (repeat (first | refine kp_cons rfl ?_ | refine kp_skip ?_)); refine kp_nil ?_) | refine awp_seq ?_ | refine aw_end (fun _ _ => rfl) ?_ | refine awp_block ?_ | refine aw_skipE (fun _ _ => rfl) ?_ | refine aw_exitE (fun _ _ => rfl) ?_ | refine awp_cond (t := true) rfl (fun _ => ?_) (fun e => by cases e) | refine awp_cond (t := false) rfl (fun e => by cases e) (fun _ => ?_)))
  by_cases h0 : checkF t = 0
  · have hs := chk_ok t 1 0 h0
    (rw [show decide (((checkF t : Nat) : Int) ≠ 0) = false from decide_eq_false (by omega)])
    (repeat (first | refine st_q rfl rfl rfl ?_ | refine st_gy rfl (st_q rfl rfl rfl ?_) | refine st_gn rfl ?_ | refine st_gu rfl ?_ | (refine st_nil ?_; (repeat (first | refine kp_cons rfl ?_ | refine kp_skip ?_)); refine kp_nil ?_) | refine awp_seq ?_ | refine aw_end (fun _ _ => rfl) ?_ | refine awp_block ?_ | refine aw_skipE (fun _ _ => rfl) ?_ | refine aw_exitE (fun _ _ => rfl) ?_ | refine awp_cond (t := true) rfl (fun _ => ?_) (fun e => by cases e) | refine awp_cond (t := false) rfl (fun e => by cases e) (fun _ => ?_)))
    refine st_call rfl (hf hs.2.1 (by simp) (by simp; omega) (by omega)) ?_ ?_
    · obtain ⟨gv, gβ, hgr⟩ := GrowG.ex 9 ([] ++ (flatT 0 (-1) 1 t).map encR)
      exact ⟨_, _, gβ, hgr, rfl⟩
    rintro r2 _ ⟨β2, ho2, rfl⟩
    (repeat (first | refine st_q rfl rfl rfl ?_ | refine st_gy rfl (st_q rfl rfl rfl ?_) | refine st_gn rfl ?_ | refine st_gu rfl ?_ | (refine st_nil ?_; (repeat (first | refine kp_cons rfl ?_ | refine kp_skip ?_)); refine kp_nil ?_) | refine awp_seq ?_ | refine aw_end (fun _ _ => rfl) ?_ | refine awp_block ?_ | refine aw_skipE (fun _ _ => rfl) ?_ | refine aw_exitE (fun _ _ => rfl) ?_ | refine awp_cond (t := true) rfl (fun _ => ?_) (fun e => by cases e) | refine awp_cond (t := false) rfl (fun e => by cases e) (fun _ => ?_)))
    refine awp_ret ?_
    refine ares_s rfl (VShiftL.one (VShiftL.growG ho2)) ⟨?_, rfl⟩
    rw [flattenF, if_pos h0]; rfl
  · (rw [show decide (((checkF t : Nat) : Int) ≠ 0) = true from decide_eq_true (by omega)])
    (repeat (first | refine st_q rfl rfl rfl ?_ | refine st_gy rfl (st_q rfl rfl rfl ?_) | refine st_gn rfl ?_ | refine st_gu rfl ?_ | (refine st_nil ?_; (repeat (first | refine kp_cons rfl ?_ | refine kp_skip ?_)); refine kp_nil ?_) | refine awp_seq ?_ | refine aw_end (fun _ _ => rfl) ?_ | refine awp_block ?_ | refine aw_skipE (fun _ _ => rfl) ?_ | refine aw_exitE (fun _ _ => rfl) ?_ | refine awp_cond (t := true) rfl (fun _ => ?_) (fun e => by cases e) | refine awp_cond (t := false) rfl (fun e => by cases e) (fun _ => ?_)))
    refine awp_ret ?_
    refine ares_v rfl ?_ (HSub.refl _) ⟨rfl, rfl⟩
    rw [flattenF, if_neg h0]
    exact VRle.trans (VRle.nil_slc 0 9 true) VRle.full
end Go.Abs
