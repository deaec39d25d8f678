/- 'Rows.TypeDepthsCardSaid' is proved: whatever the input, the law returns true and each argument reads afterwards as it read before. Conditions: the listed package variables hold what the program's text lays in them (the card ties that to the text); no other. -/
import Derived.Test.YtgmefkhincnajaaDoorUd
import Derived.Test.YtgmefkhincnajaaDoorSl
import Derived.Test.YtgmefkhincnajaaDoorT5P
import Derived.Test.YtgmefkhincnajaaDoorUc
import Derived.Test.YtgmefkhincnajaaDoorDb
import Derived.Test.YtgmefkhincnajaaDoorT6
import Derived.Test.YtgmefkhincnajaaDoorT5
import Derived.Test.YtgmefkhincnajaaDoorAOkLD
import Derived.Test.YtgmefkhincnajaaDoorRows
import Derived.LaidMore
import Derived.ProofKit
import Derived.Stop.Joined
import Derived.Lib.LaidU8
import Derived.Test.YtgmefkhincnajaaDoorAbsV
import Derived.Test.YtgmefkhincnajaaDoorTy
import Derived.Test.YtgmefkhincnajaaDoorProg
import Derived.KernelRfl
import Derived.Test.YtgmefkhincnajaaDoorCards
import Derived.Test.YtgmefkhincnajaaDoorTie
import Derived.WalkKit
import Derived.OpenShut
import Derived.ShutString
import Derived.ChangeOld
import Derived.Below
import Derived.SevenTiedAt
/- Contracts: a tree is built again of its columns. -/
namespace Go.Abs
open Go Go.Proofs
set_option linter.unusedVariables false
set_option linter.unusedSimpArgs false
set_option maxHeartbeats 4000000
attribute [local irreducible] AWp aops KP

theorem c_Clip_api_Type_api_Type (xs : List AVal) (f : Bool) (σ : AHeap) : ACalls Tryd.prog f_slices_Clip_api_Type_api_Type [.slc 6 xs f] σ fun r σ' => r = .slc 6 xs true ∧ σ' = σ := by
  refine acalls_enter rfl slices_Clip_api_Type_api_Type_ok (Nat.le_of_ble_eq_true rfl) ?_
  (repeat (first | refine st_q rfl rfl rfl ?_ | refine st_gy rfl (st_q rfl rfl rfl ?_) | refine st_gn rfl ?_ | refine st_gu rfl ?_ | (refine st_nil ?_; (repeat (first | refine kp_cons rfl ?_ | refine kp_skip ?_)); refine kp_nil ?_) | refine awp_seq ?_ | refine aw_end (fun _ _ => rfl) ?_ | refine awp_block ?_ | refine aw_skipE (fun _ _ => rfl) ?_ | refine aw_exitE (fun _ _ => rfl) ?_ | refine awp_cond (t := true) rfl (fun _ => ?_) (fun e => by cases e) | refine awp_cond (t := false) rfl (fun e => by cases e) (fun _ => ?_)))
  refine st_clip_slc rfl (by omega) (by omega) ?_
  rw [Int.toNat_natCast, List.take_length]
  (repeat (first | refine st_q rfl rfl rfl ?_ | refine st_gy rfl (st_q rfl rfl rfl ?_) | refine st_gn rfl ?_ | refine st_gu rfl ?_ | (refine st_nil ?_; (repeat (first | refine kp_cons rfl ?_ | refine kp_skip ?_)); refine kp_nil ?_) | refine awp_seq ?_ | refine aw_end (fun _ _ => rfl) ?_ | refine awp_block ?_ | refine aw_skipE (fun _ _ => rfl) ?_ | refine aw_exitE (fun _ _ => rfl) ?_ | refine awp_cond (t := true) rfl (fun _ => ?_) (fun e => by cases e) | refine awp_cond (t := false) rfl (fun e => by cases e) (fun _ => ?_)))
  refine awp_ret ?_
  exact ares rfl (HSub.refl _) ⟨rfl, rfl⟩
theorem c_ClipG_api_Type_api_Type {v : AVal} {xs : List AVal} {β : AHeap} (ho : GrowG 6 v xs β) (σ : AHeap) : ACalls Tryd.prog f_slices_Clip_api_Type_api_Type [v] (β ++ σ) fun r σ' => r = .slc 6 xs true ∧ σ' = σ := by
  rcases ho with ⟨⟨z, rfl⟩, rfl, rfl⟩ | ⟨b, rfl, rfl⟩
  · exact ACalls.args (VRle.nil_slc z 6 true) (c_Clip_api_Type_api_Type [] true σ)
  refine acalls_enter rfl slices_Clip_api_Type_api_Type_ok (Nat.le_of_ble_eq_true rfl) ?_
  (repeat (first | refine st_q rfl rfl rfl ?_ | refine st_gy rfl (st_q rfl rfl rfl ?_) | refine st_gn rfl ?_ | refine st_gu rfl ?_ | (refine st_nil ?_; (repeat (first | refine kp_cons rfl ?_ | refine kp_skip ?_)); refine kp_nil ?_) | refine awp_seq ?_ | refine aw_end (fun _ _ => rfl) ?_ | refine awp_block ?_ | refine aw_skipE (fun _ _ => rfl) ?_ | refine aw_exitE (fun _ _ => rfl) ?_ | refine awp_cond (t := true) rfl (fun _ => ?_) (fun e => by cases e) | refine awp_cond (t := false) rfl (fun e => by cases e) (fun _ => ?_)))
  refine st_clip rfl hget_head (by omega) (by omega) (by omega) hdel_head ?_
  rw [List.drop_zero, Int.toNat_natCast, List.take_length]
  (repeat (first | refine st_q rfl rfl rfl ?_ | refine st_gy rfl (st_q rfl rfl rfl ?_) | refine st_gn rfl ?_ | refine st_gu rfl ?_ | (refine st_nil ?_; (repeat (first | refine kp_cons rfl ?_ | refine kp_skip ?_)); refine kp_nil ?_) | refine awp_seq ?_ | refine aw_end (fun _ _ => rfl) ?_ | refine awp_block ?_ | refine aw_skipE (fun _ _ => rfl) ?_ | refine aw_exitE (fun _ _ => rfl) ?_ | refine awp_cond (t := true) rfl (fun _ => ?_) (fun e => by cases e) | refine awp_cond (t := false) rfl (fun e => by cases e) (fun _ => ?_)))
  refine awp_ret ?_
  exact ares rfl (HSub.refl _) ⟨rfl, rfl⟩

theorem tyE {k l p s : Int} {nv kv : AVal} (h1 : nv.one = true) (h2 : kv.one = true) : (AVal.agg [.int .i64 k, nv, kv, .int .i64 l, .int .i64 p, .int .i64 s]).elem 6 := by
  refine ⟨rfl, fun c hc => ?_⟩
  simp only [AVal.cells, List.mem_cons, List.not_mem_nil, or_false] at hc
  rcases hc with rfl | rfl | rfl | rfl | rfl | rfl
  · rfl
  · exact h1
  · exact h2
  · rfl
  · rfl
  · rfl

theorem c_build {l : List Nd} (hT : TreeN l) (hll : l.length ≤ 1000) (f : Bool) : ∀ (t : Ty), t.Small → ∀ (a : Nat) (nd : Nd), l[a]? = some nd → nd.t = t → ∀ (deep : Nat), deep + cnt t ≤ 2000 → ∀ (H : AHeap) (bat : Nat), hget H bat = some (.cells 1 [.int .i64 (a : Int)]) →
    ACalls Tryd.prog f_types_build [.slc 8 (l.map encN) f, .ptr bat 0 0, .int .i64 (deep : Int)] H fun r H' => r = .tup [encT t, .bool true] ∧ H' = hset H bat (.cells 1 [.int .i64 ((a + cnt t : Nat) : Int)]) := by
  refine Ty.ind fun k ns ks le pr sc ih hfit a nd hnd hndt deep hdp H bat hH => ?_
  obtain ⟨hf1, hf2, hf3⟩ : ks.length ≤ 300 ∧ ns.length ≤ 300 ∧ ∀ x ∈ ks, x.Small := by cases hfit with | mk h1 h2 h3 h4 => exact ⟨h1, h2, h4⟩
  have hal : a < l.length := (List.getElem?_eq_some_iff.1 hnd).1
  have hN := hT.nok a nd hnd
  have hgN : (l.map encN)[((a : Nat) : Int).toNat]? = some (encN nd) := by rw [Int.toNat_natCast, List.getElem?_map, hnd]; rfl
  have hlm : (l.map encN).length = l.length := List.length_map ..
  have hks : nd.t.kids = ks := by rw [hndt]; rfl
  have hkl2 : nd.kids.length = ks.length := by rw [hN.len, hks]
  have hkn : (ints nd.kids).length = nd.kids.length := List.length_map ..
  have hcnt : cnt (.mk k ns ks le pr sc) = 1 + cntL ks := by rw [cnt]
  have hkidx : ∀ (j : Nat) (u : Ty), ks[j]? = some u → ∃ m, (ints nd.kids)[((j : Nat) : Int).toNat]? = some (.int .i64 ((a + 1 + cntL (ks.take j) : Nat) : Int)) ∧ l[a + 1 + cntL (ks.take j)]? = some m ∧ m.t = u := by
    intro j u hu
    have hjl : j < nd.kids.length := by rw [hkl2]; exact (List.getElem?_eq_some_iff.1 hu).1
    obtain ⟨u', m, e1, e2, e3, e4, _⟩ := hN.kids j _ (List.getElem?_eq_getElem hjl)
    rw [hks, hu] at e1
    cases e1
    rw [hks] at e2
    refine ⟨m, ?_, by rw [← e2]; exact e3, e4⟩
    rw [Int.toNat_natCast, ints, List.getElem?_map, List.getElem?_eq_getElem hjl, e2]; rfl
  have hcell : cellsN nd = [.int .i64 k, .slc 1 (ints nd.kids) true, .slc 1 (ns.map .str) true, .int .i64 le, .int .i64 pr, .int .i64 sc, .int .i64 nd.parent, .int .i64 (nd.deep : Int)] := by
    rw [cellsN, hndt]; rfl
  have hnsl : (ns.map AVal.str).length = ns.length := List.length_map ..
  refine acalls_enter rfl types_build_ok (Nat.le_of_ble_eq_true rfl) ?_
  refine aw_region ?_
  refine st_alloc (by simp [AVal.cells, AVal.one]) fun b6 hb6 => ?_
  (repeat (refine st_q rfl rfl rfl ?_))
  (refine st_nil ?_; (repeat (first | refine kp_cons rfl ?_ | refine kp_skip ?_)); refine kp_nil ?_)
  have h6t : b6 ≠ bat := fun e => by subst e; exact hb6 (by have := hget_mem hH; exact List.mem_map_of_mem (f := (·.1)) this)
  rw [show (AVal.agg [.int .i64 0, .slc 0 [] true, .slc 0 [] true, .int .i64 0, .int .i64 0, .int .i64 0]).cells.length = 6 from rfl]
  generalize hZ : (AVal.agg [.int .i64 0, .slc 0 [] true, .slc 0 [] true, .int .i64 0, .int .i64 0, .int .i64 0]) = Z
  refine awp_seq ?_
  refine awp_seq ?_
  refine aw_end (fun _ _ => rfl) ?_
  (repeat (refine st_q rfl rfl rfl ?_))
  refine st_ldp rfl (hget_tail h6t hH) rfl rfl ?_
  (repeat (refine st_q rfl rfl rfl ?_))
  rw [hlm]
  (rw [show decide ((a : Int) ≥ (l.length : Int)) = false from decide_eq_false (by omega)])
  (refine st_nil ?_; (repeat (first | refine kp_cons rfl ?_ | refine kp_skip ?_)); refine kp_nil ?_)
  refine awp_cond (t := false) rfl (fun e => by cases e) (fun _ => ?_)
  refine aw_skipE (fun _ _ => rfl) ?_
  (refine kp_weaken (keep := [0, 1, 2, 6]) ?_; ((repeat (first | refine kp_cons rfl ?_ | refine kp_skip ?_)); refine kp_nil ?_))
  refine aw_region ?_
  (repeat (refine st_q rfl rfl rfl ?_))
  refine st_ldp rfl (hget_tail h6t hH) rfl rfl ?_
  refine st_iad rfl (by omega) hgN ?_
  (repeat (refine st_q rfl rfl rfl ?_))
  refine st_alloc (by simp [AVal.cells, AVal.one]) fun b8 hb8 => ?_
  refine st_store rfl hget_head rfl (by decide) (AVal.fit_iff.1 rfl) (fun h => by cases h) hset_head ?_
  (refine st_nil ?_; (repeat (first | refine kp_cons rfl ?_ | refine kp_skip ?_)); refine kp_nil ?_)
  refine awp_freezeP (d := 8) (cs := cellsN nd) rfl ?_
  (refine kp_weaken (keep := [0, 1, 2, 6, 8]) ?_; ((repeat (first | refine kp_cons rfl ?_ | refine kp_skip ?_)); refine kp_nil ?_))
  rw [hcell]
  refine aw_region ?_
  (repeat (refine st_q rfl rfl rfl ?_))
  refine st_ldp rfl (hget_tail h6t hH) rfl rfl ?_
  (repeat (refine st_q rfl rfl rfl ?_))
  rw [show IntKind.wrap .i64 ((a : Int) + 1) = ((a + 1 : Nat) : Int) by rw [w64 _ (by omega) (by omega)]; omega]
  refine st_store rfl (hget_tail h6t hH) rfl (by decide) (AVal.fit_iff.1 rfl) (fun _ => ⟨rfl, rfl⟩) (hset_tail h6t rfl) ?_
  (refine st_nil ?_; (repeat (first | refine kp_cons rfl ?_ | refine kp_skip ?_)); refine kp_nil ?_)
  rw [show ([AVal.int .i64 (a : Int)].set 0 (putCells (.int .i64 (a : Int)) 0 (AVal.int .i64 ((a + 1 : Nat) : Int)).cells)) = [AVal.int .i64 ((a + 1 : Nat) : Int)] from rfl]
  have hg2 : ∀ x : Nat, hget (hset H bat (.cells 1 [.int .i64 (x : Int)])) bat = some (.cells 1 [.int .i64 (x : Int)]) := fun x => hget_hset_same hH
  have hss : ∀ x y : Nat, hset (hset H bat (.cells 1 [.int .i64 (x : Int)])) bat (.cells 1 [.int .i64 (y : Int)]) = hset H bat (.cells 1 [.int .i64 (y : Int)]) := fun x y => hset_hset ..
  have hky : ∀ x : Nat, keys (hset H bat (.cells 1 [.int .i64 (x : Int)])) = keys H := fun x => keys_hset ..
  refine aw_region ?_
  (repeat (refine st_q rfl rfl rfl ?_))
  refine st_callp rfl (c_Clone_string_string _ _ (strs_elem ns) (by rw [List.length_map]; omega)) ?_
  refine st_callp rfl (c_Clip_string_string _ _) ?_
  (repeat (refine st_q rfl rfl rfl ?_))
  refine st_alloc (by simp [AVal.cells, AVal.one]) fun b9 hb9 => ?_
  refine st_store rfl hget_head rfl (by decide) (AVal.fit_iff.1 rfl) (fun h => by cases h) hset_head ?_
  (refine st_nil ?_; (repeat (first | refine kp_cons rfl ?_ | refine kp_skip ?_)); refine kp_nil ?_)
  have h96 : b9 ≠ b6 := fun e => hb9 (by rw [e]; simp [keys])
  have h9t : b9 ≠ bat := fun e => by subst e; exact hb9 (by have := hget_mem hH; rw [keys_cons, hky]; exact List.mem_cons_of_mem _ (List.mem_map_of_mem (f := (·.1)) this))
  (refine kp_weaken (keep := [0, 1, 2, 6, 8, 9]) ?_; ((repeat (first | refine kp_cons rfl ?_ | refine kp_skip ?_)); refine kp_nil ?_))
  (repeat (first | refine st_q rfl rfl rfl ?_ | refine st_gy rfl (st_q rfl rfl rfl ?_) | refine st_gn rfl ?_ | refine st_gu rfl ?_ | (refine st_nil ?_; (repeat (first | refine kp_cons rfl ?_ | refine kp_skip ?_)); refine kp_nil ?_) | refine awp_seq ?_ | refine aw_end (fun _ _ => rfl) ?_ | refine awp_block ?_ | refine aw_skipE (fun _ _ => rfl) ?_ | refine aw_exitE (fun _ _ => rfl) ?_ | refine awp_cond (t := true) rfl (fun _ => ?_) (fun e => by cases e) | refine awp_cond (t := false) rfl (fun e => by cases e) (fun _ => ?_)))
  rw [hkn]
  have hend : a + 1 + cntL (ks.take ks.length) = a + cnt (.mk k ns ks le pr sc) := by rw [List.take_length]; omega
  refine awp_loopN (fun m F σ' => ∃ (j : Nat) (kv : AVal) (β : AHeap), F = fset 0 (some (.slc 8 (l.map encN) f)) (fset 1 (some (.ptr bat 0 0)) (fset 2 (some (.int .i64 (deep : Int))) (fset 6 (some (.ptr b6 0 0)) (fset 9 (some (.ptr b9 0 0)) (fset 46 (some (.slc 1 (ints nd.kids) true)) (fset 47 (some (.int .i64 (nd.kids.length : Nat))) (fset 48 (some (.int .i64 (j : Nat))) fnone))))))) ∧
    β ++ ((b9, ABlk.cells 6 [.agg [.int .i64 k, .slc 1 (ns.map .str) true, kv, .int .i64 le, .int .i64 pr, .int .i64 sc]]) :: (b6, .cells 6 [Z]) :: hset H bat (.cells 1 [.int .i64 ((a + 1 + cntL (ks.take j) : Nat) : Int)])) = σ' ∧ GrowG 6 kv (encTs (ks.take j)) β ∧ b9 ∉ keys β ∧ bat ∉ keys β ∧ j ≤ nd.kids.length ∧ m = nd.kids.length - j) (n := nd.kids.length)
    ⟨0, .slc 0 [] true, [], rfl, by rw [List.take_zero, cntL]; rfl, GrowG.nil 6 0, by simp [keys], by simp [keys], by omega, rfl⟩ ?_
  rintro m F σ' ⟨j, kv, β, rfl, rfl, ho, hnb, hnt, hj, rfl⟩
  (repeat (first | refine st_q rfl rfl rfl ?_ | refine st_gy rfl (st_q rfl rfl rfl ?_) | refine st_gn rfl ?_ | refine st_gu rfl ?_ | (refine st_nil ?_; (repeat (first | refine kp_cons rfl ?_ | refine kp_skip ?_)); refine kp_nil ?_) | refine awp_seq ?_ | refine aw_end (fun _ _ => rfl) ?_ | refine awp_block ?_ | refine aw_skipE (fun _ _ => rfl) ?_ | refine aw_exitE (fun _ _ => rfl) ?_ | refine awp_cond (t := true) rfl (fun _ => ?_) (fun e => by cases e) | refine awp_cond (t := false) rfl (fun e => by cases e) (fun _ => ?_)))
  refine awp_condp (p := (j : Int) < (nd.kids.length : Nat)) rfl (fun h5 => ?_) (fun h5 => ?_)
  · have hjl : j < ks.length := by omega
    have hu := List.getElem?_eq_getElem hjl
    obtain ⟨m, hx, hm, hmt⟩ := hkidx j _ hu
    have hcs := cntL_succ ks j _ hu
    have hle := cntL_le ks j _ hu
    have hum := List.getElem_mem hjl
    have hgk : (encTs (ks.take (j + 1))) = encTs (ks.take j) ++ [.agg (cellsT ks[j])] := by
      rw [List.take_add_one, hu, encTs_eq, encTs_eq, List.map_append, ← encT_eq]; rfl
    have htl : (encTs (ks.take j)).length ≤ 300 := by rw [encTs_length, List.length_take]; omega
    have hcall := fun (β : AHeap) (V : ABlk) (h1 : bat ∉ keys β) => ih ks[j] hum (hf3 _ hum) _ m hm hmt (deep + 1) (by omega) (β ++ ((b9, V) :: (b6, .cells 6 [Z]) :: hset H bat (.cells 1 [.int .i64 ((a + 1 + cntL (ks.take j) : Nat) : Int)]))) bat
      (by rw [hget_app h1]; exact hget_tail h9t (hget_tail h6t (hg2 _)))
    have hres : ∀ (β : AHeap) (V : ABlk) (y : Nat), bat ∉ keys β → hset (β ++ ((b9, V) :: (b6, .cells 6 [Z]) :: hset H bat (.cells 1 [.int .i64 ((a + 1 + cntL (ks.take j) : Nat) : Int)]))) bat (.cells 1 [.int .i64 (y : Int)]) = β ++ ((b9, V) :: (b6, .cells 6 [Z]) :: hset H bat (.cells 1 [.int .i64 (y : Int)])) := by
      intro β V y h1
      rw [hset_app h1, hset_tail h9t (hset_tail h6t (hss _ _))]
    have hcall2 := hcall β (.cells 6 [.agg [.int .i64 k, .slc 1 (ns.map .str) true, kv, .int .i64 le, .int .i64 pr, .int .i64 sc]]) hnt
    rw [hres _ _ _ hnt, encT_eq] at hcall2
    rw [show a + 1 + cntL (ks.take j) + cnt ks[j] = a + 1 + cntL (ks.take (j + 1)) by omega] at hcall2
    generalize ks[j] = u at hx hm hcs hle hgk hcall2
    generalize hat : a + 1 + cntL (ks.take j) = at_ at hx hcall2 ⊢
    generalize hat2 : a + 1 + cntL (ks.take (j + 1)) = at2 at hcall2
    refine aw_skipE (fun _ _ => rfl) ?_
    refine awp_seq ?_
    refine awp_block ?_
    refine awp_seq ?_
    refine aw_end (fun _ _ => rfl) ?_
    refine st_iad rfl (by omega) hx ?_
    (repeat (refine st_q rfl rfl rfl ?_))
    (refine st_nil ?_; (repeat (first | refine kp_cons rfl ?_ | refine kp_skip ?_)); refine kp_nil ?_)
    refine awp_seq ?_
    refine awp_seq ?_
    refine aw_end (fun _ _ => rfl) ?_
    (repeat (refine st_q rfl rfl rfl ?_))
    refine st_ldp rfl (by rw [hget_app hnt]; exact hget_tail h9t (hget_tail h6t (hg2 _))) rfl rfl ?_
    (repeat (refine st_q rfl rfl rfl ?_))
    rw [show decide ((at_ : Int) ≠ (at_ : Int)) = false from decide_eq_false (fun h => h rfl)]
    (refine st_nil ?_; (repeat (first | refine kp_cons rfl ?_ | refine kp_skip ?_)); refine kp_nil ?_)
    refine awp_cond (t := false) rfl (fun e => by cases e) (fun _ => ?_)
    refine aw_skipE (fun _ _ => rfl) ?_
    (refine kp_weaken (keep := [0, 1, 2, 6, 9, 46, 47, 48]) ?_; ((repeat (first | refine kp_cons rfl ?_ | refine kp_skip ?_)); refine kp_nil ?_))
    refine awp_seq ?_
    refine aw_end (fun _ _ => rfl) ?_
    (repeat (refine st_q rfl rfl rfl ?_))
    rw [show IntKind.wrap .i64 ((deep : Int) + 1) = ((deep + 1 : Nat) : Int) by rw [w64 _ (by omega) (by omega)]; omega]
    (repeat (refine st_q rfl rfl rfl ?_))
    refine st_callv rfl hcall2 ?_
    (repeat (refine st_q rfl rfl rfl ?_))
    refine st_alloc (by simp [AVal.cells, AVal.one]) fun b12 hb12 => ?_
    refine st_store rfl hget_head rfl (by decide) (AVal.fit_iff.1 rfl) (fun h => by cases h) hset_head ?_
    (repeat (refine st_q rfl rfl rfl ?_))
    (refine st_nil ?_; (repeat (first | refine kp_cons rfl ?_ | refine kp_skip ?_)); refine kp_nil ?_)
    refine awp_freezeP (d := 12) (cs := cellsT u) rfl ?_
    (refine kp_weaken (keep := [0, 1, 2, 6, 9, 12, 13, 46, 47, 48]) ?_; ((repeat (first | refine kp_cons rfl ?_ | refine kp_skip ?_)); refine kp_nil ?_))
    refine awp_seq ?_
    refine awp_seq ?_
    refine aw_end (fun _ _ => rfl) ?_
    (repeat (refine st_q rfl rfl rfl ?_))
    (refine st_nil ?_; (repeat (first | refine kp_cons rfl ?_ | refine kp_skip ?_)); refine kp_nil ?_)
    refine awp_cond (t := false) rfl (fun e => by cases e) (fun _ => ?_)
    refine aw_skipE (fun _ _ => rfl) ?_
    (refine kp_weaken (keep := [0, 1, 2, 6, 9, 12, 46, 47, 48]) ?_; ((repeat (first | refine kp_cons rfl ?_ | refine kp_skip ?_)); refine kp_nil ?_))
    refine aw_end (fun _ _ => rfl) ?_
    (repeat (refine st_q rfl rfl rfl ?_))
    refine st_ldp rfl (by rw [hget_app hnb]; exact hget_head) rfl rfl ?_
    (repeat (refine st_q rfl rfl rfl ?_))
    refine st_appG (ys := [.agg (cellsT u)]) ho rfl rfl (by rw [List.length_singleton]; omega) fun b' hb' => ?_
    have f9 : b' ≠ b9 := fun e => hb' (by rw [e]; simp [keys])
    have ft : b' ≠ bat := fun e => by
      subst e
      refine hb' ?_
      have := hget_mem hH
      have h1 : b' ∈ keys H := List.mem_map_of_mem (f := (·.1)) this
      rw [show keys (β ++ ((b9, ABlk.cells 6 [AVal.agg [.int .i64 k, .slc 1 (ns.map .str) true, kv, .int .i64 le, .int .i64 pr, .int .i64 sc]]) :: (b6, .cells 6 [Z]) :: hset H b' (.cells 1 [.int .i64 (at2 : Int)]))) = keys β ++ (b9 :: b6 :: keys (hset H b' (.cells 1 [.int .i64 (at2 : Int)]))) by simp [keys]]
      rw [hky]
      exact List.mem_append_right _ (List.mem_cons_of_mem _ (List.mem_cons_of_mem _ h1))
    rw [← hgk]
    (repeat (refine st_q rfl rfl rfl ?_))
    refine st_store rfl (hget_tail f9 hget_head) rfl (by decide) (AVal.fit_iff.1 rfl) (fun h => by cases h) (hset_tail f9 hset_head) ?_
    (refine st_nil ?_; (repeat (first | refine kp_cons rfl ?_ | refine kp_skip ?_)); refine kp_nil ?_)
    refine aw_round ?_
    (repeat (refine st_q rfl rfl rfl ?_))
    rw [show IntKind.wrap .i64 ((j : Int) + 1) = ((j + 1 : Nat) : Int) by rw [w64 _ (by omega) (by omega)]; omega]
    (refine st_nil ?_; (repeat (first | refine kp_cons rfl ?_ | refine kp_skip ?_)); refine kp_nil ?_)
    refine ⟨_, nd.kids.length - (j + 1), HSub.refl _, ⟨j + 1, _, [(b', _)], rfl, by rw [hat2]; rfl, GrowG.mk, ?_, ?_, by omega, rfl⟩, by omega⟩
    · intro h; simp only [keys, List.map_cons, List.map_nil, List.mem_singleton] at h; exact f9 h.symm
    · intro h; simp only [keys, List.map_cons, List.map_nil, List.mem_singleton] at h; exact ft h.symm
  · have hJ : j = ks.length := by omega
    subst hJ
    rw [hend]
    rw [List.take_length] at ho
    refine aw_exitE (fun _ _ => rfl) ?_
    (refine kp_weaken (keep := [6, 9]) ?_; ((repeat (first | refine kp_cons rfl ?_ | refine kp_skip ?_)); refine kp_nil ?_))
    refine aw_region ?_
    (repeat (refine st_q rfl rfl rfl ?_))
    refine st_ldp rfl (by rw [hget_app hnb]; exact hget_head) rfl rfl ?_
    refine st_callv rfl (c_ClipG_api_Type_api_Type ho _) ?_
    (repeat (refine st_q rfl rfl rfl ?_))
    refine st_store rfl hget_head rfl (by decide) (AVal.fit_iff.1 rfl) (fun h => by cases h) hset_head ?_
    (refine st_nil ?_; (repeat (first | refine kp_cons rfl ?_ | refine kp_skip ?_)); refine kp_nil ?_)
    refine aw_region ?_
    refine st_ldp rfl hget_head rfl rfl ?_
    refine st_store rfl (hget_tail h96 hget_head) (by rw [← hZ]; rfl) (by decide) (tyE rfl rfl) (fun h => by cases h) (hset_tail h96 hset_head) ?_
    (repeat (refine st_q rfl rfl rfl ?_))
    (refine st_nil ?_; (repeat (first | refine kp_cons rfl ?_ | refine kp_skip ?_)); refine kp_nil ?_)
    refine awp_ret ?_
    refine ares_v (vs := [.agg [.int .i64 k, .slc 1 (ns.map .str) true, .slc 6 (encTs ks) true, .int .i64 le, .int .i64 pr, .int .i64 sc], .bool true]) ?_ (r := .tup [encT (.mk k ns ks le pr sc), .bool true]) ?_ (HSub.of_sublist ((List.sublist_cons_self _ _).trans (List.sublist_cons_self _ _))) ⟨rfl, rfl⟩
    · exact resVals_cons (resVal_cell rfl (hget_tail h96 hget_head) rfl) rfl
    · refine VRle.tup (VRle.cons ?_ (VRle.refl _))
      rw [encT]
      refine VRle.agg (by simp [AVal.one]) ?_
      exact VRle.cons (VRle.refl _) (VRle.cons VRle.full (VRle.cons VRle.full (VRle.refl _)))

theorem c_TBuild (t : Ty) (ht : t.Fit) (h0 : checkF t = 0) (f : Bool) (σ : AHeap) : ACalls Tryd.prog f_types_Build [.slc 8 ((flattenF t).map encN) f] σ fun r σ' => r = .tup [encT t, .int .i64 0] ∧ σ' = σ := by
  have hT := flatten_tree t
  obtain ⟨n0, hn0, hn0t⟩ := flatten_head h0
  have hL100 := flattenF_le t
  have hcnt : cnt t = (flattenF t).length := by rw [flattenF, if_pos h0, flat_len]
  have hck := c_Check t ht
  have hsm : t.Small := (chk_ok t 1 0 h0).2.1
  generalize flattenF t = l at *
  have hlm : (l.map encN).length = l.length := List.length_map ..
  have hb := c_build hT (by omega) f t hsm 0 n0 hn0 hn0t 1 (by omega)
  rw [Nat.zero_add, encT_eq] at hb
  rw [encT_eq] at hck ⊢
  rw [h0] at hck
  refine acalls_enter rfl types_Build_ok (Nat.le_of_ble_eq_true rfl) ?_
  refine aw_region ?_
  refine st_alloc (by simp [AVal.cells, AVal.one]) fun b2 hb2 => ?_
  (repeat (refine st_q rfl rfl rfl ?_))
  (refine st_nil ?_; (repeat (first | refine kp_cons rfl ?_ | refine kp_skip ?_)); refine kp_nil ?_)
  rw [show (AVal.agg [.int .i64 0, .slc 0 [] true, .slc 0 [] true, .int .i64 0, .int .i64 0, .int .i64 0]).cells.length = 6 from rfl]
  refine aw_region ?_
  refine st_alloc (by simp [AVal.cells, AVal.one]) fun b4 hb4 => ?_
  refine st_store rfl hget_head rfl (by decide) (AVal.fit_iff.1 rfl) (fun _ => ⟨rfl, rfl⟩) hset_head ?_
  (refine st_nil ?_; (repeat (first | refine kp_cons rfl ?_ | refine kp_skip ?_)); refine kp_nil ?_)
  have h42 : b4 ≠ b2 := fun e => hb4 (by rw [e]; simp [keys])
  refine aw_region ?_
  (repeat (refine st_q rfl rfl rfl ?_))
  refine st_callv rfl (hb _ b4 hget_head) ?_
  rw [hset_head]
  (repeat (refine st_q rfl rfl rfl ?_))
  refine st_alloc (by simp [AVal.cells, AVal.one]) fun b5 hb5 => ?_
  refine st_store rfl hget_head rfl (by decide) (AVal.fit_iff.1 rfl) (fun h => by cases h) hset_head ?_
  (repeat (refine st_q rfl rfl rfl ?_))
  (refine st_nil ?_; (repeat (first | refine kp_cons rfl ?_ | refine kp_skip ?_)); refine kp_nil ?_)
  refine awp_freezeP (d := 5) (cs := cellsT t) rfl ?_
  (refine kp_weaken (keep := [0, 2, 4, 5, 6]) ?_; ((repeat (first | refine kp_cons rfl ?_ | refine kp_skip ?_)); refine kp_nil ?_))
  refine awp_seq ?_
  refine awp_seq ?_
  refine aw_end (fun _ _ => rfl) ?_
  (repeat (first | refine st_q rfl rfl rfl ?_ | refine st_gy rfl (st_q rfl rfl rfl ?_) | refine st_gn rfl ?_ | refine st_gu rfl ?_))
  refine st_gy rfl (st_ldp rfl hget_head rfl rfl ?_)
  (repeat (first | refine st_q rfl rfl rfl ?_ | refine st_gy rfl (st_q rfl rfl rfl ?_) | refine st_gn rfl ?_ | refine st_gu rfl ?_))
  rw [hlm]
  (rw [show decide (((cnt t : Nat) : Int) < (l.length : Int)) = false from decide_eq_false (by omega)])
  (repeat (first | refine st_q rfl rfl rfl ?_ | refine st_gy rfl (st_q rfl rfl rfl ?_) | refine st_gn rfl ?_ | refine st_gu rfl ?_))
  (refine st_nil ?_; (repeat (first | refine kp_cons rfl ?_ | refine kp_skip ?_)); refine kp_nil ?_)
  refine awp_cond (t := false) rfl (fun e => by cases e) (fun _ => ?_)
  refine aw_skipE (fun _ _ => rfl) ?_
  (refine kp_weaken (keep := [2, 5]) ?_; ((repeat (first | refine kp_cons rfl ?_ | refine kp_skip ?_)); refine kp_nil ?_))
  refine awp_seq ?_
  refine awp_seq ?_
  refine aw_end (fun _ _ => rfl) ?_
  (repeat (refine st_q rfl rfl rfl ?_))
  refine st_callv rfl (hck _) ?_
  (repeat (refine st_q rfl rfl rfl ?_))
  (refine st_nil ?_; (repeat (first | refine kp_cons rfl ?_ | refine kp_skip ?_)); refine kp_nil ?_)
  refine awp_seq ?_
  refine aw_end (fun _ _ => rfl) ?_
  (repeat (refine st_q rfl rfl rfl ?_))
  (refine st_nil ?_; (repeat (first | refine kp_cons rfl ?_ | refine kp_skip ?_)); refine kp_nil ?_)
  refine awp_cond (t := false) rfl (fun e => by cases e) (fun _ => ?_)
  refine aw_skipE (fun _ _ => rfl) ?_
  (refine kp_weaken (keep := [2, 5]) ?_; ((repeat (first | refine kp_cons rfl ?_ | refine kp_skip ?_)); refine kp_nil ?_))
  refine aw_region ?_
  (repeat (refine st_q rfl rfl rfl ?_))
  refine st_store rfl (hget_tail h42 hget_head) rfl (by decide) (AVal.fit_iff.1 rfl) (fun h => by cases h) (hset_tail h42 hset_head) ?_
  (repeat (refine st_q rfl rfl rfl ?_))
  (refine st_nil ?_; (repeat (first | refine kp_cons rfl ?_ | refine kp_skip ?_)); refine kp_nil ?_)
  refine awp_ret ?_
  exact ares (vs := [.agg (cellsT t), .int .i64 0]) (resVals_cons (resVal_cell rfl (hget_tail h42 hget_head) rfl) rfl) (HSub.of_sublist ((List.sublist_cons_self _ _).trans (List.sublist_cons_self _ _))) ⟨rfl, rfl⟩
end Go.Abs

/- Contracts: which columns are kept (the program's). -/
namespace Go.Abs
open Go Go.Proofs
set_option linter.unusedVariables false
set_option linter.unusedSimpArgs false
set_option maxHeartbeats 4000000
attribute [local irreducible] AWp aops KP

theorem c_fill {l : List Nd} (hT : TreeN l) (hll : l.length ≤ 1000) : ∀ (t : Ty) (a : Nat) (n : Nd), l[a]? = some n → n.t = t → ∀ (H : AHeap) (b : Nat) (k : List Bool), hget H b = some (.cells 1 (k.map .bool)) → k.length = l.length → ∀ f,
    ACalls Tryd.prog f_types_fill [.slc 8 (l.map encN) f, .arr 1 b 0 l.length, .int .i64 (a : Int)] H fun r H' => r = .tup [] ∧ H' = hset H b (.cells 1 ((fillN a (cnt t) k).map .bool)) := by
  refine Ty.ind fun kd nms ks le pr sc ih a n hn hnt H b k hb hk f => ?_
  have hal := (List.getElem?_eq_some_iff.1 hn).1
  have hkl := (hT.nok a n hn).len
  have hnk : n.t.kids = ks := by rw [hnt]; rfl
  rw [hnk] at hkl
  have hks : ks.length ≤ 1000 := by
    have := (hT.nok a n hn).len
    by_cases e : ks.length = 0
    · omega
    · have hx := List.getElem?_eq_getElem (show ks.length - 1 < n.kids.length by omega)
      obtain ⟨u, m, e1, e2, e3, _⟩ := (hT.nok a n hn).kids _ _ hx
      have h3 := (List.getElem?_eq_some_iff.1 e3).1
      have key : ∀ (ks : List Ty), ks.length ≤ cntL ks := by
        intro ks
        induction ks with
        | nil => exact Nat.le_refl _
        | cons t ts ih => have := cntL_pos t; rw [cntL, List.length_cons]; omega
      have := key (n.t.kids.take (ks.length - 1))
      rw [List.length_take, hnk] at this
      rw [hnk] at e2
      omega
  have hx0 : (l.map encN)[(a : Int).toNat]? = some (encN n) := by rw [Int.toNat_natCast, List.getElem?_map, hn]; rfl
  have hb0 : (k.map AVal.bool)[0 + ((a : Nat) : Int).toNat]? = some (.bool (k[a]'(by omega))) := by rw [Nat.zero_add, Int.toNat_natCast, List.getElem?_map, List.getElem?_eq_getElem (by omega)]; rfl
  have hil : (ints n.kids).length = n.kids.length := List.length_map ..
  refine acalls_enter rfl types_fill_ok (Nat.le_of_ble_eq_true rfl) ?_
  refine aw_region ?_
  (repeat (refine st_q rfl rfl rfl ?_))
  refine st_iada rfl ⟨by omega, by omega⟩ ?_
  refine st_store rfl hb hb0 (by decide) (AVal.fit_iff.1 rfl) (fun _ => ⟨rfl, rfl⟩) rfl ?_
  rw [bools_set _ ⟨_, rfl⟩]
  (refine st_nil ?_; (repeat (first | refine kp_cons rfl ?_ | refine kp_skip ?_)); refine kp_nil ?_)
  refine aw_region ?_
  (repeat (refine st_q rfl rfl rfl ?_))
  refine st_iad rfl (by omega) hx0 ?_
  (repeat (refine st_q rfl rfl rfl ?_))
  rw [hil, hkl]
  (refine st_nil ?_; (repeat (first | refine kp_cons rfl ?_ | refine kp_skip ?_)); refine kp_nil ?_)
  refine awp_block ?_
  obtain ⟨I, hI⟩ : ∃ I : Nat → AFrame → AHeap → Prop, I = fun m F σ' => ∃ j : Nat, F = fset 0 (some (.slc 8 (l.map encN) f)) (fset 1 (some (.arr 1 b 0 l.length)) (fset 15 (some (.slc 1 (ints n.kids) true)) (fset 16 (some (.int .i64 (ks.length : Nat))) (fset 17 (some (.int .i64 (j : Nat))) fnone)))) ∧ hset H b (.cells 1 ((fillN (a + 1) (cntL (ks.take j)) (k.set a true)).map .bool)) = σ' ∧ j ≤ ks.length ∧ m = ks.length - j := ⟨_, rfl⟩
  refine awp_loopN I (n := ks.length) (by rw [hI]; exact ⟨0, rfl, rfl, by omega, by omega⟩) ?_
  intro m0 F σ' hIm
  rw [hI] at hIm
  obtain ⟨j, rfl, rfl, hj, rfl⟩ := hIm
  (repeat (first | refine st_q rfl rfl rfl ?_ | refine st_gy rfl (st_q rfl rfl rfl ?_) | refine st_gn rfl ?_ | refine st_gu rfl ?_ | (refine st_nil ?_; (repeat (first | refine kp_cons rfl ?_ | refine kp_skip ?_)); refine kp_nil ?_) | refine awp_seq ?_ | refine aw_end (fun _ _ => rfl) ?_ | refine awp_block ?_ | refine aw_skipE (fun _ _ => rfl) ?_ | refine aw_exitE (fun _ _ => rfl) ?_ | refine awp_cond (t := true) rfl (fun _ => ?_) (fun e => by cases e) | refine awp_cond (t := false) rfl (fun e => by cases e) (fun _ => ?_)))
  refine awp_condp (p := (j : Int) < (ks.length : Int)) rfl (fun h5 => ?_) (fun h5 => ?_)
  · have hjl : j < ks.length := by omega
    have hx := List.getElem?_eq_getElem (show j < n.kids.length by omega)
    obtain ⟨u, m, e1, e2, e3, e4, _⟩ := (hT.nok a n hn).kids _ _ hx
    rw [hnk] at e1 e2
    have hux : (ints n.kids)[(j : Int).toNat]? = some (.int .i64 ((n.kids[j] : Nat) : Int)) := by rw [Int.toNat_natCast, ints, List.getElem?_map, hx]; rfl
    generalize n.kids[j] = x at e2 e3 hux
    have hcs := cntL_succ ks j u e1
    have hc := ih u (List.mem_of_getElem? e1) x m e3 e4 (hset H b (.cells 1 ((fillN (a + 1) (cntL (ks.take j)) (k.set a true)).map .bool))) b (fillN (a + 1) (cntL (ks.take j)) (k.set a true)) (hget_hset_same hb) (by rw [fillN_len, List.length_set, hk]) f
    rw [hset_hset, e2, ← fillN_add, ← hcs, ← e2] at hc
    (repeat (first | refine st_q rfl rfl rfl ?_ | refine st_gy rfl (st_q rfl rfl rfl ?_) | refine st_gn rfl ?_ | refine st_gu rfl ?_ | (refine st_nil ?_; (repeat (first | refine kp_cons rfl ?_ | refine kp_skip ?_)); refine kp_nil ?_) | refine awp_seq ?_ | refine aw_end (fun _ _ => rfl) ?_ | refine awp_block ?_ | refine aw_skipE (fun _ _ => rfl) ?_ | refine aw_exitE (fun _ _ => rfl) ?_ | refine awp_cond (t := true) rfl (fun _ => ?_) (fun e => by cases e) | refine awp_cond (t := false) rfl (fun e => by cases e) (fun _ => ?_)))
    refine st_iad rfl (by omega) hux ?_
    (repeat (first | refine st_q rfl rfl rfl ?_ | refine st_gy rfl (st_q rfl rfl rfl ?_) | refine st_gn rfl ?_ | refine st_gu rfl ?_ | (refine st_nil ?_; (repeat (first | refine kp_cons rfl ?_ | refine kp_skip ?_)); refine kp_nil ?_) | refine awp_seq ?_ | refine aw_end (fun _ _ => rfl) ?_ | refine awp_block ?_ | refine aw_skipE (fun _ _ => rfl) ?_ | refine aw_exitE (fun _ _ => rfl) ?_ | refine awp_cond (t := true) rfl (fun _ => ?_) (fun e => by cases e) | refine awp_cond (t := false) rfl (fun e => by cases e) (fun _ => ?_)))
    refine st_callv rfl hc ?_
    (repeat (first | refine st_q rfl rfl rfl ?_ | refine st_gy rfl (st_q rfl rfl rfl ?_) | refine st_gn rfl ?_ | refine st_gu rfl ?_ | (refine st_nil ?_; (repeat (first | refine kp_cons rfl ?_ | refine kp_skip ?_)); refine kp_nil ?_) | refine awp_seq ?_ | refine aw_end (fun _ _ => rfl) ?_ | refine awp_block ?_ | refine aw_skipE (fun _ _ => rfl) ?_ | refine aw_exitE (fun _ _ => rfl) ?_ | refine awp_cond (t := true) rfl (fun _ => ?_) (fun e => by cases e) | refine awp_cond (t := false) rfl (fun e => by cases e) (fun _ => ?_)))
    refine aw_round ?_
    (repeat (refine st_q rfl rfl rfl ?_))
    rw [show IntKind.wrap .i64 ((j : Int) + 1) = ((j + 1 : Nat) : Int) by rw [w64 _ (by omega) (by omega)]; omega]
    (refine st_nil ?_; (repeat (first | refine kp_cons rfl ?_ | refine kp_skip ?_)); refine kp_nil ?_)
    refine ⟨_, ks.length - (j + 1), HSub.refl _, ?_, by omega⟩
    rw [hI]
    exact ⟨j + 1, rfl, rfl, by omega, rfl⟩
  · have e : ks.take j = ks := List.take_of_length_le (by omega)
    rw [e]
    refine awp_exit ?_
    refine ⟨[], rfl, .tup [], _, VShift.of_sub (HSub.refl _), rfl, ?_⟩
    rw [cnt, show 1 + cntL ks = cntL ks + 1 by omega, fillN]

theorem upk_step {l : List Nd} (hT : TreeN l) {a x : Nat} {n : Nd} (hn : l[a]? = some n) : UpK l a x ↔ (a = x ∨ (kindC l a ≠ 12 ∧ Anc l a x)) ∨ (0 ≤ n.parent ∧ UpK l n.parent.toNat x) := by
  have hpar : n.parent = -1 ∨ ∃ q : Nat, n.parent = (q : Int) ∧ q < a := by
    by_cases e : a = 0
    · subst e; exact .inl (hT.root _ hn).1
    · obtain ⟨⟨q, _, _, e1, e2, _⟩⟩ := hT.par a _ hn (by omega)
      exact .inr ⟨q, e1, e2⟩
  constructor
  · rintro ⟨q, hq, hqx⟩
    cases hq with
    | refl => exact .inl hqx
    | step hc hp hh =>
      rw [hn] at hc
      cases hc
      exact .inr ⟨by omega, q, by rw [hp, Int.toNat_natCast]; exact hh, hqx⟩
  · rintro (h | ⟨h0', q, hq, hqx⟩)
    · exact ⟨a, .refl, h⟩
    · exact ⟨q, .step hn (p := n.parent.toNat) (by omega) hq, hqx⟩
theorem keep_next {l : List Nd} {cols : List Int} {i : Nat} {c : Int} (hc : cols[i]? = some c) (x : Nat) : KeepC l (cols.take (i + 1)) x ↔ KeepC l (cols.take i) x ∨ (Anc l c.toNat x ∨ UpK l c.toNat x) := by
  unfold KeepC
  rw [List.take_add_one, hc]
  constructor
  · rintro ⟨d, hd, h⟩
    rcases List.mem_append.1 hd with e | e
    · exact .inl ⟨d, e, h⟩
    · simp only [Option.toList_some, List.mem_singleton] at e
      subst e
      exact .inr h
  · rintro (⟨d, hd, h⟩ | h)
    · exact ⟨d, List.mem_append_left _ hd, h⟩
    · exact ⟨c, List.mem_append_right _ (by simp), h⟩
theorem bools_ext {k k' : List Bool} (hl : k.length = k'.length) (h : ∀ x, x < k.length → (k.getD x false = true ↔ k'.getD x false = true)) : k = k' := by
  refine List.ext_getElem hl fun x h1 h2 => ?_
  have := h x h1
  rw [List.getD_eq_getElem?_getD, List.getD_eq_getElem?_getD, List.getElem?_eq_getElem h1, List.getElem?_eq_getElem h2, Option.getD_some, Option.getD_some] at this
  exact Bool.eq_iff_iff.2 this

theorem c_TClose {l : List Nd} (hT : TreeN l) (hll : l.length ≤ 1000) (cols : List Int) (hcl : cols.length ≤ 1000000) (f g : Bool) (σ : AHeap) :
    ACalls Tryd.prog f_types_Close [.slc 8 (l.map encN) f, .slc 1 (cols.map (.int .i64)) g] σ fun r σ' => r = .tup [.slc 1 ((if inCols l cols = true then closeF l cols else []).map .bool) false, .int .i64 (if inCols l cols = true then 0 else 1)] ∧ σ' = σ := by
  have hml : (l.map encN).length = l.length := List.length_map ..
  have hmc : (cols.map (AVal.int .i64)).length = cols.length := List.length_map ..
  refine acalls_enter rfl types_Close_ok (Nat.le_of_ble_eq_true rfl) ?_
  (repeat (first | refine st_q rfl rfl rfl ?_ | refine st_gy rfl (st_q rfl rfl rfl ?_) | refine st_gn rfl ?_ | refine st_gu rfl ?_ | (refine st_nil ?_; (repeat (first | refine kp_cons rfl ?_ | refine kp_skip ?_)); refine kp_nil ?_) | refine awp_seq ?_ | refine aw_end (fun _ _ => rfl) ?_ | refine awp_block ?_ | refine aw_skipE (fun _ _ => rfl) ?_ | refine aw_exitE (fun _ _ => rfl) ?_ | refine awp_cond (t := true) rfl (fun _ => ?_) (fun e => by cases e) | refine awp_cond (t := false) rfl (fun e => by cases e) (fun _ => ?_)))
  rw [hml]
  refine st_mks rfl (AVal.fit_iff.1 rfl) (by omega) (by omega) (by omega) (by omega) fun b hb => ?_
  rw [Int.toNat_natCast]
  (repeat (first | refine st_q rfl rfl rfl ?_ | refine st_gy rfl (st_q rfl rfl rfl ?_) | refine st_gn rfl ?_ | refine st_gu rfl ?_ | (refine st_nil ?_; (repeat (first | refine kp_cons rfl ?_ | refine kp_skip ?_)); refine kp_nil ?_) | refine awp_seq ?_ | refine aw_end (fun _ _ => rfl) ?_ | refine awp_block ?_ | refine aw_skipE (fun _ _ => rfl) ?_ | refine aw_exitE (fun _ _ => rfl) ?_ | refine awp_cond (t := true) rfl (fun _ => ?_) (fun e => by cases e) | refine awp_cond (t := false) rfl (fun e => by cases e) (fun _ => ?_)))
  rw [hmc]
  have hr0 : (List.replicate l.length (AVal.bool false)) = (List.replicate l.length false).map .bool := by rw [List.map_replicate]
  rw [hr0]
  obtain ⟨I, hI⟩ : ∃ I : Nat → AFrame → AHeap → Prop, I = fun m F σ' => ∃ (i : Nat) (k : List Bool), F = fset 0 (some (.slc 8 (l.map encN) f)) (fset 6 (some (.arr 1 b 0 l.length)) (fset 14 (some (.slc 1 (cols.map (.int .i64)) g)) (fset 15 (some (.int .i64 (cols.length : Nat))) (fset 16 (some (.int .i64 (i : Nat))) fnone)))) ∧ (b, ABlk.cells 1 (k.map .bool)) :: σ = σ' ∧ k.length = l.length ∧ (∀ x, x < l.length → (k.getD x false = true ↔ KeepC l (cols.take i) x)) ∧ (∀ c ∈ cols.take i, 0 ≤ c ∧ c < l.length) ∧ i ≤ cols.length ∧ m = cols.length - i := ⟨_, rfl⟩
  refine awp_loopN I (n := cols.length) (by
    rw [hI]
    refine ⟨0, _, rfl, rfl, by simp, fun x hx => ?_, by simp, by omega, by omega⟩
    rw [List.getD_eq_getElem?_getD, List.getElem?_replicate, if_pos hx]
    simp [KeepC]) ?_
  intro m0 F σ' hIm
  rw [hI] at hIm
  obtain ⟨i, k, rfl, rfl, hkl, hX, hgood, hi2, rfl⟩ := hIm
  (repeat (first | refine st_q rfl rfl rfl ?_ | refine st_gy rfl (st_q rfl rfl rfl ?_) | refine st_gn rfl ?_ | refine st_gu rfl ?_ | (refine st_nil ?_; (repeat (first | refine kp_cons rfl ?_ | refine kp_skip ?_)); refine kp_nil ?_) | refine awp_seq ?_ | refine aw_end (fun _ _ => rfl) ?_ | refine awp_block ?_ | refine aw_skipE (fun _ _ => rfl) ?_ | refine aw_exitE (fun _ _ => rfl) ?_ | refine awp_cond (t := true) rfl (fun _ => ?_) (fun e => by cases e) | refine awp_cond (t := false) rfl (fun e => by cases e) (fun _ => ?_)))
  refine awp_condp (p := (i : Int) < (cols.length : Nat)) rfl (fun h4 => ?_) (fun h4 => ?_)
  · have hil : i < cols.length := by omega
    have hx := map_get (f := AVal.int .i64) hil
    have hgc := List.getElem?_eq_getElem hil
    have hbad : ¬ (0 ≤ cols[i] ∧ cols[i] < l.length) → inCols l cols = false := fun h => by
      rw [inCols, List.all_eq_false]
      exact ⟨_, List.getElem_mem hil, by simpa using h⟩
    generalize cols[i] = y at hx hgc hbad
    (repeat (first | refine st_q rfl rfl rfl ?_ | refine st_gy rfl (st_q rfl rfl rfl ?_) | refine st_gn rfl ?_ | refine st_gu rfl ?_ | (refine st_nil ?_; (repeat (first | refine kp_cons rfl ?_ | refine kp_skip ?_)); refine kp_nil ?_) | refine awp_seq ?_ | refine aw_end (fun _ _ => rfl) ?_ | refine awp_block ?_ | refine aw_skipE (fun _ _ => rfl) ?_ | refine aw_exitE (fun _ _ => rfl) ?_ | refine awp_cond (t := true) rfl (fun _ => ?_) (fun e => by cases e) | refine awp_cond (t := false) rfl (fun e => by cases e) (fun _ => ?_)))
    refine st_iad rfl (by omega) hx ?_
    (repeat (first | refine st_q rfl rfl rfl ?_ | refine st_gy rfl (st_q rfl rfl rfl ?_) | refine st_gn rfl ?_ | refine st_gu rfl ?_ | (refine st_nil ?_; (repeat (first | refine kp_cons rfl ?_ | refine kp_skip ?_)); refine kp_nil ?_) | refine awp_seq ?_ | refine aw_end (fun _ _ => rfl) ?_ | refine awp_block ?_ | refine aw_skipE (fun _ _ => rfl) ?_ | refine aw_exitE (fun _ _ => rfl) ?_ | refine awp_cond (t := true) rfl (fun _ => ?_) (fun e => by cases e) | refine awp_cond (t := false) rfl (fun e => by cases e) (fun _ => ?_)))
    by_cases h5 : y < 0
    · (rw [show decide (y < 0) = true from decide_eq_true (by omega)])
      (repeat (first | refine st_q rfl rfl rfl ?_ | refine st_gy rfl (st_q rfl rfl rfl ?_) | refine st_gn rfl ?_ | refine st_gu rfl ?_ | (refine st_nil ?_; (repeat (first | refine kp_cons rfl ?_ | refine kp_skip ?_)); refine kp_nil ?_) | refine awp_seq ?_ | refine aw_end (fun _ _ => rfl) ?_ | refine awp_block ?_ | refine aw_skipE (fun _ _ => rfl) ?_ | refine aw_exitE (fun _ _ => rfl) ?_ | refine awp_cond (t := true) rfl (fun _ => ?_) (fun e => by cases e) | refine awp_cond (t := false) rfl (fun e => by cases e) (fun _ => ?_)))
      rw [hbad (by omega)]
      refine awp_ret ?_
      exact ares_v rfl (VRle.tup (VRle.cons (VRle.nilF _ _) (VRle.refl _))) (HSub.tail _ _) ⟨rfl, rfl⟩
    (rw [show decide (y < 0) = false from decide_eq_false (by omega)])
    (repeat (first | refine st_q rfl rfl rfl ?_ | refine st_gy rfl (st_q rfl rfl rfl ?_) | refine st_gn rfl ?_ | refine st_gu rfl ?_))
    rw [hml]
    by_cases h6 : (l.length : Int) ≤ y
    · (rw [show decide ((l.length : Int) ≤ y) = true from decide_eq_true (by omega)])
      (repeat (first | refine st_q rfl rfl rfl ?_ | refine st_gy rfl (st_q rfl rfl rfl ?_) | refine st_gn rfl ?_ | refine st_gu rfl ?_ | (refine st_nil ?_; (repeat (first | refine kp_cons rfl ?_ | refine kp_skip ?_)); refine kp_nil ?_) | refine awp_seq ?_ | refine aw_end (fun _ _ => rfl) ?_ | refine awp_block ?_ | refine aw_skipE (fun _ _ => rfl) ?_ | refine aw_exitE (fun _ _ => rfl) ?_ | refine awp_cond (t := true) rfl (fun _ => ?_) (fun e => by cases e) | refine awp_cond (t := false) rfl (fun e => by cases e) (fun _ => ?_)))
      rw [hbad (by omega)]
      refine awp_ret ?_
      exact ares_v rfl (VRle.tup (VRle.cons (VRle.nilF _ _) (VRle.refl _))) (HSub.tail _ _) ⟨rfl, rfl⟩
    (rw [show decide ((l.length : Int) ≤ y) = false from decide_eq_false (by omega)])
    obtain ⟨c, rfl⟩ : ∃ c : Nat, y = (c : Int) := ⟨y.toNat, by omega⟩
    have hcl2 : c < l.length := by omega
    have hnc := List.getElem?_eq_getElem hcl2
    have hgc2 : (l.map encN)[((c : Nat) : Int).toNat]? = some (encN l[c]) := by rw [Int.toNat_natCast, List.getElem?_map, hnc]; rfl
    have hgood2 : ∀ d ∈ cols.take (i + 1), 0 ≤ d ∧ d < (l.length : Int) := by
      intro d hd
      rw [List.take_add_one, hgc] at hd
      rcases List.mem_append.1 hd with e | e
      · exact hgood d e
      · simp only [Option.toList_some, List.mem_singleton] at e
        subst e; omega
    have hkn := fun x => keep_next (l := l) hgc x
    have hup := fun x => upk_step hT (x := x) hnc
    have hpc : l[c].parent = -1 ∨ ∃ q : Nat, l[c].parent = (q : Int) ∧ q < c := by
      by_cases e : c = 0
      · subst e; exact .inl (hT.root _ hnc).1
      · obtain ⟨⟨q, _, _, e1, e2, _⟩⟩ := hT.par c _ hnc (by omega)
        exact .inr ⟨q, e1, e2⟩
    have hstep : ∀ q : Nat, l[c].parent = (q : Int) → Anc l q c := fun q e => .step hnc e .refl
    simp only [Int.toNat_natCast] at hkn
    generalize l[c] = nc at hgc2 hup hpc hstep
    rw [encN, cellsN] at hgc2
    have hinit : ∀ x, x < l.length → (KeepC l (cols.take (i + 1)) x ↔ k.getD x false = true ∨ Anc l c x ∨ (0 ≤ nc.parent ∧ UpK l nc.parent.toNat x)) := by
      intro x hx
      rw [hkn x, hX x hx, hup x]
      constructor
      · rintro (h | h | (h | h) | h)
        · exact .inl h
        · exact .inr (.inl h)
        · subst h; exact .inr (.inl .refl)
        · exact .inr (.inl h.2)
        · exact .inr (.inr h)
      · rintro (h | h | h)
        · exact .inl h
        · exact .inr (.inl h)
        · exact .inr (.inr (.inr h))
    have hptop : ∀ q : Nat, nc.parent = (q : Int) → Anc l q c := hstep
    have hplt : nc.parent < (l.length : Int) ∧ -1 ≤ nc.parent := by rcases hpc with e | ⟨q, e, _⟩ <;> omega
    (repeat (first | refine st_q rfl rfl rfl ?_ | refine st_gy rfl (st_q rfl rfl rfl ?_) | refine st_gn rfl ?_ | refine st_gu rfl ?_ | (refine st_nil ?_; (repeat (first | refine kp_cons rfl ?_ | refine kp_skip ?_)); refine kp_nil ?_) | refine awp_seq ?_ | refine aw_end (fun _ _ => rfl) ?_ | refine awp_block ?_ | refine aw_skipE (fun _ _ => rfl) ?_ | refine aw_exitE (fun _ _ => rfl) ?_ | refine awp_cond (t := true) rfl (fun _ => ?_) (fun e => by cases e) | refine awp_cond (t := false) rfl (fun e => by cases e) (fun _ => ?_)))
    refine st_iad rfl (by omega) hgc2 ?_
    (repeat (first | refine st_q rfl rfl rfl ?_ | refine st_gy rfl (st_q rfl rfl rfl ?_) | refine st_gn rfl ?_ | refine st_gu rfl ?_ | (refine st_nil ?_; (repeat (first | refine kp_cons rfl ?_ | refine kp_skip ?_)); refine kp_nil ?_) | refine awp_seq ?_ | refine aw_end (fun _ _ => rfl) ?_ | refine awp_block ?_ | refine aw_skipE (fun _ _ => rfl) ?_ | refine aw_exitE (fun _ _ => rfl) ?_ | refine awp_cond (t := true) rfl (fun _ => ?_) (fun e => by cases e) | refine awp_cond (t := false) rfl (fun e => by cases e) (fun _ => ?_)))
    obtain ⟨J, hJ⟩ : ∃ J : Nat → AFrame → AHeap → Prop, J = fun m F σ' => ∃ (top : Nat) (p : Int) (k : List Bool), F = fset 0 (some (.slc 8 (l.map encN) f)) (fset 6 (some (.arr 1 b 0 l.length)) (fset 9 (some (.int .i64 (top : Int))) (fset 10 (some (.int .i64 p)) (fset 14 (some (.slc 1 (cols.map (.int .i64)) g)) (fset 15 (some (.int .i64 (cols.length : Nat))) (fset 16 (some (.int .i64 (i : Nat))) fnone)))))) ∧
      (b, ABlk.cells 1 (k.map .bool)) :: σ = σ' ∧ k.length = l.length ∧ top < l.length ∧ -1 ≤ p ∧ p < l.length ∧ (∀ q : Nat, p = (q : Int) → Anc l q top) ∧ (∀ x, x < l.length → (KeepC l (cols.take (i + 1)) x ↔ k.getD x false = true ∨ Anc l top x ∨ (0 ≤ p ∧ UpK l p.toNat x))) ∧ m = (p + 1).toNat := ⟨_, rfl⟩
    refine awp_loopN J (n := (nc.parent + 1).toNat) (by rw [hJ]; exact ⟨c, nc.parent, k, rfl, rfl, hkl, hcl2, hplt.2, hplt.1, hptop, hinit, rfl⟩) ?_
    clear hinit hX hkl
    clear k
    intro m1 F σ' hJm
    rw [hJ] at hJm
    obtain ⟨top, p, k, rfl, rfl, hkl, htl, hp1, hp2, hptp, hinv, rfl⟩ := hJm
    (repeat (first | refine st_q rfl rfl rfl ?_ | refine st_gy rfl (st_q rfl rfl rfl ?_) | refine st_gn rfl ?_ | refine st_gu rfl ?_ | (refine st_nil ?_; (repeat (first | refine kp_cons rfl ?_ | refine kp_skip ?_)); refine kp_nil ?_) | refine awp_seq ?_ | refine aw_end (fun _ _ => rfl) ?_ | refine awp_block ?_ | refine aw_skipE (fun _ _ => rfl) ?_ | refine aw_exitE (fun _ _ => rfl) ?_ | refine awp_cond (t := true) rfl (fun _ => ?_) (fun e => by cases e) | refine awp_cond (t := false) rfl (fun e => by cases e) (fun _ => ?_)))
    refine awp_condp (p := p ≥ 0) rfl (fun h7 => ?_) (fun h7 => ?_)
    · obtain ⟨q, rfl⟩ : ∃ q : Nat, p = (q : Int) := ⟨p.toNat, by omega⟩
      have hql : q < l.length := by omega
      have hnq := List.getElem?_eq_getElem hql
      have hgq : (l.map encN)[((q : Nat) : Int).toNat]? = some (encN l[q]) := by rw [Int.toNat_natCast, List.getElem?_map, hnq]; rfl
      have hupq := fun x => upk_step hT (x := x) hnq
      have hkq : kindC l q = l[q].t.kind := by rw [kindC, hnq]
      have hatop := hptp q rfl
      have hpq : l[q].parent = -1 ∨ ∃ r : Nat, l[q].parent = (r : Int) ∧ r < q := by
        by_cases e : q = 0
        · subst e; exact .inl (hT.root _ hnq).1
        · obtain ⟨⟨r, _, _, e1, e2, _⟩⟩ := hT.par q _ hnq (by omega)
          exact .inr ⟨r, e1, e2⟩
      have hstepq : ∀ r : Nat, l[q].parent = (r : Int) → Anc l r q := fun r e => .step hnq e .refl
      generalize l[q] = nq at hgq hupq hpq hstepq hkq
      rw [encN, cellsN] at hgq
      have hkx : (k.map AVal.bool)[0 + ((q : Nat) : Int).toNat]? = some (.bool (k[q]'(by omega))) := by rw [Nat.zero_add, Int.toNat_natCast, List.getElem?_map, List.getElem?_eq_getElem (by omega)]; rfl
      have hsg := fun x => set_get (k := k) (a := q) (x := x) (by omega)
      have hnp : -1 ≤ nq.parent ∧ nq.parent < (l.length : Int) ∧ (nq.parent + 1).toNat < ((q : Int) + 1).toNat := by rcases hpq with e | ⟨r, e, _⟩ <;> omega
      refine aw_skipE (fun _ _ => rfl) ?_
      refine awp_seq ?_
      refine awp_block ?_
      refine awp_seq ?_
      refine aw_end (fun _ _ => rfl) ?_
      (repeat (refine st_q rfl rfl rfl ?_))
      refine st_iada rfl ⟨by omega, by omega⟩ ?_
      refine st_store rfl hget_head hkx (by decide) (AVal.fit_iff.1 rfl) (fun _ => ⟨rfl, rfl⟩) hset_head ?_
      rw [bools_set _ ⟨_, rfl⟩]
      (refine st_nil ?_; (repeat (first | refine kp_cons rfl ?_ | refine kp_skip ?_)); refine kp_nil ?_)
      refine awp_seq ?_
      refine aw_end (fun _ _ => rfl) ?_
      (repeat (refine st_q rfl rfl rfl ?_))
      refine st_iad rfl (by omega) hgq ?_
      (repeat (refine st_q rfl rfl rfl ?_))
      have go : ∀ top2 : Nat, top2 < l.length → (∀ r : Nat, nq.parent = (r : Int) → Anc l r top2) → (∀ x, x < l.length → (KeepC l (cols.take (i + 1)) x ↔ (k.set q true).getD x false = true ∨ Anc l top2 x ∨ (0 ≤ nq.parent ∧ UpK l nq.parent.toNat x))) →
          ∀ Q : APost, AWp Tryd.prog types_Close.n (.region types_Close_r13 [0, 6, 9, 10, 14, 15, 16]) (ALess J ((q : Int) + 1).toNat Q)
            (fset 0 (some (.slc 8 (l.map encN) f)) (fset 6 (some (.arr 1 b 0 l.length)) (fset 9 (some (.int .i64 (top2 : Int))) (fset 10 (some (.int .i64 (q : Int))) (fset 14 (some (.slc 1 (cols.map (.int .i64)) g)) (fset 15 (some (.int .i64 (cols.length : Nat))) (fset 16 (some (.int .i64 (i : Nat))) fnone))))))) ((b, ABlk.cells 1 ((k.set q true).map .bool)) :: σ) := by
        intro top2 h1 h2 h3 Q
        refine aw_round ?_
        (repeat (refine st_q rfl rfl rfl ?_))
        refine st_iad rfl (by omega) hgq ?_
        (repeat (refine st_q rfl rfl rfl ?_))
        (refine st_nil ?_; (repeat (first | refine kp_cons rfl ?_ | refine kp_skip ?_)); refine kp_nil ?_)
        refine ⟨_, (nq.parent + 1).toNat, HSub.refl _, ?_, hnp.2.2⟩
        rw [hJ]
        exact ⟨top2, nq.parent, k.set q true, rfl, rfl, by rw [List.length_set]; exact hkl, h1, hnp.1, hnp.2.1, h2, h3, rfl⟩
      by_cases k12 : nq.t.kind = 12
      · (rw [show decide (nq.t.kind ≠ 12) = false from decide_eq_false (by omega)])
        (refine st_nil ?_; (repeat (first | refine kp_cons rfl ?_ | refine kp_skip ?_)); refine kp_nil ?_)
        refine awp_cond (t := false) rfl (fun e => by cases e) (fun _ => ?_)
        refine aw_skipE (fun _ _ => rfl) ?_
        (refine kp_weaken (keep := [0, 6, 9, 10, 14, 15, 16]) ?_; ((repeat (first | refine kp_cons rfl ?_ | refine kp_skip ?_)); refine kp_nil ?_))
        refine go top htl (fun r e => (hstepq r e).trans hatop) (fun x hx => ?_) _
        rw [hinv x hx, hsg x, Int.toNat_natCast, hupq x, hkq]
        constructor
        · rintro (h | h | ⟨_, (h | h) | h⟩)
          · exact .inl (.inr h)
          · exact .inr (.inl h)
          · exact .inl (.inl h.symm)
          · exact absurd k12 h.1
          · exact .inr (.inr h)
        · rintro ((h | h) | h | h)
          · exact .inr (.inr ⟨h7, .inl (.inl h.symm)⟩)
          · exact .inl h
          · exact .inr (.inl h)
          · exact .inr (.inr ⟨h7, .inr h⟩)
      · (rw [show decide (nq.t.kind ≠ 12) = true from decide_eq_true (by omega)])
        (refine st_nil ?_; (repeat (first | refine kp_cons rfl ?_ | refine kp_skip ?_)); refine kp_nil ?_)
        refine awp_cond (t := true) rfl (fun _ => ?_) (fun e => by cases e)
        refine aw_end (fun _ _ => rfl) ?_
        (repeat (refine st_q rfl rfl rfl ?_))
        (refine st_nil ?_; (repeat (first | refine kp_cons rfl ?_ | refine kp_skip ?_)); refine kp_nil ?_)
        refine go q hql (fun r e => hstepq r e) (fun x hx => ?_) _
        rw [hinv x hx, hsg x, Int.toNat_natCast, hupq x, hkq]
        constructor
        · rintro (h | h | ⟨_, (h | h) | h⟩)
          · exact .inl (.inr h)
          · exact .inr (.inl (hatop.trans h))
          · exact .inl (.inl h.symm)
          · exact .inr (.inl h.2)
          · exact .inr (.inr h)
        · rintro ((h | h) | h | h)
          · exact .inr (.inr ⟨h7, .inl (.inl h.symm)⟩)
          · exact .inl h
          · exact .inr (.inr ⟨h7, .inl (.inr ⟨k12, h⟩)⟩)
          · exact .inr (.inr ⟨h7, .inr h⟩)
    · have hnt := List.getElem?_eq_getElem htl
      have hfl := c_fill hT hll l[top].t top l[top] hnt rfl ((b, ABlk.cells 1 (k.map .bool)) :: σ) b k hget_head hkl f
      rw [hset_head] at hfl
      have hfa := fun x (hx : x < l.length) => fill_anc hT hnt hkl hx
      generalize cnt l[top].t = z at hfl hfa
      refine aw_exitE (fun _ _ => rfl) ?_
      refine aw_end (fun _ _ => rfl) ?_
      (repeat (refine st_q rfl rfl rfl ?_))
      refine st_callv rfl hfl ?_
      (refine st_nil ?_; (repeat (first | refine kp_cons rfl ?_ | refine kp_skip ?_)); refine kp_nil ?_)
      refine aw_round ?_
      (repeat (refine st_q rfl rfl rfl ?_))
      rw [show IntKind.wrap .i64 ((i : Int) + 1) = ((i + 1 : Nat) : Int) by rw [w64 _ (by omega) (by omega)]; omega]
      (refine st_nil ?_; (repeat (first | refine kp_cons rfl ?_ | refine kp_skip ?_)); refine kp_nil ?_)
      refine ⟨_, cols.length - (i + 1), HSub.refl _, ?_, by omega⟩
      rw [hI]
      refine ⟨i + 1, fillN top z k, rfl, rfl, by rw [fillN_len]; exact hkl, fun x hx => ?_, hgood2, by omega, rfl⟩
      rw [hinv x hx, hfa x hx]
      constructor
      · rintro (h | h)
        · exact .inr (.inl h)
        · exact .inl h
      · rintro (h | h | h)
        · exact .inr h
        · exact .inl h
        · exact absurd h.1 h7
  have hall : cols.take i = cols := List.take_of_length_le (by omega)
  rw [hall] at hX hgood
  have hin : inCols l cols = true := List.all_eq_true.2 fun c hc => decide_eq_true (hgood c hc)
  have hk : k = closeF l cols := bools_ext (by rw [closeF_len, hkl]) fun x hx => by rw [hX x (by omega), closeF_get hT hgood (by omega)]
  rw [hin, if_pos rfl, if_pos rfl, ← hk]
  (repeat (first | refine st_q rfl rfl rfl ?_ | refine st_gy rfl (st_q rfl rfl rfl ?_) | refine st_gn rfl ?_ | refine st_gu rfl ?_ | (refine st_nil ?_; (repeat (first | refine kp_cons rfl ?_ | refine kp_skip ?_)); refine kp_nil ?_) | refine awp_seq ?_ | refine aw_end (fun _ _ => rfl) ?_ | refine awp_block ?_ | refine aw_skipE (fun _ _ => rfl) ?_ | refine aw_exitE (fun _ _ => rfl) ?_ | refine awp_cond (t := true) rfl (fun _ => ?_) (fun e => by cases e) | refine awp_cond (t := false) rfl (fun e => by cases e) (fun _ => ?_)))
  refine awp_freeze (d := 4) (xs := k.map .bool) (by rw [List.length_map, hkl]; rfl) ?_
  refine awp_ret ?_
  exact ares rfl (HSub.refl _) ⟨rfl, rfl⟩
end Go.Abs

/- Contracts: the law's own helpers: the same node, what is known. -/
namespace Go.Abs
open Go Go.Proofs
set_option linter.unusedVariables false
set_option linter.unusedSimpArgs false
set_option maxHeartbeats 4000000
attribute [local irreducible] AWp aops KP

theorem c_same13 (n : Nd) (hk : n.kids.length ≤ 1000) (hn : n.t.names.length ≤ 1000) (σ : AHeap) : ACalls Tryd.prog f_ingotlaw13_same [encN n, encR n] σ fun r σ' => r = .bool true ∧ σ' = σ := by
  obtain ⟨⟨k, ns, ks, l, p, s⟩, kids, par, deep⟩ := n
  dsimp only [Ty.names] at hk hn
  rw [encN, encR, cellsN, cellsR, cellsT, List.cons_append, List.cons_append, List.cons_append, List.cons_append, List.cons_append, List.cons_append, List.nil_append]
  dsimp only [Ty.kind, Ty.names, Ty.kids, Ty.len, Ty.prec, Ty.scale]
  have hi : (ints kids).length = kids.length := List.length_map ..
  have hm : (ns.map AVal.str).length = ns.length := List.length_map ..
  refine acalls_enter rfl ingotlaw13_same_ok (Nat.le_of_ble_eq_true rfl) ?_
  refine aw_region ?_
  refine st_box rfl (AVal.fit_iff.1 rfl) fun b2 hb2 => ?_
  refine st_box rfl (AVal.fit_iff.1 rfl) fun b3 hb3 => ?_
  (repeat (refine st_q rfl rfl rfl ?_))
  (refine st_nil ?_; (repeat (first | refine kp_cons rfl ?_ | refine kp_skip ?_)); refine kp_nil ?_)
  refine awp_freezeP (d := 3) (cs := [.int .i64 k, .slc 1 (ns.map .str) false, .slc 6 (encTs ks) false, .int .i64 l, .int .i64 p, .int .i64 s, .slc 1 (ints kids) false, .int .i64 par, .int .i64 (deep : Nat)]) rfl ?_
  refine awp_freezeP (d := 2) (cs := [.int .i64 k, .slc 1 (ints kids) true, .slc 1 (ns.map .str) true, .int .i64 l, .int .i64 p, .int .i64 s, .int .i64 par, .int .i64 (deep : Nat)]) rfl ?_
  (repeat (first | refine st_q rfl rfl rfl ?_ | refine st_gy rfl (st_q rfl rfl rfl ?_) | refine st_gn rfl ?_ | refine st_gu rfl ?_ | (refine st_nil ?_; (repeat (first | refine kp_cons rfl ?_ | refine kp_skip ?_)); refine kp_nil ?_) | refine awp_seq ?_ | refine aw_end (fun _ _ => rfl) ?_ | refine awp_block ?_ | refine aw_skipE (fun _ _ => rfl) ?_ | refine aw_exitE (fun _ _ => rfl) ?_ | refine awp_cond (t := true) rfl (fun _ => ?_) (fun e => by cases e) | refine awp_cond (t := false) rfl (fun e => by cases e) (fun _ => ?_)))
  (rw [show decide (k ≠ k) = false from decide_eq_false (by omega)])
  (repeat (first | refine st_q rfl rfl rfl ?_ | refine st_gy rfl (st_q rfl rfl rfl ?_) | refine st_gn rfl ?_ | refine st_gu rfl ?_))
  (rw [show decide (l ≠ l) = false from decide_eq_false (by omega)])
  (repeat (first | refine st_q rfl rfl rfl ?_ | refine st_gy rfl (st_q rfl rfl rfl ?_) | refine st_gn rfl ?_ | refine st_gu rfl ?_))
  (rw [show decide (p ≠ p) = false from decide_eq_false (by omega)])
  (repeat (first | refine st_q rfl rfl rfl ?_ | refine st_gy rfl (st_q rfl rfl rfl ?_) | refine st_gn rfl ?_ | refine st_gu rfl ?_))
  (rw [show decide (s ≠ s) = false from decide_eq_false (by omega)])
  (repeat (first | refine st_q rfl rfl rfl ?_ | refine st_gy rfl (st_q rfl rfl rfl ?_) | refine st_gn rfl ?_ | refine st_gu rfl ?_))
  (rw [show decide (par ≠ par) = false from decide_eq_false (by omega)])
  (repeat (first | refine st_q rfl rfl rfl ?_ | refine st_gy rfl (st_q rfl rfl rfl ?_) | refine st_gn rfl ?_ | refine st_gu rfl ?_))
  (rw [show decide ((deep : Int) ≠ (deep : Int)) = false from decide_eq_false (by omega)])
  (repeat (first | refine st_q rfl rfl rfl ?_ | refine st_gy rfl (st_q rfl rfl rfl ?_) | refine st_gn rfl ?_ | refine st_gu rfl ?_))
  rw [hi]
  (rw [show decide ((kids.length : Int) ≠ (kids.length : Int)) = false from decide_eq_false (by omega)])
  (repeat (first | refine st_q rfl rfl rfl ?_ | refine st_gy rfl (st_q rfl rfl rfl ?_) | refine st_gn rfl ?_ | refine st_gu rfl ?_))
  rw [hm]
  (rw [show decide ((ns.length : Int) ≠ (ns.length : Int)) = false from decide_eq_false (by omega)])
  (repeat (first | refine st_q rfl rfl rfl ?_ | refine st_gy rfl (st_q rfl rfl rfl ?_) | refine st_gn rfl ?_ | refine st_gu rfl ?_ | (refine st_nil ?_; (repeat (first | refine kp_cons rfl ?_ | refine kp_skip ?_)); refine kp_nil ?_) | refine awp_seq ?_ | refine aw_end (fun _ _ => rfl) ?_ | refine awp_block ?_ | refine aw_skipE (fun _ _ => rfl) ?_ | refine aw_exitE (fun _ _ => rfl) ?_ | refine awp_cond (t := true) rfl (fun _ => ?_) (fun e => by cases e) | refine awp_cond (t := false) rfl (fun e => by cases e) (fun _ => ?_)))
  refine awp_loopN (fun m F σ' => ∃ j : Nat, F = fset 2 (some (.iptr [.int .i64 k, .slc 1 (ints kids) true, .slc 1 (ns.map .str) true, .int .i64 l, .int .i64 p, .int .i64 s, .int .i64 par, .int .i64 (deep : Nat)])) (fset 3 (some (.iptr [.int .i64 k, .slc 1 (ns.map .str) false, .slc 6 (encTs ks) false, .int .i64 l, .int .i64 p, .int .i64 s, .slc 1 (ints kids) false, .int .i64 par, .int .i64 (deep : Nat)])) (fset 5 (some (.int .i64 (j : Nat))) fnone)) ∧ σ = σ' ∧ j ≤ kids.length ∧ m = kids.length - j) (n := kids.length)
    ⟨0, rfl, rfl, by omega, rfl⟩ ?_
  rintro m F σ' ⟨j, rfl, rfl, hj, rfl⟩
  (repeat (first | refine st_q rfl rfl rfl ?_ | refine st_gy rfl (st_q rfl rfl rfl ?_) | refine st_gn rfl ?_ | refine st_gu rfl ?_ | (refine st_nil ?_; (repeat (first | refine kp_cons rfl ?_ | refine kp_skip ?_)); refine kp_nil ?_) | refine awp_seq ?_ | refine aw_end (fun _ _ => rfl) ?_ | refine awp_block ?_ | refine aw_skipE (fun _ _ => rfl) ?_ | refine aw_exitE (fun _ _ => rfl) ?_ | refine awp_cond (t := true) rfl (fun _ => ?_) (fun e => by cases e) | refine awp_cond (t := false) rfl (fun e => by cases e) (fun _ => ?_)))
  rw [hi]
  refine awp_condp (p := (j : Int) < (kids.length : Nat)) rfl (fun h5 => ?_) (fun h5 => ?_)
  · have hjl : j < kids.length := by omega
    have hx : (ints kids)[((j : Nat) : Int).toNat]? = some (.int .i64 (kids[j] : Nat)) := by rw [Int.toNat_natCast, ints, List.getElem?_map, List.getElem?_eq_getElem hjl]; rfl
    generalize kids[j] = x at hx
    (repeat (first | refine st_q rfl rfl rfl ?_ | refine st_gy rfl (st_q rfl rfl rfl ?_) | refine st_gn rfl ?_ | refine st_gu rfl ?_ | (refine st_nil ?_; (repeat (first | refine kp_cons rfl ?_ | refine kp_skip ?_)); refine kp_nil ?_) | refine awp_seq ?_ | refine aw_end (fun _ _ => rfl) ?_ | refine awp_block ?_ | refine aw_skipE (fun _ _ => rfl) ?_ | refine aw_exitE (fun _ _ => rfl) ?_ | refine awp_cond (t := true) rfl (fun _ => ?_) (fun e => by cases e) | refine awp_cond (t := false) rfl (fun e => by cases e) (fun _ => ?_)))
    refine st_iad rfl (by omega) hx ?_
    (repeat (refine st_q rfl rfl rfl ?_))
    refine st_iad rfl (by omega) hx ?_
    (repeat (refine st_q rfl rfl rfl ?_))
    (rw [show decide ((x : Int) ≠ (x : Int)) = false from decide_eq_false (by omega)])
    (repeat (first | refine st_q rfl rfl rfl ?_ | refine st_gy rfl (st_q rfl rfl rfl ?_) | refine st_gn rfl ?_ | refine st_gu rfl ?_ | (refine st_nil ?_; (repeat (first | refine kp_cons rfl ?_ | refine kp_skip ?_)); refine kp_nil ?_) | refine awp_seq ?_ | refine aw_end (fun _ _ => rfl) ?_ | refine awp_block ?_ | refine aw_skipE (fun _ _ => rfl) ?_ | refine aw_exitE (fun _ _ => rfl) ?_ | refine awp_cond (t := true) rfl (fun _ => ?_) (fun e => by cases e) | refine awp_cond (t := false) rfl (fun e => by cases e) (fun _ => ?_)))
    refine aw_round ?_
    (repeat (refine st_q rfl rfl rfl ?_))
    rw [show IntKind.wrap .i64 ((j : Int) + 1) = ((j + 1 : Nat) : Int) by rw [w64 _ (by omega) (by omega)]; omega]
    (refine st_nil ?_; (repeat (first | refine kp_cons rfl ?_ | refine kp_skip ?_)); refine kp_nil ?_)
    exact ⟨_, kids.length - (j + 1), HSub.refl _, ⟨j + 1, rfl, rfl, by omega, rfl⟩, by omega⟩
  (repeat (first | refine st_q rfl rfl rfl ?_ | refine st_gy rfl (st_q rfl rfl rfl ?_) | refine st_gn rfl ?_ | refine st_gu rfl ?_ | (refine st_nil ?_; (repeat (first | refine kp_cons rfl ?_ | refine kp_skip ?_)); refine kp_nil ?_) | refine awp_seq ?_ | refine aw_end (fun _ _ => rfl) ?_ | refine awp_block ?_ | refine aw_skipE (fun _ _ => rfl) ?_ | refine aw_exitE (fun _ _ => rfl) ?_ | refine awp_cond (t := true) rfl (fun _ => ?_) (fun e => by cases e) | refine awp_cond (t := false) rfl (fun e => by cases e) (fun _ => ?_)))
  refine awp_loopN (fun m F σ' => ∃ j : Nat, F = fset 2 (some (.iptr [.int .i64 k, .slc 1 (ints kids) true, .slc 1 (ns.map .str) true, .int .i64 l, .int .i64 p, .int .i64 s, .int .i64 par, .int .i64 (deep : Nat)])) (fset 3 (some (.iptr [.int .i64 k, .slc 1 (ns.map .str) false, .slc 6 (encTs ks) false, .int .i64 l, .int .i64 p, .int .i64 s, .slc 1 (ints kids) false, .int .i64 par, .int .i64 (deep : Nat)])) (fset 6 (some (.int .i64 (j : Nat))) fnone)) ∧ σ = σ' ∧ j ≤ ns.length ∧ m = ns.length - j) (n := ns.length)
    ⟨0, rfl, rfl, by omega, rfl⟩ ?_
  rintro m F σ' ⟨j, rfl, rfl, hj, rfl⟩
  (repeat (first | refine st_q rfl rfl rfl ?_ | refine st_gy rfl (st_q rfl rfl rfl ?_) | refine st_gn rfl ?_ | refine st_gu rfl ?_ | (refine st_nil ?_; (repeat (first | refine kp_cons rfl ?_ | refine kp_skip ?_)); refine kp_nil ?_) | refine awp_seq ?_ | refine aw_end (fun _ _ => rfl) ?_ | refine awp_block ?_ | refine aw_skipE (fun _ _ => rfl) ?_ | refine aw_exitE (fun _ _ => rfl) ?_ | refine awp_cond (t := true) rfl (fun _ => ?_) (fun e => by cases e) | refine awp_cond (t := false) rfl (fun e => by cases e) (fun _ => ?_)))
  rw [hm]
  refine awp_condp (p := (j : Int) < (ns.length : Nat)) rfl (fun h5 => ?_) (fun h5 => ?_)
  · have hjl : j < ns.length := by omega
    have hx : (ns.map AVal.str)[((j : Nat) : Int).toNat]? = some (.str ns[j]) := by rw [Int.toNat_natCast, List.getElem?_map, List.getElem?_eq_getElem hjl]; rfl
    generalize ns[j] = x at hx
    (repeat (first | refine st_q rfl rfl rfl ?_ | refine st_gy rfl (st_q rfl rfl rfl ?_) | refine st_gn rfl ?_ | refine st_gu rfl ?_ | (refine st_nil ?_; (repeat (first | refine kp_cons rfl ?_ | refine kp_skip ?_)); refine kp_nil ?_) | refine awp_seq ?_ | refine aw_end (fun _ _ => rfl) ?_ | refine awp_block ?_ | refine aw_skipE (fun _ _ => rfl) ?_ | refine aw_exitE (fun _ _ => rfl) ?_ | refine awp_cond (t := true) rfl (fun _ => ?_) (fun e => by cases e) | refine awp_cond (t := false) rfl (fun e => by cases e) (fun _ => ?_)))
    refine st_iad rfl (by omega) hx ?_
    (repeat (refine st_q rfl rfl rfl ?_))
    refine st_iad rfl (by omega) hx ?_
    (repeat (refine st_q rfl rfl rfl ?_))
    rw [show decide (x ≠ x) = false from decide_eq_false (fun h => h rfl)]
    (repeat (first | refine st_q rfl rfl rfl ?_ | refine st_gy rfl (st_q rfl rfl rfl ?_) | refine st_gn rfl ?_ | refine st_gu rfl ?_ | (refine st_nil ?_; (repeat (first | refine kp_cons rfl ?_ | refine kp_skip ?_)); refine kp_nil ?_) | refine awp_seq ?_ | refine aw_end (fun _ _ => rfl) ?_ | refine awp_block ?_ | refine aw_skipE (fun _ _ => rfl) ?_ | refine aw_exitE (fun _ _ => rfl) ?_ | refine awp_cond (t := true) rfl (fun _ => ?_) (fun e => by cases e) | refine awp_cond (t := false) rfl (fun e => by cases e) (fun _ => ?_)))
    refine aw_round ?_
    (repeat (refine st_q rfl rfl rfl ?_))
    rw [show IntKind.wrap .i64 ((j : Int) + 1) = ((j + 1 : Nat) : Int) by rw [w64 _ (by omega) (by omega)]; omega]
    (refine st_nil ?_; (repeat (first | refine kp_cons rfl ?_ | refine kp_skip ?_)); refine kp_nil ?_)
    exact ⟨_, ns.length - (j + 1), HSub.refl _, ⟨j + 1, rfl, rfl, by omega, rfl⟩, by omega⟩
  (repeat (first | refine st_q rfl rfl rfl ?_ | refine st_gy rfl (st_q rfl rfl rfl ?_) | refine st_gn rfl ?_ | refine st_gu rfl ?_ | (refine st_nil ?_; (repeat (first | refine kp_cons rfl ?_ | refine kp_skip ?_)); refine kp_nil ?_) | refine awp_seq ?_ | refine aw_end (fun _ _ => rfl) ?_ | refine awp_block ?_ | refine aw_skipE (fun _ _ => rfl) ?_ | refine aw_exitE (fun _ _ => rfl) ?_ | refine awp_cond (t := true) rfl (fun _ => ?_) (fun e => by cases e) | refine awp_cond (t := false) rfl (fun e => by cases e) (fun _ => ?_)))
  refine awp_ret ?_
  exact ares rfl (HSub.refl _) ⟨rfl, rfl⟩

/-- A struct of an int and a list of strings. -/
def t13 : Ty := .mk 12 [[97], [98]] [.mk 3 [] [] 0 0 0, .mk 10 [] [.mk 7 [] [] 0 0 0] 0 0 0] 0 0 0
theorem check13 : checkF t13 = 0 := by decide
def l13 : List Nd := [⟨t13, [1, 2], -1, 1⟩, ⟨.mk 3 [] [] 0 0 0, [], 0, 2⟩, ⟨.mk 10 [] [.mk 7 [] [] 0 0 0] 0 0 0, [3], 0, 2⟩, ⟨.mk 7 [] [] 0 0 0, [], 2, 3⟩]
theorem flatten13 : flattenF t13 = l13 := by rfl
theorem leaf_Fit (k : Int) : (Ty.mk k [] [] 0 0 0).Fit := .mk (by simp [Ty.kids]) (by simp [Ty.names]) (by simp [Ty.names]) (by simp [Ty.kids])
theorem t13_Fit : t13.Fit := by
  refine .mk (by simp [t13, Ty.kids]) (by simp [t13, Ty.names]) (by simp [t13, Ty.names, maxLen]) fun u hu => ?_
  simp only [t13, Ty.kids, List.mem_cons, List.not_mem_nil, or_false] at hu
  rcases hu with rfl | rfl
  · exact leaf_Fit 3
  · refine .mk (by simp [Ty.kids]) (by simp [Ty.names]) (by simp [Ty.names]) fun u hu => ?_
    simp only [Ty.kids, List.mem_singleton] at hu
    subst hu
    exact leaf_Fit 7
theorem cnt13 : cnt t13 = 4 := by decide
theorem txt13 : txtF t13 = [115, 116, 114, 117, 99, 116, 60, 97, 58, 105, 110, 116, 44, 98, 58, 97, 114, 114, 97, 121, 60, 115, 116, 114, 105, 110, 103, 62, 62] := by decide
theorem close13 : closeF l13 [1] = [true, true, false, false] := by decide
theorem in13 : inCols l13 [1] = true := by decide
theorem check5 : checkF (.mk 5 [] [] 0 0 0) = 5 := by decide
theorem word4 : wordF 4 = [98, 105, 103, 105, 110, 116] := by decide
theorem leaf15 : leafF 15 = true := by decide

theorem c_known13 (σ : AHeap) : ACalls Tryd.prog f_ingotlaw13_known [] σ fun r σ' => r = .bool true ∧ σ' = σ := by
  have hFl := c_Flatten t13 t13_Fit
  have hB := c_TBuild t13 t13_Fit check13
  have hC : ∀ f g σ, ACalls Tryd.prog f_types_Close [.slc 8 (l13.map encN) f, .slc 1 [.int .i64 1] g] σ fun r σ' => r = .tup [.slc 1 [.bool true, .bool true, .bool false, .bool false] false, .int .i64 0] ∧ σ' = σ := fun f g σ => by
    have h := c_TClose (l := l13) (by rw [← flatten13]; exact flatten_tree t13) (by decide) [1] (by decide) f g σ
    rw [in13, if_pos rfl, if_pos rfl, close13] at h
    exact h
  have hCk := c_Check t13 t13_Fit
  have hSm := c_Same t13 t13_Fit t13
  have hCn := c_Count t13 (by rw [cnt13]; decide)
  have hTx := c_Text t13 (chk_Ok t13 1 0 check13) (by rw [cnt13]; decide)
  have hLf := c_Leaf 15
  have hWd := c_Word 4
  have hC5 := c_Check (.mk 5 [] [] 0 0 0) (leaf_Fit 5)
  rw [flatten13, encT_eq] at hFl
  rw [flatten13, encT_eq] at hB
  rw [check13, encT_eq] at hCk
  rw [(sameT_iff t13 t13).2 rfl, encT_eq] at hSm
  rw [cnt13, encT_eq] at hCn
  rw [txt13, encT_eq] at hTx
  rw [leaf15] at hLf
  rw [word4] at hWd
  rw [check5, encT_eq] at hC5
  have hX0 : (l13.map encN)[(0 : Int).toNat]? = some (encN ⟨t13, [1, 2], -1, 1⟩) := rfl
  have hX3 : (l13.map encN)[(3 : Int).toNat]? = some (encN ⟨.mk 7 [] [] 0 0 0, [], 2, 3⟩) := rfl
  have hXl : (l13.map encN).length = 4 := rfl
  rw [encN, cellsN] at hX0 hX3
  generalize l13.map encN = L at *
  refine acalls_enter rfl ingotlaw13_known_ok (Nat.le_of_ble_eq_true rfl) ?_
  (repeat (first | refine st_q rfl rfl rfl ?_ | refine st_gy rfl (st_q rfl rfl rfl ?_) | refine st_ldp rfl hget_head rfl rfl ?_ | refine st_gy rfl (st_ldp rfl hget_head rfl rfl ?_) | refine st_b2s rfl rfl ?_ | refine st_gy rfl (st_b2s rfl rfl ?_) | refine st_gn rfl ?_ | refine st_gu rfl ?_ | (refine st_nil ?_; (repeat (first | refine kp_cons rfl ?_ | refine kp_skip ?_)); refine kp_nil ?_) | refine awp_seq ?_ | refine aw_end (fun _ _ => rfl) ?_ | refine awp_block ?_ | refine aw_skipE (fun _ _ => rfl) ?_ | refine aw_exitE (fun _ _ => rfl) ?_ | refine awp_cond (t := true) rfl (fun _ => ?_) (fun e => by cases e) | refine awp_cond (t := false) rfl (fun e => by cases e) (fun _ => ?_)))
  refine st_alloc (by simp [AVal.cells, AVal.one]) fun b1 hb1 => ?_
  (first | refine st_store rfl hget_head rfl (by decide) (AVal.fit_iff.1 rfl) (fun h => by cases h) hset_head ?_ | refine st_gy rfl (st_store rfl hget_head rfl (by decide) (AVal.fit_iff.1 rfl) (fun h => by cases h) hset_head ?_))
  (refine st_nil ?_; (repeat (first | refine kp_cons rfl ?_ | refine kp_skip ?_)); refine kp_nil ?_)
  refine awp_hshift (HShift.view (ys := [.agg (cellsT t13)]) rfl rfl (by (repeat (first | exact VRle.refl _ | exact vle_nil | refine vle_slc rfl rfl ?_ | refine vle_agg rfl ?_ | refine vle_cons ?_ ?_)))) ?_
  refine awp_freezeP (d := 1) (cs := cellsT t13) rfl ?_
  (repeat (first | refine st_q rfl rfl rfl ?_ | refine st_gy rfl (st_q rfl rfl rfl ?_) | refine st_ldp rfl hget_head rfl rfl ?_ | refine st_gy rfl (st_ldp rfl hget_head rfl rfl ?_) | refine st_b2s rfl rfl ?_ | refine st_gy rfl (st_b2s rfl rfl ?_) | refine st_gn rfl ?_ | refine st_gu rfl ?_ | (refine st_nil ?_; (repeat (first | refine kp_cons rfl ?_ | refine kp_skip ?_)); refine kp_nil ?_) | refine awp_seq ?_ | refine aw_end (fun _ _ => rfl) ?_ | refine awp_block ?_ | refine aw_skipE (fun _ _ => rfl) ?_ | refine aw_exitE (fun _ _ => rfl) ?_ | refine awp_cond (t := true) rfl (fun _ => ?_) (fun e => by cases e) | refine awp_cond (t := false) rfl (fun e => by cases e) (fun _ => ?_)))
  (first | refine st_callv rfl (hFl _) ?_ | refine st_gy rfl (st_callv rfl (hFl _) ?_) | refine st_callp rfl hFl ?_ | refine st_gy rfl (st_callp rfl hFl ?_))
  (repeat (first | refine st_q rfl rfl rfl ?_ | refine st_gy rfl (st_q rfl rfl rfl ?_) | refine st_ldp rfl hget_head rfl rfl ?_ | refine st_gy rfl (st_ldp rfl hget_head rfl rfl ?_) | refine st_b2s rfl rfl ?_ | refine st_gy rfl (st_b2s rfl rfl ?_) | refine st_gn rfl ?_ | refine st_gu rfl ?_ | (refine st_nil ?_; (repeat (first | refine kp_cons rfl ?_ | refine kp_skip ?_)); refine kp_nil ?_) | refine awp_seq ?_ | refine aw_end (fun _ _ => rfl) ?_ | refine awp_block ?_ | refine aw_skipE (fun _ _ => rfl) ?_ | refine aw_exitE (fun _ _ => rfl) ?_ | refine awp_cond (t := true) rfl (fun _ => ?_) (fun e => by cases e) | refine awp_cond (t := false) rfl (fun e => by cases e) (fun _ => ?_)))
  rw [hXl]
  (repeat (first | refine st_q rfl rfl rfl ?_ | refine st_gy rfl (st_q rfl rfl rfl ?_) | refine st_ldp rfl hget_head rfl rfl ?_ | refine st_gy rfl (st_ldp rfl hget_head rfl rfl ?_) | refine st_b2s rfl rfl ?_ | refine st_gy rfl (st_b2s rfl rfl ?_) | refine st_gn rfl ?_ | refine st_gu rfl ?_ | (refine st_nil ?_; (repeat (first | refine kp_cons rfl ?_ | refine kp_skip ?_)); refine kp_nil ?_) | refine awp_seq ?_ | refine aw_end (fun _ _ => rfl) ?_ | refine awp_block ?_ | refine aw_skipE (fun _ _ => rfl) ?_ | refine aw_exitE (fun _ _ => rfl) ?_ | refine awp_cond (t := true) rfl (fun _ => ?_) (fun e => by cases e) | refine awp_cond (t := false) rfl (fun e => by cases e) (fun _ => ?_)))
  (first | refine st_callv rfl ((hB _) _) ?_ | refine st_gy rfl (st_callv rfl ((hB _) _) ?_) | refine st_callp rfl (hB _) ?_ | refine st_gy rfl (st_callp rfl (hB _) ?_))
  (repeat (refine st_q rfl rfl rfl ?_))
  refine st_alloc (by simp [AVal.cells, AVal.one]) fun b3 hb3 => ?_
  (first | refine st_store rfl hget_head rfl (by decide) (AVal.fit_iff.1 rfl) (fun h => by cases h) hset_head ?_ | refine st_gy rfl (st_store rfl hget_head rfl (by decide) (AVal.fit_iff.1 rfl) (fun h => by cases h) hset_head ?_))
  (repeat (refine st_q rfl rfl rfl ?_))
  (refine st_nil ?_; (repeat (first | refine kp_cons rfl ?_ | refine kp_skip ?_)); refine kp_nil ?_)
  refine awp_freezeP (d := 3) (cs := cellsT t13) rfl ?_
  (repeat (first | refine st_q rfl rfl rfl ?_ | refine st_gy rfl (st_q rfl rfl rfl ?_) | refine st_ldp rfl hget_head rfl rfl ?_ | refine st_gy rfl (st_ldp rfl hget_head rfl rfl ?_) | refine st_b2s rfl rfl ?_ | refine st_gy rfl (st_b2s rfl rfl ?_) | refine st_gn rfl ?_ | refine st_gu rfl ?_ | (refine st_nil ?_; (repeat (first | refine kp_cons rfl ?_ | refine kp_skip ?_)); refine kp_nil ?_) | refine awp_seq ?_ | refine aw_end (fun _ _ => rfl) ?_ | refine awp_block ?_ | refine aw_skipE (fun _ _ => rfl) ?_ | refine aw_exitE (fun _ _ => rfl) ?_ | refine awp_cond (t := true) rfl (fun _ => ?_) (fun e => by cases e) | refine awp_cond (t := false) rfl (fun e => by cases e) (fun _ => ?_)))
  (first | refine st_callv rfl ((hC _ _) _) ?_ | refine st_gy rfl (st_callv rfl ((hC _ _) _) ?_) | refine st_callp rfl (hC _ _) ?_ | refine st_gy rfl (st_callp rfl (hC _ _) ?_))
  (repeat (first | refine st_q rfl rfl rfl ?_ | refine st_gy rfl (st_q rfl rfl rfl ?_) | refine st_ldp rfl hget_head rfl rfl ?_ | refine st_gy rfl (st_ldp rfl hget_head rfl rfl ?_) | refine st_b2s rfl rfl ?_ | refine st_gy rfl (st_b2s rfl rfl ?_) | refine st_gn rfl ?_ | refine st_gu rfl ?_ | (refine st_nil ?_; (repeat (first | refine kp_cons rfl ?_ | refine kp_skip ?_)); refine kp_nil ?_) | refine awp_seq ?_ | refine aw_end (fun _ _ => rfl) ?_ | refine awp_block ?_ | refine aw_skipE (fun _ _ => rfl) ?_ | refine aw_exitE (fun _ _ => rfl) ?_ | refine awp_cond (t := true) rfl (fun _ => ?_) (fun e => by cases e) | refine awp_cond (t := false) rfl (fun e => by cases e) (fun _ => ?_)))
  (first | refine st_callv rfl (hCk _) ?_ | refine st_gy rfl (st_callv rfl (hCk _) ?_) | refine st_callp rfl hCk ?_ | refine st_gy rfl (st_callp rfl hCk ?_))
  (repeat (first | refine st_q rfl rfl rfl ?_ | refine st_gy rfl (st_q rfl rfl rfl ?_) | refine st_ldp rfl hget_head rfl rfl ?_ | refine st_gy rfl (st_ldp rfl hget_head rfl rfl ?_) | refine st_b2s rfl rfl ?_ | refine st_gy rfl (st_b2s rfl rfl ?_) | refine st_gn rfl ?_ | refine st_gu rfl ?_ | (refine st_nil ?_; (repeat (first | refine kp_cons rfl ?_ | refine kp_skip ?_)); refine kp_nil ?_) | refine awp_seq ?_ | refine aw_end (fun _ _ => rfl) ?_ | refine awp_block ?_ | refine aw_skipE (fun _ _ => rfl) ?_ | refine aw_exitE (fun _ _ => rfl) ?_ | refine awp_cond (t := true) rfl (fun _ => ?_) (fun e => by cases e) | refine awp_cond (t := false) rfl (fun e => by cases e) (fun _ => ?_)))
  refine st_gy rfl (st_iad rfl (by omega) hX3 ?_)
  (repeat (first | refine st_q rfl rfl rfl ?_ | refine st_gy rfl (st_q rfl rfl rfl ?_) | refine st_ldp rfl hget_head rfl rfl ?_ | refine st_gy rfl (st_ldp rfl hget_head rfl rfl ?_) | refine st_b2s rfl rfl ?_ | refine st_gy rfl (st_b2s rfl rfl ?_) | refine st_gn rfl ?_ | refine st_gu rfl ?_ | (refine st_nil ?_; (repeat (first | refine kp_cons rfl ?_ | refine kp_skip ?_)); refine kp_nil ?_) | refine awp_seq ?_ | refine aw_end (fun _ _ => rfl) ?_ | refine awp_block ?_ | refine aw_skipE (fun _ _ => rfl) ?_ | refine aw_exitE (fun _ _ => rfl) ?_ | refine awp_cond (t := true) rfl (fun _ => ?_) (fun e => by cases e) | refine awp_cond (t := false) rfl (fun e => by cases e) (fun _ => ?_)))
  refine st_gy rfl (st_iad rfl (by omega) hX0 ?_)
  (repeat (first | refine st_q rfl rfl rfl ?_ | refine st_gy rfl (st_q rfl rfl rfl ?_) | refine st_ldp rfl hget_head rfl rfl ?_ | refine st_gy rfl (st_ldp rfl hget_head rfl rfl ?_) | refine st_b2s rfl rfl ?_ | refine st_gy rfl (st_b2s rfl rfl ?_) | refine st_gn rfl ?_ | refine st_gu rfl ?_ | (refine st_nil ?_; (repeat (first | refine kp_cons rfl ?_ | refine kp_skip ?_)); refine kp_nil ?_) | refine awp_seq ?_ | refine aw_end (fun _ _ => rfl) ?_ | refine awp_block ?_ | refine aw_skipE (fun _ _ => rfl) ?_ | refine aw_exitE (fun _ _ => rfl) ?_ | refine awp_cond (t := true) rfl (fun _ => ?_) (fun e => by cases e) | refine awp_cond (t := false) rfl (fun e => by cases e) (fun _ => ?_)))
  (first | refine st_callv rfl (hSm _) ?_ | refine st_gy rfl (st_callv rfl (hSm _) ?_) | refine st_callp rfl hSm ?_ | refine st_gy rfl (st_callp rfl hSm ?_))
  (repeat (first | refine st_q rfl rfl rfl ?_ | refine st_gy rfl (st_q rfl rfl rfl ?_) | refine st_ldp rfl hget_head rfl rfl ?_ | refine st_gy rfl (st_ldp rfl hget_head rfl rfl ?_) | refine st_b2s rfl rfl ?_ | refine st_gy rfl (st_b2s rfl rfl ?_) | refine st_gn rfl ?_ | refine st_gu rfl ?_ | (refine st_nil ?_; (repeat (first | refine kp_cons rfl ?_ | refine kp_skip ?_)); refine kp_nil ?_) | refine awp_seq ?_ | refine aw_end (fun _ _ => rfl) ?_ | refine awp_block ?_ | refine aw_skipE (fun _ _ => rfl) ?_ | refine aw_exitE (fun _ _ => rfl) ?_ | refine awp_cond (t := true) rfl (fun _ => ?_) (fun e => by cases e) | refine awp_cond (t := false) rfl (fun e => by cases e) (fun _ => ?_)))
  (first | refine st_callv rfl (hCn _) ?_ | refine st_gy rfl (st_callv rfl (hCn _) ?_) | refine st_callp rfl hCn ?_ | refine st_gy rfl (st_callp rfl hCn ?_))
  (repeat (first | refine st_q rfl rfl rfl ?_ | refine st_gy rfl (st_q rfl rfl rfl ?_) | refine st_ldp rfl hget_head rfl rfl ?_ | refine st_gy rfl (st_ldp rfl hget_head rfl rfl ?_) | refine st_b2s rfl rfl ?_ | refine st_gy rfl (st_b2s rfl rfl ?_) | refine st_gn rfl ?_ | refine st_gu rfl ?_ | (refine st_nil ?_; (repeat (first | refine kp_cons rfl ?_ | refine kp_skip ?_)); refine kp_nil ?_) | refine awp_seq ?_ | refine aw_end (fun _ _ => rfl) ?_ | refine awp_block ?_ | refine aw_skipE (fun _ _ => rfl) ?_ | refine aw_exitE (fun _ _ => rfl) ?_ | refine awp_cond (t := true) rfl (fun _ => ?_) (fun e => by cases e) | refine awp_cond (t := false) rfl (fun e => by cases e) (fun _ => ?_)))
  (first | refine st_callv rfl (hTx _) ?_ | refine st_gy rfl (st_callv rfl (hTx _) ?_) | refine st_callp rfl hTx ?_ | refine st_gy rfl (st_callp rfl hTx ?_))
  (repeat (first | refine st_q rfl rfl rfl ?_ | refine st_gy rfl (st_q rfl rfl rfl ?_) | refine st_ldp rfl hget_head rfl rfl ?_ | refine st_gy rfl (st_ldp rfl hget_head rfl rfl ?_) | refine st_b2s rfl rfl ?_ | refine st_gy rfl (st_b2s rfl rfl ?_) | refine st_gn rfl ?_ | refine st_gu rfl ?_ | (refine st_nil ?_; (repeat (first | refine kp_cons rfl ?_ | refine kp_skip ?_)); refine kp_nil ?_) | refine awp_seq ?_ | refine aw_end (fun _ _ => rfl) ?_ | refine awp_block ?_ | refine aw_skipE (fun _ _ => rfl) ?_ | refine aw_exitE (fun _ _ => rfl) ?_ | refine awp_cond (t := true) rfl (fun _ => ?_) (fun e => by cases e) | refine awp_cond (t := false) rfl (fun e => by cases e) (fun _ => ?_)))
  (first | refine st_callv rfl (hLf _) ?_ | refine st_gy rfl (st_callv rfl (hLf _) ?_) | refine st_callp rfl hLf ?_ | refine st_gy rfl (st_callp rfl hLf ?_))
  (repeat (first | refine st_q rfl rfl rfl ?_ | refine st_gy rfl (st_q rfl rfl rfl ?_) | refine st_ldp rfl hget_head rfl rfl ?_ | refine st_gy rfl (st_ldp rfl hget_head rfl rfl ?_) | refine st_b2s rfl rfl ?_ | refine st_gy rfl (st_b2s rfl rfl ?_) | refine st_gn rfl ?_ | refine st_gu rfl ?_ | (refine st_nil ?_; (repeat (first | refine kp_cons rfl ?_ | refine kp_skip ?_)); refine kp_nil ?_) | refine awp_seq ?_ | refine aw_end (fun _ _ => rfl) ?_ | refine awp_block ?_ | refine aw_skipE (fun _ _ => rfl) ?_ | refine aw_exitE (fun _ _ => rfl) ?_ | refine awp_cond (t := true) rfl (fun _ => ?_) (fun e => by cases e) | refine awp_cond (t := false) rfl (fun e => by cases e) (fun _ => ?_)))
  (first | refine st_callv rfl (hWd _) ?_ | refine st_gy rfl (st_callv rfl (hWd _) ?_) | refine st_callp rfl hWd ?_ | refine st_gy rfl (st_callp rfl hWd ?_))
  (repeat (first | refine st_q rfl rfl rfl ?_ | refine st_gy rfl (st_q rfl rfl rfl ?_) | refine st_ldp rfl hget_head rfl rfl ?_ | refine st_gy rfl (st_ldp rfl hget_head rfl rfl ?_) | refine st_b2s rfl rfl ?_ | refine st_gy rfl (st_b2s rfl rfl ?_) | refine st_gn rfl ?_ | refine st_gu rfl ?_ | (refine st_nil ?_; (repeat (first | refine kp_cons rfl ?_ | refine kp_skip ?_)); refine kp_nil ?_) | refine awp_seq ?_ | refine aw_end (fun _ _ => rfl) ?_ | refine awp_block ?_ | refine aw_skipE (fun _ _ => rfl) ?_ | refine aw_exitE (fun _ _ => rfl) ?_ | refine awp_cond (t := true) rfl (fun _ => ?_) (fun e => by cases e) | refine awp_cond (t := false) rfl (fun e => by cases e) (fun _ => ?_)))
  refine st_gy rfl (st_callv rfl (ACalls.args (by (repeat (first | exact VRle.refl _ | exact vle_nil | refine vle_slc rfl rfl ?_ | refine vle_agg rfl ?_ | refine vle_cons ?_ ?_))) (hC5 _)) ?_)
  (repeat (first | refine st_q rfl rfl rfl ?_ | refine st_gy rfl (st_q rfl rfl rfl ?_) | refine st_ldp rfl hget_head rfl rfl ?_ | refine st_gy rfl (st_ldp rfl hget_head rfl rfl ?_) | refine st_b2s rfl rfl ?_ | refine st_gy rfl (st_b2s rfl rfl ?_) | refine st_gn rfl ?_ | refine st_gu rfl ?_ | (refine st_nil ?_; (repeat (first | refine kp_cons rfl ?_ | refine kp_skip ?_)); refine kp_nil ?_) | refine awp_seq ?_ | refine aw_end (fun _ _ => rfl) ?_ | refine awp_block ?_ | refine aw_skipE (fun _ _ => rfl) ?_ | refine aw_exitE (fun _ _ => rfl) ?_ | refine awp_cond (t := true) rfl (fun _ => ?_) (fun e => by cases e) | refine awp_cond (t := false) rfl (fun e => by cases e) (fun _ => ?_)))
  refine awp_ret ?_
  exact ares rfl (HSub.refl _) ⟨rfl, rfl⟩
theorem few_cnt : ∀ (t : Ty) (deep : Nat), fewT deep t < 1000 → cnt t = fewT deep t := by
  refine Ty.ind fun k ns ks l p s ih deep h => ?_
  have hL : ∀ (ts : List Ty), (∀ t ∈ ts, ∀ deep, fewT deep t < 1000 → cnt t = fewT deep t) → ∀ deep n, n ≤ 1000 → fewTL deep n ts < 1000 → n + cntL ts = fewTL deep n ts := by
    intro ts
    induction ts with
    | nil => intro _ deep n _ h; rw [fewTL, cntL]; rfl
    | cons t ts ih2 =>
      intro hi deep n hn h
      have hm := fewTL_mem (t :: ts) deep n hn h t (by simp)
      have h1 := hi t (by simp) deep hm.1
      rw [fewTL] at h hm ⊢
      rw [cntL]
      split at h
      · omega
      · rename_i h2
        rw [if_neg h2] at hm ⊢
        rw [← ih2 (fun u hu => hi u (by simp [hu])) deep _ (by omega) h]
        omega
  rw [cnt]
  rw [fewT] at h ⊢
  split at h
  · omega
  · rename_i h1
    rw [if_neg h1]
    split at h
    · omega
    · rename_i h2
      rw [if_neg h2]
      exact hL ks ih _ 1 (by omega) h
theorem sameT_ne {a b : Ty} (h : a ≠ b) : sameT a b = false := Bool.eq_false_iff.2 fun e => h ((sameT_iff a b).1 e)
theorem sameT_self (a : Ty) : sameT a a = true := (sameT_iff a a).2 rfl
end Go.Abs

/- The law of types in one another. -/
namespace Go.Abs
open Go Go.Proofs
set_option linter.unusedVariables false
set_option linter.unusedSimpArgs false
set_option maxHeartbeats 4000000
attribute [local irreducible] AWp aops KP

/-- An int in so many lists. -/
def chT : Nat → Ty
  | 0 => .mk 3 [] [] 0 0 0
  | n + 1 => .mk 10 [] [chT n] 0 0 0
theorem chT_Fit : ∀ n, (chT n).Fit
  | 0 => leaf_Fit 3
  | n + 1 => .mk (by simp [chT, Ty.kids]) (by simp [chT, Ty.names]) (by simp [chT, Ty.names]) fun u hu => by
    simp only [chT, Ty.kids, List.mem_singleton] at hu
    subst hu
    exact chT_Fit n

theorem c_chain (n : Nat) (hn : n ≤ 30) (σ : AHeap) : ACalls Tryd.prog f_ingotlaw13_chain [.int .i64 (n : Nat)] σ fun r σ' => r = encT (chT n) ∧ σ' = σ := by
  rw [encT_eq]
  refine acalls_enter rfl ingotlaw13_chain_ok (Nat.le_of_ble_eq_true rfl) ?_
  (repeat (first | refine st_q rfl rfl rfl ?_ | refine st_gy rfl (st_q rfl rfl rfl ?_) | refine st_ldp rfl hget_head rfl rfl ?_ | refine st_gy rfl (st_ldp rfl hget_head rfl rfl ?_) | refine st_b2s rfl rfl ?_ | refine st_gy rfl (st_b2s rfl rfl ?_) | refine st_gn rfl ?_ | refine st_gu rfl ?_ | (refine st_nil ?_; (repeat (first | refine kp_cons rfl ?_ | refine kp_skip ?_)); refine kp_nil ?_) | refine awp_seq ?_ | refine aw_end (fun _ _ => rfl) ?_ | refine awp_block ?_ | refine aw_skipE (fun _ _ => rfl) ?_ | refine aw_exitE (fun _ _ => rfl) ?_ | refine awp_cond (t := true) rfl (fun _ => ?_) (fun e => by cases e) | refine awp_cond (t := false) rfl (fun e => by cases e) (fun _ => ?_)))
  refine st_alloc (by simp [AVal.cells, AVal.one]) fun b2 hb2 => ?_
  (repeat (first | refine st_q rfl rfl rfl ?_ | refine st_gy rfl (st_q rfl rfl rfl ?_) | refine st_ldp rfl hget_head rfl rfl ?_ | refine st_gy rfl (st_ldp rfl hget_head rfl rfl ?_) | refine st_b2s rfl rfl ?_ | refine st_gy rfl (st_b2s rfl rfl ?_) | refine st_gn rfl ?_ | refine st_gu rfl ?_ | (refine st_nil ?_; (repeat (first | refine kp_cons rfl ?_ | refine kp_skip ?_)); refine kp_nil ?_) | refine awp_seq ?_ | refine aw_end (fun _ _ => rfl) ?_ | refine awp_block ?_ | refine aw_skipE (fun _ _ => rfl) ?_ | refine aw_exitE (fun _ _ => rfl) ?_ | refine awp_cond (t := true) rfl (fun _ => ?_) (fun e => by cases e) | refine awp_cond (t := false) rfl (fun e => by cases e) (fun _ => ?_)))
  refine st_alloc (by simp [AVal.cells, AVal.one]) fun b3 hb3 => ?_
  (first | refine st_store rfl hget_head rfl (by decide) (AVal.fit_iff.1 rfl) (fun h => by cases h) hset_head ?_ | refine st_gy rfl (st_store rfl hget_head rfl (by decide) (AVal.fit_iff.1 rfl) (fun h => by cases h) hset_head ?_))
  (repeat (first | refine st_q rfl rfl rfl ?_ | refine st_gy rfl (st_q rfl rfl rfl ?_) | refine st_ldp rfl hget_head rfl rfl ?_ | refine st_gy rfl (st_ldp rfl hget_head rfl rfl ?_) | refine st_b2s rfl rfl ?_ | refine st_gy rfl (st_b2s rfl rfl ?_) | refine st_gn rfl ?_ | refine st_gu rfl ?_ | (refine st_nil ?_; (repeat (first | refine kp_cons rfl ?_ | refine kp_skip ?_)); refine kp_nil ?_) | refine awp_seq ?_ | refine aw_end (fun _ _ => rfl) ?_ | refine awp_block ?_ | refine aw_skipE (fun _ _ => rfl) ?_ | refine aw_exitE (fun _ _ => rfl) ?_ | refine awp_cond (t := true) rfl (fun _ => ?_) (fun e => by cases e) | refine awp_cond (t := false) rfl (fun e => by cases e) (fun _ => ?_)))
  refine awp_hshift (HShift.view (ys := [.agg (cellsT (chT 0))]) rfl rfl (by (repeat (first | exact VRle.refl _ | exact vle_nil | refine vle_slc rfl rfl ?_ | refine vle_agg rfl ?_ | refine vle_cons ?_ ?_)))) ?_
  refine awp_loopN (fun m F σ' => ∃ j : Nat, F = fset 0 (some (.int .i64 (n : Nat))) (fset 2 (some (.ptr b2 0 0)) (fset 3 (some (.ptr b3 0 0)) (fset 4 (some (.int .i64 (j : Nat))) fnone))) ∧ (b3, ABlk.cells 6 [.agg (cellsT (chT j))]) :: (b2, ABlk.cells 6 [.agg [.int .i64 0, .slc 0 [] true, .slc 0 [] true, .int .i64 0, .int .i64 0, .int .i64 0]]) :: σ = σ' ∧ j ≤ n ∧ m = n - j) (n := n)
    ⟨0, rfl, rfl, by omega, rfl⟩ ?_
  rintro m F σ' ⟨j, rfl, rfl, hj, rfl⟩
  (repeat (first | refine st_q rfl rfl rfl ?_ | refine st_gy rfl (st_q rfl rfl rfl ?_) | refine st_gn rfl ?_ | refine st_gu rfl ?_ | (refine st_nil ?_; (repeat (first | refine kp_cons rfl ?_ | refine kp_skip ?_)); refine kp_nil ?_) | refine awp_seq ?_ | refine aw_end (fun _ _ => rfl) ?_ | refine awp_block ?_ | refine aw_skipE (fun _ _ => rfl) ?_ | refine aw_exitE (fun _ _ => rfl) ?_ | refine awp_cond (t := true) rfl (fun _ => ?_) (fun e => by cases e) | refine awp_cond (t := false) rfl (fun e => by cases e) (fun _ => ?_)))
  refine awp_condp (p := (j : Int) < (n : Nat)) rfl (fun h5 => ?_) (fun h5 => ?_)
  · refine aw_skipE (fun _ _ => rfl) ?_
    refine awp_seq ?_
    refine awp_block ?_
    refine aw_end (fun _ _ => rfl) ?_
    (repeat (first | refine st_q rfl rfl rfl ?_ | refine st_gy rfl (st_q rfl rfl rfl ?_) | refine st_ldp rfl hget_head rfl rfl ?_ | refine st_gy rfl (st_ldp rfl hget_head rfl rfl ?_) | refine st_b2s rfl rfl ?_ | refine st_gy rfl (st_b2s rfl rfl ?_) | refine st_gn rfl ?_ | refine st_gu rfl ?_ | (refine st_nil ?_; (repeat (first | refine kp_cons rfl ?_ | refine kp_skip ?_)); refine kp_nil ?_) | refine awp_seq ?_ | refine aw_end (fun _ _ => rfl) ?_ | refine awp_block ?_ | refine aw_skipE (fun _ _ => rfl) ?_ | refine aw_exitE (fun _ _ => rfl) ?_ | refine awp_cond (t := true) rfl (fun _ => ?_) (fun e => by cases e) | refine awp_cond (t := false) rfl (fun e => by cases e) (fun _ => ?_)))
    (first | refine st_store rfl hget_head rfl (by decide) (AVal.fit_iff.1 rfl) (fun h => by cases h) hset_head ?_ | refine st_gy rfl (st_store rfl hget_head rfl (by decide) (AVal.fit_iff.1 rfl) (fun h => by cases h) hset_head ?_))
    (refine st_nil ?_; (repeat (first | refine kp_cons rfl ?_ | refine kp_skip ?_)); refine kp_nil ?_)
    have hcs : cellsT (chT (j + 1)) = [.int .i64 10, .slc 1 [] false, .slc 6 [.agg (cellsT (chT j))] false, .int .i64 0, .int .i64 0, .int .i64 0] := by rw [← encT_eq]; rfl
    refine awp_hshift (HShift.view (ys := [.agg (cellsT (chT (j + 1)))]) rfl rfl (by rw [hcs]; (repeat (first | exact VRle.refl _ | exact vle_nil | refine vle_slc rfl rfl ?_ | refine vle_agg rfl ?_ | refine vle_cons ?_ ?_)))) ?_
    refine aw_round ?_
    (repeat (refine st_q rfl rfl rfl ?_))
    rw [show IntKind.wrap .i64 ((j : Int) + 1) = ((j + 1 : Nat) : Int) by rw [w64 _ (by omega) (by omega)]; omega]
    (refine st_nil ?_; (repeat (first | refine kp_cons rfl ?_ | refine kp_skip ?_)); refine kp_nil ?_)
    exact ⟨_, n - (j + 1), HSub.refl _, ⟨j + 1, rfl, rfl, by omega, rfl⟩, by omega⟩
  · obtain rfl : j = n := by omega
    refine aw_exitE (fun _ _ => rfl) ?_
    refine awp_freezeP (d := 3) (cs := cellsT (chT j)) rfl ?_
    (repeat (first | refine st_q rfl rfl rfl ?_ | refine st_gy rfl (st_q rfl rfl rfl ?_) | refine st_ldp rfl hget_head rfl rfl ?_ | refine st_gy rfl (st_ldp rfl hget_head rfl rfl ?_) | refine st_b2s rfl rfl ?_ | refine st_gy rfl (st_b2s rfl rfl ?_) | refine st_gn rfl ?_ | refine st_gu rfl ?_ | (refine st_nil ?_; (repeat (first | refine kp_cons rfl ?_ | refine kp_skip ?_)); refine kp_nil ?_) | refine awp_seq ?_ | refine aw_end (fun _ _ => rfl) ?_ | refine awp_block ?_ | refine aw_skipE (fun _ _ => rfl) ?_ | refine aw_exitE (fun _ _ => rfl) ?_ | refine awp_cond (t := true) rfl (fun _ => ?_) (fun e => by cases e) | refine awp_cond (t := false) rfl (fun e => by cases e) (fun _ => ?_)))
    (first | refine st_store rfl hget_head rfl (by decide) (AVal.fit_iff.1 rfl) (fun h => by cases h) hset_head ?_ | refine st_gy rfl (st_store rfl hget_head rfl (by decide) (AVal.fit_iff.1 rfl) (fun h => by cases h) hset_head ?_))
    (refine st_nil ?_; (repeat (first | refine kp_cons rfl ?_ | refine kp_skip ?_)); refine kp_nil ?_)
    refine awp_freezeP (d := 2) (cs := cellsT (chT j)) rfl ?_
    refine awp_ret ?_
    exact ares rfl (HSub.refl _) ⟨rfl, rfl⟩

theorem chT_check : ∀ m, m < 31 → checkF (chT m) = if m < 16 then 0 else 4 := by decide
theorem chT_flat : ∀ m, m < 16 → (flattenF (chT m)).length = m + 1 ∧ ((flattenF (chT m))[m]?).map (fun n => (n.deep, n.parent)) = some (m + 1, (m : Int) - 1) := by decide

theorem c_TypeDepths (n : Int) (σ : AHeap) : ACalls Tryd.prog f_ingotlaw13_TypeDepths [.int .i64 n] σ fun r σ' => r = .bool true ∧ σ' = σ := by
  refine acalls_enter rfl ingotlaw13_TypeDepths_ok (Nat.le_of_ble_eq_true rfl) ?_
  (repeat (first | refine st_q rfl rfl rfl ?_ | refine st_gy rfl (st_q rfl rfl rfl ?_) | refine st_ldp rfl hget_head rfl rfl ?_ | refine st_gy rfl (st_ldp rfl hget_head rfl rfl ?_) | refine st_b2s rfl rfl ?_ | refine st_gy rfl (st_b2s rfl rfl ?_) | refine st_gn rfl ?_ | refine st_gu rfl ?_ | (refine st_nil ?_; (repeat (first | refine kp_cons rfl ?_ | refine kp_skip ?_)); refine kp_nil ?_) | refine awp_seq ?_ | refine aw_end (fun _ _ => rfl) ?_ | refine awp_block ?_ | refine aw_skipE (fun _ _ => rfl) ?_ | refine aw_exitE (fun _ _ => rfl) ?_ | refine awp_cond (t := true) rfl (fun _ => ?_) (fun e => by cases e) | refine awp_cond (t := false) rfl (fun e => by cases e) (fun _ => ?_)))
  (first | refine st_callv rfl (c_known13 _) ?_ | refine st_gy rfl (st_callv rfl (c_known13 _) ?_) | refine st_callp rfl c_known13 ?_ | refine st_gy rfl (st_callp rfl c_known13 ?_))
  (repeat (first | refine st_q rfl rfl rfl ?_ | refine st_gy rfl (st_q rfl rfl rfl ?_) | refine st_gn rfl ?_ | refine st_gu rfl ?_))
  (refine st_nil ?_; (repeat (first | refine kp_cons rfl ?_ | refine kp_skip ?_)); refine kp_nil ?_)
  (refine awp_cond (t := false) rfl (fun e => by cases e) (fun _ => ?_); refine aw_skipE (fun _ _ => rfl) ?_)
  refine awp_seq ?_
  refine awp_seq ?_
  refine aw_end (fun _ _ => rfl) ?_
  (repeat (first | refine st_q rfl rfl rfl ?_ | refine st_gy rfl (st_q rfl rfl rfl ?_) | refine st_gn rfl ?_ | refine st_gu rfl ?_))
  by_cases h1 : n < 0
  · (rw [show decide (n < 0) = true from decide_eq_true (by omega)])
    (repeat (first | refine st_q rfl rfl rfl ?_ | refine st_gy rfl (st_q rfl rfl rfl ?_) | refine st_ldp rfl hget_head rfl rfl ?_ | refine st_gy rfl (st_ldp rfl hget_head rfl rfl ?_) | refine st_b2s rfl rfl ?_ | refine st_gy rfl (st_b2s rfl rfl ?_) | refine st_gn rfl ?_ | refine st_gu rfl ?_ | (refine st_nil ?_; (repeat (first | refine kp_cons rfl ?_ | refine kp_skip ?_)); refine kp_nil ?_) | refine awp_seq ?_ | refine aw_end (fun _ _ => rfl) ?_ | refine awp_block ?_ | refine aw_skipE (fun _ _ => rfl) ?_ | refine aw_exitE (fun _ _ => rfl) ?_ | refine awp_cond (t := true) rfl (fun _ => ?_) (fun e => by cases e) | refine awp_cond (t := false) rfl (fun e => by cases e) (fun _ => ?_)))
    (refine awp_ret ?_; exact ares rfl (HSub.refl _) ⟨rfl, rfl⟩)
  (rw [show decide (n < 0) = false from decide_eq_false (by omega)])
  (repeat (first | refine st_q rfl rfl rfl ?_ | refine st_gy rfl (st_q rfl rfl rfl ?_) | refine st_gn rfl ?_ | refine st_gu rfl ?_))
  by_cases h2 : 30 < n
  · (rw [show decide (30 < n) = true from decide_eq_true (by omega)])
    (repeat (first | refine st_q rfl rfl rfl ?_ | refine st_gy rfl (st_q rfl rfl rfl ?_) | refine st_ldp rfl hget_head rfl rfl ?_ | refine st_gy rfl (st_ldp rfl hget_head rfl rfl ?_) | refine st_b2s rfl rfl ?_ | refine st_gy rfl (st_b2s rfl rfl ?_) | refine st_gn rfl ?_ | refine st_gu rfl ?_ | (refine st_nil ?_; (repeat (first | refine kp_cons rfl ?_ | refine kp_skip ?_)); refine kp_nil ?_) | refine awp_seq ?_ | refine aw_end (fun _ _ => rfl) ?_ | refine awp_block ?_ | refine aw_skipE (fun _ _ => rfl) ?_ | refine aw_exitE (fun _ _ => rfl) ?_ | refine awp_cond (t := true) rfl (fun _ => ?_) (fun e => by cases e) | refine awp_cond (t := false) rfl (fun e => by cases e) (fun _ => ?_)))
    (refine awp_ret ?_; exact ares rfl (HSub.refl _) ⟨rfl, rfl⟩)
  (rw [show decide (30 < n) = false from decide_eq_false (by omega)])
  obtain ⟨m, rfl⟩ : ∃ m : Nat, n = (m : Int) := ⟨n.toNat, by omega⟩
  have hm : m ≤ 30 := by omega
  have hCh := c_chain m hm
  have hCk := c_Check (chT m) (chT_Fit m)
  have hFl := c_Flatten (chT m) (chT_Fit m)
  rw [chT_check m (by omega)] at hCk
  have hfl := chT_flat m
  have hfn : 16 ≤ m → flattenF (chT m) = [] := fun h => by rw [flattenF, if_neg]; rw [chT_check m (by omega), if_neg (by omega)]; decide
  rw [encT_eq] at hCh hCk hFl
  generalize flattenF (chT m) = L at *
  have hl8 : (L.map encN).length = L.length := List.length_map ..
  (repeat (first | refine st_q rfl rfl rfl ?_ | refine st_gy rfl (st_q rfl rfl rfl ?_) | refine st_ldp rfl hget_head rfl rfl ?_ | refine st_gy rfl (st_ldp rfl hget_head rfl rfl ?_) | refine st_b2s rfl rfl ?_ | refine st_gy rfl (st_b2s rfl rfl ?_) | refine st_gn rfl ?_ | refine st_gu rfl ?_ | (refine st_nil ?_; (repeat (first | refine kp_cons rfl ?_ | refine kp_skip ?_)); refine kp_nil ?_) | refine awp_seq ?_ | refine aw_end (fun _ _ => rfl) ?_ | refine awp_block ?_ | refine aw_skipE (fun _ _ => rfl) ?_ | refine aw_exitE (fun _ _ => rfl) ?_ | refine awp_cond (t := true) rfl (fun _ => ?_) (fun e => by cases e) | refine awp_cond (t := false) rfl (fun e => by cases e) (fun _ => ?_)))
  (first | refine st_callv rfl (hCh _) ?_ | refine st_gy rfl (st_callv rfl (hCh _) ?_) | refine st_callp rfl hCh ?_ | refine st_gy rfl (st_callp rfl hCh ?_))
  (repeat (refine st_q rfl rfl rfl ?_))
  refine st_alloc (by simp [AVal.cells, AVal.one]) fun b3 hb3 => ?_
  (first | refine st_store rfl hget_head rfl (by decide) (AVal.fit_iff.1 rfl) (fun h => by cases h) hset_head ?_ | refine st_gy rfl (st_store rfl hget_head rfl (by decide) (AVal.fit_iff.1 rfl) (fun h => by cases h) hset_head ?_))
  (refine st_nil ?_; (repeat (first | refine kp_cons rfl ?_ | refine kp_skip ?_)); refine kp_nil ?_)
  refine awp_freezeP (d := 3) (cs := cellsT (chT m)) rfl ?_
  (repeat (first | refine st_q rfl rfl rfl ?_ | refine st_gy rfl (st_q rfl rfl rfl ?_) | refine st_ldp rfl hget_head rfl rfl ?_ | refine st_gy rfl (st_ldp rfl hget_head rfl rfl ?_) | refine st_b2s rfl rfl ?_ | refine st_gy rfl (st_b2s rfl rfl ?_) | refine st_gn rfl ?_ | refine st_gu rfl ?_ | (refine st_nil ?_; (repeat (first | refine kp_cons rfl ?_ | refine kp_skip ?_)); refine kp_nil ?_) | refine awp_seq ?_ | refine aw_end (fun _ _ => rfl) ?_ | refine awp_block ?_ | refine aw_skipE (fun _ _ => rfl) ?_ | refine aw_exitE (fun _ _ => rfl) ?_ | refine awp_cond (t := true) rfl (fun _ => ?_) (fun e => by cases e) | refine awp_cond (t := false) rfl (fun e => by cases e) (fun _ => ?_)))
  (first | refine st_callv rfl (hCk _) ?_ | refine st_gy rfl (st_callv rfl (hCk _) ?_) | refine st_callp rfl hCk ?_ | refine st_gy rfl (st_callp rfl hCk ?_))
  (repeat (first | refine st_q rfl rfl rfl ?_ | refine st_gy rfl (st_q rfl rfl rfl ?_) | refine st_ldp rfl hget_head rfl rfl ?_ | refine st_gy rfl (st_ldp rfl hget_head rfl rfl ?_) | refine st_b2s rfl rfl ?_ | refine st_gy rfl (st_b2s rfl rfl ?_) | refine st_gn rfl ?_ | refine st_gu rfl ?_ | (refine st_nil ?_; (repeat (first | refine kp_cons rfl ?_ | refine kp_skip ?_)); refine kp_nil ?_) | refine awp_seq ?_ | refine aw_end (fun _ _ => rfl) ?_ | refine awp_block ?_ | refine aw_skipE (fun _ _ => rfl) ?_ | refine aw_exitE (fun _ _ => rfl) ?_ | refine awp_cond (t := true) rfl (fun _ => ?_) (fun e => by cases e) | refine awp_cond (t := false) rfl (fun e => by cases e) (fun _ => ?_)))
  (first | refine st_callv rfl (hFl _) ?_ | refine st_gy rfl (st_callv rfl (hFl _) ?_) | refine st_callp rfl hFl ?_ | refine st_gy rfl (st_callp rfl hFl ?_))
  (repeat (first | refine st_q rfl rfl rfl ?_ | refine st_gy rfl (st_q rfl rfl rfl ?_) | refine st_ldp rfl hget_head rfl rfl ?_ | refine st_gy rfl (st_ldp rfl hget_head rfl rfl ?_) | refine st_b2s rfl rfl ?_ | refine st_gy rfl (st_b2s rfl rfl ?_) | refine st_gn rfl ?_ | refine st_gu rfl ?_ | (refine st_nil ?_; (repeat (first | refine kp_cons rfl ?_ | refine kp_skip ?_)); refine kp_nil ?_) | refine awp_seq ?_ | refine aw_end (fun _ _ => rfl) ?_ | refine awp_block ?_ | refine aw_skipE (fun _ _ => rfl) ?_ | refine aw_exitE (fun _ _ => rfl) ?_ | refine awp_cond (t := true) rfl (fun _ => ?_) (fun e => by cases e) | refine awp_cond (t := false) rfl (fun e => by cases e) (fun _ => ?_)))
  rw [show IntKind.wrap .i64 ((m : Int) + 1) = ((m + 1 : Nat) : Int) by rw [w64 _ (by omega) (by omega)]; omega]
  by_cases h3 : m < 16
  · (rw [show decide ((16 : Int) < ((m + 1 : Nat) : Int)) = false from decide_eq_false (by omega)])
    rw [if_pos h3]
    obtain ⟨hlen, hnd⟩ := hfl h3
    obtain ⟨nd, hg, he⟩ := Option.map_eq_some_iff.1 hnd
    have hx : (L.map encN)[((m : Nat) : Int).toNat]? = some (encN nd) := by rw [Int.toNat_natCast, List.getElem?_map, hg]; rfl
    obtain ⟨tn, kn, pn, dn⟩ := nd
    simp only [Prod.mk.injEq] at he
    obtain ⟨rfl, rfl⟩ := he
    rw [encN, cellsN] at hx
    (repeat (first | refine st_q rfl rfl rfl ?_ | refine st_gy rfl (st_q rfl rfl rfl ?_) | refine st_gn rfl ?_ | refine st_gu rfl ?_ | (refine st_nil ?_; (repeat (first | refine kp_cons rfl ?_ | refine kp_skip ?_)); refine kp_nil ?_) | refine awp_seq ?_ | refine aw_end (fun _ _ => rfl) ?_ | refine awp_block ?_ | refine aw_skipE (fun _ _ => rfl) ?_ | refine aw_exitE (fun _ _ => rfl) ?_ | refine awp_cond (t := true) rfl (fun _ => ?_) (fun e => by cases e) | refine awp_cond (t := false) rfl (fun e => by cases e) (fun _ => ?_)))
    rw [hl8, hlen]
    rw [show IntKind.wrap .i64 ((m : Int) + 1) = ((m + 1 : Nat) : Int) by rw [w64 _ (by omega) (by omega)]; omega]
    (rw [show decide (((m + 1 : Nat) : Int) = ((m + 1 : Nat) : Int)) = true from decide_eq_true (by omega)])
    (repeat (first | refine st_q rfl rfl rfl ?_ | refine st_gy rfl (st_q rfl rfl rfl ?_) | refine st_gn rfl ?_ | refine st_gu rfl ?_))
    refine st_gy rfl (st_iad rfl (by omega) hx ?_)
    (repeat (first | refine st_q rfl rfl rfl ?_ | refine st_gy rfl (st_q rfl rfl rfl ?_) | refine st_gn rfl ?_ | refine st_gu rfl ?_))
    rw [show IntKind.wrap .i64 ((m : Int) + 1) = ((m + 1 : Nat) : Int) by rw [w64 _ (by omega) (by omega)]; omega]
    (rw [show decide (((m + 1 : Nat) : Int) = ((m + 1 : Nat) : Int)) = true from decide_eq_true (by omega)])
    (repeat (first | refine st_q rfl rfl rfl ?_ | refine st_gy rfl (st_q rfl rfl rfl ?_) | refine st_gn rfl ?_ | refine st_gu rfl ?_))
    refine st_gy rfl (st_iad rfl (by omega) hx ?_)
    (repeat (first | refine st_q rfl rfl rfl ?_ | refine st_gy rfl (st_q rfl rfl rfl ?_) | refine st_gn rfl ?_ | refine st_gu rfl ?_))
    rw [show IntKind.wrap .i64 ((m : Int) - 1) = (m : Int) - 1 by rw [w64 _ (by omega) (by omega)]]
    (rw [show decide (((m : Int) - 1) = ((m : Int) - 1)) = true from decide_eq_true (by omega)])
    (repeat (first | refine st_q rfl rfl rfl ?_ | refine st_gy rfl (st_q rfl rfl rfl ?_) | refine st_ldp rfl hget_head rfl rfl ?_ | refine st_gy rfl (st_ldp rfl hget_head rfl rfl ?_) | refine st_b2s rfl rfl ?_ | refine st_gy rfl (st_b2s rfl rfl ?_) | refine st_gn rfl ?_ | refine st_gu rfl ?_ | (refine st_nil ?_; (repeat (first | refine kp_cons rfl ?_ | refine kp_skip ?_)); refine kp_nil ?_) | refine awp_seq ?_ | refine aw_end (fun _ _ => rfl) ?_ | refine awp_block ?_ | refine aw_skipE (fun _ _ => rfl) ?_ | refine aw_exitE (fun _ _ => rfl) ?_ | refine awp_cond (t := true) rfl (fun _ => ?_) (fun e => by cases e) | refine awp_cond (t := false) rfl (fun e => by cases e) (fun _ => ?_)))
    (refine awp_ret ?_; exact ares rfl (HSub.refl _) ⟨rfl, rfl⟩)
  · (rw [show decide ((16 : Int) < ((m + 1 : Nat) : Int)) = true from decide_eq_true (by omega)])
    rw [if_neg h3]
    have hlen : L.length = 0 := by rw [hfn (by omega)]; rfl
    (repeat (first | refine st_q rfl rfl rfl ?_ | refine st_gy rfl (st_q rfl rfl rfl ?_) | refine st_gn rfl ?_ | refine st_gu rfl ?_ | (refine st_nil ?_; (repeat (first | refine kp_cons rfl ?_ | refine kp_skip ?_)); refine kp_nil ?_) | refine awp_seq ?_ | refine aw_end (fun _ _ => rfl) ?_ | refine awp_block ?_ | refine aw_skipE (fun _ _ => rfl) ?_ | refine aw_exitE (fun _ _ => rfl) ?_ | refine awp_cond (t := true) rfl (fun _ => ?_) (fun e => by cases e) | refine awp_cond (t := false) rfl (fun e => by cases e) (fun _ => ?_)))
    rw [hl8, hlen]
    (repeat (first | refine st_q rfl rfl rfl ?_ | refine st_gy rfl (st_q rfl rfl rfl ?_) | refine st_ldp rfl hget_head rfl rfl ?_ | refine st_gy rfl (st_ldp rfl hget_head rfl rfl ?_) | refine st_b2s rfl rfl ?_ | refine st_gy rfl (st_b2s rfl rfl ?_) | refine st_gn rfl ?_ | refine st_gu rfl ?_ | (refine st_nil ?_; (repeat (first | refine kp_cons rfl ?_ | refine kp_skip ?_)); refine kp_nil ?_) | refine awp_seq ?_ | refine aw_end (fun _ _ => rfl) ?_ | refine awp_block ?_ | refine aw_skipE (fun _ _ => rfl) ?_ | refine aw_exitE (fun _ _ => rfl) ?_ | refine awp_cond (t := true) rfl (fun _ => ?_) (fun e => by cases e) | refine awp_cond (t := false) rfl (fun e => by cases e) (fun _ => ?_)))
    (refine awp_ret ?_; exact ares rfl (HSub.refl _) ⟨rfl, rfl⟩)
end Go.Abs

/- What the rows' list gives the walks; the world of the witnesses. -/
namespace Go.Proofs.YtgmefkhincnajaaDoor.laidT
open Go Go.Proofs Go.Abs
open Go.ChangeShapes Go.WideShapes Go.ChangeAt Go.RowKit
theorem tabIs_reads {P : Program} {W : World} {name : String} {k : IntKind} {zs : List Int} {t e : TypeId} {n g : Nat} (h : Lib.VarReads P W name (Lib.tabData k zs)) (hg : P.globalNamed name = some g) (hty : (P.globals[g]?).map (·.type) = some t) (ht : P.underlying t = some (.array n e)) (he : P.underlying e = some (.int k)) (hce : P.cellsOf e = 1) (hct : P.cellsOf t = n) : Lib.TabIs P W name k zs := by
  obtain ⟨g', t', cs, fuel, p, hg', ht', hvar, hd⟩ := h
  obtain rfl := Option.some.inj (hg.symm.trans hg')
  obtain rfl := Option.some.inj (hty.symm.trans ht')
  unfold Lib.TabIs
  rw [hvar, ← Lib.cells_of_tab ht he hce hct hd]
theorem e1 : (Rows.laid_internal_strconv_uint64pow10 : DataW Unit) = Lib.tabData .u64 Lib.pow10Tab := by kernel_rfl
theorem e2 : (Rows.laid_strings_asciiSpace : DataW Unit) = Lib.tabData .u8 Lib.asciiSpaceTab := by kernel_rfl
theorem tabW {W : World} (h : laidMetH Tryd.prog Rows.typeTwoRow.laid W) : TabW W := by
  rw [MakeChecks.laidMetH_plain _ _ _ (by kernel_rfl)] at h
  have h1 := Lib.laidMet.reads h (n := "internal/strconv.uint64pow10") (d := Rows.laid_internal_strconv_uint64pow10) (.tail _ (.tail _ (.head _)))
  have h2 := Lib.laidMet.reads h (n := "strings.asciiSpace") (d := Rows.laid_strings_asciiSpace) (.tail _ (.tail _ (.tail _ (.tail _ (.head _)))))
  rw [e1] at h1
  rw [e2] at h2
  exact ⟨tabIs_reads (t := 109) (e := 85) (n := 20) (g := 2) h1 (by kernel_rfl) (by kernel_rfl) (by kernel_rfl) (by kernel_rfl) (by kernel_rfl) (by kernel_rfl),
    tabIs_reads (t := 89) (e := 5) (n := 256) (g := 0) h2 (by kernel_rfl) (by kernel_rfl) (by kernel_rfl) (by kernel_rfl) (by kernel_rfl) (by kernel_rfl)⟩
/-- The door's own heap meets the rows' condition. -/
theorem door_met (os : Os) (args : Array Value) : laidMetH Tryd.prog Rows.typeTwoRow.laid ((World.doorLaid Tryd.prog 48 os).forCall (fun _ _ => 0) ⟨#[], args, []⟩).memory :=
  laidMetH_of_parts3 (fuel := 8) (laidMet_of_run' 8 (by kernel_rfl) (by kernel_rfl)) (by kernel_rfl) (by kernel_rfl)
theorem own : ownKnob Tryd.prog.godebug = none := by kernel_rfl
theorem laidOut : laidOutB Tryd.prog = true := by kernel_rfl
end Go.Proofs.YtgmefkhincnajaaDoor.laidT

/- A law's arguments, opened: trees of types. -/
namespace Go.Abs
open Go Go.Proofs
set_option linter.unusedVariables false
set_option linter.unusedSimpArgs false

theorem cells25 : Tryd.prog.cellsOf 25 = 6 := by kernel_rfl
theorem cells9 : Tryd.prog.cellsOf 9 = 1 := by kernel_rfl

theorem ex_map {α : Type} {f : α → AVal} {p : α → Prop} : ∀ {xs : List AVal}, (∀ x ∈ xs, ∃ a, x = f a ∧ p a) → ∃ l : List α, xs = l.map f ∧ ∀ a ∈ l, p a := fun h => map_ex h

/-- A tree of types. -/
theorem has_ty {t : TypeId} {a : AVal} (h : Has Tryd.prog t a) : (t = 25 → ∃ ty : Ty, a = encT ty) ∧ (t = 23 → ∃ ks : List Ty, a = .slc 6 (encTs ks) false) := by
  induction h with
  | bool h => exact ⟨fun e => (by subst e; rw [Tryd.underlying25] at h; cases h), fun e => (by subst e; rw [Tryd.underlying23] at h; cases h)⟩
  | int h _ => exact ⟨fun e => (by subst e; rw [Tryd.underlying25] at h; cases h), fun e => (by subst e; rw [Tryd.underlying23] at h; cases h)⟩
  | str h _ => exact ⟨fun e => (by subst e; rw [Tryd.underlying25] at h; cases h), fun e => (by subst e; rw [Tryd.underlying23] at h; cases h)⟩
  | @slc t e xs h hl hx ih =>
    refine ⟨fun e => (by subst e; rw [Tryd.underlying25] at h; cases h), fun e => ?_⟩
    subst e
    rw [Tryd.underlying23] at h
    simp only [Option.some.injEq, TypeDesc.slice.injEq] at h
    subst h
    obtain ⟨ks, rfl, _⟩ := ex_map (f := encT) (p := fun _ => True) (fun x hm => by
      obtain ⟨ty, e⟩ := (ih x hm).1 rfl
      exact ⟨ty, e, trivial⟩)
    exact ⟨ks, by rw [cells25, encTs_eq]⟩
  | @agg t fs ys h hn hy ih =>
    refine ⟨fun e => ?_, fun e => (by subst e; rw [Tryd.underlying23] at h; cases h)⟩
    subst e
    rw [Tryd.underlying25] at h
    simp only [Option.some.injEq, TypeDesc.struct.injEq] at h
    subst h
    match ys, hn with
    | [y0, y1, y2, y3, y4, y5], _ =>
    obtain ⟨k, rfl, _⟩ := (hy 0 _ y0 rfl rfl).int_inv Tryd.underlying3
    obtain ⟨xs, rfl, _, hx⟩ := (hy 1 _ y1 rfl rfl).slc_inv Tryd.underlying22
    obtain ⟨ks, rfl⟩ := (ih 2 _ y2 rfl rfl).2 rfl
    obtain ⟨l, rfl, _⟩ := (hy 3 _ y3 rfl rfl).int_inv Tryd.underlying3
    obtain ⟨p, rfl, _⟩ := (hy 4 _ y4 rfl rfl).int_inv Tryd.underlying3
    obtain ⟨s, rfl, _⟩ := (hy 5 _ y5 rfl rfl).int_inv Tryd.underlying3
    obtain ⟨ns, rfl, _⟩ := ex_map (f := AVal.str) (p := fun _ => True) (fun x hm => by
      obtain ⟨s, e, _⟩ := (hx x hm).str_inv Tryd.underlying9
      exact ⟨s, e, trivial⟩)
    refine ⟨.mk k ns ks l p s, ?_⟩
    rw [cells9, encT_eq]
    rfl

end Go.Abs

/- 'Rows.TypeDepthsCardSaid': whatever the input, the law returns true and leaves what it was given as9 it was; the listed tables are tied to the program's text. -/
namespace Go.Abs
open Go Go.Proofs
theorem h_TypeDepths (zs : List AVal) (h : HasL Tryd.prog [3] zs) : ACalls Tryd.prog f_ingotlaw13_TypeDepths zs [] fun r _ => r = .bool true := by
  obtain ⟨a0, l, rfl, h0, h⟩ := h.cons_inv
  obtain rfl := h.nil_inv
  obtain ⟨n, rfl, _⟩ := h0.int_inv Tryd.underlying3
  exact (c_TypeDepths n []).mono fun r σ' h => h.1
end Go.Abs
namespace Go.Proofs.YtgmefkhincnajaaDoor.typeDepths
open Go Go.Proofs
open Go.ChangeShapes Go.WideShapes Go.ChangeAt Go.RowKit
set_option linter.unusedVariables false

theorem plain : Abs.plainS Tryd.prog [3] = true := by kernel_rfl
theorem readable : ∀ t ∈ [3], Tryd.prog.readableRec t = true ∧ t < Tryd.prog.types.size := by
  intro t ht
  simp only [List.mem_cons, List.not_mem_nil, or_false] at ht
  subst ht; exact ⟨by kernel_rfl, of_decide_eq_true (by kernel_rfl)⟩

set_option maxRecDepth 100000 in
theorem lifted (os : Os) (started : os.Started) (H : Type) (enc : TypeId × Value → H) :
    ReturnsInHanded {} Tryd.checked os 6 .any (fun w args => (Rows.typeDepthsSpec.pre enc Tryd.prog Tryd.f6 [] false w args ∧ laidMetH Tryd.prog Rows.typeDepthsRow.laid w) ∧ sizedMet enc Tryd.prog Tryd.f6 (OpenSpec.ofChange Rows.typeDepthsSpec) false w args)
      (Rows.typeDepthsSpec.post enc Tryd.prog Tryd.f6 false true false false) := by
  refine returnsInHanded_of_change_and (C := Tryd.checked) (X := fun w _ => laidMetH Tryd.prog Rows.typeDepthsRow.laid w) (fun _ _ _ hh h => h.of_heap hh) laidT.own started (by kernel_rfl) Tryd.func6
    (ChangeSpec.witness_shaped (enc := enc) (C := Tryd.checked) (os := os) (X := fun w _ => laidMetH Tryd.prog Rows.typeDepthsRow.laid w) false (World.doorLaid Tryd.prog 48 os) #[.int .i64 0] 8 rfl (World.shaped_of_RefB (by kernel_rfl) (by kernel_rfl)) (by kernel_rfl) (by kernel_rfl) (by kernel_rfl) (laidT.door_met os _)) ?_
  intro W base args ds gs before hval0 hW _ _ hL _
  have hW' := hW
  obtain ⟨p, q, hA0, hV, rfl, hfz, hnd⟩ := hW
  have hA : DataW.TrodAll enc Tryd.prog W 0 (fun _ => true) true Tryd.f6.params.toList args.toList ds p := hA0
  have hval : ∀ (j : Nat) t v, Tryd.f6.params[j]? = some t → args[j]? = some v → Value.okWide Tryd.prog W .any base t v := hval0
  rw [Tryd.params6] at hA hval
  obtain ⟨rfl, rfl⟩ := trodVars_none hV
  obtain ⟨zs, has, hvr⟩ := Abs.opened_all (hT := laidT.tabW hL) plain [3] args.toList ds p (by decide) (fun j t v e1 e2 => hval j t v (by simpa using e1) (by simpa using e2)) hA
  refine ((Abs.calls_of (Abs.h_TypeDepths zs has) hvr : Calls Tryd.prog 6 args.toList.toArray W _)).mono fun e W' ⟨he, bel⟩ => ?_
  subst he
  obtain ⟨d0, rfl⟩ : ∃ d0, ds = [d0] := by
    cases args with
    | mk l =>
      have := Abs.trodAll_len hA
      match ds, this with
      | [d0], _ => exact ⟨d0, rfl⟩
  exact ⟨_, rfl, _, _, _, [], _, [], hW', trodAll_mk1 (shut_bool Tryd.underlying4 _), Abs.stays_all laidT.laidOut bel [3] args.toList _ p readable hA, rfl, bel.frame _, fun h => by cases h⟩

theorem over : Rows.typeDepthsRow.holds Tryd.pinned (OpenSpec.ofChange Rows.typeDepthsSpec) :=
  OpenClaim.holds_of_wide 6 Tryd.f6 rfl rfl rfl rfl rfl rfl rfl ⟨rfl, rfl, rfl, rfl, rfl⟩ rfl rfl rfl rfl rfl (by kernel_rfl) Tryd.func6 (by kernel_rfl)
    (of_decide_eq_true (by kernel_rfl)) (by unfold Func.isWrapper; first | (rw [if_pos (by decide +kernel)]; kernel_rfl) | (rw [if_neg (by decide +kernel)]; exact ⟨rfl, rfl⟩))
    (fun os started H enc _ => lifted os started H enc)
theorem looksOff (f : FuncId) (fn : Func) (hf : Tryd.pinned.checked.prog.funcNamed "ingot/ingotlaw13.TypeDepths" = some f) (hfn : Tryd.pinned.checked.prog.funcs[f]? = some fn) :
    false = Tryd.pinned.checked.prog.looks [] ∧ ∀ (j : Nat) t, fn.params[j]? = some t → Tryd.pinned.checked.prog.wantsStandIn t = false := by
  obtain rfl : f = 6 := Option.some.inj ((show Tryd.prog.funcNamed "ingot/ingotlaw13.TypeDepths" = some 6 by kernel_rfl).symm.trans hf) |>.symm
  obtain rfl : fn = Tryd.f6 := (Option.some.inj (Tryd.func6.symm.trans hfn)).symm
  refine ⟨by kernel_rfl, fun j t ht => ?_⟩
  rw [Tryd.params6] at ht
  have hm : t ∈ [3] := by simpa using Array.mem_of_getElem? ht
  have hall : ([3].all fun u => !Tryd.prog.wantsStandIn u) = true := by kernel_rfl
  exact (show Tryd.prog.wantsStandIn t = false by simpa using List.all_eq_true.1 hall t hm)

/-- The statement. -/
theorem proved : Rows.TypeDepthsCardSaid :=
  Claim7.holds_tied_plain_at .later [] _ _ _ _ over (fun _ h => by cases h) (by kernel_rfl) (fun _ h => by cases h) typeDepths_row_tie rfl ⟨rfl, rfl⟩ (by kernel_rfl) rfl looksOff (by kernel_rfl)
#print axioms proved
end Go.Proofs.YtgmefkhincnajaaDoor.typeDepths
