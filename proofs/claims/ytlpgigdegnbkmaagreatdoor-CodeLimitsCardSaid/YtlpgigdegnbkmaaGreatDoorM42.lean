import Derived.Test.YtlpgigdegnbkmaaGreatDoorM41
import Derived.Test.YtlpgigdegnbkmaaGreatDoorM08
import Derived.Test.YtlpgigdegnbkmaaGreatDoorM04
namespace Tab
theorem cnt_many (f : Nat) (k : NodeD) (n : Nat) : cntN (f + 1) (manyT k n) = 1 + n * cntN f k := by
 rw [cntN, manyT]
 show 1 + ((List.replicate n k).map (cntN f)).sum = _
 rw [List.map_replicate, List.sum_replicate_nat]
theorem comp_args (n : Nat) (h1 : 1 ≤ n) (h2 : n ≤ 190) : compileD (manyT leafT n) = some (rowC (List.replicate n { op := 3 } ++ [{ op := 11, s := [77, 65, 88], a := n }]) [[]]) := by
 unfold compileD
 rw [right_argsT n h2, code_args, right_args n h1 h2]; rfl
theorem comp_funs (n : Nat) (h : n ≤ 19) : compileD (manyT funT n) = some (putC (laidC n) 0 { op := 11, s := [77, 65, 88], a := n }) := by
 unfold compileD
 rw [right_funsT n (by omega), code_funs, right_funs n h]; rfl
theorem comp_wrong (n : Nat) (h : 19 < n) (h2 : n ≤ 30) : compileD (manyT funT n) = none ∧ errOf (manyT funT n) = 60 := by
 unfold compileD errOf
 rw [right_funsT n h2, code_funs, wrong_funs n h]; exact ⟨rfl, rfl⟩
theorem rep_snoc {α : Type} (n : Nat) (l : List α) : (List.replicate (n + 1) l).flatten = (List.replicate n l).flatten ++ l := by
 rw [List.replicate_succ', List.flatten_append]; simp
end Tab
namespace Go.Proofs.YtlpgigdegnbkmaaGreatDoor
open Go.RowKit Tab
set_option maxHeartbeats 400000 in
theorem pick6_any (c n : Int) (w : World) (h0 : -9223372036854775808 ≤ c) (h1 : c ≤ 9223372036854775807) (hn : 1 ≤ n) (hn1 : n ≤ 1000000) : Calls Tryz.prog 20 #[.int .i64 c, .int .i64 n] w (Still (.int .i64 (pickI c n)) w) := by
 by_cases hc : c < 0
 ·go_enter Tryz.func20, Tryz.ntmps20
  go_wp2
  go_ret
  exact Still.mk' (congrArg _ (pick_neg c n hc))
 ·go_enter Tryz.func20, Tryz.ntmps20
  go_wp2
  go_ret
  exact Still.mk' (congrArg _ (pick_pos c n (by omega)))
theorem many_sm (k : NodeD) (n : Nat) (h : n ≤ 1000) : NodeSm (manyT k n) :=
 ⟨(by decide : (-9000000000000000000 : Int) ≤ 0 ∧ (0 : Int) ≤ 9000000000000000000), (by decide : ([77, 65, 88] : Bs).length ≤ 1000), by show (List.replicate n k).length ≤ 1000; simp; omega, (by decide : (0 : Int) ≤ 9223372036854775807), zero_two⟩
/-- functions' cells, each with a row of its own. -/
def FunRows (W : World) (B : Nat) (v : Value) (css : List (List Value)) : Prop := ∀ (i : Nat) (cs : List Value), css[i]? = some cs → ∃ r, cs = nodeC funT (.slice (some ⟨r, 0, none⟩) 1 1) ∧ W.heap[r]? = some (.cells (nodeC leafT (.slice none 0 0)).toArray 30 (0, 0)) ∧ B + 1 ≤ r ∧ v.ownBlock ≠ some r
theorem FunRows.nil (W : World) (B : Nat) (v : Value) : FunRows W B v [] := fun i cs h => by simp at h
theorem FunRows.below {w W : World} {B : Nat} {v : Value} {css : List (List Value)} (h : FunRows w B v css) (hb : Below w.heap.size w W) : FunRows W B v css := fun i cs hi => by
 obtain ⟨r, h1, h2, h3, h4⟩ := h i cs hi
 exact ⟨r, h1, (hb.block r (heap_in h2)).trans h2, h3, h4⟩
theorem FunRows.snoc {W : World} {B r : Nat} {v : Value} {css : List (List Value)} (h : FunRows W B v css) (h2 : W.heap[r]? = some (.cells (nodeC leafT (.slice none 0 0)).toArray 30 (0, 0))) (h3 : B + 1 ≤ r) (h4 : v.ownBlock ≠ some r) : FunRows W B v (css ++ [nodeC funT (.slice (some ⟨r, 0, none⟩) 1 1)]) := fun i cs hi => by
 rcases Nat.lt_or_ge i css.length with hl | hl
 ·rw [List.getElem?_append_left hl] at hi; exact h i cs hi
 ·rw [List.getElem?_append_right hl] at hi
  have : cs ∈ [nodeC funT (.slice (some ⟨r, 0, none⟩) 1 1)] := List.mem_of_getElem? hi
  rw [List.mem_singleton.1 this]
  exact ⟨r, rfl, h2, h3, h4⟩
theorem FunRows.grown {w W : World} {B : Nat} {v v' : Value} {css : List (List Value)} {O : Obj} (h : FunRows w B v css) (hg : (w.alloc O).grownBy W v.ownBlock) (hl : v'.ownBlock = v.ownBlock ∨ v'.ownBlock = some (w.alloc O).heap.size) : FunRows W B v' css := fun i cs hi => by
 obtain ⟨r, h1, h2, h3, h4⟩ := h i cs hi
 have hr := heap_in h2
 refine ⟨r, h1, ?_, h3, ?_⟩
 ·rw [hg.block r (by simp; omega) (fun e => h4 e.symm), alloc_old4 _ _ hr]; exact h2
 ·rcases hl with e | e
  ·rw [e]; exact h4
  ·rw [e]; intro e2; injection e2 with e2; simp at e2; omega
theorem FunRows.set {w : World} {B i : Nat} {v u : Value} {css : List (List Value)} (h : FunRows w B v css) : FunRows (w.setCell ⟨B, i, none⟩ u) B v css := fun i cs hi => by
 obtain ⟨r, h1, h2, h3, h4⟩ := h i cs hi
 exact ⟨r, h1, (heap_set_other (by omega)).trans h2, h3, h4⟩
theorem FunRows.node {w : World} {B : Nat} {v : Value} {css : List (List Value)} (h : FunRows w B v css) {i : Nat} {cs : List Value} (hi : css[i]? = some cs) : NodeAt 23 w cs funT := by
 obtain ⟨r, h1, h2, _, _⟩ := h i cs hi
 rw [h1]
 exact node_single (f := 22) rfl h2 (by decide) smz (node_leaf (f := 21) rfl smz)
end Go.Proofs.YtlpgigdegnbkmaaGreatDoor
namespace Go.Proofs.YtlpgigdegnbkmaaGreatDoor
open Go.RowKit Tab
set_option maxRecDepth 100000 in
set_option maxHeartbeats 8000000 in
theorem limits_any (m b : Int) (hm : Int64 m) (hb64 : Int64 b) (w : World) (hg : Good w) : Calls Tryz.prog 7 #[.int .i64 m, .int .i64 b] w (Ret (.bool true) w) := by
  obtain ⟨hA0, hA1⟩ := pickI_range m 190 (by omega)
  obtain ⟨hF0, hF1⟩ := pickI_range b 30 (by omega)
  obtain ⟨A, hA⟩ : ∃ A : Nat, pickI m 190 = (A : Int) := ⟨_, (Int.toNat_of_nonneg hA0).symm⟩
  obtain ⟨F, hF⟩ : ∃ F : Nat, pickI b 30 = (F : Int) := ⟨_, (Int.toNat_of_nonneg hF0).symm⟩
  have cA := fun W => pick6_any m 190 W hm.1 hm.2 (by omega) (by omega)
  have cF := fun W => pick6_any b 30 W hb64.1 hb64.2 (by omega) (by omega)
  rw [hA] at cA hA1
  rw [hF] at cF hF1
  clear hA hF hA0 hF0 hm hb64
  have ewA : IntKind.i64.wrap (1 + (A : Int)) = ((A + 1 : Nat) : Int) := by rw [IntWalk.i64_in _ (by omega)]; omega
  have hgh := Lib.hid hg
  go_enter Tryz.func7, Tryz.ntmps7
  go_wp2_with fail
  refine (awake_any w hg).mono ?_; rintro e w1 ⟨rfl, hb⟩
  have hw1s := hb.size
  go_wp2_with fail
  refine (cA w1).mono ?_; rintro e w2 ⟨rfl, hw2⟩
  subst hw2
  clear cA
  go_upto_region 3 with (fail)
  refine wp_region_lit ?_
  refine wpList_run (.agg (nodeC (manyT leafT 0) (.slice none 0 0)).toArray) (w1) (by kernel_rfl) (by kernel_rfl) ?_
  refine wpList_run (.pointer (some ⟨w1.heap.size, 0, none⟩)) ((w1).alloc (.cells zeroN 30)) (by kernel_rfl) (by kernel_rfl) ?_
  refine wpList_store_mid rfl 30 (.tmp 7) (.tmp 20) rfl w1.heap.size 0 (nodeC (manyT leafT 0) (.slice none 0 0)).toArray rfl rfl (whole_there (heap_alloc_new _ _) rfl) cellsNode (nodeC_one _ _ _ _) ?_
  refine wpList_abs (fun W => Below w1.heap.size w1 W ∧ W.heap[w1.heap.size]? = some (.cells (nodeC (manyT leafT 0) (.slice none 0 0)).toArray 30 (0, 0))) ⟨below_cells2 (Nat.le_refl _) _ _ _ (allocB (Below.refl _ _)), box_whole (heap_alloc_new _ _) rfl⟩ ?_
  rintro w3 ⟨hx, q1⟩
  simp only [Act.put, List.setIfInBounds_toArray, List.set_cons_zero, List.set_cons_succ]
  replace hb : Below w.heap.size w w3 := after hb hx
  clear hx
  refine wpList_nil ?_
  obtain ⟨B1, hB1⟩ : ∃ B1, w1.heap.size = B1 := ⟨_, rfl⟩
  have hw1 : w.heap.size ≤ B1 := by rw [← hB1]; exact hw1s
  rw [hB1] at q1
  have hz1 : B1 + 1 ≤ w3.heap.size := heap_in q1
  obtain ⟨iN, hi, hz0, hzs, hzb⟩ := info_parts infoNode
  have HI := Lib.hid (And.intro hi (And.intro hz0 (And.intro hzs hzb)))
  have HQ := Lib.hid q1
  clear hi hz0 hzs hzb q1
  rw [hB1]
  clear hB1
  go_wp2_with fail
  go_loopw [8] (fun i w' => ∃ (j : Nat) (v : Value), i = .int .i64 (j : Int) ∧ j ≤ A + 1 ∧ w'.ownsRow (B1 + 1) 30 20 v j (List.replicate j (nodeC leafT (.slice none 0 0))).flatten ∧ w'.heap[B1]? = some (.cells (nodeC (manyT leafT 0) v).toArray 30 (0, 0)) ∧ Below w.heap.size w w' ∧ B1 + 1 ≤ w'.heap.size) (fun i _ => A + 1 - (intOf i).toNat)
  case atStart => exact ⟨0, _, rfl, by omega, ⟨rfl, .inl ⟨rfl, rfl⟩⟩, HQ.out, hb, hz1⟩
  case round =>
    clear HQ hb hz1
    obtain ⟨j, v, rfl, hj, hown, q, hB, hz⟩ := hrel
    by_cases hlt : j < A + 1
    · have hlt' : (j : Int) < (A : Int) + 1 := by omega
      have ewJ : IntKind.i64.wrap ((j : Int) + 1) = ((j + 1 : Nat) : Int) := by rw [IntWalk.i64_in _ (by omega)]; omega
      obtain ⟨f, d, z⟩ := lie_cell q
      have c19 : wr.cell? ⟨B1, 19, none⟩ = some v := f 19
      clear f d
      go_upto_region 7 with (fail)
      refine wp_region_lit ?_
      iterate 2 (refine wpList_plain rfl (fun KK hKK => ?_); go_simp; (refine hKK _ _ ?_; clear hKK KK))
      refine wpList_run (.agg (nodeC leafT (.slice none 0 0)).toArray) wr (by kernel_rfl) (by kernel_rfl) ?_
      refine wpList_run (.slice (some ⟨wr.heap.size, 0, none⟩) 1 1) (wr.alloc (.cells (nodeC leafT (.slice none 0 0)).toArray 30)) (by kernel_rfl) (by kernel_rfl) ?_
      simp only [Act.put, List.setIfInBounds_toArray, List.set_cons_zero, List.set_cons_succ]
      refine wpList_append_own_at _ rfl (.tmp 27) (.tmp 29) 28 rfl (B1 + 1) 30 iN (.agg zeroN) 20 168 Tryz.underlying28 HI.out.1 HI.out.2.1 HI.out.2.2.1 HI.out.2.2.2 rfl (by decide) v j _ rfl (hown.alloc _) ⟨wr.heap.size, 0, none⟩ 1 1 (nodeC leafT (.slice none 0 0)) rfl rfl (row_new _ _ _) (nodeC_each _ _ _ _) (by unfold maxLen; omega) (by omega) (by simp; omega) ?_
      intro v' w4 hown4 hg4 _ hl4
      have hne : v.ownBlock ≠ some B1 := fun e => by have := (own_type hown e).1; omega
      have q4 : w4.heap[B1]? = some (.cells (nodeC (manyT leafT 0) v).toArray 30 (0, 0)) := by
        rw [hg4.block B1 (by simp; omega) (fun e => hne e.symm), alloc_old4 _ _ z]; exact q
      have hB4 : Below w.heap.size w w4 := (allocB hB).grown hg4 (by have := hB.size; simp; omega) (fun k hk => by have := (own_type hown hk).1; omega)
      have hz4 : B1 + 1 ≤ w4.heap.size := heap_in q4
      obtain ⟨g4, c4, rfl⟩ := own_shape hown4
      obtain ⟨f, d, z4⟩ := lie_cell q4
      have c19b : w4.cell? ⟨B1, 19, none⟩ = some v := f 19
      have HO := Lib.hid (And.intro hown4 (And.intro q4 hB4))
      clear hown hown4 q q4 hg4 hl4 hB hB4 c19 f
      iterate 2 (refine wpList_plain rfl (fun KK hKK => ?_); go_simp; (refine hKK _ _ ?_; clear hKK KK))
      refine wpList_abs (fun W => W.ownsRow (B1 + 1) 30 20 (.slice g4 (j + 1) c4) (j + 1) (List.replicate (j + 1) (nodeC leafT (.slice none 0 0))).flatten ∧ W.heap[B1]? = some (.cells (nodeC (manyT leafT 0) (.slice g4 (j + 1) c4)).toArray 30 (0, 0)) ∧ Below w.heap.size w W ∧ B1 + 1 ≤ W.heap.size) ⟨?_, heap_set_same HO.out.2.1, setB HO.out.2.2 hw1, by simpa using hz4⟩ ?_
      · rw [rep_snoc]
        exact own_kept HO.out.1 fun k hk => heap_set_other (by have := (own_type HO.out.1 hk).1; omega)
      rintro w5 ⟨hown5, q5, hB5, hz5⟩
      refine wpList_nil ?_
      have HE := Lib.hid (And.intro hown5 (And.intro q5 hB5))
      clear HO d c19b hown5 q5 hB5
      go_wp2
      go_roundw
      case rel => exact ⟨j + 1, _, rfl, by omega, HE.out.1, HE.out.2.1, HE.out.2.2, hz5⟩
      case measure => simp [intOf]; omega
    · have hjA : j = A + 1 := by omega
      subst hjA
      have hn : NodeAt 24 wr (nodeC (manyT leafT (A + 1)) v) (manyT leafT (A + 1)) := node_own (f := 23) (List.replicate (A + 1) (nodeC leafT (.slice none 0 0))) hown (by simp) (by simp [manyT, NodeD.kids]) (many_sm leafT (A + 1) (by omega)) (fun i cs k h1 h2 => by
        have e1 := List.eq_of_mem_replicate (List.mem_of_getElem? h1)
        have e2 := List.eq_of_mem_replicate (List.mem_of_getElem? (show (List.replicate (A + 1) leafT)[i]? = some k from h2))
        subst e1 e2
        exact node_leaf (f := 22) rfl smz)
      have EA := comp_args (A + 1) (by omega) (by omega)
      obtain ⟨l, hl⟩ : ∃ l : List InsD, List.replicate (A + 1) { op := 3 } ++ [{ op := 11, s := [77, 65, 88], a := ((A + 1 : Nat) : Int) }] = l := ⟨_, rfl⟩
      have hll : l.length = A + 2 := by rw [← hl]; simp
      rw [hl] at EA
      obtain ⟨cc, hcc⟩ : ∃ cc, rowC l [[]] = cc := ⟨_, rfl⟩
      have hcb : cc.blocks = [l] := by rw [← hcc]; rfl
      rw [hcc] at EA
      have hcn : cntN 24 (manyT leafT (A + 1)) ≤ 1000000 := by rw [cnt_many]; have : cntN 23 leafT = 1 := by decide +kernel
                                                               rw [this]; omega
      clear hl hcc
      go_upto_region 8 with (fail)
      refine wp_region_lit ?_
      refine wpList_load_row rfl 30 (.tmp 7) rfl (B1) rfl 30 (nodeC (manyT leafT 0) v).toArray (0, 0) _ q Tryz.underlying30 rfl cellsNode ?_
      refine wpList_enter 10 #[.agg (nodeC (manyT leafT (A + 1)) v).toArray] (by kernel_rfl) (by kernel_rfl) _ (compile_any (manyT leafT (A + 1)) (nodeC (manyT leafT (A + 1)) v) wr (hgh.out.below hB) (hn) (hcn)) ?_
      intro e w31 hr
      obtain ⟨hx, ga, gc, ha, hc, rfl, Icc, Scc⟩ := compile_is EA hr
      refine ⟨_, rfl, ?_⟩
      clear hr hn hcn EA
      simp only [Act.put, List.setIfInBounds_toArray, List.set_cons_zero, List.set_cons_succ]
      replace q := (hx.block _ (heap_in q)).trans q
      replace hB : Below w.heap.size w w31 := after hB hx
      clear hx
      refine wpList_run (.tuple #[codeV ga gc ha hc cc, .int .i64 0]) (w31) (by kernel_rfl) (by kernel_rfl) ?_
      refine wpList_run (codeV ga gc ha hc cc) (w31) (by kernel_rfl) (by kernel_rfl) ?_
      refine wpList_run (.int .i64 0) (w31) (by kernel_rfl) (by kernel_rfl) ?_
      refine wpList_run (.pointer (some ⟨w31.heap.size, 0, none⟩)) ((w31).alloc (.cells #[.slice none 0 0, .slice none 0 0] 35)) (by kernel_rfl) (by kernel_rfl) ?_
      refine wpList_store_mid rfl 35 (.tmp 9) (.tmp 35) rfl w31.heap.size 0 ([.slice ga cc.blocks.length gc, .slice ha cc.params.length hc]).toArray rfl rfl (whole_there (heap_alloc_new _ _) rfl) cellsCode (oneCode _ _ rfl rfl) ?_
      refine wpList_abs (fun W => Below w31.heap.size w31 W ∧ W.heap[w31.heap.size]? = some (.cells ([.slice ga cc.blocks.length gc, .slice ha cc.params.length hc]).toArray 35 (0, 0))) ⟨below_cells2 (Nat.le_refl _) _ _ _ (allocB (Below.refl _ _)), box_whole (heap_alloc_new _ _) rfl⟩ ?_
      rintro w32 ⟨hx, q9⟩
      simp only [Act.put, List.setIfInBounds_toArray, List.set_cons_zero, List.set_cons_succ]
      replace q := (hx.block _ (heap_in q)).trans q
      replace Icc := Icc.below hx
      replace hB : Below w.heap.size w w32 := after hB hx
      clear hx
      refine wpList_run (.int .i64 0) (w32) (by kernel_rfl) (by kernel_rfl) ?_
      simp only [Act.put, List.setIfInBounds_toArray, List.set_cons_zero, List.set_cons_succ]
      refine wpList_nil ?_
      have hbb := hB
      have q9b := q9
      have Ib := Icc
      obtain ⟨B2, hB2⟩ : ∃ B2, w32.heap.size = B2 := ⟨_, rfl⟩
      go_upto_region 9 with (fail)
      refine wp_region_lit ?_
      refine wpList_run (.agg (nodeC (manyT leafT 0) (.slice none 0 0)).toArray) (w32) (by kernel_rfl) (by kernel_rfl) ?_
      refine wpList_run (.pointer (some ⟨w32.heap.size, 0, none⟩)) ((w32).alloc (.cells zeroN 30)) (by kernel_rfl) (by kernel_rfl) ?_
      refine wpList_store_mid rfl 30 (.tmp 11) (.tmp 37) rfl w32.heap.size 0 (nodeC (manyT leafT 0) (.slice none 0 0)).toArray rfl rfl (whole_there (heap_alloc_new _ _) rfl) cellsNode (nodeC_one _ _ _ _) ?_
      refine wpList_abs (fun W => Below w32.heap.size w32 W ∧ W.heap[w32.heap.size]? = some (.cells (nodeC (manyT leafT 0) (.slice none 0 0)).toArray 30 (0, 0))) ⟨below_cells2 (Nat.le_refl _) _ _ _ (allocB (Below.refl _ _)), box_whole (heap_alloc_new _ _) rfl⟩ ?_
      rintro w33 ⟨hx, q11⟩
      simp only [Act.put, List.setIfInBounds_toArray, List.set_cons_zero, List.set_cons_succ]
      replace q := (hx.block _ (heap_in q)).trans q
      replace q9 := (hx.block _ (heap_in q9)).trans q9
      replace Icc := Icc.below hx
      replace hB : Below w.heap.size w w33 := after hB hx
      have hmk : Below w32.heap.size w32 w33 := hx
      clear hx
      refine wpList_nil ?_
      rw [hB2] at q11 hmk ⊢
      clear q q9 Icc hB hown hz
      go_wp2_with fail
      refine (cF w33).mono ?_; rintro e w60 ⟨rfl, hw60⟩
      subst hw60
      have hz2 : B2 + 1 ≤ w33.heap.size := heap_in q11
      have HQ := Lib.hid q11
      have HB := Lib.hid (And.intro q9b (And.intro Ib (And.intro hbb Scc)))
      clear q11 cF q9b Ib hbb Scc
      go_wp2_with fail
      go_loopw [13] (fun i w' => ∃ (j : Nat) (v : Value) (css : List (List Value)), i = .int .i64 (j : Int) ∧ j ≤ F ∧ css.length = j ∧ FunRows w' B2 v css ∧ w'.ownsRow (B2 + 1) 30 20 v j css.flatten ∧ w'.heap[B2]? = some (.cells (nodeC (manyT leafT 0) v).toArray 30 (0, 0)) ∧ Below B2 w32 w' ∧ B2 + 1 ≤ w'.heap.size) (fun i _ => F - (intOf i).toNat)
      case atStart => exact ⟨0, _, [], rfl, by omega, rfl, FunRows.nil _ _ _, ⟨rfl, .inl ⟨rfl, rfl⟩⟩, HQ.out, hmk, hz2⟩
      case round =>
        clear HQ hmk hz2
        obtain ⟨j, v2, css, rfl, hj, hcl, hfr, hown, q, hB, hz⟩ := hrel
        by_cases hlt : j < F
        · have hlt' : (j : Int) < (F : Int) := by omega
          have ewJ : IntKind.i64.wrap ((j : Int) + 1) = ((j + 1 : Nat) : Int) := by rw [IntWalk.i64_in _ (by omega)]; omega
          obtain ⟨f, d, z⟩ := lie_cell q
          have c19 : wr.cell? ⟨B2, 19, none⟩ = some v2 := f 19
          clear f d
          go_upto_region 14 with (fail)
          refine wp_region_lit ?_
          iterate 2 (refine wpList_plain rfl (fun KK hKK => ?_); go_simp; (refine hKK _ _ ?_; clear hKK KK))
          refine wpList_run (.agg (nodeC leafT (.slice none 0 0)).toArray) wr (by kernel_rfl) (by kernel_rfl) ?_
          refine wpList_run (.slice (some ⟨wr.heap.size, 0, none⟩) 1 1) (wr.alloc (.cells (nodeC leafT (.slice none 0 0)).toArray 30)) (by kernel_rfl) (by kernel_rfl) ?_
          refine wpList_abs (fun W => Below wr.heap.size wr W ∧ W.heap[wr.heap.size]? = some (.cells (nodeC leafT (.slice none 0 0)).toArray 30 (0, 0))) ⟨allocB (Below.refl _ _), heap_alloc_new _ _⟩ ?_
          rintro w70 ⟨hx, k7⟩
          simp only [Act.put, List.setIfInBounds_toArray, List.set_cons_zero, List.set_cons_succ]
          have hfr7 := hfr.below hx
          have hown7 := own_below hown hx
          have q7 := (hx.block _ z).trans q
          have hB7 := hB.trans (hx.mono (Nat.le_of_succ_le hz))
          have z7 := heap_in q7
          have hr7 := heap_in k7
          have hne7 : v2.ownBlock ≠ some wr.heap.size := fun e => by
            obtain ⟨_, cur, h2⟩ := own_type hown e
            have := heap_in h2; omega
          clear hfr hown q hB hx c19
          refine wpList_run (.agg (nodeC funT (.slice (some ⟨wr.heap.size, 0, none⟩) 1 1)).toArray) w70 (by kernel_rfl) (by kernel_rfl) ?_
          refine wpList_run (.slice (some ⟨w70.heap.size, 0, none⟩) 1 1) (w70.alloc (.cells (nodeC funT (.slice (some ⟨wr.heap.size, 0, none⟩) 1 1)).toArray 30)) (by kernel_rfl) (by kernel_rfl) ?_
          simp only [Act.put, List.setIfInBounds_toArray, List.set_cons_zero, List.set_cons_succ]
          refine wpList_append_own_at _ rfl (.tmp 46) (.tmp 50) 28 rfl (B2 + 1) 30 iN (.agg zeroN) 20 168 Tryz.underlying28 HI.out.1 HI.out.2.1 HI.out.2.2.1 HI.out.2.2.2 rfl (by decide) v2 j _ rfl (hown7.alloc _) ⟨w70.heap.size, 0, none⟩ 1 1 (nodeC funT (.slice (some ⟨wr.heap.size, 0, none⟩) 1 1)) rfl rfl (row_new _ _ _) (nodeC_each _ _ _ _) (by unfold maxLen; omega) (by omega) (by simp; omega) ?_
          intro v' w4 hown4 hg4 _ hl4
          have hne : v2.ownBlock ≠ some B2 := fun e => by have := (own_type hown7 e).1; omega
          have q4 : w4.heap[B2]? = some (.cells (nodeC (manyT leafT 0) v2).toArray 30 (0, 0)) := by
            rw [hg4.block B2 (by simp; omega) (fun e => hne e.symm), alloc_old4 _ _ z7]; exact q7
          have hB4 : Below B2 w32 w4 := (hB7.alloc (by omega) _).grown hg4 (by simp; omega) (fun k hk => by have := (own_type hown7 hk).1; omega)
          have hz4 : B2 + 1 ≤ w4.heap.size := heap_in q4
          have hfr4 : FunRows w4 B2 v' (css ++ [nodeC funT (.slice (some ⟨wr.heap.size, 0, none⟩) 1 1)]) := (hfr7.snoc k7 hz hne7).grown hg4 hl4
          have hfl4 : w4.ownsRow (B2 + 1) 30 20 v' (j + 1) (css ++ [nodeC funT (.slice (some ⟨wr.heap.size, 0, none⟩) 1 1)]).flatten := by rw [List.flatten_append]; simpa using hown4
          obtain ⟨g4, c4, rfl⟩ := own_shape hown4
          obtain ⟨f, d, z4⟩ := lie_cell q4
          have c19b : w4.cell? ⟨B2, 19, none⟩ = some v2 := f 19
          have HO := Lib.hid (And.intro hfl4 (And.intro q4 (And.intro hB4 hfr4)))
          clear hown7 hown4 q7 q4 hg4 hl4 hB7 hB4 f hfl4 hfr4 hfr7 k7 hne7
          iterate 2 (refine wpList_plain rfl (fun KK hKK => ?_); go_simp; (refine hKK _ _ ?_; clear hKK KK))
          refine wpList_abs (fun W => W.ownsRow (B2 + 1) 30 20 (.slice g4 (j + 1) c4) (j + 1) (css ++ [nodeC funT (.slice (some ⟨wr.heap.size, 0, none⟩) 1 1)]).flatten ∧ W.heap[B2]? = some (.cells (nodeC (manyT leafT 0) (.slice g4 (j + 1) c4)).toArray 30 (0, 0)) ∧ Below B2 w32 W ∧ B2 + 1 ≤ W.heap.size ∧ FunRows W B2 (.slice g4 (j + 1) c4) (css ++ [nodeC funT (.slice (some ⟨wr.heap.size, 0, none⟩) 1 1)])) ⟨?_, heap_set_same HO.out.2.1, HO.out.2.2.1.setCell (p := ⟨B2, 19, none⟩) (Nat.le_refl _) _, by simpa using hz4, HO.out.2.2.2.set⟩ ?_
          · exact own_kept HO.out.1 fun k hk => heap_set_other (by have := (own_type HO.out.1 hk).1; omega)
          rintro w5 ⟨hown5, q5, hB5, hz5, hfr5⟩
          refine wpList_nil ?_
          have HE := Lib.hid (And.intro hown5 (And.intro q5 (And.intro hB5 hfr5)))
          clear HO d c19b hown5 q5 hB5 hfr5
          go_wp2
          go_roundw
          case rel => exact ⟨j + 1, _, _, rfl, by omega, by simp [hcl], HE.out.2.2.2, HE.out.1, HE.out.2.1, HE.out.2.2.1, hz5⟩
          case measure => simp [intOf]; omega
        · have hjF : j = F := by omega
          subst hjF
          obtain ⟨q9b, Ib, hbb, Scc⟩ := HB.out
          have hBB : Below w32.heap.size w32 wr := by rw [hB2]; exact hB
          have q9 := (hBB.block _ (heap_in q9b)).trans q9b
          have Icc := Ib.below hBB
          have hb := after hbb hBB
          have hn : NodeAt 24 wr (nodeC (manyT funT j) v2) (manyT funT j) := node_own (f := 23) css hown hcl (by simp [manyT, NodeD.kids]) (many_sm funT j (by omega)) (fun i cs k h1 h2 => by
            have e2 := List.eq_of_mem_replicate (List.mem_of_getElem? (show (List.replicate j funT)[i]? = some k from h2))
            subst e2
            exact hfr.node h1)
          have hcn : cntN 24 (manyT funT j) ≤ 1000000 := by
            rw [cnt_many]; have : cntN 23 funT = 2 := by decide +kernel
            rw [this]; omega
          obtain ⟨gb, go, rfl, hgb, hrow⟩ := Icc.rows.resolve_left (fun h => by rw [hcb] at h; cases h)
          obtain ⟨vl, hvl, la, lc, rfl, hlc, -⟩ := hrow 0 l (by rw [hcb]; rfl)
          have hc1 : cc.blocks.length = 1 := by rw [hcb]; rfl
          rw [hc1] at q9
          rw [hll, Nat.add_zero] at hvl
          rw [hll] at hlc
          have hgc : 1 ≤ gc := by have := Icc.cap; omega
          clear hfr hown q9b Ib hbb HB hBB hB hrow Icc Scc HI hcl hz
          obtain ⟨K9, hK9⟩ : ∃ K9, w31.heap.size = K9 := ⟨_, rfl⟩
          rw [hK9] at q9 ⊢
          by_cases hF19 : j ≤ 19
          · skip
            go_upto_region 15 with (fail)
            refine wp_region_lit ?_
            refine wpList_load_row rfl 30 (.tmp 11) rfl (B2) rfl 30 (nodeC (manyT leafT 0) v2).toArray (0, 0) _ q Tryz.underlying30 rfl cellsNode ?_
            refine wpList_enter 10 #[.agg (nodeC (manyT funT j) v2).toArray] (by kernel_rfl) (by kernel_rfl) _ (compile_any (manyT funT j) (nodeC (manyT funT j) v2) wr (hgh.out.below hb) (hn) (hcn)) ?_
            intro e w81 hr
            obtain ⟨hx, ga2, gc2, ha2, hc2, rfl, -, -⟩ := compile_is (comp_funs j (by omega)) hr
            obtain ⟨dd, hdd⟩ : ∃ dd, putC (laidC j) 0 { op := 11, s := [77, 65, 88], a := (j : Int) } = dd := ⟨_, rfl⟩
            have hdl : dd.blocks.length = j + 1 := by rw [← hdd, putC_len]; simp [laidC]
            rw [hdd]
            clear hdd
            refine ⟨_, rfl, ?_⟩
            clear hr hn hcn
            simp only [Act.put, List.setIfInBounds_toArray, List.set_cons_zero, List.set_cons_succ]
            replace q := (hx.block _ (heap_in q)).trans q
            replace q9 := (hx.block _ (heap_in q9)).trans q9
            replace hvl := (hx.cell (p := ⟨gb, go, none⟩) hgb).trans hvl
            replace hgb := Nat.lt_of_lt_of_le hgb hx.size
            replace hb : Below w.heap.size w w81 := after hb hx
            clear hx
            refine wpList_run (.tuple #[codeV ga2 gc2 ha2 hc2 dd, .int .i64 0]) (w81) (by kernel_rfl) (by kernel_rfl) ?_
            refine wpList_run (codeV ga2 gc2 ha2 hc2 dd) (w81) (by kernel_rfl) (by kernel_rfl) ?_
            refine wpList_run (.int .i64 0) (w81) (by kernel_rfl) (by kernel_rfl) ?_
            refine wpList_run (.pointer (some ⟨w81.heap.size, 0, none⟩)) ((w81).alloc (.cells #[.slice none 0 0, .slice none 0 0] 35)) (by kernel_rfl) (by kernel_rfl) ?_
            refine wpList_store_mid rfl 35 (.tmp 14) (.tmp 56) rfl w81.heap.size 0 ([.slice ga2 dd.blocks.length gc2, .slice ha2 dd.params.length hc2]).toArray rfl rfl (whole_there (heap_alloc_new _ _) rfl) cellsCode (oneCode _ _ rfl rfl) ?_
            refine wpList_abs (fun W => Below w81.heap.size w81 W ∧ W.heap[w81.heap.size]? = some (.cells ([.slice ga2 dd.blocks.length gc2, .slice ha2 dd.params.length hc2]).toArray 35 (0, 0))) ⟨below_cells2 (Nat.le_refl _) _ _ _ (allocB (Below.refl _ _)), box_whole (heap_alloc_new _ _) rfl⟩ ?_
            rintro w82 ⟨hx, q14⟩
            simp only [Act.put, List.setIfInBounds_toArray, List.set_cons_zero, List.set_cons_succ]
            replace q := (hx.block _ (heap_in q)).trans q
            replace q9 := (hx.block _ (heap_in q9)).trans q9
            replace hvl := (hx.cell (p := ⟨gb, go, none⟩) hgb).trans hvl
            replace hgb := Nat.lt_of_lt_of_le hgb hx.size
            replace hb : Below w.heap.size w w82 := after hb hx
            clear hx
            refine wpList_run (.int .i64 0) (w82) (by kernel_rfl) (by kernel_rfl) ?_
            simp only [Act.put, List.setIfInBounds_toArray, List.set_cons_zero, List.set_cons_succ]
            refine wpList_nil ?_
            have c9 : w82.cell? ⟨K9, 0, none⟩ = some (.slice (some ⟨gb, go, none⟩) 1 gc) := (lie_cell q9).1 0
            have c14 : w82.cell? ⟨w81.heap.size, 0, none⟩ = some (.slice ga2 dd.blocks.length gc2) := (lie_cell q14).1 0
            rw [hdl] at c14
            have ewB : IntKind.i64.wrap ((A : Int) + 1 + 1) = (A : Int) + 2 := by rw [IntWalk.i64_in _ (by omega)]; omega
            have ewC : IntKind.i64.wrap ((j : Int) + 1) = (j : Int) + 1 := by rw [IntWalk.i64_in _ (by omega)]
            have e19 : decide ((19 : Int) < (j : Int)) = false := decide_eq_false (by omega)
            clear q q9 q14
            go_wp2
            go_ret; exact Ret.mk' rfl hb
          · skip
            go_upto_region 15 with (fail)
            refine wp_region_lit ?_
            refine wpList_load_row rfl 30 (.tmp 11) rfl (B2) rfl 30 (nodeC (manyT leafT 0) v2).toArray (0, 0) _ q Tryz.underlying30 rfl cellsNode ?_
            refine wpList_enter 10 #[.agg (nodeC (manyT funT j) v2).toArray] (by kernel_rfl) (by kernel_rfl) _ (compile_any (manyT funT j) (nodeC (manyT funT j) v2) wr (hgh.out.below hb) (hn) (hcn)) ?_
            intro e w81 hr
            obtain ⟨hx, rfl⟩ := compile_no (comp_wrong j (by omega) (by omega)).1 hr
            rw [(comp_wrong j (by omega) (by omega)).2]
            refine ⟨_, rfl, ?_⟩
            clear hr hn hcn
            simp only [Act.put, List.setIfInBounds_toArray, List.set_cons_zero, List.set_cons_succ]
            replace q := (hx.block _ (heap_in q)).trans q
            replace q9 := (hx.block _ (heap_in q9)).trans q9
            replace hvl := (hx.cell (p := ⟨gb, go, none⟩) hgb).trans hvl
            replace hgb := Nat.lt_of_lt_of_le hgb hx.size
            replace hb : Below w.heap.size w w81 := after hb hx
            clear hx
            refine wpList_run (.tuple #[noCode, .int .i64 60]) (w81) (by kernel_rfl) (by kernel_rfl) ?_
            refine wpList_run (noCode) (w81) (by kernel_rfl) (by kernel_rfl) ?_
            refine wpList_run (.int .i64 60) (w81) (by kernel_rfl) (by kernel_rfl) ?_
            refine wpList_run (.pointer (some ⟨w81.heap.size, 0, none⟩)) ((w81).alloc (.cells #[.slice none 0 0, .slice none 0 0] 35)) (by kernel_rfl) (by kernel_rfl) ?_
            refine wpList_store_mid rfl 35 (.tmp 14) (.tmp 56) rfl w81.heap.size 0 ([.slice none 0 0, .slice none 0 0]).toArray rfl rfl (whole_there (heap_alloc_new _ _) rfl) cellsCode (oneCode _ _ rfl rfl) ?_
            refine wpList_abs (fun W => Below w81.heap.size w81 W ∧ W.heap[w81.heap.size]? = some (.cells ([.slice none 0 0, .slice none 0 0]).toArray 35 (0, 0))) ⟨below_cells2 (Nat.le_refl _) _ _ _ (allocB (Below.refl _ _)), box_whole (heap_alloc_new _ _) rfl⟩ ?_
            rintro w82 ⟨hx, q14⟩
            simp only [Act.put, List.setIfInBounds_toArray, List.set_cons_zero, List.set_cons_succ]
            replace q := (hx.block _ (heap_in q)).trans q
            replace q9 := (hx.block _ (heap_in q9)).trans q9
            replace hvl := (hx.cell (p := ⟨gb, go, none⟩) hgb).trans hvl
            replace hgb := Nat.lt_of_lt_of_le hgb hx.size
            replace hb : Below w.heap.size w w82 := after hb hx
            clear hx
            refine wpList_run (.int .i64 60) (w82) (by kernel_rfl) (by kernel_rfl) ?_
            simp only [Act.put, List.setIfInBounds_toArray, List.set_cons_zero, List.set_cons_succ]
            refine wpList_nil ?_
            have c9 : w82.cell? ⟨K9, 0, none⟩ = some (.slice (some ⟨gb, go, none⟩) 1 gc) := (lie_cell q9).1 0
            have c14 : w82.cell? ⟨w81.heap.size, 0, none⟩ = some (.slice none 0 0) := (lie_cell q14).1 0
  
            have ewB : IntKind.i64.wrap ((A : Int) + 1 + 1) = (A : Int) + 2 := by rw [IntWalk.i64_in _ (by omega)]; omega
            have ewC : IntKind.i64.wrap ((j : Int) + 1) = (j : Int) + 1 := by rw [IntWalk.i64_in _ (by omega)]
            have e19 : decide ((19 : Int) < (j : Int)) = true := decide_eq_true (by omega)
            clear q q9 q14
            go_wp2
            go_ret; exact Ret.mk' rfl hb
end Go.Proofs.YtlpgigdegnbkmaaGreatDoor
