import Derived.Test.YtlpgigdegnbkmaaGreatDoorM40
set_option maxRecDepth 100000
set_option maxHeartbeats 8000000
namespace Go.Proofs.YtlpgigdegnbkmaaGreatDoor
open Go.RowKit Tab Tryz
theorem noCode_in (W : World) : CodeIn W none 0 none 0 ⟨[], []⟩ := ⟨Nat.le_refl _, .inl rfl, NamesAt.nil _ _ _⟩
theorem noCode_sm : CodeSm ⟨[], []⟩ := ⟨Nat.zero_le _, fun _ hl => (List.not_mem_nil hl).elim, Nat.zero_le _, fun _ hl => (List.not_mem_nil hl).elim⟩
theorem awake_any (w : World) (hg : Good w) : Calls prog 8 #[] w (Ret (.bool true) w) := by
 have EA := eg_a
 have EB := eg_b
 have EC := eg_c
 have RcA := text_a
 have RcB := text_b
 have RcC := text_c
 have TA := text_a'
 have TB := text_b'
 have TC := text_c'
 have SAA := same_aa
 have SAB := same_ab
 generalize codeOf egA = cA at *
 generalize codeOf egB = cB at *
 generalize codeOf egC = cC at *
 go_enter func8, ntmps8
 go_upto_region 1 with (fail)
 refine wp_region_lit ?_
 refine wr (.agg (nodeC (leafN 5) (.slice none 0 0)).toArray) (w) ?_
 refine mbx 30 (.tmp 1) (.tmp 18) zeroN ((nodeC (leafN 5) (.slice none 0 0)).toArray) cellsNode (nodeC_one _ _ _ _) ?_
 rintro w1 ⟨hx, q1⟩
 have hb : Below w.heap.size w w1 := hx
 clear hx
 refine wpList_nil ?_
 go_upto_region 2 with (fail)
 refine wp_region_lit ?_
 refine wr (.agg #[.int .i64 2, .int .i64 0]) (w1) ?_
 refine wr (.agg (nodeC twoN (.slice none 0 0)).toArray) (w1) ?_
 refine mbx 30 (.tmp 2) (.tmp 20) zeroN ((nodeC twoN (.slice none 0 0)).toArray) cellsNode (nodeC_one _ _ _ _) ?_
 rintro w2 ⟨hx, q2⟩
 replace q1 := kq hx q1
 replace hb : Below w.heap.size w w2 := after hb hx
 clear hx
 refine wpList_nil ?_
 go_upto_region 3 with (fail)
 refine wp_region_lit ?_
 refine ldr (.tmp 1) q1 underlying30 cellsNode ?_
 refine ldr (.tmp 2) q2 underlying30 cellsNode ?_
 refine mrw 2 30 (((nodeC (leafN 5) (.slice none 0 0)) ++ nodeC twoN (.slice none 0 0)).toArray) ?_
 rintro w3 ⟨hx, k3⟩
 replace q1 := kq hx q1
 replace q2 := kq hx q2
 replace hb : Below w.heap.size w w3 := after hb hx
 clear hx
 refine wr (.agg (nodeC egA (.slice (some ⟨w2.heap.size, 0, none⟩) 2 2)).toArray) (w3) ?_
 refine wpList_enter 10 #[.agg (nodeC egA (.slice (some ⟨w2.heap.size, 0, none⟩) 2 2)).toArray] (by kernel_rfl) (by kernel_rfl) _ (compile_any egA (nodeC egA (.slice (some ⟨w2.heap.size, 0, none⟩) 2 2)) w3 (hg.below hb) (node_two (f := 23) rfl k3 (by decide) smz (node_leaf (f := 22) rfl smz) (node_leaf (f := 22) rfl smz)) (by decide +kernel)) ?_
 intro e w4 hr
 obtain ⟨hx, gacA, gccA, hacA, hccA, rfl, IcA, ScA⟩ := compile_is EA hr
 refine ⟨_, rfl, ?_⟩
 clear hr
 simp only [Act.put, List.setIfInBounds_toArray, List.set_cons_zero, List.set_cons_succ]
 replace q1 := kq hx q1
 replace q2 := kq hx q2
 replace k3 := kq hx k3
 replace hb : Below w.heap.size w w4 := after hb hx
 clear hx
 refine wr (.tuple #[codeV gacA gccA hacA hccA cA, .int .i64 0]) (w4) ?_
 refine wr (codeV gacA gccA hacA hccA cA) (w4) ?_
 refine wr (.int .i64 0) (w4) ?_
 refine mbx 35 (.tmp 3) (.tmp 27) #[.slice none 0 0, .slice none 0 0] (([.slice gacA (cA).blocks.length gccA, .slice hacA (cA).params.length hccA]).toArray) cellsCode (oneCode _ _ rfl rfl) ?_
 rintro w5 ⟨hx, q3⟩
 replace q1 := kq hx q1
 replace q2 := kq hx q2
 replace k3 := kq hx k3
 replace IcA := IcA.below hx
 replace hb : Below w.heap.size w w5 := after hb hx
 clear hx
 refine wn (.int .i64 0) (w5) ?_
 refine wpList_nil ?_
 go_upto_region 4 with (fail)
 refine wp_region_lit ?_
 refine wr (.agg (nodeC (namN 7 [88] []) (.slice none 0 0)).toArray) (w5) ?_
 refine mbx 30 (.tmp 5) (.tmp 29) zeroN ((nodeC (namN 7 [88] []) (.slice none 0 0)).toArray) cellsNode (nodeC_one _ _ _ _) ?_
 rintro w6 ⟨hx, q4⟩
 replace q1 := kq hx q1
 replace q2 := kq hx q2
 replace k3 := kq hx k3
 replace q3 := kq hx q3
 replace IcA := IcA.below hx
 replace hb : Below w.heap.size w w6 := after hb hx
 clear hx
 refine wpList_nil ?_
 go_upto_region 5 with (fail)
 refine wp_region_lit ?_
 refine ldr (.tmp 2) q2 underlying30 cellsNode ?_
 refine ldr (.tmp 5) q4 underlying30 cellsNode ?_
 refine ldr (.tmp 5) q4 underlying30 cellsNode ?_
 refine mrw 2 30 (((nodeC (namN 7 [88] []) (.slice none 0 0)) ++ nodeC (namN 7 [88] []) (.slice none 0 0)).toArray) ?_
 rintro w7 ⟨hx, k5⟩
 replace q1 := kq hx q1
 replace q2 := kq hx q2
 replace k3 := kq hx k3
 replace q3 := kq hx q3
 replace q4 := kq hx q4
 replace IcA := IcA.below hx
 replace hb : Below w.heap.size w w7 := after hb hx
 clear hx
 refine wr (.agg (nodeC (namN 9 [43] [namN 7 [88] [], namN 7 [88] []]) (.slice (some ⟨w6.heap.size, 0, none⟩) 2 2)).toArray) (w7) ?_
 refine mrw 2 30 (((nodeC twoN (.slice none 0 0)) ++ nodeC (namN 9 [43] [namN 7 [88] [], namN 7 [88] []]) (.slice (some ⟨w6.heap.size, 0, none⟩) 2 2)).toArray) ?_
 rintro w8 ⟨hx, k5b⟩
 replace q1 := kq hx q1
 replace q2 := kq hx q2
 replace k3 := kq hx k3
 replace q3 := kq hx q3
 replace q4 := kq hx q4
 replace k5 := kq hx k5
 replace IcA := IcA.below hx
 replace hb : Below w.heap.size w w8 := after hb hx
 clear hx
 refine wr (.agg (nodeC egB (.slice (some ⟨w7.heap.size, 0, none⟩) 2 2)).toArray) (w8) ?_
 refine wpList_enter 10 #[.agg (nodeC egB (.slice (some ⟨w7.heap.size, 0, none⟩) 2 2)).toArray] (by kernel_rfl) (by kernel_rfl) _ (compile_any egB (nodeC egB (.slice (some ⟨w7.heap.size, 0, none⟩) 2 2)) w8 (hg.below hb) (node_two (f := 23) rfl k5b (by decide) smz (node_leaf (f := 22) rfl smz) (node_two (f := 22) rfl k5 (by decide) smz (node_leaf (f := 21) rfl smz) (node_leaf (f := 21) rfl smz))) (by decide +kernel)) ?_
 intro e w9 hr
 obtain ⟨hx, gacB, gccB, hacB, hccB, rfl, IcB, ScB⟩ := compile_is EB hr
 refine ⟨_, rfl, ?_⟩
 clear hr
 simp only [Act.put, List.setIfInBounds_toArray, List.set_cons_zero, List.set_cons_succ]
 replace q1 := kq hx q1
 replace q2 := kq hx q2
 replace k3 := kq hx k3
 replace q3 := kq hx q3
 replace q4 := kq hx q4
 replace k5 := kq hx k5
 replace k5b := kq hx k5b
 replace IcA := IcA.below hx
 replace hb : Below w.heap.size w w9 := after hb hx
 clear hx
 refine wr (.tuple #[codeV gacB gccB hacB hccB cB, .int .i64 0]) (w9) ?_
 refine wr (codeV gacB gccB hacB hccB cB) (w9) ?_
 refine wr (.int .i64 0) (w9) ?_
 refine mbx 35 (.tmp 6) (.tmp 39) #[.slice none 0 0, .slice none 0 0] (([.slice gacB (cB).blocks.length gccB, .slice hacB (cB).params.length hccB]).toArray) cellsCode (oneCode _ _ rfl rfl) ?_
 rintro w10 ⟨hx, q5⟩
 replace q1 := kq hx q1
 replace q2 := kq hx q2
 replace k3 := kq hx k3
 replace q3 := kq hx q3
 replace q4 := kq hx q4
 replace k5 := kq hx k5
 replace k5b := kq hx k5b
 replace IcA := IcA.below hx
 replace IcB := IcB.below hx
 replace hb : Below w.heap.size w w10 := after hb hx
 clear hx
 refine wn (.int .i64 0) (w10) ?_
 refine wpList_nil ?_
 go_upto_region 6 with (fail)
 refine wp_region_lit ?_
 refine wr (.agg (nodeC (namN 7 [110] []) (.slice none 0 0)).toArray) (w10) ?_
 refine mrw 1 30 ((nodeC (namN 7 [110] []) (.slice none 0 0)).toArray) ?_
 rintro w11 ⟨hx, k6⟩
 replace q1 := kq hx q1
 replace q2 := kq hx q2
 replace k3 := kq hx k3
 replace q3 := kq hx q3
 replace q4 := kq hx q4
 replace k5 := kq hx k5
 replace k5b := kq hx k5b
 replace q5 := kq hx q5
 replace IcA := IcA.below hx
 replace IcB := IcB.below hx
 replace hb : Below w.heap.size w w11 := after hb hx
 clear hx
 refine wr (.agg (nodeC (namN 12 [70] [namN 7 [110] []]) (.slice (some ⟨w10.heap.size, 0, none⟩) 1 1)).toArray) (w11) ?_
 refine mrw 1 30 ((nodeC (namN 12 [70] [namN 7 [110] []]) (.slice (some ⟨w10.heap.size, 0, none⟩) 1 1)).toArray) ?_
 rintro w12 ⟨hx, k6b⟩
 replace q1 := kq hx q1
 replace q2 := kq hx q2
 replace k3 := kq hx k3
 replace q3 := kq hx q3
 replace q4 := kq hx q4
 replace k5 := kq hx k5
 replace k5b := kq hx k5b
 replace q5 := kq hx q5
 replace k6 := kq hx k6
 replace IcA := IcA.below hx
 replace IcB := IcB.below hx
 replace hb : Below w.heap.size w w12 := after hb hx
 clear hx
 refine wr (.agg (nodeC (namN 14 [110] [namN 12 [70] [namN 7 [110] []]]) (.slice (some ⟨w11.heap.size, 0, none⟩) 1 1)).toArray) (w12) ?_
 refine wr (.agg (nodeC (namN 7 [102] []) (.slice none 0 0)).toArray) (w12) ?_
 refine mrw 2 30 (((nodeC (namN 14 [110] [namN 12 [70] [namN 7 [110] []]]) (.slice (some ⟨w11.heap.size, 0, none⟩) 1 1)) ++ nodeC (namN 7 [102] []) (.slice none 0 0)).toArray) ?_
 rintro w13 ⟨hx, k6c⟩
 replace q1 := kq hx q1
 replace q2 := kq hx q2
 replace k3 := kq hx k3
 replace q3 := kq hx q3
 replace q4 := kq hx q4
 replace k5 := kq hx k5
 replace k5b := kq hx k5b
 replace q5 := kq hx q5
 replace k6 := kq hx k6
 replace k6b := kq hx k6b
 replace IcA := IcA.below hx
 replace IcB := IcB.below hx
 replace hb : Below w.heap.size w w13 := after hb hx
 clear hx
 refine wr (.agg (nodeC egC (.slice (some ⟨w12.heap.size, 0, none⟩) 2 2)).toArray) (w13) ?_
 refine wpList_enter 10 #[.agg (nodeC egC (.slice (some ⟨w12.heap.size, 0, none⟩) 2 2)).toArray] (by kernel_rfl) (by kernel_rfl) _ (compile_any egC (nodeC egC (.slice (some ⟨w12.heap.size, 0, none⟩) 2 2)) w13 (hg.below hb) (node_two (f := 23) rfl k6c (by decide) smz (node_single (f := 22) rfl k6b (by decide) smz (node_single (f := 21) rfl k6 (by decide) smz (node_leaf (f := 20) rfl smz))) (node_leaf (f := 22) rfl smz)) (by decide +kernel)) ?_
 intro e w14 hr
 obtain ⟨hx, gacC, gccC, hacC, hccC, rfl, IcC, ScC⟩ := compile_is EC hr
 refine ⟨_, rfl, ?_⟩
 clear hr
 simp only [Act.put, List.setIfInBounds_toArray, List.set_cons_zero, List.set_cons_succ]
 replace q1 := kq hx q1
 replace q2 := kq hx q2
 replace k3 := kq hx k3
 replace q3 := kq hx q3
 replace q4 := kq hx q4
 replace k5 := kq hx k5
 replace k5b := kq hx k5b
 replace q5 := kq hx q5
 replace k6 := kq hx k6
 replace k6b := kq hx k6b
 replace k6c := kq hx k6c
 replace IcA := IcA.below hx
 replace IcB := IcB.below hx
 replace hb : Below w.heap.size w w14 := after hb hx
 clear hx
 refine wr (.tuple #[codeV gacC gccC hacC hccC cC, .int .i64 0]) (w14) ?_
 refine wr (codeV gacC gccC hacC hccC cC) (w14) ?_
 refine wr (.int .i64 0) (w14) ?_
 refine mbx 35 (.tmp 8) (.tmp 51) #[.slice none 0 0, .slice none 0 0] (([.slice gacC (cC).blocks.length gccC, .slice hacC (cC).params.length hccC]).toArray) cellsCode (oneCode _ _ rfl rfl) ?_
 rintro w15 ⟨hx, q6⟩
 replace q1 := kq hx q1
 replace q2 := kq hx q2
 replace k3 := kq hx k3
 replace q3 := kq hx q3
 replace q4 := kq hx q4
 replace k5 := kq hx k5
 replace k5b := kq hx k5b
 replace q5 := kq hx q5
 replace k6 := kq hx k6
 replace k6b := kq hx k6b
 replace k6c := kq hx k6c
 replace IcA := IcA.below hx
 replace IcB := IcB.below hx
 replace IcC := IcC.below hx
 replace hb : Below w.heap.size w w15 := after hb hx
 clear hx
 refine wn (.int .i64 0) (w15) ?_
 refine wpList_nil ?_
 go_upto_region 7 with (fail)
 refine wp_region_lit ?_
 refine ldr (.tmp 3) q3 underlying35 cellsCode ?_
 refine wpList_enter 18 #[codeV gacA gccA hacA hccA cA] (by kernel_rfl) (by kernel_rfl) _ (codeText_any gacA gccA hacA hccA cA w15 (hg.below hb) IcA ScA) ?_
 rw [RcA, if_pos rfl]
 rintro e w16 ⟨rfl, hx⟩
 refine ⟨_, rfl, ?_⟩
 simp only [Act.put, List.setIfInBounds_toArray, List.set_cons_zero, List.set_cons_succ]
 replace q1 := kq hx q1
 replace q2 := kq hx q2
 replace k3 := kq hx k3
 replace q3 := kq hx q3
 replace q4 := kq hx q4
 replace k5 := kq hx k5
 replace k5b := kq hx k5b
 replace q5 := kq hx q5
 replace k6 := kq hx k6
 replace k6b := kq hx k6b
 replace k6c := kq hx k6c
 replace q6 := kq hx q6
 replace IcA := IcA.below hx
 replace IcB := IcB.below hx
 replace IcC := IcC.below hx
 replace hb : Below w.heap.size w w16 := after hb hx
 clear hx
 refine wr (.tuple #[.string ⟨(textC cA).toArray⟩, .int .i64 0]) (w16) ?_
 refine wr (.string ⟨(textC cA).toArray⟩) (w16) ?_
 refine wr (.int .i64 0) (w16) ?_
 refine wr (.string ⟨(textC cA).toArray⟩) (w16) ?_
 refine wn (.int .i64 0) (w16) ?_
 refine wpList_nil ?_
 go_upto_region 8 with (fail)
 refine wp_region_lit ?_
 refine ldr (.tmp 6) q5 underlying35 cellsCode ?_
 refine wpList_enter 18 #[codeV gacB gccB hacB hccB cB] (by kernel_rfl) (by kernel_rfl) _ (codeText_any gacB gccB hacB hccB cB w16 (hg.below hb) IcB ScB) ?_
 rw [RcB, if_pos rfl]
 rintro e w17 ⟨rfl, hx⟩
 refine ⟨_, rfl, ?_⟩
 simp only [Act.put, List.setIfInBounds_toArray, List.set_cons_zero, List.set_cons_succ]
 replace q1 := kq hx q1
 replace q2 := kq hx q2
 replace k3 := kq hx k3
 replace q3 := kq hx q3
 replace q4 := kq hx q4
 replace k5 := kq hx k5
 replace k5b := kq hx k5b
 replace q5 := kq hx q5
 replace k6 := kq hx k6
 replace k6b := kq hx k6b
 replace k6c := kq hx k6c
 replace q6 := kq hx q6
 replace IcA := IcA.below hx
 replace IcB := IcB.below hx
 replace IcC := IcC.below hx
 replace hb : Below w.heap.size w w17 := after hb hx
 clear hx
 refine wr (.tuple #[.string ⟨(textC cB).toArray⟩, .int .i64 0]) (w17) ?_
 refine wr (.string ⟨(textC cB).toArray⟩) (w17) ?_
 refine wr (.int .i64 0) (w17) ?_
 refine wr (.string ⟨(textC cB).toArray⟩) (w17) ?_
 refine wn (.int .i64 0) (w17) ?_
 refine wpList_nil ?_
 go_upto_region 9 with (fail)
 refine wp_region_lit ?_
 refine ldr (.tmp 8) q6 underlying35 cellsCode ?_
 refine wpList_enter 18 #[codeV gacC gccC hacC hccC cC] (by kernel_rfl) (by kernel_rfl) _ (codeText_any gacC gccC hacC hccC cC w17 (hg.below hb) IcC ScC) ?_
 rw [RcC, if_pos rfl]
 rintro e w18 ⟨rfl, hx⟩
 refine ⟨_, rfl, ?_⟩
 simp only [Act.put, List.setIfInBounds_toArray, List.set_cons_zero, List.set_cons_succ]
 replace q1 := kq hx q1
 replace q2 := kq hx q2
 replace k3 := kq hx k3
 replace q3 := kq hx q3
 replace q4 := kq hx q4
 replace k5 := kq hx k5
 replace k5b := kq hx k5b
 replace q5 := kq hx q5
 replace k6 := kq hx k6
 replace k6b := kq hx k6b
 replace k6c := kq hx k6c
 replace q6 := kq hx q6
 replace IcA := IcA.below hx
 replace IcB := IcB.below hx
 replace IcC := IcC.below hx
 replace hb : Below w.heap.size w w18 := after hb hx
 clear hx
 refine wr (.tuple #[.string ⟨(textC cC).toArray⟩, .int .i64 0]) (w18) ?_
 refine wr (.string ⟨(textC cC).toArray⟩) (w18) ?_
 refine wr (.int .i64 0) (w18) ?_
 refine wr (.string ⟨(textC cC).toArray⟩) (w18) ?_
 refine wn (.int .i64 0) (w18) ?_
 refine wpList_nil ?_
 go_upto_region 10 with (fail)
 refine wp_region_lit ?_
 refine wr (.agg (nodeC NodeD.none (.slice none 0 0)).toArray) (w18) ?_
 have hn0 : NodeAt 24 w18 (nodeC NodeD.none (.slice none 0 0)) NodeD.none := node_leaf (f := 23) rfl smz
 refine wpList_enter 10 #[.agg (nodeC NodeD.none (.slice none 0 0)).toArray] (by kernel_rfl) (by kernel_rfl) _ (compile_any NodeD.none (nodeC NodeD.none (.slice none 0 0)) w18 (hg.below hb) (hn0) (by decide +kernel)) ?_
 intro e w19 hr
 obtain ⟨hx, rfl⟩ := compile_no eg_none.1 hr
 refine ⟨_, rfl, ?_⟩
 clear hr
 rw [eg_none.2]
 simp only [Act.put, List.setIfInBounds_toArray, List.set_cons_zero, List.set_cons_succ]
 replace q1 := kq hx q1
 replace q2 := kq hx q2
 replace k3 := kq hx k3
 replace q3 := kq hx q3
 replace q4 := kq hx q4
 replace k5 := kq hx k5
 replace k5b := kq hx k5b
 replace q5 := kq hx q5
 replace k6 := kq hx k6
 replace k6b := kq hx k6b
 replace k6c := kq hx k6c
 replace q6 := kq hx q6
 replace IcA := IcA.below hx
 replace IcB := IcB.below hx
 replace IcC := IcC.below hx
 replace hb : Below w.heap.size w w19 := after hb hx
 clear hx
 refine wr (.tuple #[noCode, .int .i64 50]) (w19) ?_
 refine wr (noCode) (w19) ?_
 refine wr (.int .i64 50) (w19) ?_
 refine mbx 35 (.tmp 16) (.tmp 71) #[.slice none 0 0, .slice none 0 0] (([.slice none 0 0, .slice none 0 0]).toArray) cellsCode (oneCode _ _ rfl rfl) ?_
 rintro w20 ⟨hx, q10⟩
 replace q1 := kq hx q1
 replace q2 := kq hx q2
 replace k3 := kq hx k3
 replace q3 := kq hx q3
 replace q4 := kq hx q4
 replace k5 := kq hx k5
 replace k5b := kq hx k5b
 replace q5 := kq hx q5
 replace k6 := kq hx k6
 replace k6b := kq hx k6b
 replace k6c := kq hx k6c
 replace q6 := kq hx q6
 replace IcA := IcA.below hx
 replace IcB := IcB.below hx
 replace IcC := IcC.below hx
 replace hb : Below w.heap.size w w20 := after hb hx
 clear hx
 refine wn (.int .i64 50) (w20) ?_
 refine wpList_nil ?_
 rw [TA, TB, TC]
 go_upto_region 11 with (fail)
 refine wp_region_lit ?_
 refine wr (.int .i64 0) (w20) ?_
 refine wr (.bool true) (w20) ?_
 refine wn (.bool true) (w20) ?_
 refine wr (.int .i64 0) (w20) ?_
 refine wr (.bool true) (w20) ?_
 refine wr (.bool true) (w20) ?_
 refine wn (.bool true) (w20) ?_
 refine wr (.int .i64 0) (w20) ?_
 refine wr (.bool true) (w20) ?_
 refine wr (.bool true) (w20) ?_
 refine wn (.bool true) (w20) ?_
 refine wr (.int .i64 0) (w20) ?_
 refine wr (.bool true) (w20) ?_
 refine wr (.bool true) (w20) ?_
 refine wn (.bool true) (w20) ?_
 refine wr (.int .i64 0) (w20) ?_
 refine wr (.bool true) (w20) ?_
 refine wr (.bool true) (w20) ?_
 refine wn (.bool true) (w20) ?_
 refine wr (.int .i64 0) (w20) ?_
 refine wr (.bool true) (w20) ?_
 refine wr (.bool true) (w20) ?_
 refine wn (.bool true) (w20) ?_
 refine wr (.string ⟨([98, 108, 111, 99, 107, 32, 48, 32, 40, 41, 10, 32, 32, 114, 101, 102, 32, 65, 49, 10, 32, 32, 117, 110, 108, 101, 115, 115, 32, 50, 32, 51, 10, 32, 32, 110, 117, 109, 32, 50, 10, 32, 32, 103, 111, 32, 49, 10, 32, 32, 116, 114, 117, 116, 104, 32, 48, 10] : Bs).toArray⟩) (w20) ?_
 refine wr (.bool true) (w20) ?_
 refine wr (.bool true) (w20) ?_
 refine wn (.bool true) (w20) ?_
 refine wr (.string ⟨([98, 108, 111, 99, 107, 32, 48, 32, 40, 41, 10, 32, 32, 110, 117, 109, 32, 50, 10, 32, 32, 107, 101, 101, 112, 32, 120, 10, 32, 32, 103, 101, 116, 32, 120, 10, 32, 32, 103, 101, 116, 32, 120, 10, 32, 32, 111, 112, 32, 43, 10, 32, 32, 102, 111, 114, 103, 101, 116, 32, 49, 10] : Bs).toArray⟩) (w20) ?_
 refine wr (.bool true) (w20) ?_
 refine wr (.bool true) (w20) ?_
 refine wn (.bool true) (w20) ?_
 refine wr (.string ⟨([98, 108, 111, 99, 107, 32, 48, 32, 40, 41, 10, 32, 32, 102, 117, 110, 99, 32, 49, 32, 59, 102, 10, 32, 32, 107, 101, 101, 112, 32, 102, 10, 32, 32, 103, 101, 116, 32, 102, 10, 32, 32, 102, 111, 114, 103, 101, 116, 32, 49, 10, 98, 108, 111, 99, 107, 32, 49, 32, 40, 110, 41, 10, 32, 32, 103, 101, 116, 32, 102, 10, 32, 32, 103, 101, 116, 32, 110, 10, 32, 32, 97, 112, 112, 108, 121, 32, 49, 10] : Bs).toArray⟩) (w20) ?_
 refine wr (.bool true) (w20) ?_
 refine wr (.bool true) (w20) ?_
 refine wn (.bool true) (w20) ?_
 refine wr (.int .i64 50) (w20) ?_
 refine wr (.bool true) (w20) ?_
 refine wr (.bool true) (w20) ?_
 refine wn (.bool true) (w20) ?_
 have cR := fun W (h : Below w.heap.size w W) (I : CodeIn W gacA gccA hacA hccA cA) => codeRight_any gacA gccA hacA hccA cA W (hg.below h) I ScA
 rw [RcA] at cR
 refine wpList_want (by kernel_rfl) (fun KK hKK => ?_)
 refine wp_load_row 35 (.tmp 3) rfl (w4.heap.size) rfl 35 ([.slice gacA (cA).blocks.length gccA, .slice hacA (cA).params.length hccA]).toArray (0, 0) _ q3 underlying35 rfl cellsCode ?_
 refine hKK _ _ ?_; clear hKK KK
 refine wpList_enter 12 #[codeV gacA gccA hacA hccA cA] (by kernel_rfl) (by kernel_rfl) _ (cR w20 hb IcA) ?_
 rintro e w21 ⟨rfl, hx⟩
 refine ⟨.bool true, rfl, ?_⟩
 replace q1 := kq hx q1
 replace q2 := kq hx q2
 replace k3 := kq hx k3
 replace q3 := kq hx q3
 replace q4 := kq hx q4
 replace k5 := kq hx k5
 replace k5b := kq hx k5b
 replace q5 := kq hx q5
 replace k6 := kq hx k6
 replace k6b := kq hx k6b
 replace k6c := kq hx k6c
 replace q6 := kq hx q6
 replace q10 := kq hx q10
 replace IcA := IcA.below hx
 replace IcB := IcB.below hx
 replace IcC := IcC.below hx
 replace hb : Below w.heap.size w w21 := after hb hx
 clear hx
 refine wr (.bool true) (w21) ?_
 refine wn (.bool true) (w21) ?_
 have cZ := fun W (h : Below w.heap.size w W) => codeRight_any none 0 none 0 ⟨[], []⟩ W (hg.below h) (noCode_in W) noCode_sm
 rw [none_wrong] at cZ
 refine wr (noCode) (w21) ?_
 refine wpList_enter 12 #[noCode] (by kernel_rfl) (by kernel_rfl) _ (cZ w21 hb) ?_
 rintro e w22 ⟨rfl, hx⟩
 refine ⟨.bool false, rfl, ?_⟩
 replace q1 := kq hx q1
 replace q2 := kq hx q2
 replace k3 := kq hx k3
 replace q3 := kq hx q3
 replace q4 := kq hx q4
 replace k5 := kq hx k5
 replace k5b := kq hx k5b
 replace q5 := kq hx q5
 replace k6 := kq hx k6
 replace k6b := kq hx k6b
 replace k6c := kq hx k6c
 replace q6 := kq hx q6
 replace q10 := kq hx q10
 replace IcA := IcA.below hx
 replace IcB := IcB.below hx
 replace IcC := IcC.below hx
 replace hb : Below w.heap.size w w22 := after hb hx
 clear hx
 refine wr (.bool true) (w22) ?_
 refine wr (.bool true) (w22) ?_
 refine wn (.bool true) (w22) ?_
 have cS := fun W (I : CodeIn W gacA gccA hacA hccA cA) => codeSame_any cA cA gacA gacA hacA hacA gccA gccA hccA hccA W I I ScA ScA
 rw [SAA] at cS
 refine wpList_want (by kernel_rfl) (fun KK hKK => ?_)
 refine wp_load_row 35 (.tmp 3) rfl (w4.heap.size) rfl 35 ([.slice gacA (cA).blocks.length gccA, .slice hacA (cA).params.length hccA]).toArray (0, 0) _ q3 underlying35 rfl cellsCode ?_
 refine hKK _ _ ?_; clear hKK KK
 refine wpList_want (by kernel_rfl) (fun KK hKK => ?_)
 refine wp_load_row 35 (.tmp 3) rfl (w4.heap.size) rfl 35 ([.slice gacA (cA).blocks.length gccA, .slice hacA (cA).params.length hccA]).toArray (0, 0) _ q3 underlying35 rfl cellsCode ?_
 refine hKK _ _ ?_; clear hKK KK
 refine wpList_enter 19 #[codeV gacA gccA hacA hccA cA, codeV gacA gccA hacA hccA cA] (by kernel_rfl) (by kernel_rfl) _ (cS w22 IcA) ?_
 rintro e w23 ⟨rfl, hx⟩
 refine ⟨.bool true, rfl, ?_⟩
 replace q1 := kq hx q1
 replace q2 := kq hx q2
 replace k3 := kq hx k3
 replace q3 := kq hx q3
 replace q4 := kq hx q4
 replace k5 := kq hx k5
 replace k5b := kq hx k5b
 replace q5 := kq hx q5
 replace k6 := kq hx k6
 replace k6b := kq hx k6b
 replace k6c := kq hx k6c
 replace q6 := kq hx q6
 replace q10 := kq hx q10
 replace IcA := IcA.below hx
 replace IcB := IcB.below hx
 replace IcC := IcC.below hx
 replace hb : Below w.heap.size w w23 := after hb hx
 clear hx
 refine wr (.bool true) (w23) ?_
 refine wn (.bool true) (w23) ?_
 have cD := fun W (I : CodeIn W gacA gccA hacA hccA cA) (J : CodeIn W gacB gccB hacB hccB cB) => codeSame_any cA cB gacA gacB hacA hacB gccA gccB hccA hccB W I J ScA ScB
 rw [SAB] at cD
 refine wpList_want (by kernel_rfl) (fun KK hKK => ?_)
 refine wp_load_row 35 (.tmp 3) rfl (w4.heap.size) rfl 35 ([.slice gacA (cA).blocks.length gccA, .slice hacA (cA).params.length hccA]).toArray (0, 0) _ q3 underlying35 rfl cellsCode ?_
 refine hKK _ _ ?_; clear hKK KK
 refine wpList_want (by kernel_rfl) (fun KK hKK => ?_)
 refine wp_load_row 35 (.tmp 6) rfl (w9.heap.size) rfl 35 ([.slice gacB (cB).blocks.length gccB, .slice hacB (cB).params.length hccB]).toArray (0, 0) _ q5 underlying35 rfl cellsCode ?_
 refine hKK _ _ ?_; clear hKK KK
 refine wpList_enter 19 #[codeV gacA gccA hacA hccA cA, codeV gacB gccB hacB hccB cB] (by kernel_rfl) (by kernel_rfl) _ (cD w23 IcA IcB) ?_
 rintro e w24 ⟨rfl, hx⟩
 refine ⟨.bool false, rfl, ?_⟩
 replace q1 := kq hx q1
 replace q2 := kq hx q2
 replace k3 := kq hx k3
 replace q3 := kq hx q3
 replace q4 := kq hx q4
 replace k5 := kq hx k5
 replace k5b := kq hx k5b
 replace q5 := kq hx q5
 replace k6 := kq hx k6
 replace k6b := kq hx k6b
 replace k6c := kq hx k6c
 replace q6 := kq hx q6
 replace q10 := kq hx q10
 replace IcA := IcA.below hx
 replace IcB := IcB.below hx
 replace IcC := IcC.below hx
 replace hb : Below w.heap.size w w24 := after hb hx
 clear hx
 refine wr (.bool true) (w24) ?_
 refine wr (.bool true) (w24) ?_
 refine wn (.bool true) (w24) ?_
 refine wpList_nil ?_
 go_wp2
 go_ret; exact Ret.mk' rfl hb
end Go.Proofs.YtlpgigdegnbkmaaGreatDoor
