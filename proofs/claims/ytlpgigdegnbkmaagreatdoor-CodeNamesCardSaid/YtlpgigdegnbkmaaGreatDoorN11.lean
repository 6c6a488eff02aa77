import Derived.Test.YtlpgigdegnbkmaaGreatDoorN10
import Derived.Test.YtlpgigdegnbkmaaGreatDoorM41
import Derived.Test.YtlpgigdegnbkmaaGreatDoorN07
set_option maxRecDepth 100000
set_option maxHeartbeats 8000000
namespace Go.Proofs.YtlpgigdegnbkmaaGreatDoor
open Go.RowKit Tab Tryz
theorem nam_sm' {k : Int} {s : Bs} {l : List NodeD} (hs : s.length <= 1000) (hl : l.length <= 1000) : NodeSm (namN k s l) := sm_of ⟨by show (-9000000000000000000 : Int) <= 0; decide, by show (0 : Int) <= 9000000000000000000; decide⟩ hs hl (by show (0 : Int) <= 9223372036854775807; decide) rfl rfl
theorem heap_three (w : World) (A B C : Obj) : (((w.alloc A).alloc B).alloc C).heap[w.heap.size]? = some A /\ (((w.alloc A).alloc B).alloc C).heap[w.heap.size + 1]? = some B /\ (((w.alloc A).alloc B).alloc C).heap[w.heap.size + 1 + 1]? = some C := by
 have old : ∀ (w : World) (o : Obj) {r : Nat} {x : Obj}, w.heap[r]? = some x -> (w.alloc o).heap[r]? = some x := fun w o r x h => ((allocB (Below.refl w.heap.size w)).block r (heap_in h)).trans h
 have n1 : (w.alloc A).heap.size = w.heap.size + 1 := Array.size_push ..
 have n2 : ((w.alloc A).alloc B).heap.size = w.heap.size + 1 + 1 := (Array.size_push ..).trans (congrArg (· + 1) n1)
 exact ⟨old _ _ (old _ _ (heap_alloc_new w A)), old _ _ (by rw [<- n1]; exact heap_alloc_new _ _), by rw [<- n2]; exact heap_alloc_new _ _⟩
theorem let_any (x : Bs) (s t : NodeD) (sa ta : Option Addr) (sn sc tn tc : Nat) (fn : Bool) (w : World) (hxl : x.length <= 1000) (hs : NodeAt 23 w (nodeC s (.slice sa sn sc)) s) (ht : ∀ f, 17 <= f -> NodeAt f w (nodeC t (.slice ta tn tc)) t) : Calls prog 15 #[.string ⟨x.toArray⟩, .agg (nodeC s (.slice sa sn sc)).toArray, .agg (nodeC t (.slice ta tn tc)).toArray, .bool fn] w (fun e W => Below w.heap.size w W /\ ∃ b, e = .returned (.agg (nodeC (letN x s t fn) (.slice (some ⟨b, 0, none⟩) 2 2)).toArray) /\ NodeAt 24 W (nodeC (letN x s t fn) (.slice (some ⟨b, 0, none⟩) 2 2)) (letN x s t fn)) := by
 have sx : NodeSm (namN 7 x []) := nam_sm' hxl (Nat.zero_le _)
 have s9 : NodeSm (useN x t) := nam_sm' (by decide) (show 2 <= 1000 by decide)
 go_enter func15, ntmps15
 go_upto_region 1 with (fail)
 refine wp_abs2 (fun W => Below w.heap.size w W /\ W.heap[w.heap.size]? = some (.cells (nodeC s (.slice sa sn sc)).toArray 30 (0, 0)) /\ W.heap[w.heap.size + 1]? = some (.cells (nodeC t (.slice ta tn tc)).toArray 30 (0, 0)) /\ W.heap[w.heap.size + 1 + 1]? = some (.cells zeroN 30 (0, 0))) ⟨belx, heap_three _ _ _ _⟩ ?_
 rintro w1 ⟨hb, qs, qt, q8⟩
 obtain ⟨B, hB⟩ : ∃ z, w.heap.size = z := ⟨_, rfl⟩
 rw [hB] at qs qt q8 ⊢
 have zb : w.heap.size <= B := Nat.le_of_eq hB
 refine wp_region_lit ?_
 refine wn (.string ⟨x.toArray⟩) w1 ?_
 refine wn (.agg (nodeC (namN 7 x []) (.slice none 0 0)).toArray) w1 ?_
 refine ldr (.tmp 6) qt underlying30 cellsNode ?_
 have zR := heap_in q8
 refine mrw 2 30 ((nodeC (namN 7 x []) (.slice none 0 0) ++ nodeC t (.slice ta tn tc)).toArray) ?_
 rintro w2 ⟨hx, kr⟩
 replace qs := kq hx qs
 replace q8 := kq hx q8
 replace hb := after hb hx
 clear hx
 obtain ⟨R, hR⟩ : ∃ z, w1.heap.size = z := ⟨_, rfl⟩
 rw [hR] at kr zR ⊢
 clear hR
 refine wn (.agg (nodeC (useN x t) (.slice (some ⟨R, 0, none⟩) 2 2)).toArray) w2 ?_
 have zC := heap_in kr
 refine mbx 30 (.tmp 9) (.tmp 14) zeroN ((nodeC (useN x t) (.slice (some ⟨R, 0, none⟩) 2 2)).toArray) cellsNode (nodeC_one _ _ _ _) ?_
 rintro w3 ⟨hx, q9⟩
 replace qs := kq hx qs
 replace q8 := kq hx q8
 replace kr := kq hx kr
 replace hb := after hb hx
 clear hx
 obtain ⟨C, hC⟩ : ∃ z, w2.heap.size = z := ⟨_, rfl⟩
 rw [hC] at q9 zC ⊢
 clear hC qt
 refine wpList_nil ?_
 cases fn
 ·
  go_upto_region 4 with (fail)
  refine wp_region_lit ?_
  refine wn (.string ⟨x.toArray⟩) w3 ?_
  refine ldr (.tmp 5) qs underlying30 cellsNode ?_
  refine ldr (.tmp 9) q9 underlying30 cellsNode ?_
  have zF := heap_in q9
  refine mrw 2 30 ((nodeC s (.slice sa sn sc) ++ nodeC (useN x t) (.slice (some ⟨R, 0, none⟩) 2 2)).toArray) ?_
  rintro w4 ⟨hx, kf⟩
  replace qs := kq hx qs
  replace q8 := kq hx q8
  replace kr := kq hx kr
  replace q9 := kq hx q9
  replace hb := after hb hx
  clear hx
  obtain ⟨F, hF⟩ : ∃ z, w3.heap.size = z := ⟨_, rfl⟩
  rw [hF] at kf zF ⊢
  clear hF
  refine wn (.agg (nodeC (namN 16 x [s, useN x t]) (.slice (some ⟨F, 0, none⟩) 2 2)).toArray) w4 ?_
  refine wpList_store_mid rfl 30 (.tmp 8) (.tmp 27) rfl (B + 1 + 1) 0 (nodeC (namN 16 x [s, useN x t]) (.slice (some ⟨F, 0, none⟩) 2 2)).toArray rfl rfl (whole_there q8 rfl) cellsNode (nodeC_one _ _ _ _) ?_
  refine wpList_abs (fun  W => Below w.heap.size w W /\ W.heap[B + 1 + 1]? = some (.cells (nodeC (namN 16 x [s, useN x t]) (.slice (some ⟨F, 0, none⟩) 2 2)).toArray 30 (0, 0)) /\ W.heap[R]? = w4.heap[R]? /\ W.heap[F]? = w4.heap[F]?) ⟨below_cells2 (Nat.le_trans zb (Nat.le_add_right B 2)) _ _ _ hb, box_whole q8 rfl, cells_other (by omega) _ _ _, cells_other (by omega) _ _ _⟩ ?_
  rintro w5 ⟨hb, q8, ekr, ekf⟩
  refine wpList_nil ?_
  rw [<- ekr] at kr
  rw [<- ekf] at kf
  have HF : NodeAt 24 w5 (nodeC (namN 16 x [s, useN x t]) (.slice (some ⟨F, 0, none⟩) 2 2)) (namN 16 x [s, useN x t]) := node_two (f := 23) rfl kf (Nat.le_refl _) (nam_sm' hxl (show 2 <= 1000 by decide)) (hs.below hb) ((node_two (f := 22) (n := useN x t) rfl kr (Nat.le_refl _) s9 (node_leaf (f := 21) rfl sx) ((ht 22 (by decide)).below hb)))
  have HT := Lib.hid (And.intro hb (And.intro q8 HF))
  clear hb q8 HF hs ht kr kf ekr ekf q9 qs
  go_wp2
  exact bodyPost_ret (results_cell_row rfl _ _ (B + 1 + 1) 30 (nodeC (namN 16 x [s, useN x t]) (.slice (some ⟨F, 0, none⟩) 2 2)).toArray (0, 0) _ rfl HT.out.2.1 underlying30 rfl cellsNode) rfl ⟨HT.out.1, _, rfl, HT.out.2.2⟩
 ·
  go_upto_region 3 with (fail)
  refine wp_region_lit ?_
  refine ldr (.tmp 9) q9 underlying30 cellsNode ?_
  have zR1 := heap_in q9
  refine mrw 1 30 ((nodeC (useN x t) (.slice (some ⟨R, 0, none⟩) 2 2)).toArray) ?_
  rintro w4 ⟨hx, k1⟩
  replace qs := kq hx qs
  replace q8 := kq hx q8
  replace kr := kq hx kr
  replace q9 := kq hx q9
  replace hb := after hb hx
  clear hx
  obtain ⟨R1, hR1⟩ : ∃ z, w3.heap.size = z := ⟨_, rfl⟩
  rw [hR1] at k1 zR1 ⊢
  clear hR1
  refine wn (.agg (nodeC (namN 14 [112] [useN x t]) (.slice (some ⟨R1, 0, none⟩) 1 1)).toArray) w4 ?_
  refine wn (.string ⟨x.toArray⟩) w4 ?_
  refine wn (.agg (nodeC (namN 7 x []) (.slice none 0 0)).toArray) w4 ?_
  have zR2 := heap_in k1
  refine mrw 2 30 ((nodeC (namN 14 [112] [useN x t]) (.slice (some ⟨R1, 0, none⟩) 1 1) ++ nodeC (namN 7 x []) (.slice none 0 0)).toArray) ?_
  rintro w5 ⟨hx, k2⟩
  replace qs := kq hx qs
  replace q8 := kq hx q8
  replace kr := kq hx kr
  replace q9 := kq hx q9
  replace k1 := kq hx k1
  replace hb := after hb hx
  clear hx
  obtain ⟨R2, hR2⟩ : ∃ z, w4.heap.size = z := ⟨_, rfl⟩
  rw [hR2] at k2 zR2 ⊢
  clear hR2
  refine wn (.agg (nodeC (funN x t) (.slice (some ⟨R2, 0, none⟩) 2 2)).toArray) w5 ?_
  refine wpList_store_mid rfl 30 (.tmp 9) (.tmp 22) rfl C 0 (nodeC (funN x t) (.slice (some ⟨R2, 0, none⟩) 2 2)).toArray rfl rfl (whole_there q9 rfl) cellsNode (nodeC_one _ _ _ _) ?_
  refine wpList_abs (fun  W => Below w.heap.size w W /\ W.heap[C]? = some (.cells (nodeC (funN x t) (.slice (some ⟨R2, 0, none⟩) 2 2)).toArray 30 (0, 0)) /\ W.heap[B]? = w5.heap[B]? /\ W.heap[B + 1 + 1]? = w5.heap[B + 1 + 1]? /\ W.heap[R]? = w5.heap[R]? /\ W.heap[R1]? = w5.heap[R1]? /\ W.heap[R2]? = w5.heap[R2]?) ⟨below_cells2 (by omega) _ _ _ hb, box_whole q9 rfl, cells_other (by omega) _ _ _, cells_other (by omega) _ _ _, cells_other (by omega) _ _ _, cells_other (by omega) _ _ _, cells_other (by omega) _ _ _⟩ ?_
  rintro w6 ⟨hb, q9, es, e8, er, e1, e2⟩
  rw [<- es] at qs
  rw [<- e8] at q8
  rw [<- er] at kr
  rw [<- e1] at k1
  rw [<- e2] at k2
  clear es e8 er e1 e2
  refine wpList_nil ?_
  go_upto_region 4 with (fail)
  refine wp_region_lit ?_
  refine wn (.string ⟨x.toArray⟩) w6 ?_
  refine ldr (.tmp 5) qs underlying30 cellsNode ?_
  refine ldr (.tmp 9) q9 underlying30 cellsNode ?_
  have zF := heap_in k2
  refine mrw 2 30 ((nodeC s (.slice sa sn sc) ++ nodeC (funN x t) (.slice (some ⟨R2, 0, none⟩) 2 2)).toArray) ?_
  rintro w7 ⟨hx, kf⟩
  replace qs := kq hx qs
  replace q8 := kq hx q8
  replace kr := kq hx kr
  replace q9 := kq hx q9
  replace k1 := kq hx k1
  replace k2 := kq hx k2
  replace hb := after hb hx
  clear hx
  obtain ⟨F, hF⟩ : ∃ z, w6.heap.size = z := ⟨_, rfl⟩
  rw [hF] at kf zF ⊢
  clear hF
  refine wn (.agg (nodeC (namN 16 x [s, funN x t]) (.slice (some ⟨F, 0, none⟩) 2 2)).toArray) w7 ?_
  refine wpList_store_mid rfl 30 (.tmp 8) (.tmp 27) rfl (B + 1 + 1) 0 (nodeC (namN 16 x [s, funN x t]) (.slice (some ⟨F, 0, none⟩) 2 2)).toArray rfl rfl (whole_there q8 rfl) cellsNode (nodeC_one _ _ _ _) ?_
  refine wpList_abs (fun  W => Below w.heap.size w W /\ W.heap[B + 1 + 1]? = some (.cells (nodeC (namN 16 x [s, funN x t]) (.slice (some ⟨F, 0, none⟩) 2 2)).toArray 30 (0, 0)) /\ W.heap[R]? = w7.heap[R]? /\ W.heap[R1]? = w7.heap[R1]? /\ W.heap[R2]? = w7.heap[R2]? /\ W.heap[F]? = w7.heap[F]?) ⟨below_cells2 (Nat.le_trans zb (Nat.le_add_right B 2)) _ _ _ hb, box_whole q8 rfl, cells_other (by omega) _ _ _, cells_other (by omega) _ _ _, cells_other (by omega) _ _ _, cells_other (by omega) _ _ _⟩ ?_
  rintro w8 ⟨hb, q8, ekr, ek1, ek2, ekf⟩
  refine wpList_nil ?_
  rw [<- ekr] at kr
  rw [<- ek1] at k1
  rw [<- ek2] at k2
  rw [<- ekf] at kf
  have HF : NodeAt 24 w8 (nodeC (namN 16 x [s, funN x t]) (.slice (some ⟨F, 0, none⟩) 2 2)) (namN 16 x [s, funN x t]) := node_two (f := 23) rfl kf (Nat.le_refl _) (nam_sm' hxl (show 2 <= 1000 by decide)) (hs.below hb) ((node_two (f := 22) (n := funN x t) rfl k2 (Nat.le_refl _) (nam_sm' (by decide) (show 2 <= 1000 by decide)) (node_single (f := 21) (n := namN 14 [112] [useN x t]) rfl k1 (Nat.le_refl _) (nam_sm' (by decide) (show 1 <= 1000 by decide)) (node_two (f := 20) (n := useN x t) rfl kr (Nat.le_refl _) s9 (node_leaf (f := 19) rfl sx) ((ht 20 (by decide)).below hb))) (node_leaf (f := 21) rfl sx)))
  have HT := Lib.hid (And.intro hb (And.intro q8 HF))
  clear hb q8 HF hs ht kr k1 k2 kf ekr ek1 ek2 ekf q9 qs
  go_wp2
  exact bodyPost_ret (results_cell_row rfl _ _ (B + 1 + 1) 30 (nodeC (namN 16 x [s, funN x t]) (.slice (some ⟨F, 0, none⟩) 2 2)).toArray (0, 0) _ rfl HT.out.2.1 underlying30 rfl cellsNode) rfl ⟨HT.out.1, _, rfl, HT.out.2.2⟩
end Go.Proofs.YtlpgigdegnbkmaaGreatDoor
namespace Tab
theorem cleanN_of : ∀ (f : Nat) (n : NodeD), Tabled f n -> CleanN ownA ownB f n
 | 0, _, _ => trivial
 | f + 1, n, ⟨h1, h2⟩ => by
  have e1 : ∀ x ∈ namesT, lowerD x ≠ lowerD ownA /\ lowerD x ≠ lowerD ownB := by decide
  have e2 : ∀ x ∈ namesT, swapS ownA ownB x = x /\ ∀ y ∈ namesD x, (y.all (fun c => decide (c ≠ 44 /\ c ≠ 59)) = true) /\ lowerD y ≠ lowerD ownA /\ lowerD y ≠ lowerD ownB := by decide
  refine ⟨fun h => e1 _ (h1 (h.elim .inl fun h => .inr (.inl h))), fun h => ?_, fun k hk => cleanN_of f k (h2 k hk)⟩
  obtain ⟨h3, h4⟩ := e2 _ (h1 (h.elim (fun h => .inr (.inr (.inl h))) fun h => .inr (.inr (.inr h))))
  exact ⟨h3, fun y hy => ⟨one_of (h4 y hy).1, (h4 y hy).2⟩⟩
theorem cnt_let {x : Bs} {s t : NodeD} {fn : Bool} (hs : ∀ f, cntN f s <= 122880) (ht : ∀ f, cntN f t <= 122880) : cntN 24 (letN x s t fn) <= 1000000 := by
 have h1 := hs 23
 have h2 := ht 22
 have h3 := ht 20
 cases fn with
 | false => show 1 + (cntN 23 s + (1 + (1 + (cntN 22 t + 0)) + 0)) <= 1000000; omega
 | true => show 1 + (cntN 23 s + (1 + (1 + (1 + (1 + (cntN 20 t + 0)) + 0) + (1 + 0)) + 0)) <= 1000000; omega
theorem cnt_one {x : Bs} {s : NodeD} (hs : ∀ f, cntN f s <= 122880) : cntN 24 (oneN x s) <= 1000000 := by
 have h1 := hs 23
 show 1 + (cntN 23 s + (1 + 0)) <= 1000000
 omega
theorem err_some {n : NodeD} (h : errOf n = 0) : ∃ c, compileD n = some c := by
 unfold errOf at h
 unfold compileD
 split at h
 ·rename_i r; rw [if_pos r]
  split at h
  ·rename_i r; rw [if_pos r]; exact ⟨_, rfl⟩
  ·cases h
 ·cases h
theorem some_err {n : NodeD} {c : CodeD} (h : compileD n = some c) : errOf n = 0 := by
 unfold compileD at h
 unfold errOf
 split at h
 ·rename_i r; rw [if_pos r]
  split at h
  ·rename_i r; rw [if_pos r]
  ·cases h
 ·cases h
theorem err_cases (n : NodeD) : errOf n = 0 \/ errOf n = 50 \/ errOf n = 60 := by
 unfold errOf
 split
 ·split
  ·exact .inl rfl
  ·exact .inr (.inr rfl)
 ·exact .inr (.inl rfl)
end Tab
namespace Go.Proofs.YtlpgigdegnbkmaaGreatDoor
open Go.RowKit Tab Tryz
theorem code_ret3 {w : World} {n : NodeD} {e : Ending} {W : World} (hr : CodeRet w n e W) : Below w.heap.size w W /\ ∃ ga gc ha hc c E, e = .returned (.tuple #[codeV ga gc ha hc c, .int .i64 E]) /\ CodeIn W ga gc ha hc c /\ CodeSm c /\ E = errOf n /\ (E = 0 -> compileD n = some c) := by
 obtain ⟨hb, ⟨h1, h2⟩ | ⟨c, ga, gc, ha, hc, h1, h2, h3, h4⟩⟩ := hr
 ·refine ⟨hb, none, 0, none, 0, ⟨[], []⟩, errOf n, h2, noCode_in W, noCode_sm, rfl, fun h => ?_⟩
  obtain ⟨c, h3⟩ := err_some h
  rw [h1] at h3; cases h3
 ·exact ⟨hb, ga, gc, ha, hc, c, 0, h2, h3, h4, (some_err h1).symm, fun _ => h1⟩
theorem codeNames_any (X0 : List RawD) (a0 : Option Addr) (cap0 : Nat) (X1 : List RawD) (a1 : Option Addr) (cap1 : Nat) (fn : Bool) (w : World) (hg : Good w) (o0 : ∀ x ∈ X0, RawOk x) (l0 : X0.length <= 9223372036854775807) (r0 : RawRow w a0 X0) (o1 : ∀ x ∈ X1, RawOk x) (l1 : X1.length <= 9223372036854775807) (r1 : RawRow w a1 X1) : Calls prog 5 #[.slice a0 X0.length cap0, .slice a1 X1.length cap1, .bool fn] w (Ret (.bool true) w) := by
 have hgh := Lib.hid hg
 go_enter func5, ntmps5
 go_wp2_with fail
 refine (awake_any w hg).mono ?_; rintro e w1 ⟨rfl, hb⟩
 clear hg
 go_upto_region 2 with (fail)
 refine wp_region_lit ?_
 refine wn (.slice a0 X0.length cap0) w1 ?_
 refine wpList_enter 9 #[.slice a0 X0.length cap0] (by kernel_rfl) (by kernel_rfl) _ (treeOf_any X0 a0 cap0 w1 o0 l0 (r0.below hb)) ?_
 rintro e w2 ⟨n0, cs0, rfl, hq, hnice, hx⟩
 refine ⟨_, rfl, ?_⟩
 obtain ⟨na0, nm0, nc0, rfl⟩ := hq.shape
 have ht0 := fun f (hf : 17 <= f) => (hq.deep hf).at
 have hk0 := fun f => (hnice f).1
 have cl0 := fun f => cleanN_of f n0 (hnice f).2
 clear hq hnice
 replace hb := after hb hx
 clear hx
 refine mbx 30 (.tmp 8) (.tmp 20) zeroN ((nodeC n0 (.slice na0 nm0 nc0)).toArray) cellsNode (nodeC_one _ _ _ _) ?_
 rintro w3 ⟨hx, q0⟩
 replace ht0 := fun f (hf : 17 <= f) => (ht0 f hf).below hx
 replace hb := after hb hx
 clear hx
 obtain ⟨B0, hB⟩ : ∃ z, w2.heap.size = z := ⟨_, rfl⟩
 rw [hB] at q0 ⊢
 clear hB
 refine wpList_nil ?_
 go_upto_region 3 with (fail)
 refine wp_region_lit ?_
 refine wn (.slice a1 X1.length cap1) w3 ?_
 refine wpList_enter 9 #[.slice a1 X1.length cap1] (by kernel_rfl) (by kernel_rfl) _ (treeOf_any X1 a1 cap1 w3 o1 l1 (r1.below hb)) ?_
 rintro e w4 ⟨n1, cs1, rfl, hq, hnice, hx⟩
 refine ⟨_, rfl, ?_⟩
 obtain ⟨na1, nm1, nc1, rfl⟩ := hq.shape
 have ht1 := fun f (hf : 17 <= f) => (hq.deep hf).at
 have hk1 := fun f => (hnice f).1
 have cl1 := fun f => cleanN_of f n1 (hnice f).2
 clear hq hnice
 replace q0 := kq hx q0
 replace ht0 := fun f (hf : 17 <= f) => (ht0 f hf).below hx
 replace hb := after hb hx
 clear hx
 refine mbx 30 (.tmp 9) (.tmp 22) zeroN ((nodeC n1 (.slice na1 nm1 nc1)).toArray) cellsNode (nodeC_one _ _ _ _) ?_
 rintro w5 ⟨hx, q1⟩
 replace ht1 := fun f (hf : 17 <= f) => (ht1 f hf).below hx
 replace q0 := kq hx q0
 replace ht0 := fun f (hf : 17 <= f) => (ht0 f hf).below hx
 replace hb := after hb hx
 clear hx
 obtain ⟨B1, hB⟩ : ∃ z, w4.heap.size = z := ⟨_, rfl⟩
 rw [hB] at q1 ⊢
 clear hB
 refine wpList_nil ?_
 go_upto_region 4 with (fail)
 refine wp_region_lit ?_
 refine ldr (.tmp 8) q0 underlying30 cellsNode ?_
 refine ldr (.tmp 9) q1 underlying30 cellsNode ?_
 refine wn (.bool fn) w5 ?_
 refine wpList_enter 15 #[.string ⟨ownA.toArray⟩, .agg (nodeC n0 (.slice na0 nm0 nc0)).toArray, .agg (nodeC n1 (.slice na1 nm1 nc1)).toArray, .bool fn] (by kernel_rfl) (by kernel_rfl) _ (let_any ownA n0 n1 na0 na1 nm0 nc0 nm1 nc1 fn w5 (by decide) (ht0 23 (by decide)) ht1) ?_
 rintro e w6 ⟨hx, lb8, rfl, hN⟩
 refine ⟨_, rfl, ?_⟩
 replace q0 := kq hx q0
 replace ht0 := fun f (hf : 17 <= f) => (ht0 f hf).below hx
 replace q1 := kq hx q1
 replace ht1 := fun f (hf : 17 <= f) => (ht1 f hf).below hx
 replace hb := after hb hx
 clear hx
 refine wpList_enter 10 #[.agg (nodeC (letN ownA n0 n1 fn) (.slice (some ⟨lb8, 0, none⟩) 2 2)).toArray] (by kernel_rfl) (by kernel_rfl) _ (compile_any (letN ownA n0 n1 fn) _ w6 (hgh.out.below hb) hN (cnt_let hk0 hk1)) ?_
 rintro e w7 hr
 obtain ⟨hx, ga8, gc8, ha8, hc8, c8, E8, rfl, hI8, hS8, hE8, hC8⟩ := code_ret3 hr
 refine ⟨_, rfl, ?_⟩
 clear hr
 replace q0 := kq hx q0
 replace ht0 := fun f (hf : 17 <= f) => (ht0 f hf).below hx
 replace q1 := kq hx q1
 replace ht1 := fun f (hf : 17 <= f) => (ht1 f hf).below hx
 replace hb := after hb hx
 clear hx
 refine wn (.tuple #[codeV ga8 gc8 ha8 hc8 c8, .int .i64 E8]) w7 ?_
 refine wn (codeV ga8 gc8 ha8 hc8 c8) w7 ?_
 refine wn (.int .i64 E8) w7 ?_
 refine mbx 35 (.tmp 10) (.tmp 29) #[.slice none 0 0, .slice none 0 0] (([.slice ga8 c8.blocks.length gc8, .slice ha8 c8.params.length hc8]).toArray) cellsCode (oneCode _ _ rfl rfl) ?_
 rintro w8 ⟨hx, p8⟩
 replace hI8 := hI8.below hx
 replace q0 := kq hx q0
 replace ht0 := fun f (hf : 17 <= f) => (ht0 f hf).below hx
 replace q1 := kq hx q1
 replace ht1 := fun f (hf : 17 <= f) => (ht1 f hf).below hx
 replace hb := after hb hx
 clear hx
 obtain ⟨P8, hP⟩ : ∃ z, w7.heap.size = z := ⟨_, rfl⟩
 rw [hP] at p8 ⊢
 clear hP
 refine wn (.int .i64 E8) w8 ?_
 refine wpList_nil ?_
 clear hN
 go_upto_region 5 with (fail)
 refine wp_region_lit ?_
 refine ldr (.tmp 8) q0 underlying30 cellsNode ?_
 refine ldr (.tmp 9) q1 underlying30 cellsNode ?_
 refine wn (.bool fn) w8 ?_
 refine wpList_enter 15 #[.string ⟨ownB.toArray⟩, .agg (nodeC n0 (.slice na0 nm0 nc0)).toArray, .agg (nodeC n1 (.slice na1 nm1 nc1)).toArray, .bool fn] (by kernel_rfl) (by kernel_rfl) _ (let_any ownB n0 n1 na0 na1 nm0 nc0 nm1 nc1 fn w8 (by decide) (ht0 23 (by decide)) ht1) ?_
 rintro e w9 ⟨hx, lb9, rfl, hN⟩
 refine ⟨_, rfl, ?_⟩
 replace q0 := kq hx q0
 replace ht0 := fun f (hf : 17 <= f) => (ht0 f hf).below hx
 replace q1 := kq hx q1
 replace ht1 := fun f (hf : 17 <= f) => (ht1 f hf).below hx
 replace p8 := kq hx p8
 replace hI8 := hI8.below hx
 replace hb := after hb hx
 clear hx
 refine wpList_enter 10 #[.agg (nodeC (letN ownB n0 n1 fn) (.slice (some ⟨lb9, 0, none⟩) 2 2)).toArray] (by kernel_rfl) (by kernel_rfl) _ (compile_any (letN ownB n0 n1 fn) _ w9 (hgh.out.below hb) hN (cnt_let hk0 hk1)) ?_
 rintro e w10 hr
 obtain ⟨hx, ga9, gc9, ha9, hc9, c9, E9, rfl, hI9, hS9, hE9, hC9⟩ := code_ret3 hr
 refine ⟨_, rfl, ?_⟩
 clear hr
 replace q0 := kq hx q0
 replace ht0 := fun f (hf : 17 <= f) => (ht0 f hf).below hx
 replace q1 := kq hx q1
 replace ht1 := fun f (hf : 17 <= f) => (ht1 f hf).below hx
 replace p8 := kq hx p8
 replace hI8 := hI8.below hx
 replace hb := after hb hx
 clear hx
 refine wn (.tuple #[codeV ga9 gc9 ha9 hc9 c9, .int .i64 E9]) w10 ?_
 refine wn (codeV ga9 gc9 ha9 hc9 c9) w10 ?_
 refine wn (.int .i64 E9) w10 ?_
 refine mbx 35 (.tmp 12) (.tmp 37) #[.slice none 0 0, .slice none 0 0] (([.slice ga9 c9.blocks.length gc9, .slice ha9 c9.params.length hc9]).toArray) cellsCode (oneCode _ _ rfl rfl) ?_
 rintro w11 ⟨hx, p9⟩
 replace hI9 := hI9.below hx
 replace q0 := kq hx q0
 replace ht0 := fun f (hf : 17 <= f) => (ht0 f hf).below hx
 replace q1 := kq hx q1
 replace ht1 := fun f (hf : 17 <= f) => (ht1 f hf).below hx
 replace p8 := kq hx p8
 replace hI8 := hI8.below hx
 replace hb := after hb hx
 clear hx
 obtain ⟨P9, hP⟩ : ∃ z, w10.heap.size = z := ⟨_, rfl⟩
 rw [hP] at p9 ⊢
 clear hP
 refine wn (.int .i64 E9) w11 ?_
 refine wpList_nil ?_
 clear hN
 go_upto_region 6 with (fail)
 refine wp_region_lit ?_
 refine ldr (.tmp 8) q0 underlying30 cellsNode ?_
 refine wn (.agg (nodeC (namN 7 ownG []) (.slice none 0 0)).toArray) w11 ?_
 refine mrw 2 30 (((nodeC n0 (.slice na0 nm0 nc0)) ++ nodeC (namN 7 ownG []) (.slice none 0 0)).toArray) ?_
 rintro w12 ⟨hx, kr⟩
 replace q0 := kq hx q0
 replace ht0 := fun f (hf : 17 <= f) => (ht0 f hf).below hx
 replace q1 := kq hx q1
 replace ht1 := fun f (hf : 17 <= f) => (ht1 f hf).below hx
 replace p8 := kq hx p8
 replace hI8 := hI8.below hx
 replace p9 := kq hx p9
 replace hI9 := hI9.below hx
 replace hb := after hb hx
 clear hx
 refine wn (.agg (nodeC (oneN ownG n0) (.slice (some ⟨w11.heap.size, 0, none⟩) 2 2)).toArray) w12 ?_
 refine wpList_enter 10 #[.agg (nodeC (oneN ownG n0) (.slice (some ⟨w11.heap.size, 0, none⟩) 2 2)).toArray] (by kernel_rfl) (by kernel_rfl) _ (compile_any (oneN ownG n0) _ w12 (hgh.out.below hb) (node_two (f := 23) (n := (oneN ownG n0)) rfl kr (Nat.le_refl _) (nam_sm' (by decide) (show 2 <= 1000 by decide)) (ht0 23 (by decide)) (node_leaf (f := 22) (n := namN 7 ownG []) rfl (nam_sm' (by decide) (Nat.zero_le _)))) (cnt_one hk0)) ?_
 rintro e w13 hr
 obtain ⟨hx, ga10, gc10, ha10, hc10, c10, E10, rfl, hI10, hS10, hE10, hC10⟩ := code_ret3 hr
 refine ⟨_, rfl, ?_⟩
 clear hr
 replace q0 := kq hx q0
 replace ht0 := fun f (hf : 17 <= f) => (ht0 f hf).below hx
 replace q1 := kq hx q1
 replace ht1 := fun f (hf : 17 <= f) => (ht1 f hf).below hx
 replace p8 := kq hx p8
 replace hI8 := hI8.below hx
 replace p9 := kq hx p9
 replace hI9 := hI9.below hx
 replace hb := after hb hx
 clear hx
 refine wn (.tuple #[codeV ga10 gc10 ha10 hc10 c10, .int .i64 E10]) w13 ?_
 refine wn (codeV ga10 gc10 ha10 hc10 c10) w13 ?_
 refine wn (.int .i64 E10) w13 ?_
 refine mbx 35 (.tmp 14) (.tmp 45) #[.slice none 0 0, .slice none 0 0] (([.slice ga10 c10.blocks.length gc10, .slice ha10 c10.params.length hc10]).toArray) cellsCode (oneCode _ _ rfl rfl) ?_
 rintro w14 ⟨hx, p10⟩
 replace hI10 := hI10.below hx
 replace q0 := kq hx q0
 replace ht0 := fun f (hf : 17 <= f) => (ht0 f hf).below hx
 replace q1 := kq hx q1
 replace ht1 := fun f (hf : 17 <= f) => (ht1 f hf).below hx
 replace p8 := kq hx p8
 replace hI8 := hI8.below hx
 replace p9 := kq hx p9
 replace hI9 := hI9.below hx
 replace hb := after hb hx
 clear hx
 obtain ⟨P10, hP⟩ : ∃ z, w13.heap.size = z := ⟨_, rfl⟩
 rw [hP] at p10 ⊢
 clear hP
 refine wn (.int .i64 E10) w14 ?_
 refine wpList_nil ?_
 clear kr
 go_upto_region 7 with (fail)
 refine wp_region_lit ?_
 refine ldr (.tmp 8) q0 underlying30 cellsNode ?_
 refine wn (.agg (nodeC (namN 7 ownA []) (.slice none 0 0)).toArray) w14 ?_
 refine mrw 2 30 (((nodeC n0 (.slice na0 nm0 nc0)) ++ nodeC (namN 7 ownA []) (.slice none 0 0)).toArray) ?_
 rintro w15 ⟨hx, kr⟩
 replace q0 := kq hx q0
 replace ht0 := fun f (hf : 17 <= f) => (ht0 f hf).below hx
 replace q1 := kq hx q1
 replace ht1 := fun f (hf : 17 <= f) => (ht1 f hf).below hx
 replace p8 := kq hx p8
 replace hI8 := hI8.below hx
 replace p9 := kq hx p9
 replace hI9 := hI9.below hx
 replace p10 := kq hx p10
 replace hI10 := hI10.below hx
 replace hb := after hb hx
 clear hx
 refine wn (.agg (nodeC (oneN ownA n0) (.slice (some ⟨w14.heap.size, 0, none⟩) 2 2)).toArray) w15 ?_
 refine wpList_enter 10 #[.agg (nodeC (oneN ownA n0) (.slice (some ⟨w14.heap.size, 0, none⟩) 2 2)).toArray] (by kernel_rfl) (by kernel_rfl) _ (compile_any (oneN ownA n0) _ w15 (hgh.out.below hb) (node_two (f := 23) (n := (oneN ownA n0)) rfl kr (Nat.le_refl _) (nam_sm' (by decide) (show 2 <= 1000 by decide)) (ht0 23 (by decide)) (node_leaf (f := 22) (n := namN 7 ownA []) rfl (nam_sm' (by decide) (Nat.zero_le _)))) (cnt_one hk0)) ?_
 rintro e w16 hr
 obtain ⟨hx, ga11, gc11, ha11, hc11, c11, E11, rfl, hI11, hS11, hE11, hC11⟩ := code_ret3 hr
 refine ⟨_, rfl, ?_⟩
 clear hr
 replace q0 := kq hx q0
 replace ht0 := fun f (hf : 17 <= f) => (ht0 f hf).below hx
 replace q1 := kq hx q1
 replace ht1 := fun f (hf : 17 <= f) => (ht1 f hf).below hx
 replace p8 := kq hx p8
 replace hI8 := hI8.below hx
 replace p9 := kq hx p9
 replace hI9 := hI9.below hx
 replace p10 := kq hx p10
 replace hI10 := hI10.below hx
 replace hb := after hb hx
 clear hx
 refine wn (.tuple #[codeV ga11 gc11 ha11 hc11 c11, .int .i64 E11]) w16 ?_
 refine wn (codeV ga11 gc11 ha11 hc11 c11) w16 ?_
 refine wn (.int .i64 E11) w16 ?_
 refine mbx 35 (.tmp 16) (.tmp 53) #[.slice none 0 0, .slice none 0 0] (([.slice ga11 c11.blocks.length gc11, .slice ha11 c11.params.length hc11]).toArray) cellsCode (oneCode _ _ rfl rfl) ?_
 rintro w17 ⟨hx, p11⟩
 replace hI11 := hI11.below hx
 replace q0 := kq hx q0
 replace ht0 := fun f (hf : 17 <= f) => (ht0 f hf).below hx
 replace q1 := kq hx q1
 replace ht1 := fun f (hf : 17 <= f) => (ht1 f hf).below hx
 replace p8 := kq hx p8
 replace hI8 := hI8.below hx
 replace p9 := kq hx p9
 replace hI9 := hI9.below hx
 replace p10 := kq hx p10
 replace hI10 := hI10.below hx
 replace hb := after hb hx
 clear hx
 obtain ⟨P11, hP⟩ : ∃ z, w16.heap.size = z := ⟨_, rfl⟩
 rw [hP] at p11 ⊢
 clear hP
 refine wn (.int .i64 E11) w17 ?_
 refine wpList_nil ?_
 clear kr
 obtain ⟨hL, hT⟩ := let_told n0 n1 fn cl0 cl1
 obtain ⟨hO, hU⟩ := one_told n0
 rw [<- hL, <- hE8] at hE9
 rw [hO, <- hE11] at hE10
 subst hE9 hE10
 clear hL hO ht0 ht1 hk0 hk1 cl0 cl1 q0 q1 o0 o1 r0 r1
 have h8 := err_cases (letN ownA n0 n1 fn)
 rw [<- hE8] at h8
 have h11 := err_cases (oneN ownA n0)
 rw [<- hE11] at h11
 clear hE8 hE11
 by_cases hz : E9 = 0 /\ E10 = 0
 rotate_left
 ·have HB := Lib.hid hb
  clear hC8 hC9 hC10 hC11 hI8 hI9 hI10 hI11 hS8 hS9 hS10 hS11 hT hU p8 p9 p10 p11 hb
  rcases h8 with rfl | rfl | rfl <;> rcases h11 with rfl | rfl | rfl
  ·exact absurd ⟨rfl, rfl⟩ hz
  all_goals (
   clear hz
   go_wp2
   go_ret; exact Ret.mk' rfl HB.out)
 obtain ⟨rfl, rfl⟩ := hz
 have s1 : c9 = swapC ownA ownB c8 := Option.some.inj ((hC9 rfl).symm.trans (hT c8 (hC8 rfl)))
 have s2 : c10 = c11 := Option.some.inj ((hC10 rfl).symm.trans (hU.trans (hC11 rfl)))
 have HS := Lib.hid (And.intro s1 s2)
 clear h8 h11 hT hU hC8 hC9 hC10 hC11 s1 s2
 obtain ⟨s1, s2⟩ := HS.out
 have cW := fun (W : World) (h : Below w17.heap.size w17 W) => swapped_any c8 ga8 ha8 gc8 hc8 ⟨ownA.toArray⟩ ⟨ownB.toArray⟩ W (hI8.below h) hS8 (by decide)
 have c19 := fun (W : World) (h : Below w17.heap.size w17 W) (ga ha : Option Addr) (gc hc : Nat) (hJ : CodeIn W ga gc ha hc (swapC ownA ownB c8)) => ref6Same_any (swapC ownA ownB c8) c9 ga ga9 ha ha9 gc gc9 hc hc9 W hJ (hI9.below h) (by rw [<- s1]; exact hS9) hS9
 have c21 := fun (W : World) (h : Below w17.heap.size w17 W) => ref6Same_any c10 c11 ga10 ga11 ha10 ha11 gc10 gc11 hc10 hc11 W (hI10.below h) (hI11.below h) hS10 hS11
 rw [(sameC_iff _ _).2 s1.symm] at c19
 rw [(sameC_iff _ _).2 s2] at c21
 clear s1 s2 hI8 hI9 hI10 hI11 hS8 hS9 hS10 hS11 HS
 go_upto_region 10 with (fail)
 refine wp_region_held_drew (S := fun W' => Below w17.heap.size w17 W') (by kernel_rfl) (drewB (Below.refl _ _)) (fun hHeld => ?_)
 obtain ⟨wg, hwg⟩ : ∃ z, z = w17.drew := ⟨_, rfl⟩
 rw [<- hwg] at hHeld ⊢
 clear hwg
 refine tk 0 hHeld ?_
 refine tk 1 hHeld ?_
 refine wpAnyH_take (i := 2) (oi := _) (v := .agg (List.toArray [.slice ga8 c8.blocks.length gc8, .slice ha8 c8.params.length hc8])) rfl (by kernel_rfl) (by kernel_rfl) (by kernel_rfl) (fun _ _ _ h => h) ?_ hHeld ?_
 ·exact yieldsIf_load_mid (by rfl) 35 (.tmp 10) rfl P8 0 rfl [.slice ga8 c8.blocks.length gc8, .slice ha8 c8.params.length hc8] _ (fun w' hSw => range_of (lie_cell (kq hSw p8)).1 rfl) underlying35 rfl cellsCode
 simp only [Act.put, List.setIfInBounds_toArray]
 refine wpAnyH_take (i := 4) (oi := _) (v := .agg (List.toArray [.slice ga9 c9.blocks.length gc9, .slice ha9 c9.params.length hc9])) rfl (by kernel_rfl) (by kernel_rfl) (by kernel_rfl) (fun _ _ _ h => h) ?_ hHeld ?_
 ·exact yieldsIf_load_mid (by rfl) 35 (.tmp 12) rfl P9 0 rfl [.slice ga9 c9.blocks.length gc9, .slice ha9 c9.params.length hc9] _ (fun w' hSw => range_of (lie_cell (kq hSw p9)).1 rfl) underlying35 rfl cellsCode
 simp only [Act.put]
 refine wpAnyH_ready (rs := [3]) (by kernel_rfl) (by simp) ?_
 refine (AllReadyH.cons rfl (fun K1 hK1 => ?_) AllReadyH.nil)
 rw [if_pos (by rfl)]
 refine oper_enter 17 #[codeV ga8 gc8 ha8 hc8 c8, .string ⟨ownA.toArray⟩, .string ⟨ownB.toArray⟩] _ (cW wg hHeld) ?_
 rintro e wz ⟨hx, gs, gsc, hs, hsc, rfl, hJ⟩
 refine ⟨_, rfl, ?_⟩
 refine hk2 hK1 (R := fun W' => Below w17.heap.size w17 W' /\ CodeIn W' gs gsc hs hsc (swapC ownA ownB c8)) ⟨after hHeld hx, hJ⟩ ?_ (fun _ t => t.1)
 clear hHeld hK1 K1 hx hJ
 rintro wh ⟨-, hJ⟩ hHeld
 simp only [Act.put]
 refine wpAnyH_ready (rs := [5]) (by kernel_rfl) (by simp) ?_
 refine (AllReadyH.cons rfl (fun K1 hK1 => ?_) AllReadyH.nil)
 rw [if_pos (by rfl)]
 refine oper_enter 16 #[codeV gs gsc hs hsc (swapC ownA ownB c8), codeV ga9 gc9 ha9 hc9 c9] _ (c19 wh hHeld gs hs gsc hsc hJ) ?_
 rintro e wz ⟨rfl, hx⟩
 refine ⟨_, rfl, ?_⟩
 refine hk2 hK1 (R := fun W' => Below w17.heap.size w17 W') (after hHeld hx) ?_ (fun _ t => t)
 clear hHeld hK1 K1 hx hJ
 rintro wi - hHeld
 simp only [Act.put]
 refine tk 6 hHeld ?_
 refine tk 7 hHeld ?_
 refine wpAnyH_take (i := 8) (oi := _) (v := .agg (List.toArray [.slice ga10 c10.blocks.length gc10, .slice ha10 c10.params.length hc10])) rfl (by kernel_rfl) (by kernel_rfl) (by kernel_rfl) (fun _ _ _ h => h) ?_ hHeld ?_
 ·exact yieldsIf_load_mid (by rfl) 35 (.tmp 14) rfl P10 0 rfl [.slice ga10 c10.blocks.length gc10, .slice ha10 c10.params.length hc10] _ (fun w' hSw => range_of (lie_cell (kq hSw p10)).1 rfl) underlying35 rfl cellsCode
 simp only [Act.put, List.setIfInBounds_toArray]
 refine wpAnyH_take (i := 9) (oi := _) (v := .agg (List.toArray [.slice ga11 c11.blocks.length gc11, .slice ha11 c11.params.length hc11])) rfl (by kernel_rfl) (by kernel_rfl) (by kernel_rfl) (fun _ _ _ h => h) ?_ hHeld ?_
 ·exact yieldsIf_load_mid (by rfl) 35 (.tmp 16) rfl P11 0 rfl [.slice ga11 c11.blocks.length gc11, .slice ha11 c11.params.length hc11] _ (fun w' hSw => range_of (lie_cell (kq hSw p11)).1 rfl) underlying35 rfl cellsCode
 simp only [Act.put]
 refine wpAnyH_ready (rs := [10]) (by kernel_rfl) (by simp) ?_
 refine (AllReadyH.cons rfl (fun K1 hK1 => ?_) AllReadyH.nil)
 rw [if_pos (by rfl)]
 refine oper_enter 16 #[codeV ga10 gc10 ha10 hc10 c10, codeV ga11 gc11 ha11 hc11 c11] _ (c21 wi hHeld) ?_
 rintro e wz ⟨rfl, hx⟩
 refine ⟨_, rfl, ?_⟩
 refine hk2 hK1 (R := fun W' => Below w17.heap.size w17 W') (after hHeld hx) ?_ (fun _ t => t)
 clear hHeld hK1 K1 hx
 rintro wj - hHeld
 simp only [Act.put]
 refine tk 11 hHeld ?_
 refine tk 12 hHeld ?_
 refine wpAnyH_done (by kernel_rfl) ?_ _
 have HB := Lib.hid (after hb hHeld)
 clear hHeld hb
 go_wp2
 go_ret; exact Ret.mk' rfl HB.out
end Go.Proofs.YtlpgigdegnbkmaaGreatDoor
