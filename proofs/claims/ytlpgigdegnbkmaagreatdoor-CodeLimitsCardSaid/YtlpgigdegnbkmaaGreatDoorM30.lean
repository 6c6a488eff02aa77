import Derived.Test.YtlpgigdegnbkmaaGreatDoorM28
namespace Go.Proofs.YtlpgigdegnbkmaaGreatDoor
open Go.RowKit Tab
set_option maxRecDepth 100000 in
set_option maxHeartbeats 8000000 in
theorem fields_7 (x : InsD) (b blocks behind : Int) (h : FOk x b blocks behind) (w : World) (_hg : Good w) (hk : x.op = 7) : Calls Tryz.prog 26 #[insV x, .int .i64 b, .int .i64 blocks, .int .i64 behind] w (Ret (.bool (fieldsC x b blocks behind)) w) := by
 have hEq : ∀ W, (Op.equalIn 10000 43 (.agg (List.toArray (fX (7) x))) (.agg (List.toArray (fZ (7))))).run Tryz.prog W = .ok (sameI x (bareI x)) W := fun W => by
  have := insEq_run 9997 x (bareI x) W
  have e1 : insV x = .agg (List.toArray (fX (7) x)) := by unfold insV fX; rw [hk]
  have e2 : insV (bareI x) = .agg (List.toArray (fZ (7))) := by unfold bareI; simp only [hk]; rfl
  rw [e1, e2] at this; exact this
 have hV : fieldsC x b blocks behind = ((true) && sameI x (bareI x)) := by unfold fieldsC okI; simp only [hk]; rfl
 rw [hV]
 obtain ⟨h1, h2, h3, h4, h5⟩ := h
 generalize sameI x (bareI x) = SM at *
 unfold insV
 rw [hk]
 clear hV hk
 go_enter Tryz.func26, Tryz.ntmps26
 go_upto_region 1 with (fail)
 refine wp_abs2 (fun W => Below w.heap.size w W ∧ W.heap[w.heap.size]? = some (.cells (List.toArray (fX (7) x)) 43 (0, 0))) ⟨belx, heap_alloc_new _ _⟩ ?_
 rintro w1 ⟨hb1, q1⟩
 obtain ⟨f1, -, z1⟩ := lie_cell q1
 go_upto_region 2 with (fail)
 refine wp_region_lit ?_
 iterate 4 (refine sp fun q r => ?_; go_simp; refine r _ _ ?_; clear r q)
 refine wpList_store_mid rfl 43 (.tmp 10) (.tmp 18) rfl w1.heap.size 0 _ rfl rfl (whole_there (heap_alloc_new _ _) rfl) cellsIns (all_oneCell_toArray (cs := insC { op := 7 }) (insC_one _)) ?_
 refine wpList_abs (fun W => Below w1.heap.size w1 W ∧ W.heap[w1.heap.size]? = some (.cells (List.toArray (fZ (7))) 43 (0, 0))) ⟨below_cells _ _ _ _ _ ((Below.refl _ _).alloc (Nat.le_refl _) _), box_whole (heap_alloc_new _ _) rfl⟩ ?_
 rintro w2 ⟨hb12, r2⟩
 have q2 := (hb12.block _ z1).trans q1
 have hb2 := after hb1 hb12
 obtain ⟨B, hB⟩ : ∃ B, w1.heap.size = B := ⟨_, rfl⟩
 rw [hB] at r2 z1
 have hsB : w.heap.size ≤ B := Nat.le_of_lt z1
 have hne : ¬ w.heap.size = B := by omega
 have hne2 : ¬ B = w.heap.size := by omega
 clear f1 hb12 hb1 q1
 iterate 1 (refine sp fun q r => ?_; go_simp; refine r _ _ ?_; clear r q)
 refine wpList_nil ?_
 obtain ⟨f2, -, z2⟩ := lie_cell q2
 obtain ⟨g2, d2, y2⟩ := lie_cell r2
 go_upto_region 47 with (fail)
 have hbE := hb2
 have qE := q2
 have rE := r2
 clear f2 g2 d2 hb2 q2 r2
 refine wp_region_lit ?_
 iterate 2 (refine sp fun q r => ?_; go_simp; refine r _ _ ?_; clear r q)
 refine wpList_want (by rfl) (fun KK hKK => ?_)
 refine wp_load_row 43 (.tmp 4) rfl w.heap.size rfl 43 (List.toArray (fX (7) x)) (0, 0) _ qE Tryz.underlying43 rfl (by exact cellsIns) ?_
 refine hKK _ _ ?_; clear hKK KK
 refine wpList_want (by rfl) (fun KK hKK => ?_)
 refine wp_load_row 43 (.tmp 10) rfl B rfl 43 (List.toArray (fZ (7))) (0, 0) _ rE Tryz.underlying43 rfl (by exact cellsIns) ?_
 refine hKK _ _ ?_; clear hKK KK
 refine wpList_want (by rfl) (fun KK hKK => ?_)
 refine wp_eql_struct rfl rfl rfl guardIns (hEq _) ?_
 refine hKK _ _ ?_; clear hKK KK
 clear hEq
 cases SM
 all_goals (
  iterate 2 (refine sp fun q r => ?_; go_simp; refine r _ _ ?_; clear r q)
  refine wpList_nil ?_
  go_wp2
  go_ret; exact Ret.mk' rfl hbE)
set_option maxRecDepth 100000 in
set_option maxHeartbeats 8000000 in
theorem fields_8 (x : InsD) (b blocks behind : Int) (h : FOk x b blocks behind) (w : World) (_hg : Good w) (hk : x.op = 8) : Calls Tryz.prog 26 #[insV x, .int .i64 b, .int .i64 blocks, .int .i64 behind] w (Ret (.bool (fieldsC x b blocks behind)) w) := by
 have hEq : ∀ W, (Op.equalIn 10000 43 (.agg (List.toArray (fX (8) x))) (.agg (List.toArray (fB8s x)))).run Tryz.prog W = .ok (sameI x (bareI x)) W := fun W => by
  have := insEq_run 9997 x (bareI x) W
  have e1 : insV x = .agg (List.toArray (fX (8) x)) := by unfold insV fX; rw [hk]
  have e2 : insV (bareI x) = .agg (List.toArray (fB8s x)) := by unfold bareI; simp only [hk]; rfl
  rw [e1, e2] at this; exact this
 have hV : fieldsC x b blocks behind = ((opsB.contains x.s) && sameI x (bareI x)) := by unfold fieldsC okI; simp only [hk]; rfl
 rw [hV]
 obtain ⟨h1, h2, h3, h4, h5⟩ := h
 generalize sameI x (bareI x) = SM at *
 unfold insV
 rw [hk]
 clear hV hk
 obtain ⟨OKV, hOKV⟩ : ∃ OKV, opsB.contains x.s = OKV := ⟨_, rfl⟩
 rw [hOKV]
 go_enter Tryz.func26, Tryz.ntmps26
 go_upto_region 1 with (fail)
 refine wp_abs2 (fun W => Below w.heap.size w W ∧ W.heap[w.heap.size]? = some (.cells (List.toArray (fX (8) x)) 43 (0, 0))) ⟨belx, heap_alloc_new _ _⟩ ?_
 rintro w1 ⟨hb1, q1⟩
 obtain ⟨f1, -, z1⟩ := lie_cell q1
 go_upto_region 2 with (fail)
 refine wp_region_lit ?_
 iterate 4 (refine sp fun q r => ?_; go_simp; refine r _ _ ?_; clear r q)
 refine wpList_store_mid rfl 43 (.tmp 10) (.tmp 18) rfl w1.heap.size 0 _ rfl rfl (whole_there (heap_alloc_new _ _) rfl) cellsIns (all_oneCell_toArray (cs := insC { op := 8 }) (insC_one _)) ?_
 refine wpList_abs (fun W => Below w1.heap.size w1 W ∧ W.heap[w1.heap.size]? = some (.cells (List.toArray (fZ (8))) 43 (0, 0))) ⟨below_cells _ _ _ _ _ ((Below.refl _ _).alloc (Nat.le_refl _) _), box_whole (heap_alloc_new _ _) rfl⟩ ?_
 rintro w2 ⟨hb12, r2⟩
 have q2 := (hb12.block _ z1).trans q1
 have hb2 := after hb1 hb12
 obtain ⟨B, hB⟩ : ∃ B, w1.heap.size = B := ⟨_, rfl⟩
 rw [hB] at r2 z1
 have hsB : w.heap.size ≤ B := Nat.le_of_lt z1
 have hne : ¬ w.heap.size = B := by omega
 have hne2 : ¬ B = w.heap.size := by omega
 clear f1 hb12 hb1 q1
 iterate 1 (refine sp fun q r => ?_; go_simp; refine r _ _ ?_; clear r q)
 refine wpList_nil ?_
 obtain ⟨f2, -, z2⟩ := lie_cell q2
 obtain ⟨g2, d2, y2⟩ := lie_cell r2
 go_upto_region 21 with (fail)
 refine wp_region_held_drew (S := fun w' => ∀ i, w'.cell? ⟨w.heap.size, i, none⟩ = (List.toArray (fX (8) x))[i]?) (by kernel_rfl) f2 (fun hHeld => ?_)
 have q3 : w2.drew.heap[w.heap.size]? = some (.cells (List.toArray (fX (8) x)) 43 (0, 0)) := q2
 have r3 : w2.drew.heap[B]? = some (.cells (List.toArray (fZ (8))) 43 (0, 0)) := r2
 have hb03 : Below w.heap.size w w2.drew := drewB hb2
 clear f2 g2 d2
 obtain ⟨g3, d3, y3⟩ := lie_cell r3
 refine tk 0 hHeld ?_
 refine tk 1 hHeld ?_
 refine tk 3 hHeld ?_
 refine tk 4 hHeld ?_
 refine tk 6 hHeld ?_
 refine wpAnyH_ready (rs := [2]) (by kernel_rfl) (by simp) ?_
 refine AllReadyH.cons rfl (fun K1 hK1 => ?_) AllReadyH.nil
 go_simp
 have hba : Below w2.heap.size w2 (w2.alloc (.cells opsV.toArray 9)).drew := drewB (allocB (Below.refl _ w2))
 refine hK1.out _ _ (lie_cell ((hba.block _ z2).trans q2)).1 (fun hHeld => ?_)
 refine anyH_abs (fun W => Below w.heap.size w W ∧ W.heap[w.heap.size]? = some (.cells (List.toArray (fX (8) x)) 43 (0, 0)) ∧ W.heap[B]? = some (.cells (List.toArray (fZ (8))) 43 (0, 0)) ∧ W.heap[w2.heap.size]? = some (.cells opsV.toArray 9 (0, 0))) hHeld ⟨after hb2 hba, (hba.block _ z2).trans q2, (hba.block _ y2).trans r2, heap_alloc_new w2 _⟩ ?_
 clear hHeld hK1 K1 g3 d3 q3 r3 hb03 y3 hba
 rintro w4 ⟨hb04, q4, r4, n4⟩ hHeld
 obtain ⟨g4, d4, y4⟩ := lie_cell r4
 have cC := fun c => hasOp_any x.s w2.heap.size c w4 _ n4
 rw [hOKV] at cC
 clear hOKV n4
 refine wpAnyH_ready (rs := [5]) (by kernel_rfl) (by simp) ?_
 refine AllReadyH.cons rfl (fun K1 hK1 => ?_) AllReadyH.nil
 go_simp
 refine (cC _).mono ?_; rintro e w5 ⟨rfl, rfl⟩
 dsimp only
 refine hK1.out _ _ hHeld (fun hHeld => ?_)
 clear hK1 K1 cC
 refine wpAnyH_ready (rs := [7]) (by kernel_rfl) (by simp) ?_
 refine AllReadyH.cons rfl (fun K1 hK1 => ?_) AllReadyH.nil
 go_simp
 refine hK1.out _ _ (lie_cell ((heap_set_other (i := 3) (v := .string ⟨x.s.toArray⟩) hne).trans q4)).1 (fun hHeld => ?_)
 refine anyH_abs (fun W => Below w.heap.size w W ∧ W.heap[w.heap.size]? = some (.cells (List.toArray (fX (8) x)) 43 (0, 0)) ∧ W.heap[B]? = some (.cells (List.toArray (fB8s x)) 43 (0, 0))) hHeld ⟨setB hb04 hsB, (heap_set_other (i := 3) (v := .string ⟨x.s.toArray⟩) hne).trans q4, heap_set_same (i := 3) (v := .string ⟨x.s.toArray⟩) r4⟩ ?_
 clear hHeld hK1 K1 g4 d4
 rintro wE ⟨hbE, qE, rE⟩ hHeld
 refine tk 8 hHeld ?_
 refine wpAnyH_done (by kernel_rfl) ?_ _
 clear hHeld q4 r4 hb04 y4
 go_upto_region 47 with (fail)
 cases OKV
 ·
  go_wp2
  go_ret; exact Ret.mk' rfl hbE
 ·
  refine wp_region_lit ?_
  iterate 2 (refine sp fun q r => ?_; go_simp; refine r _ _ ?_; clear r q)
  refine wpList_want (by rfl) (fun KK hKK => ?_)
  refine wp_load_row 43 (.tmp 4) rfl w.heap.size rfl 43 (List.toArray (fX (8) x)) (0, 0) _ qE Tryz.underlying43 rfl (by exact cellsIns) ?_
  refine hKK _ _ ?_; clear hKK KK
  refine wpList_want (by rfl) (fun KK hKK => ?_)
  refine wp_load_row 43 (.tmp 10) rfl B rfl 43 (List.toArray (fB8s x)) (0, 0) _ rE Tryz.underlying43 rfl (by exact cellsIns) ?_
  refine hKK _ _ ?_; clear hKK KK
  refine wpList_want (by rfl) (fun KK hKK => ?_)
  refine wp_eql_struct rfl rfl rfl guardIns (hEq _) ?_
  refine hKK _ _ ?_; clear hKK KK
  clear hEq
  cases SM
  all_goals (
   iterate 2 (refine sp fun q r => ?_; go_simp; refine r _ _ ?_; clear r q)
   refine wpList_nil ?_
   go_wp2
   go_ret; exact Ret.mk' rfl hbE)
set_option maxRecDepth 100000 in
set_option maxHeartbeats 8000000 in
theorem fields_9 (x : InsD) (b blocks behind : Int) (h : FOk x b blocks behind) (w : World) (_hg : Good w) (hk : x.op = 9) : Calls Tryz.prog 26 #[insV x, .int .i64 b, .int .i64 blocks, .int .i64 behind] w (Ret (.bool (fieldsC x b blocks behind)) w) := by
 have hEq : ∀ W, (Op.equalIn 10000 43 (.agg (List.toArray (fX (9) x))) (.agg (List.toArray (fB9s x)))).run Tryz.prog W = .ok (sameI x (bareI x)) W := fun W => by
  have := insEq_run 9997 x (bareI x) W
  have e1 : insV x = .agg (List.toArray (fX (9) x)) := by unfold insV fX; rw [hk]
  have e2 : insV (bareI x) = .agg (List.toArray (fB9s x)) := by unfold bareI; simp only [hk]; rfl
  rw [e1, e2] at this; exact this
 have hV : fieldsC x b blocks behind = (((x.s == [43]) || (x.s == [45])) && sameI x (bareI x)) := by unfold fieldsC okI; simp only [hk]; rfl
 rw [hV]
 obtain ⟨h1, h2, h3, h4, h5⟩ := h
 generalize sameI x (bareI x) = SM at *
 unfold insV
 rw [hk]
 clear hV hk
 obtain ⟨E1, qE1⟩ : ∃ E, (x.s == [43]) = E := ⟨_, rfl⟩
 rw [qE1]
 obtain ⟨E2, qE2⟩ : ∃ E, (x.s == [45]) = E := ⟨_, rfl⟩
 rw [qE2]
 go_enter Tryz.func26, Tryz.ntmps26
 go_upto_region 1 with (fail)
 refine wp_abs2 (fun W => Below w.heap.size w W ∧ W.heap[w.heap.size]? = some (.cells (List.toArray (fX (9) x)) 43 (0, 0))) ⟨belx, heap_alloc_new _ _⟩ ?_
 rintro w1 ⟨hb1, q1⟩
 obtain ⟨f1, -, z1⟩ := lie_cell q1
 go_upto_region 2 with (fail)
 refine wp_region_lit ?_
 iterate 4 (refine sp fun q r => ?_; go_simp; refine r _ _ ?_; clear r q)
 refine wpList_store_mid rfl 43 (.tmp 10) (.tmp 18) rfl w1.heap.size 0 _ rfl rfl (whole_there (heap_alloc_new _ _) rfl) cellsIns (all_oneCell_toArray (cs := insC { op := 9 }) (insC_one _)) ?_
 refine wpList_abs (fun W => Below w1.heap.size w1 W ∧ W.heap[w1.heap.size]? = some (.cells (List.toArray (fZ (9))) 43 (0, 0))) ⟨below_cells _ _ _ _ _ ((Below.refl _ _).alloc (Nat.le_refl _) _), box_whole (heap_alloc_new _ _) rfl⟩ ?_
 rintro w2 ⟨hb12, r2⟩
 have q2 := (hb12.block _ z1).trans q1
 have hb2 := after hb1 hb12
 obtain ⟨B, hB⟩ : ∃ B, w1.heap.size = B := ⟨_, rfl⟩
 rw [hB] at r2 z1
 have hsB : w.heap.size ≤ B := Nat.le_of_lt z1
 have hne : ¬ w.heap.size = B := by omega
 have hne2 : ¬ B = w.heap.size := by omega
 clear f1 hb12 hb1 q1
 iterate 1 (refine sp fun q r => ?_; go_simp; refine r _ _ ?_; clear r q)
 refine wpList_nil ?_
 obtain ⟨f2, -, z2⟩ := lie_cell q2
 obtain ⟨g2, d2, y2⟩ := lie_cell r2
 cases E1
 ·cases E2
  ·
   go_upto_region 23 with (fail)
   refine wp_region_held_drew (S := fun w' => ∀ i, w'.cell? ⟨w.heap.size, i, none⟩ = (List.toArray (fX (9) x))[i]?) (by kernel_rfl) f2 (fun hHeld => ?_)
   have q3 : w2.drew.heap[w.heap.size]? = some (.cells (List.toArray (fX (9) x)) 43 (0, 0)) := q2
   have r3 : w2.drew.heap[B]? = some (.cells (List.toArray (fZ (9))) 43 (0, 0)) := r2
   have hb03 : Below w.heap.size w w2.drew := drewB hb2
   clear f2 g2 d2
   obtain ⟨g3, d3, y3⟩ := lie_cell r3
   refine tk 0 hHeld ?_
   refine tk 1 hHeld ?_
   refine tk 2 hHeld ?_
   refine tk 3 hHeld ?_
   refine tk 4 hHeld ?_
   refine tk 5 hHeld ?_
   refine tk 6 hHeld ?_
   refine tk 7 hHeld ?_
   refine tk 8 hHeld ?_
   refine tk 9 hHeld ?_
   refine tk 10 hHeld ?_
   refine wpAnyH_ready (rs := [11]) (by kernel_rfl) (by simp) ?_
   refine AllReadyH.cons rfl (fun K1 hK1 => ?_) AllReadyH.nil
   go_simp
   refine hK1.out _ _ (lie_cell ((heap_set_other (i := 3) (v := .string ⟨x.s.toArray⟩) hne).trans q3)).1 (fun hHeld => ?_)
   refine anyH_abs (fun W => Below w.heap.size w W ∧ W.heap[w.heap.size]? = some (.cells (List.toArray (fX (9) x)) 43 (0, 0)) ∧ W.heap[B]? = some (.cells (List.toArray (fB9s x)) 43 (0, 0))) hHeld ⟨setB hb03 hsB, (heap_set_other (i := 3) (v := .string ⟨x.s.toArray⟩) hne).trans q3, heap_set_same (i := 3) (v := .string ⟨x.s.toArray⟩) r3⟩ ?_
   clear hHeld hK1 K1 g3 d3
   rintro wE ⟨hbE, qE, rE⟩ hHeld
   refine tk 12 hHeld ?_
   refine wpAnyH_done (by kernel_rfl) ?_ _
   clear hHeld q3 r3 hb03 y3
   go_wp2
   go_ret; exact Ret.mk' rfl hbE
  ·
   go_upto_region 23 with (fail)
   refine wp_region_held_drew (S := fun w' => ∀ i, w'.cell? ⟨w.heap.size, i, none⟩ = (List.toArray (fX (9) x))[i]?) (by kernel_rfl) f2 (fun hHeld => ?_)
   have q3 : w2.drew.heap[w.heap.size]? = some (.cells (List.toArray (fX (9) x)) 43 (0, 0)) := q2
   have r3 : w2.drew.heap[B]? = some (.cells (List.toArray (fZ (9))) 43 (0, 0)) := r2
   have hb03 : Below w.heap.size w w2.drew := drewB hb2
   clear f2 g2 d2
   obtain ⟨g3, d3, y3⟩ := lie_cell r3
   refine tk 0 hHeld ?_
   refine tk 1 hHeld ?_
   refine tk 2 hHeld ?_
   refine tk 3 hHeld ?_
   refine tk 4 hHeld ?_
   refine tk 5 hHeld ?_
   refine tk 6 hHeld ?_
   refine tk 7 hHeld ?_
   refine tk 8 hHeld ?_
   refine tk 9 hHeld ?_
   refine tk 10 hHeld ?_
   refine wpAnyH_ready (rs := [11]) (by kernel_rfl) (by simp) ?_
   refine AllReadyH.cons rfl (fun K1 hK1 => ?_) AllReadyH.nil
   go_simp
   refine hK1.out _ _ (lie_cell ((heap_set_other (i := 3) (v := .string ⟨x.s.toArray⟩) hne).trans q3)).1 (fun hHeld => ?_)
   refine anyH_abs (fun W => Below w.heap.size w W ∧ W.heap[w.heap.size]? = some (.cells (List.toArray (fX (9) x)) 43 (0, 0)) ∧ W.heap[B]? = some (.cells (List.toArray (fB9s x)) 43 (0, 0))) hHeld ⟨setB hb03 hsB, (heap_set_other (i := 3) (v := .string ⟨x.s.toArray⟩) hne).trans q3, heap_set_same (i := 3) (v := .string ⟨x.s.toArray⟩) r3⟩ ?_
   clear hHeld hK1 K1 g3 d3
   rintro wE ⟨hbE, qE, rE⟩ hHeld
   refine tk 12 hHeld ?_
   refine wpAnyH_done (by kernel_rfl) ?_ _
   clear hHeld q3 r3 hb03 y3
   go_upto_region 47 with (fail)
   refine wp_region_lit ?_
   iterate 2 (refine sp fun q r => ?_; go_simp; refine r _ _ ?_; clear r q)
   refine wpList_want (by rfl) (fun KK hKK => ?_)
   refine wp_load_row 43 (.tmp 4) rfl w.heap.size rfl 43 (List.toArray (fX (9) x)) (0, 0) _ qE Tryz.underlying43 rfl (by exact cellsIns) ?_
   refine hKK _ _ ?_; clear hKK KK
   refine wpList_want (by rfl) (fun KK hKK => ?_)
   refine wp_load_row 43 (.tmp 10) rfl B rfl 43 (List.toArray (fB9s x)) (0, 0) _ rE Tryz.underlying43 rfl (by exact cellsIns) ?_
   refine hKK _ _ ?_; clear hKK KK
   refine wpList_want (by rfl) (fun KK hKK => ?_)
   refine wp_eql_struct rfl rfl rfl guardIns (hEq _) ?_
   refine hKK _ _ ?_; clear hKK KK
   clear hEq
   cases SM
   all_goals (
    iterate 2 (refine sp fun q r => ?_; go_simp; refine r _ _ ?_; clear r q)
    refine wpList_nil ?_
    go_wp2
    go_ret; exact Ret.mk' rfl hbE)
 ·clear qE2
  go_upto_region 23 with (fail)
  refine wp_region_held_drew (S := fun w' => ∀ i, w'.cell? ⟨w.heap.size, i, none⟩ = (List.toArray (fX (9) x))[i]?) (by kernel_rfl) f2 (fun hHeld => ?_)
  have q3 : w2.drew.heap[w.heap.size]? = some (.cells (List.toArray (fX (9) x)) 43 (0, 0)) := q2
  have r3 : w2.drew.heap[B]? = some (.cells (List.toArray (fZ (9))) 43 (0, 0)) := r2
  have hb03 : Below w.heap.size w w2.drew := drewB hb2
  clear f2 g2 d2
  obtain ⟨g3, d3, y3⟩ := lie_cell r3
  refine tk 0 hHeld ?_
  refine tk 1 hHeld ?_
  refine tk 2 hHeld ?_
  refine tk 3 hHeld ?_
  refine tk 4 hHeld ?_
  refine tk 5 hHeld ?_
  refine tk 6 hHeld ?_
  refine tk 7 hHeld ?_
  refine tk 8 hHeld ?_
  refine tk 9 hHeld ?_
  refine tk 10 hHeld ?_
  refine wpAnyH_ready (rs := [11]) (by kernel_rfl) (by simp) ?_
  refine AllReadyH.cons rfl (fun K1 hK1 => ?_) AllReadyH.nil
  go_simp
  refine hK1.out _ _ (lie_cell ((heap_set_other (i := 3) (v := .string ⟨x.s.toArray⟩) hne).trans q3)).1 (fun hHeld => ?_)
  refine anyH_abs (fun W => Below w.heap.size w W ∧ W.heap[w.heap.size]? = some (.cells (List.toArray (fX (9) x)) 43 (0, 0)) ∧ W.heap[B]? = some (.cells (List.toArray (fB9s x)) 43 (0, 0))) hHeld ⟨setB hb03 hsB, (heap_set_other (i := 3) (v := .string ⟨x.s.toArray⟩) hne).trans q3, heap_set_same (i := 3) (v := .string ⟨x.s.toArray⟩) r3⟩ ?_
  clear hHeld hK1 K1 g3 d3
  rintro wE ⟨hbE, qE, rE⟩ hHeld
  refine tk 12 hHeld ?_
  refine wpAnyH_done (by kernel_rfl) ?_ _
  clear hHeld q3 r3 hb03 y3
  go_upto_region 47 with (fail)
  refine wp_region_lit ?_
  iterate 2 (refine sp fun q r => ?_; go_simp; refine r _ _ ?_; clear r q)
  refine wpList_want (by rfl) (fun KK hKK => ?_)
  refine wp_load_row 43 (.tmp 4) rfl w.heap.size rfl 43 (List.toArray (fX (9) x)) (0, 0) _ qE Tryz.underlying43 rfl (by exact cellsIns) ?_
  refine hKK _ _ ?_; clear hKK KK
  refine wpList_want (by rfl) (fun KK hKK => ?_)
  refine wp_load_row 43 (.tmp 10) rfl B rfl 43 (List.toArray (fB9s x)) (0, 0) _ rE Tryz.underlying43 rfl (by exact cellsIns) ?_
  refine hKK _ _ ?_; clear hKK KK
  refine wpList_want (by rfl) (fun KK hKK => ?_)
  refine wp_eql_struct rfl rfl rfl guardIns (hEq _) ?_
  refine hKK _ _ ?_; clear hKK KK
  clear hEq
  cases SM
  all_goals (
   iterate 2 (refine sp fun q r => ?_; go_simp; refine r _ _ ?_; clear r q)
   refine wpList_nil ?_
   go_wp2
   go_ret; exact Ret.mk' rfl hbE)
set_option maxRecDepth 100000 in
set_option maxHeartbeats 8000000 in
theorem fields_10 (x : InsD) (b blocks behind : Int) (h : FOk x b blocks behind) (w : World) (_hg : Good w) (hk : x.op = 10) : Calls Tryz.prog 26 #[insV x, .int .i64 b, .int .i64 blocks, .int .i64 behind] w (Ret (.bool (fieldsC x b blocks behind)) w) := by
 have hEq : ∀ W, (Op.equalIn 10000 43 (.agg (List.toArray (fX (10) x))) (.agg (List.toArray (fB10s x)))).run Tryz.prog W = .ok (sameI x (bareI x)) W := fun W => by
  have := insEq_run 9997 x (bareI x) W
  have e1 : insV x = .agg (List.toArray (fX (10) x)) := by unfold insV fX; rw [hk]
  have e2 : insV (bareI x) = .agg (List.toArray (fB10s x)) := by unfold bareI; simp only [hk]; rfl
  rw [e1, e2] at this; exact this
 have hV : fieldsC x b blocks behind = ((x.s == [37]) && sameI x (bareI x)) := by unfold fieldsC okI; simp only [hk]; rfl
 rw [hV]
 obtain ⟨h1, h2, h3, h4, h5⟩ := h
 generalize sameI x (bareI x) = SM at *
 unfold insV
 rw [hk]
 clear hV hk
 obtain ⟨E1, qE1⟩ : ∃ E, (x.s == [37]) = E := ⟨_, rfl⟩
 rw [qE1]
 go_enter Tryz.func26, Tryz.ntmps26
 go_upto_region 1 with (fail)
 refine wp_abs2 (fun W => Below w.heap.size w W ∧ W.heap[w.heap.size]? = some (.cells (List.toArray (fX (10) x)) 43 (0, 0))) ⟨belx, heap_alloc_new _ _⟩ ?_
 rintro w1 ⟨hb1, q1⟩
 obtain ⟨f1, -, z1⟩ := lie_cell q1
 go_upto_region 2 with (fail)
 refine wp_region_lit ?_
 iterate 4 (refine sp fun q r => ?_; go_simp; refine r _ _ ?_; clear r q)
 refine wpList_store_mid rfl 43 (.tmp 10) (.tmp 18) rfl w1.heap.size 0 _ rfl rfl (whole_there (heap_alloc_new _ _) rfl) cellsIns (all_oneCell_toArray (cs := insC { op := 10 }) (insC_one _)) ?_
 refine wpList_abs (fun W => Below w1.heap.size w1 W ∧ W.heap[w1.heap.size]? = some (.cells (List.toArray (fZ (10))) 43 (0, 0))) ⟨below_cells _ _ _ _ _ ((Below.refl _ _).alloc (Nat.le_refl _) _), box_whole (heap_alloc_new _ _) rfl⟩ ?_
 rintro w2 ⟨hb12, r2⟩
 have q2 := (hb12.block _ z1).trans q1
 have hb2 := after hb1 hb12
 obtain ⟨B, hB⟩ : ∃ B, w1.heap.size = B := ⟨_, rfl⟩
 rw [hB] at r2 z1
 have hsB : w.heap.size ≤ B := Nat.le_of_lt z1
 have hne : ¬ w.heap.size = B := by omega
 have hne2 : ¬ B = w.heap.size := by omega
 clear f1 hb12 hb1 q1
 iterate 1 (refine sp fun q r => ?_; go_simp; refine r _ _ ?_; clear r q)
 refine wpList_nil ?_
 obtain ⟨f2, -, z2⟩ := lie_cell q2
 obtain ⟨g2, d2, y2⟩ := lie_cell r2
 cases E1
 ·
  go_upto_region 25 with (fail)
  refine wp_region_held_drew (S := fun w' => ∀ i, w'.cell? ⟨w.heap.size, i, none⟩ = (List.toArray (fX (10) x))[i]?) (by kernel_rfl) f2 (fun hHeld => ?_)
  have q3 : w2.drew.heap[w.heap.size]? = some (.cells (List.toArray (fX (10) x)) 43 (0, 0)) := q2
  have r3 : w2.drew.heap[B]? = some (.cells (List.toArray (fZ (10))) 43 (0, 0)) := r2
  have hb03 : Below w.heap.size w w2.drew := drewB hb2
  clear f2 g2 d2
  obtain ⟨g3, d3, y3⟩ := lie_cell r3
  refine tk 0 hHeld ?_
  refine tk 1 hHeld ?_
  refine tk 2 hHeld ?_
  refine tk 3 hHeld ?_
  refine tk 4 hHeld ?_
  refine tk 5 hHeld ?_
  refine wpAnyH_ready (rs := [6]) (by kernel_rfl) (by simp) ?_
  refine AllReadyH.cons rfl (fun K1 hK1 => ?_) AllReadyH.nil
  go_simp
  refine hK1.out _ _ (lie_cell ((heap_set_other (i := 3) (v := .string ⟨x.s.toArray⟩) hne).trans q3)).1 (fun hHeld => ?_)
  refine anyH_abs (fun W => Below w.heap.size w W ∧ W.heap[w.heap.size]? = some (.cells (List.toArray (fX (10) x)) 43 (0, 0)) ∧ W.heap[B]? = some (.cells (List.toArray (fB10s x)) 43 (0, 0))) hHeld ⟨setB hb03 hsB, (heap_set_other (i := 3) (v := .string ⟨x.s.toArray⟩) hne).trans q3, heap_set_same (i := 3) (v := .string ⟨x.s.toArray⟩) r3⟩ ?_
  clear hHeld hK1 K1 g3 d3
  rintro wE ⟨hbE, qE, rE⟩ hHeld
  refine tk 7 hHeld ?_
  refine wpAnyH_done (by kernel_rfl) ?_ _
  clear hHeld q3 r3 hb03 y3
  go_wp2
  go_ret; exact Ret.mk' rfl hbE
 ·
  go_upto_region 25 with (fail)
  refine wp_region_held_drew (S := fun w' => ∀ i, w'.cell? ⟨w.heap.size, i, none⟩ = (List.toArray (fX (10) x))[i]?) (by kernel_rfl) f2 (fun hHeld => ?_)
  have q3 : w2.drew.heap[w.heap.size]? = some (.cells (List.toArray (fX (10) x)) 43 (0, 0)) := q2
  have r3 : w2.drew.heap[B]? = some (.cells (List.toArray (fZ (10))) 43 (0, 0)) := r2
  have hb03 : Below w.heap.size w w2.drew := drewB hb2
  clear f2 g2 d2
  obtain ⟨g3, d3, y3⟩ := lie_cell r3
  refine tk 0 hHeld ?_
  refine tk 1 hHeld ?_
  refine tk 2 hHeld ?_
  refine tk 3 hHeld ?_
  refine tk 4 hHeld ?_
  refine tk 5 hHeld ?_
  refine wpAnyH_ready (rs := [6]) (by kernel_rfl) (by simp) ?_
  refine AllReadyH.cons rfl (fun K1 hK1 => ?_) AllReadyH.nil
  go_simp
  refine hK1.out _ _ (lie_cell ((heap_set_other (i := 3) (v := .string ⟨x.s.toArray⟩) hne).trans q3)).1 (fun hHeld => ?_)
  refine anyH_abs (fun W => Below w.heap.size w W ∧ W.heap[w.heap.size]? = some (.cells (List.toArray (fX (10) x)) 43 (0, 0)) ∧ W.heap[B]? = some (.cells (List.toArray (fB10s x)) 43 (0, 0))) hHeld ⟨setB hb03 hsB, (heap_set_other (i := 3) (v := .string ⟨x.s.toArray⟩) hne).trans q3, heap_set_same (i := 3) (v := .string ⟨x.s.toArray⟩) r3⟩ ?_
  clear hHeld hK1 K1 g3 d3
  rintro wE ⟨hbE, qE, rE⟩ hHeld
  refine tk 7 hHeld ?_
  refine wpAnyH_done (by kernel_rfl) ?_ _
  clear hHeld q3 r3 hb03 y3
  go_upto_region 47 with (fail)
  refine wp_region_lit ?_
  iterate 2 (refine sp fun q r => ?_; go_simp; refine r _ _ ?_; clear r q)
  refine wpList_want (by rfl) (fun KK hKK => ?_)
  refine wp_load_row 43 (.tmp 4) rfl w.heap.size rfl 43 (List.toArray (fX (10) x)) (0, 0) _ qE Tryz.underlying43 rfl (by exact cellsIns) ?_
  refine hKK _ _ ?_; clear hKK KK
  refine wpList_want (by rfl) (fun KK hKK => ?_)
  refine wp_load_row 43 (.tmp 10) rfl B rfl 43 (List.toArray (fB10s x)) (0, 0) _ rE Tryz.underlying43 rfl (by exact cellsIns) ?_
  refine hKK _ _ ?_; clear hKK KK
  refine wpList_want (by rfl) (fun KK hKK => ?_)
  refine wp_eql_struct rfl rfl rfl guardIns (hEq _) ?_
  refine hKK _ _ ?_; clear hKK KK
  clear hEq
  cases SM
  all_goals (
   iterate 2 (refine sp fun q r => ?_; go_simp; refine r _ _ ?_; clear r q)
   refine wpList_nil ?_
   go_wp2
   go_ret; exact Ret.mk' rfl hbE)
set_option maxRecDepth 100000 in
set_option maxHeartbeats 8000000 in
theorem fields_11 (x : InsD) (b blocks behind : Int) (h : FOk x b blocks behind) (w : World) (_hg : Good w) (hk : x.op = 11) : Calls Tryz.prog 26 #[insV x, .int .i64 b, .int .i64 blocks, .int .i64 behind] w (Ret (.bool (fieldsC x b blocks behind)) w) := by
 have hEq : ∀ W, (Op.equalIn 10000 43 (.agg (List.toArray (fX (11) x))) (.agg (List.toArray (fB11as x)))).run Tryz.prog W = .ok (sameI x (bareI x)) W := fun W => by
  have := insEq_run 9997 x (bareI x) W
  have e1 : insV x = .agg (List.toArray (fX (11) x)) := by unfold insV fX; rw [hk]
  have e2 : insV (bareI x) = .agg (List.toArray (fB11as x)) := by unfold bareI; simp only [hk]; rfl
  rw [e1, e2] at this; exact this
 have hV : fieldsC x b blocks behind = ((namedB x.s && winD x.a 0 400) && sameI x (bareI x)) := by unfold fieldsC okI; simp only [hk]; rfl
 rw [hV]
 obtain ⟨h1, h2, h3, h4, h5⟩ := h
 generalize sameI x (bareI x) = SM at *
 unfold insV
 rw [hk]
 clear hV hk
 have c1 := fun W (hW : Below w.heap.size w W) => namedS x.s W h2
 have c2 := fun W (hW : Below w.heap.size w W) => (win_any x.a 0 400 W).mono fun _ _ h => h.ret
 generalize namedB x.s = A1 at c1 ⊢
 generalize winD x.a 0 400 = A2 at c2 ⊢
 go_enter Tryz.func26, Tryz.ntmps26
 go_upto_region 1 with (fail)
 refine wp_abs2 (fun W => Below w.heap.size w W ∧ W.heap[w.heap.size]? = some (.cells (List.toArray (fX (11) x)) 43 (0, 0))) ⟨belx, heap_alloc_new _ _⟩ ?_
 rintro w1 ⟨hb1, q1⟩
 obtain ⟨f1, -, z1⟩ := lie_cell q1
 go_upto_region 2 with (fail)
 refine wp_region_lit ?_
 iterate 4 (refine sp fun q r => ?_; go_simp; refine r _ _ ?_; clear r q)
 refine wpList_store_mid rfl 43 (.tmp 10) (.tmp 18) rfl w1.heap.size 0 _ rfl rfl (whole_there (heap_alloc_new _ _) rfl) cellsIns (all_oneCell_toArray (cs := insC { op := 11 }) (insC_one _)) ?_
 refine wpList_abs (fun W => Below w1.heap.size w1 W ∧ W.heap[w1.heap.size]? = some (.cells (List.toArray (fZ (11))) 43 (0, 0))) ⟨below_cells _ _ _ _ _ ((Below.refl _ _).alloc (Nat.le_refl _) _), box_whole (heap_alloc_new _ _) rfl⟩ ?_
 rintro w2 ⟨hb12, r2⟩
 have q2 := (hb12.block _ z1).trans q1
 have hb2 := after hb1 hb12
 obtain ⟨B, hB⟩ : ∃ B, w1.heap.size = B := ⟨_, rfl⟩
 rw [hB] at r2 z1
 have hsB : w.heap.size ≤ B := Nat.le_of_lt z1
 have hne : ¬ w.heap.size = B := by omega
 have hne2 : ¬ B = w.heap.size := by omega
 clear f1 hb12 hb1 q1
 iterate 1 (refine sp fun q r => ?_; go_simp; refine r _ _ ?_; clear r q)
 refine wpList_nil ?_
 obtain ⟨f2, -, z2⟩ := lie_cell q2
 obtain ⟨g2, d2, y2⟩ := lie_cell r2
 go_upto_region 27 with (fail)
 refine wp_region_held_drew (S := fun w' => ∀ i, w'.cell? ⟨w.heap.size, i, none⟩ = (List.toArray (fX (11) x))[i]?) (by kernel_rfl) f2 (fun hHeld => ?_)
 have q3 : w2.drew.heap[w.heap.size]? = some (.cells (List.toArray (fX (11) x)) 43 (0, 0)) := q2
 have r3 : w2.drew.heap[B]? = some (.cells (List.toArray (fZ (11))) 43 (0, 0)) := r2
 have hb03 : Below w.heap.size w w2.drew := drewB hb2
 clear f2 g2 d2
 obtain ⟨g3, d3, y3⟩ := lie_cell r3
 refine tk 0 hHeld ?_
 refine tk 1 hHeld ?_
 refine tk 2 hHeld ?_
 refine tk 3 hHeld ?_
 refine tk 4 hHeld ?_
 refine wpAnyH_ready (rs := [5]) (by kernel_rfl) (by simp) ?_
 refine AllReadyH.cons rfl (fun K1 hK1 => ?_) AllReadyH.nil
 go_simp
 refine hK1.out _ _ (lie_cell ((heap_set_other (i := 3) (v := .string ⟨x.s.toArray⟩) hne).trans q3)).1 (fun hHeld => ?_)
 refine anyH_abs (fun W => Below w.heap.size w W ∧ W.heap[w.heap.size]? = some (.cells (List.toArray (fX (11) x)) 43 (0, 0)) ∧ W.heap[B]? = some (.cells (List.toArray (fB11s x)) 43 (0, 0))) hHeld ⟨setB hb03 hsB, (heap_set_other (i := 3) (v := .string ⟨x.s.toArray⟩) hne).trans q3, heap_set_same (i := 3) (v := .string ⟨x.s.toArray⟩) r3⟩ ?_
 clear hHeld hK1 K1
 rintro v5 ⟨hb5, q5, r5⟩ hHeld
 clear g3 d3
 obtain ⟨g5, d5, y5⟩ := lie_cell r5
 refine tk 6 hHeld ?_
 refine wpAnyH_ready (rs := [7]) (by kernel_rfl) (by simp) ?_
 refine AllReadyH.cons rfl (fun K1 hK1 => ?_) AllReadyH.nil
 go_simp
 refine hK1.out _ _ (lie_cell ((heap_set_other (i := 1) (v := .int .i64 x.a) hne).trans q5)).1 (fun hHeld => ?_)
 refine anyH_abs (fun W => Below w.heap.size w W ∧ W.heap[w.heap.size]? = some (.cells (List.toArray (fX (11) x)) 43 (0, 0)) ∧ W.heap[B]? = some (.cells (List.toArray (fB11as x)) 43 (0, 0))) hHeld ⟨setB hb5 hsB, (heap_set_other (i := 1) (v := .int .i64 x.a) hne).trans q5, heap_set_same (i := 1) (v := .int .i64 x.a) r5⟩ ?_
 clear hHeld hK1 K1
 rintro v7 ⟨hb7, q7, r7⟩ hHeld
 clear g5 d5
 refine wpAnyH_done (by kernel_rfl) ?_ _
 clear hHeld q3 r3 hb03 y3 q5 r5 hb5 y5
 obtain ⟨f7, -, z7⟩ := lie_cell q7
 have hbE := hb7
 have qE := q7
 have rE := r7
 clear hb7 q7 r7
 go_upto_region 28 with (fail)
 go_wp2_with fail
 refine (c1 _ hbE).mono ?_; rintro e wc1 ⟨rfl, hbc1⟩
 replace qE := (hbc1.block _ (heap_in qE)).trans qE
 replace rE := (hbc1.block _ (heap_in rE)).trans rE
 replace hbE := after hbE hbc1
 clear f7
 obtain ⟨fc1, -, zc1⟩ := lie_cell qE
 cases A1
 ·go_wp2
  go_ret; exact Ret.mk' rfl hbE
 ·
  go_wp2_with fail
  refine (c2 _ hbE).mono ?_; rintro e wc2 ⟨rfl, hbc2⟩
  replace qE := (hbc2.block _ (heap_in qE)).trans qE
  replace rE := (hbc2.block _ (heap_in rE)).trans rE
  replace hbE := after hbE hbc2
  clear fc1
  obtain ⟨fc2, -, zc2⟩ := lie_cell qE
  clear fc2
  cases A2
  ·
   go_wp2
   go_ret; exact Ret.mk' rfl hbE
  ·
   go_upto_region 47 with (fail)
   refine wp_region_lit ?_
   iterate 2 (refine sp fun q r => ?_; go_simp; refine r _ _ ?_; clear r q)
   refine wpList_want (by rfl) (fun KK hKK => ?_)
   refine wp_load_row 43 (.tmp 4) rfl w.heap.size rfl 43 (List.toArray (fX (11) x)) (0, 0) _ qE Tryz.underlying43 rfl (by exact cellsIns) ?_
   refine hKK _ _ ?_; clear hKK KK
   refine wpList_want (by rfl) (fun KK hKK => ?_)
   refine wp_load_row 43 (.tmp 10) rfl B rfl 43 (List.toArray (fB11as x)) (0, 0) _ rE Tryz.underlying43 rfl (by exact cellsIns) ?_
   refine hKK _ _ ?_; clear hKK KK
   refine wpList_want (by rfl) (fun KK hKK => ?_)
   refine wp_eql_struct rfl rfl rfl guardIns (hEq _) ?_
   refine hKK _ _ ?_; clear hKK KK
   clear hEq
   cases SM
   all_goals (
    iterate 2 (refine sp fun q r => ?_; go_simp; refine r _ _ ?_; clear r q)
    refine wpList_nil ?_
    go_wp2
    go_ret; exact Ret.mk' rfl hbE)
set_option maxRecDepth 100000 in
set_option maxHeartbeats 8000000 in
theorem fields_12 (x : InsD) (b blocks behind : Int) (h : FOk x b blocks behind) (w : World) (_hg : Good w) (hk : x.op = 12) : Calls Tryz.prog 26 #[insV x, .int .i64 b, .int .i64 blocks, .int .i64 behind] w (Ret (.bool (fieldsC x b blocks behind)) w) := by
 have hEq : ∀ W, (Op.equalIn 10000 43 (.agg (List.toArray (fX (12) x))) (.agg (List.toArray (fB12ab x)))).run Tryz.prog W = .ok (sameI x (bareI x)) W := fun W => by
  have := insEq_run 9997 x (bareI x) W
  have e1 : insV x = .agg (List.toArray (fX (12) x)) := by unfold insV fX; rw [hk]
  have e2 : insV (bareI x) = .agg (List.toArray (fB12ab x)) := by unfold bareI; simp only [hk]; rfl
  rw [e1, e2] at this; exact this
 have hV : fieldsC x b blocks behind = ((winD x.a 1 400 && winD x.b 1 400) && sameI x (bareI x)) := by unfold fieldsC okI; simp only [hk]; rfl
 rw [hV]
 obtain ⟨h1, h2, h3, h4, h5⟩ := h
 generalize sameI x (bareI x) = SM at *
 unfold insV
 rw [hk]
 clear hV hk
 have c1 := fun W (hW : Below w.heap.size w W) => (win_any x.a 1 400 W).mono fun _ _ h => h.ret
 have c2 := fun W (hW : Below w.heap.size w W) => (win_any x.b 1 400 W).mono fun _ _ h => h.ret
 generalize winD x.a 1 400 = A1 at c1 ⊢
 generalize winD x.b 1 400 = A2 at c2 ⊢
 go_enter Tryz.func26, Tryz.ntmps26
 go_upto_region 1 with (fail)
 refine wp_abs2 (fun W => Below w.heap.size w W ∧ W.heap[w.heap.size]? = some (.cells (List.toArray (fX (12) x)) 43 (0, 0))) ⟨belx, heap_alloc_new _ _⟩ ?_
 rintro w1 ⟨hb1, q1⟩
 obtain ⟨f1, -, z1⟩ := lie_cell q1
 go_upto_region 2 with (fail)
 refine wp_region_lit ?_
 iterate 4 (refine sp fun q r => ?_; go_simp; refine r _ _ ?_; clear r q)
 refine wpList_store_mid rfl 43 (.tmp 10) (.tmp 18) rfl w1.heap.size 0 _ rfl rfl (whole_there (heap_alloc_new _ _) rfl) cellsIns (all_oneCell_toArray (cs := insC { op := 12 }) (insC_one _)) ?_
 refine wpList_abs (fun W => Below w1.heap.size w1 W ∧ W.heap[w1.heap.size]? = some (.cells (List.toArray (fZ (12))) 43 (0, 0))) ⟨below_cells _ _ _ _ _ ((Below.refl _ _).alloc (Nat.le_refl _) _), box_whole (heap_alloc_new _ _) rfl⟩ ?_
 rintro w2 ⟨hb12, r2⟩
 have q2 := (hb12.block _ z1).trans q1
 have hb2 := after hb1 hb12
 obtain ⟨B, hB⟩ : ∃ B, w1.heap.size = B := ⟨_, rfl⟩
 rw [hB] at r2 z1
 have hsB : w.heap.size ≤ B := Nat.le_of_lt z1
 have hne : ¬ w.heap.size = B := by omega
 have hne2 : ¬ B = w.heap.size := by omega
 clear f1 hb12 hb1 q1
 iterate 1 (refine sp fun q r => ?_; go_simp; refine r _ _ ?_; clear r q)
 refine wpList_nil ?_
 obtain ⟨f2, -, z2⟩ := lie_cell q2
 obtain ⟨g2, d2, y2⟩ := lie_cell r2
 go_upto_region 30 with (fail)
 refine wp_region_held_drew (S := fun w' => ∀ i, w'.cell? ⟨w.heap.size, i, none⟩ = (List.toArray (fX (12) x))[i]?) (by kernel_rfl) f2 (fun hHeld => ?_)
 have q3 : w2.drew.heap[w.heap.size]? = some (.cells (List.toArray (fX (12) x)) 43 (0, 0)) := q2
 have r3 : w2.drew.heap[B]? = some (.cells (List.toArray (fZ (12))) 43 (0, 0)) := r2
 have hb03 : Below w.heap.size w w2.drew := drewB hb2
 clear f2 g2 d2
 obtain ⟨g3, d3, y3⟩ := lie_cell r3
 refine tk 0 hHeld ?_
 refine tk 1 hHeld ?_
 refine tk 2 hHeld ?_
 refine tk 3 hHeld ?_
 refine tk 4 hHeld ?_
 refine wpAnyH_ready (rs := [5]) (by kernel_rfl) (by simp) ?_
 refine AllReadyH.cons rfl (fun K1 hK1 => ?_) AllReadyH.nil
 go_simp
 refine hK1.out _ _ (lie_cell ((heap_set_other (i := 1) (v := .int .i64 x.a) hne).trans q3)).1 (fun hHeld => ?_)
 refine anyH_abs (fun W => Below w.heap.size w W ∧ W.heap[w.heap.size]? = some (.cells (List.toArray (fX (12) x)) 43 (0, 0)) ∧ W.heap[B]? = some (.cells (List.toArray (fB12a x)) 43 (0, 0))) hHeld ⟨setB hb03 hsB, (heap_set_other (i := 1) (v := .int .i64 x.a) hne).trans q3, heap_set_same (i := 1) (v := .int .i64 x.a) r3⟩ ?_
 clear hHeld hK1 K1
 rintro v5 ⟨hb5, q5, r5⟩ hHeld
 clear g3 d3
 obtain ⟨g5, d5, y5⟩ := lie_cell r5
 refine tk 6 hHeld ?_
 refine wpAnyH_ready (rs := [7]) (by kernel_rfl) (by simp) ?_
 refine AllReadyH.cons rfl (fun K1 hK1 => ?_) AllReadyH.nil
 go_simp
 refine hK1.out _ _ (lie_cell ((heap_set_other (i := 2) (v := .int .i64 x.b) hne).trans q5)).1 (fun hHeld => ?_)
 refine anyH_abs (fun W => Below w.heap.size w W ∧ W.heap[w.heap.size]? = some (.cells (List.toArray (fX (12) x)) 43 (0, 0)) ∧ W.heap[B]? = some (.cells (List.toArray (fB12ab x)) 43 (0, 0))) hHeld ⟨setB hb5 hsB, (heap_set_other (i := 2) (v := .int .i64 x.b) hne).trans q5, heap_set_same (i := 2) (v := .int .i64 x.b) r5⟩ ?_
 clear hHeld hK1 K1
 rintro v7 ⟨hb7, q7, r7⟩ hHeld
 clear g5 d5
 refine wpAnyH_done (by kernel_rfl) ?_ _
 clear hHeld q3 r3 hb03 y3 q5 r5 hb5 y5
 obtain ⟨f7, -, z7⟩ := lie_cell q7
 have hbE := hb7
 have qE := q7
 have rE := r7
 clear hb7 q7 r7
 go_upto_region 31 with (fail)
 go_wp2_with fail
 refine (c1 _ hbE).mono ?_; rintro e wc1 ⟨rfl, hbc1⟩
 replace qE := (hbc1.block _ (heap_in qE)).trans qE
 replace rE := (hbc1.block _ (heap_in rE)).trans rE
 replace hbE := after hbE hbc1
 clear f7
 obtain ⟨fc1, -, zc1⟩ := lie_cell qE
 cases A1
 ·go_wp2
  go_ret; exact Ret.mk' rfl hbE
 ·
  go_wp2_with fail
  refine (c2 _ hbE).mono ?_; rintro e wc2 ⟨rfl, hbc2⟩
  replace qE := (hbc2.block _ (heap_in qE)).trans qE
  replace rE := (hbc2.block _ (heap_in rE)).trans rE
  replace hbE := after hbE hbc2
  clear fc1
  obtain ⟨fc2, -, zc2⟩ := lie_cell qE
  clear fc2
  cases A2
  ·
   go_wp2
   go_ret; exact Ret.mk' rfl hbE
  ·
   go_upto_region 47 with (fail)
   refine wp_region_lit ?_
   iterate 2 (refine sp fun q r => ?_; go_simp; refine r _ _ ?_; clear r q)
   refine wpList_want (by rfl) (fun KK hKK => ?_)
   refine wp_load_row 43 (.tmp 4) rfl w.heap.size rfl 43 (List.toArray (fX (12) x)) (0, 0) _ qE Tryz.underlying43 rfl (by exact cellsIns) ?_
   refine hKK _ _ ?_; clear hKK KK
   refine wpList_want (by rfl) (fun KK hKK => ?_)
   refine wp_load_row 43 (.tmp 10) rfl B rfl 43 (List.toArray (fB12ab x)) (0, 0) _ rE Tryz.underlying43 rfl (by exact cellsIns) ?_
   refine hKK _ _ ?_; clear hKK KK
   refine wpList_want (by rfl) (fun KK hKK => ?_)
   refine wp_eql_struct rfl rfl rfl guardIns (hEq _) ?_
   refine hKK _ _ ?_; clear hKK KK
   clear hEq
   cases SM
   all_goals (
    iterate 2 (refine sp fun q r => ?_; go_simp; refine r _ _ ?_; clear r q)
    refine wpList_nil ?_
    go_wp2
    go_ret; exact Ret.mk' rfl hbE)
end Go.Proofs.YtlpgigdegnbkmaaGreatDoor
