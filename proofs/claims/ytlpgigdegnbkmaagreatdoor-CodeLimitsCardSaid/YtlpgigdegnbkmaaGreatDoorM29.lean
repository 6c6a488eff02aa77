import Derived.Test.YtlpgigdegnbkmaaGreatDoorM28
namespace Go.Proofs.YtlpgigdegnbkmaaGreatDoor
open Go.RowKit Tab
set_option maxRecDepth 100000 in
set_option maxHeartbeats 8000000 in
theorem fields_1 (x : InsD) (b blocks behind : Int) (h : FOk x b blocks behind) (w : World) (_hg : Good w) (hk : x.op = 1) : Calls Tryz.prog 26 #[insV x, .int .i64 b, .int .i64 blocks, .int .i64 behind] w (Ret (.bool (fieldsC x b blocks behind)) w) := by
 have hEq : ∀ W, (Op.equalIn 10000 43 (.agg (List.toArray (fX (1) x))) (.agg (List.toArray (fB1me x)))).run Tryz.prog W = .ok (sameI x (bareI x)) W := fun W => by
  have := insEq_run 9997 x (bareI x) W
  have e1 : insV x = .agg (List.toArray (fX (1) x)) := by unfold insV fX; rw [hk]
  have e2 : insV (bareI x) = .agg (List.toArray (fB1me x)) := by unfold bareI; simp only [hk]; rfl
  rw [e1, e2] at this; exact this
 have hV : fieldsC x b blocks behind = ((decOkD x.m x.e) && sameI x (bareI x)) := by unfold fieldsC okI; simp only [hk]; rfl
 rw [hV]
 obtain ⟨h1, h2, h3, h4, h5⟩ := h
 generalize sameI x (bareI x) = SM at *
 unfold insV
 rw [hk]
 clear hV hk
 obtain ⟨OKV, hOKV⟩ : ∃ OKV, (decOkD x.m x.e) = OKV := ⟨_, rfl⟩
 
 rw [hOKV]
 go_enter Tryz.func26, Tryz.ntmps26
 go_upto_region 1 with (fail)
 refine wp_abs2 (fun W => Below w.heap.size w W ∧ W.heap[w.heap.size]? = some (.cells (List.toArray (fX (1) x)) 43 (0, 0))) ⟨belx, heap_alloc_new _ _⟩ ?_
 rintro w1 ⟨hb1, q1⟩
 obtain ⟨f1, -, z1⟩ := lie_cell q1
 go_upto_region 2 with (fail)
 refine wp_region_lit ?_
 iterate 4 (refine sp fun q r => ?_; go_simp; refine r _ _ ?_; clear r q)
 refine wpList_store_mid rfl 43 (.tmp 10) (.tmp 18) rfl w1.heap.size 0 _ rfl rfl (whole_there (heap_alloc_new _ _) rfl) cellsIns (all_oneCell_toArray (cs := insC { op := 1 }) (insC_one _)) ?_
 refine wpList_abs (fun W => Below w1.heap.size w1 W ∧ W.heap[w1.heap.size]? = some (.cells (List.toArray (fZ (1))) 43 (0, 0))) ⟨below_cells _ _ _ _ _ ((Below.refl _ _).alloc (Nat.le_refl _) _), box_whole (heap_alloc_new _ _) rfl⟩ ?_
 rintro w2 ⟨hb12, r2⟩
 have q2 := (hb12.block _ z1).trans q1
 have hb2 := after hb1 hb12
 obtain ⟨B, hB⟩ : ∃ B, w1.heap.size = B := ⟨_, rfl⟩
 rw [hB] at r2 z1
 have hsB : w.heap.size ≤ B := Nat.le_of_lt z1
 have hne : ¬ w.heap.size = B := by omega
 have hne2 : ¬ B = w.heap.size := by omega
 clear f1 hb12 hb1 q1
 iterate 1 (refine sp fun q r => ?_; go_simp; refine r _ _ ?_; clear r q)
 refine wpList_nil ?_
 obtain ⟨f2, -, z2⟩ := lie_cell q2
 obtain ⟨g2, d2, y2⟩ := lie_cell r2
 have cC := (fun W (hW : Below w2.heap.size w2 W) => decRight_any x.m x.e h1 W)
 rw [hOKV] at cC
 clear hOKV
 go_upto_region 5 with (fail)
 have kcc := gcell w2
 refine region_below_tail 6 (by kernel_rfl) (by kernel_rfl) ?_
 simp only [List.take_succ_cons, List.take_zero, List.drop_succ_cons, List.drop_zero]
 iterate 6 (quiet_step (exact Ret.grown cC))
 refine wpQuiet_nil ?_
 intro w4 hb4
 have q4 := (hb4.block _ z2).trans q2
 have r4 := (hb4.block _ y2).trans r2
 have hb04 := after hb2 hb4
 clear f2 g2 d2 kcc
 obtain ⟨g4, d4, y4⟩ := lie_cell r4
 refine wpList_store_mid rfl 25 (.tmp 28) (.tmp 24) rfl B 4 (List.toArray [.int .i64 x.m, .int .i64 x.e]) rfl rfl (part_there r4 (Nat.le_of_ble_eq_true rfl)) cellsDec (oneDec _ _) ?_
 refine wpList_abs (fun W => Below w.heap.size w W ∧ W.heap[w.heap.size]? = some (.cells (List.toArray (fX (1) x)) 43 (0, 0)) ∧ W.heap[B]? = some (.cells (List.toArray (fB1me x)) 43 (0, 0))) ⟨below_cells2 hsB _ _ _ hb04, (cells_other hne _ _ _).trans q4, setCells_heap _ 4 _ _ r4 (Nat.le_of_ble_eq_true rfl)⟩ ?_
 rintro wE ⟨hbE, qE, rE⟩
 clear g4 d4 q4 r4
 iterate 1 (refine sp fun q r => ?_; go_simp; refine r _ _ ?_; clear r q)
 refine wpList_nil ?_
 go_upto_region 47 with (fail)
 cases OKV
 ·
  go_wp2
  go_ret; exact Ret.mk' rfl hbE
 ·
  refine wp_region_lit ?_
  iterate 2 (refine sp fun q r => ?_; go_simp; refine r _ _ ?_; clear r q)
  refine wpList_want (by rfl) (fun KK hKK => ?_)
  refine wp_load_row 43 (.tmp 4) rfl w.heap.size rfl 43 (List.toArray (fX (1) x)) (0, 0) _ qE Tryz.underlying43 rfl (by exact cellsIns) ?_
  refine hKK _ _ ?_; clear hKK KK
  refine wpList_want (by rfl) (fun KK hKK => ?_)
  refine wp_load_row 43 (.tmp 10) rfl B rfl 43 (List.toArray (fB1me x)) (0, 0) _ rE Tryz.underlying43 rfl (by exact cellsIns) ?_
  refine hKK _ _ ?_; clear hKK KK
  refine wpList_want (by rfl) (fun KK hKK => ?_)
  refine wp_eql_struct rfl rfl rfl guardIns (hEq _) ?_
  refine hKK _ _ ?_; clear hKK KK
  clear hEq
  cases SM
  all_goals (
   iterate 2 (refine sp fun q r => ?_; go_simp; refine r _ _ ?_; clear r q)
   refine wpList_nil ?_
   go_wp2
   go_ret; exact Ret.mk' rfl hbE)
set_option maxRecDepth 100000 in
set_option maxHeartbeats 8000000 in
theorem fields_2 (x : InsD) (b blocks behind : Int) (h : FOk x b blocks behind) (w : World) (hg : Good w) (hk : x.op = 2) : Calls Tryz.prog 26 #[insV x, .int .i64 b, .int .i64 blocks, .int .i64 behind] w (Ret (.bool (fieldsC x b blocks behind)) w) := by
 have hEq : ∀ W, (Op.equalIn 10000 43 (.agg (List.toArray (fX (2) x))) (.agg (List.toArray (fB2s x)))).run Tryz.prog W = .ok (sameI x (bareI x)) W := fun W => by
  have := insEq_run 9997 x (bareI x) W
  have e1 : insV x = .agg (List.toArray (fX (2) x)) := by unfold insV fX; rw [hk]
  have e2 : insV (bareI x) = .agg (List.toArray (fB2s x)) := by unfold bareI; simp only [hk]; rfl
  rw [e1, e2] at this; exact this
 have hV : fieldsC x b blocks behind = ((decide (x.s.length ≤ 200) && textB x.s) && sameI x (bareI x)) := by unfold fieldsC okI; simp only [hk]; rfl
 rw [hV]
 obtain ⟨h1, h2, h3, h4, h5⟩ := h
 generalize sameI x (bareI x) = SM at *
 unfold insV
 rw [hk]
 clear hV hk
 have cV := fun W (hW : Below w.heap.size w W) => Tryz.utf8_ValidString ⟨x.s.toArray⟩ W (Nat.le_trans (show x.s.length ≤ 900000 from h2) (by decide)) (hg.below hW).u8
 have cO := fun W (hW : Below w.heap.size w W) => hasLow_any x.s W
 rw [show (⟨x.s.toArray⟩ : ByteArray).data.toList = x.s from rfl] at cV
 unfold textB
 rw [show (x.s.all okByte && Lib.validD x.s) = (Lib.validD x.s && x.s.all okByte) from Bool.and_comm _ _]
 obtain ⟨n, hn⟩ : ∃ n, x.s.length = n := ⟨_, rfl⟩
 have hsz : (⟨x.s.toArray⟩ : ByteArray).size = n := hn
 rw [hn]
 generalize Lib.validD x.s = V at *
 generalize x.s.all okByte = O at *
 by_cases hl : n ≤ 200
 ·have el : decide ((n : Int) ≤ 200) = true := decide_eq_true (by omega)
  rw [decide_eq_true hl]
  go_enter Tryz.func26, Tryz.ntmps26
  go_upto_region 1 with (fail)
  refine wp_abs2 (fun W => Below w.heap.size w W ∧ W.heap[w.heap.size]? = some (.cells (List.toArray (fX (2) x)) 43 (0, 0))) ⟨belx, heap_alloc_new _ _⟩ ?_
  rintro w1 ⟨hb1, q1⟩
  obtain ⟨f1, -, z1⟩ := lie_cell q1
  go_upto_region 2 with (fail)
  refine wp_region_lit ?_
  iterate 4 (refine sp fun q r => ?_; go_simp; refine r _ _ ?_; clear r q)
  refine wpList_store_mid rfl 43 (.tmp 10) (.tmp 18) rfl w1.heap.size 0 _ rfl rfl (whole_there (heap_alloc_new _ _) rfl) cellsIns (all_oneCell_toArray (cs := insC { op := 2 }) (insC_one _)) ?_
  refine wpList_abs (fun W => Below w1.heap.size w1 W ∧ W.heap[w1.heap.size]? = some (.cells (List.toArray (fZ (2))) 43 (0, 0))) ⟨below_cells _ _ _ _ _ ((Below.refl _ _).alloc (Nat.le_refl _) _), box_whole (heap_alloc_new _ _) rfl⟩ ?_
  rintro w2 ⟨hb12, r2⟩
  have q2 := (hb12.block _ z1).trans q1
  have hb2 := after hb1 hb12
  obtain ⟨B, hB⟩ : ∃ B, w1.heap.size = B := ⟨_, rfl⟩
  rw [hB] at r2 z1
  have hsB : w.heap.size ≤ B := Nat.le_of_lt z1
  have hne : ¬ w.heap.size = B := by omega
  have hne2 : ¬ B = w.heap.size := by omega
  clear f1 hb12 hb1 q1
  iterate 1 (refine sp fun q r => ?_; go_simp; refine r _ _ ?_; clear r q)
  refine wpList_nil ?_
  obtain ⟨f2, -, z2⟩ := lie_cell q2
  obtain ⟨g2, d2, y2⟩ := lie_cell r2
  go_upto_region 8 with (fail)
  refine wp_region_held_drew (S := fun w' => ∀ i, w'.cell? ⟨w.heap.size, i, none⟩ = (List.toArray (fX (2) x))[i]?) (by kernel_rfl) f2 (fun hHeld => ?_)
  have q3 : w2.drew.heap[w.heap.size]? = some (.cells (List.toArray (fX (2) x)) 43 (0, 0)) := q2
  have r3 : w2.drew.heap[B]? = some (.cells (List.toArray (fZ (2))) 43 (0, 0)) := r2
  have hb03 : Below w.heap.size w w2.drew := drewB hb2
  clear f2 g2 d2
  obtain ⟨g3, d3, y3⟩ := lie_cell r3
  refine tk 0 hHeld ?_
  refine tk 1 hHeld ?_
  refine tk 2 hHeld ?_
  refine tk 3 hHeld ?_
  refine tk 4 hHeld ?_
  refine tk 5 hHeld ?_
  refine tk 6 hHeld ?_
  refine tk 7 hHeld ?_
  refine tk 8 hHeld ?_
  refine tk 18 hHeld ?_
  refine wpAnyH_ready (rs := [9]) (by kernel_rfl) (by simp) ?_
  refine AllReadyH.cons rfl (fun K1 hK1 => ?_) AllReadyH.nil
  go_simp
  refine (cV _ hb03).mono ?_; rintro e w4 ⟨rfl, hbx⟩
  dsimp only
  have q4 := (hbx.block _ (heap_in q3)).trans q3
  have r4 := (hbx.block _ (heap_in r3)).trans r3
  have hb04 := after hb03 hbx
  refine hK1.out _ _ (lie_cell q4).1 (fun hHeld => ?_)
  clear hK1 K1 g3 d3 q3 r3 hb03 hbx y3
  obtain ⟨g4, d4, y4⟩ := lie_cell r4
  refine tk 10 hHeld ?_
  cases V
  ·
   refine tk 11 hHeld ?_
   refine tk 12 hHeld ?_
   refine tk 13 hHeld ?_
   refine tk 14 hHeld ?_
   refine tk 15 hHeld ?_
   refine tk 16 hHeld ?_
   refine tk 17 hHeld ?_
   refine wpAnyH_ready (rs := [19]) (by kernel_rfl) (by simp) ?_
   refine AllReadyH.cons rfl (fun K1 hK1 => ?_) AllReadyH.nil
   go_simp
   refine hK1.out _ _ (lie_cell ((heap_set_other (i := 3) (v := .string ⟨x.s.toArray⟩) hne).trans q4)).1 (fun hHeld => ?_)
   refine anyH_abs (fun W => Below w.heap.size w W ∧ W.heap[w.heap.size]? = some (.cells (List.toArray (fX (2) x)) 43 (0, 0)) ∧ W.heap[B]? = some (.cells (List.toArray (fB2s x)) 43 (0, 0))) hHeld ⟨setB hb04 hsB, (heap_set_other (i := 3) (v := .string ⟨x.s.toArray⟩) hne).trans q4, heap_set_same (i := 3) (v := .string ⟨x.s.toArray⟩) r4⟩ ?_
   clear hHeld hK1 K1 g4 d4
   rintro wE ⟨hbE, qE, rE⟩ hHeld
   refine tk 20 hHeld ?_
   refine wpAnyH_done (by kernel_rfl) ?_ _
   clear hHeld q4 r4 hb04 y4
   go_wp2
   go_ret; exact Ret.mk' rfl hbE
  ·
   refine tk 11 hHeld ?_
   refine tk 12 hHeld ?_
   refine tk 13 hHeld ?_
   refine tk 14 hHeld ?_
   refine wpAnyH_ready (rs := [15]) (by kernel_rfl) (by simp) ?_
   refine AllReadyH.cons rfl (fun K1 hK1 => ?_) AllReadyH.nil
   go_simp
   refine (cO _ hb04).mono ?_; rintro e w5 ⟨rfl, hbx⟩
   dsimp only
   have q5 := (hbx.block _ (heap_in q4)).trans q4
   have r5 := (hbx.block _ (heap_in r4)).trans r4
   have hb05 := after hb04 hbx
   refine hK1.out _ _ (lie_cell q5).1 (fun hHeld => ?_)
   clear hK1 K1 g4 d4 q4 r4 hb04 hbx y4
   obtain ⟨g5, d5, y5⟩ := lie_cell r5
   cases O
   ·
    refine tk 16 hHeld ?_
    refine tk 17 hHeld ?_
    refine wpAnyH_ready (rs := [19]) (by kernel_rfl) (by simp) ?_
    refine AllReadyH.cons rfl (fun K1 hK1 => ?_) AllReadyH.nil
    go_simp
    refine hK1.out _ _ (lie_cell ((heap_set_other (i := 3) (v := .string ⟨x.s.toArray⟩) hne).trans q5)).1 (fun hHeld => ?_)
    refine anyH_abs (fun W => Below w.heap.size w W ∧ W.heap[w.heap.size]? = some (.cells (List.toArray (fX (2) x)) 43 (0, 0)) ∧ W.heap[B]? = some (.cells (List.toArray (fB2s x)) 43 (0, 0))) hHeld ⟨setB hb05 hsB, (heap_set_other (i := 3) (v := .string ⟨x.s.toArray⟩) hne).trans q5, heap_set_same (i := 3) (v := .string ⟨x.s.toArray⟩) r5⟩ ?_
    clear hHeld hK1 K1 g5 d5
    rintro wE ⟨hbE, qE, rE⟩ hHeld
    refine tk 20 hHeld ?_
    refine wpAnyH_done (by kernel_rfl) ?_ _
    clear hHeld q5 r5 hb05 y5
    go_wp2
    go_ret; exact Ret.mk' rfl hbE
   ·
    refine tk 16 hHeld ?_
    refine tk 17 hHeld ?_
    refine wpAnyH_ready (rs := [19]) (by kernel_rfl) (by simp) ?_
    refine AllReadyH.cons rfl (fun K1 hK1 => ?_) AllReadyH.nil
    go_simp
    refine hK1.out _ _ (lie_cell ((heap_set_other (i := 3) (v := .string ⟨x.s.toArray⟩) hne).trans q5)).1 (fun hHeld => ?_)
    refine anyH_abs (fun W => Below w.heap.size w W ∧ W.heap[w.heap.size]? = some (.cells (List.toArray (fX (2) x)) 43 (0, 0)) ∧ W.heap[B]? = some (.cells (List.toArray (fB2s x)) 43 (0, 0))) hHeld ⟨setB hb05 hsB, (heap_set_other (i := 3) (v := .string ⟨x.s.toArray⟩) hne).trans q5, heap_set_same (i := 3) (v := .string ⟨x.s.toArray⟩) r5⟩ ?_
    clear hHeld hK1 K1 g5 d5
    rintro wE ⟨hbE, qE, rE⟩ hHeld
    refine tk 20 hHeld ?_
    refine wpAnyH_done (by kernel_rfl) ?_ _
    clear hHeld q5 r5 hb05 y5
    go_upto_region 47 with (fail)
    refine wp_region_lit ?_
    iterate 2 (refine sp fun q r => ?_; go_simp; refine r _ _ ?_; clear r q)
    refine wpList_want (by rfl) (fun KK hKK => ?_)
    refine wp_load_row 43 (.tmp 4) rfl w.heap.size rfl 43 (List.toArray (fX (2) x)) (0, 0) _ qE Tryz.underlying43 rfl (by exact cellsIns) ?_
    refine hKK _ _ ?_; clear hKK KK
    refine wpList_want (by rfl) (fun KK hKK => ?_)
    refine wp_load_row 43 (.tmp 10) rfl B rfl 43 (List.toArray (fB2s x)) (0, 0) _ rE Tryz.underlying43 rfl (by exact cellsIns) ?_
    refine hKK _ _ ?_; clear hKK KK
    refine wpList_want (by rfl) (fun KK hKK => ?_)
    refine wp_eql_struct rfl rfl rfl guardIns (hEq _) ?_
    refine hKK _ _ ?_; clear hKK KK
    clear hEq
    cases SM
    all_goals (
     iterate 2 (refine sp fun q r => ?_; go_simp; refine r _ _ ?_; clear r q)
     refine wpList_nil ?_
     go_wp2
     go_ret; exact Ret.mk' rfl hbE)
 ·have el : decide ((n : Int) ≤ 200) = false := decide_eq_false (by omega)
  rw [decide_eq_false hl]
  go_enter Tryz.func26, Tryz.ntmps26
  go_upto_region 1 with (fail)
  refine wp_abs2 (fun W => Below w.heap.size w W ∧ W.heap[w.heap.size]? = some (.cells (List.toArray (fX (2) x)) 43 (0, 0))) ⟨belx, heap_alloc_new _ _⟩ ?_
  rintro w1 ⟨hb1, q1⟩
  obtain ⟨f1, -, z1⟩ := lie_cell q1
  go_upto_region 2 with (fail)
  refine wp_region_lit ?_
  iterate 4 (refine sp fun q r => ?_; go_simp; refine r _ _ ?_; clear r q)
  refine wpList_store_mid rfl 43 (.tmp 10) (.tmp 18) rfl w1.heap.size 0 _ rfl rfl (whole_there (heap_alloc_new _ _) rfl) cellsIns (all_oneCell_toArray (cs := insC { op := 2 }) (insC_one _)) ?_
  refine wpList_abs (fun W => Below w1.heap.size w1 W ∧ W.heap[w1.heap.size]? = some (.cells (List.toArray (fZ (2))) 43 (0, 0))) ⟨below_cells _ _ _ _ _ ((Below.refl _ _).alloc (Nat.le_refl _) _), box_whole (heap_alloc_new _ _) rfl⟩ ?_
  rintro w2 ⟨hb12, r2⟩
  have q2 := (hb12.block _ z1).trans q1
  have hb2 := after hb1 hb12
  obtain ⟨B, hB⟩ : ∃ B, w1.heap.size = B := ⟨_, rfl⟩
  rw [hB] at r2 z1
  have hsB : w.heap.size ≤ B := Nat.le_of_lt z1
  have hne : ¬ w.heap.size = B := by omega
  have hne2 : ¬ B = w.heap.size := by omega
  clear f1 hb12 hb1 q1
  iterate 1 (refine sp fun q r => ?_; go_simp; refine r _ _ ?_; clear r q)
  refine wpList_nil ?_
  obtain ⟨f2, -, z2⟩ := lie_cell q2
  obtain ⟨g2, d2, y2⟩ := lie_cell r2
  go_upto_region 8 with (fail)
  refine wp_region_held_drew (S := fun w' => ∀ i, w'.cell? ⟨w.heap.size, i, none⟩ = (List.toArray (fX (2) x))[i]?) (by kernel_rfl) f2 (fun hHeld => ?_)
  have q3 : w2.drew.heap[w.heap.size]? = some (.cells (List.toArray (fX (2) x)) 43 (0, 0)) := q2
  have r3 : w2.drew.heap[B]? = some (.cells (List.toArray (fZ (2))) 43 (0, 0)) := r2
  have hb03 : Below w.heap.size w w2.drew := drewB hb2
  clear f2 g2 d2
  obtain ⟨g3, d3, y3⟩ := lie_cell r3
  refine tk 0 hHeld ?_
  refine tk 1 hHeld ?_
  refine tk 2 hHeld ?_
  refine tk 3 hHeld ?_
  refine tk 4 hHeld ?_
  refine tk 5 hHeld ?_
  refine tk 6 hHeld ?_
  refine tk 7 hHeld ?_
  refine tk 8 hHeld ?_
  refine tk 9 hHeld ?_
  refine tk 10 hHeld ?_
  refine tk 11 hHeld ?_
  refine tk 12 hHeld ?_
  refine tk 13 hHeld ?_
  refine tk 14 hHeld ?_
  refine tk 15 hHeld ?_
  refine tk 16 hHeld ?_
  refine tk 17 hHeld ?_
  refine tk 18 hHeld ?_
  refine wpAnyH_ready (rs := [19]) (by kernel_rfl) (by simp) ?_
  refine AllReadyH.cons rfl (fun K1 hK1 => ?_) AllReadyH.nil
  go_simp
  refine hK1.out _ _ (lie_cell ((heap_set_other (i := 3) (v := .string ⟨x.s.toArray⟩) hne).trans q3)).1 (fun hHeld => ?_)
  refine anyH_abs (fun W => Below w.heap.size w W ∧ W.heap[w.heap.size]? = some (.cells (List.toArray (fX (2) x)) 43 (0, 0)) ∧ W.heap[B]? = some (.cells (List.toArray (fB2s x)) 43 (0, 0))) hHeld ⟨setB hb03 hsB, (heap_set_other (i := 3) (v := .string ⟨x.s.toArray⟩) hne).trans q3, heap_set_same (i := 3) (v := .string ⟨x.s.toArray⟩) r3⟩ ?_
  clear hHeld hK1 K1 g3 d3
  rintro wE ⟨hbE, qE, rE⟩ hHeld
  refine tk 20 hHeld ?_
  refine wpAnyH_done (by kernel_rfl) ?_ _
  clear hHeld q3 r3 hb03 y3
  go_wp2
  go_ret; exact Ret.mk' rfl hbE
set_option maxRecDepth 100000 in
set_option maxHeartbeats 8000000 in
theorem fields_3 (x : InsD) (b blocks behind : Int) (h : FOk x b blocks behind) (w : World) (_hg : Good w) (hk : x.op = 3) : Calls Tryz.prog 26 #[insV x, .int .i64 b, .int .i64 blocks, .int .i64 behind] w (Ret (.bool (fieldsC x b blocks behind)) w) := by
 have hEq : ∀ W, (Op.equalIn 10000 43 (.agg (List.toArray (fX (3) x))) (.agg (List.toArray (fB3a x)))).run Tryz.prog W = .ok (sameI x (bareI x)) W := fun W => by
  have := insEq_run 9997 x (bareI x) W
  have e1 : insV x = .agg (List.toArray (fX (3) x)) := by unfold insV fX; rw [hk]
  have e2 : insV (bareI x) = .agg (List.toArray (fB3a x)) := by unfold bareI; simp only [hk]; rfl
  rw [e1, e2] at this; exact this
 have hV : fieldsC x b blocks behind = ((winD x.a 0 1) && sameI x (bareI x)) := by unfold fieldsC okI; simp only [hk]; rfl
 rw [hV]
 obtain ⟨h1, h2, h3, h4, h5⟩ := h
 generalize sameI x (bareI x) = SM at *
 unfold insV
 rw [hk]
 clear hV hk
 obtain ⟨OKV, hOKV⟩ : ∃ OKV, (winD x.a 0 1) = OKV := ⟨_, rfl⟩
 
 rw [hOKV]
 go_enter Tryz.func26, Tryz.ntmps26
 go_upto_region 1 with (fail)
 refine wp_abs2 (fun W => Below w.heap.size w W ∧ W.heap[w.heap.size]? = some (.cells (List.toArray (fX (3) x)) 43 (0, 0))) ⟨belx, heap_alloc_new _ _⟩ ?_
 rintro w1 ⟨hb1, q1⟩
 obtain ⟨f1, -, z1⟩ := lie_cell q1
 go_upto_region 2 with (fail)
 refine wp_region_lit ?_
 iterate 4 (refine sp fun q r => ?_; go_simp; refine r _ _ ?_; clear r q)
 refine wpList_store_mid rfl 43 (.tmp 10) (.tmp 18) rfl w1.heap.size 0 _ rfl rfl (whole_there (heap_alloc_new _ _) rfl) cellsIns (all_oneCell_toArray (cs := insC { op := 3 }) (insC_one _)) ?_
 refine wpList_abs (fun W => Below w1.heap.size w1 W ∧ W.heap[w1.heap.size]? = some (.cells (List.toArray (fZ (3))) 43 (0, 0))) ⟨below_cells _ _ _ _ _ ((Below.refl _ _).alloc (Nat.le_refl _) _), box_whole (heap_alloc_new _ _) rfl⟩ ?_
 rintro w2 ⟨hb12, r2⟩
 have q2 := (hb12.block _ z1).trans q1
 have hb2 := after hb1 hb12
 obtain ⟨B, hB⟩ : ∃ B, w1.heap.size = B := ⟨_, rfl⟩
 rw [hB] at r2 z1
 have hsB : w.heap.size ≤ B := Nat.le_of_lt z1
 have hne : ¬ w.heap.size = B := by omega
 have hne2 : ¬ B = w.heap.size := by omega
 clear f1 hb12 hb1 q1
 iterate 1 (refine sp fun q r => ?_; go_simp; refine r _ _ ?_; clear r q)
 refine wpList_nil ?_
 obtain ⟨f2, -, z2⟩ := lie_cell q2
 obtain ⟨g2, d2, y2⟩ := lie_cell r2
 have cC := (fun W (hW : Below w2.heap.size w2 W) => (win_any x.a 0 1 W).mono fun _ _ h => h.ret)
 rw [hOKV] at cC
 clear hOKV
 go_upto_region 10 with (fail)
 have kcc := gcell w2
 refine region_below_tail 7 (by kernel_rfl) (by kernel_rfl) ?_
 simp only [List.take_succ_cons, List.take_zero, List.drop_succ_cons, List.drop_zero]
 iterate 7 (quiet_step (exact Ret.grown cC))
 refine wpQuiet_nil ?_
 intro w4 hb4
 have q4 := (hb4.block _ z2).trans q2
 have r4 := (hb4.block _ y2).trans r2
 have hb04 := after hb2 hb4
 clear f2 g2 d2 kcc
 obtain ⟨g4, d4, y4⟩ := lie_cell r4
 (refine sp fun q r => ?_; go_simp; refine r _ _ ?_; clear r q)
 refine wpList_abs (fun W => Below w.heap.size w W ∧ W.heap[w.heap.size]? = some (.cells (List.toArray (fX (3) x)) 43 (0, 0)) ∧ W.heap[B]? = some (.cells (List.toArray (fB3a x)) 43 (0, 0))) ⟨setB hb04 hsB, (heap_set_other hne).trans q4, heap_set_same r4⟩ ?_
 rintro wE ⟨hbE, qE, rE⟩
 clear g4 d4 q4 r4
 iterate 1 (refine sp fun q r => ?_; go_simp; refine r _ _ ?_; clear r q)
 refine wpList_nil ?_
 go_upto_region 47 with (fail)
 cases OKV
 ·
  go_wp2
  go_ret; exact Ret.mk' rfl hbE
 ·
  refine wp_region_lit ?_
  iterate 2 (refine sp fun q r => ?_; go_simp; refine r _ _ ?_; clear r q)
  refine wpList_want (by rfl) (fun KK hKK => ?_)
  refine wp_load_row 43 (.tmp 4) rfl w.heap.size rfl 43 (List.toArray (fX (3) x)) (0, 0) _ qE Tryz.underlying43 rfl (by exact cellsIns) ?_
  refine hKK _ _ ?_; clear hKK KK
  refine wpList_want (by rfl) (fun KK hKK => ?_)
  refine wp_load_row 43 (.tmp 10) rfl B rfl 43 (List.toArray (fB3a x)) (0, 0) _ rE Tryz.underlying43 rfl (by exact cellsIns) ?_
  refine hKK _ _ ?_; clear hKK KK
  refine wpList_want (by rfl) (fun KK hKK => ?_)
  refine wp_eql_struct rfl rfl rfl guardIns (hEq _) ?_
  refine hKK _ _ ?_; clear hKK KK
  clear hEq
  cases SM
  all_goals (
   iterate 2 (refine sp fun q r => ?_; go_simp; refine r _ _ ?_; clear r q)
   refine wpList_nil ?_
   go_wp2
   go_ret; exact Ret.mk' rfl hbE)
set_option maxRecDepth 100000 in
set_option maxHeartbeats 8000000 in
theorem fields_4 (x : InsD) (b blocks behind : Int) (h : FOk x b blocks behind) (w : World) (_hg : Good w) (hk : x.op = 4) : Calls Tryz.prog 26 #[insV x, .int .i64 b, .int .i64 blocks, .int .i64 behind] w (Ret (.bool (fieldsC x b blocks behind)) w) := by
 have hEq : ∀ W, (Op.equalIn 10000 43 (.agg (List.toArray (fX (4) x))) (.agg (List.toArray (fB4a x)))).run Tryz.prog W = .ok (sameI x (bareI x)) W := fun W => by
  have := insEq_run 9997 x (bareI x) W
  have e1 : insV x = .agg (List.toArray (fX (4) x)) := by unfold insV fX; rw [hk]
  have e2 : insV (bareI x) = .agg (List.toArray (fB4a x)) := by unfold bareI; simp only [hk]; rfl
  rw [e1, e2] at this; exact this
 have hV : fieldsC x b blocks behind = ((winD x.a 1 9) && sameI x (bareI x)) := by unfold fieldsC okI; simp only [hk]; rfl
 rw [hV]
 obtain ⟨h1, h2, h3, h4, h5⟩ := h
 generalize sameI x (bareI x) = SM at *
 unfold insV
 rw [hk]
 clear hV hk
 obtain ⟨OKV, hOKV⟩ : ∃ OKV, (winD x.a 1 9) = OKV := ⟨_, rfl⟩
 
 rw [hOKV]
 go_enter Tryz.func26, Tryz.ntmps26
 go_upto_region 1 with (fail)
 refine wp_abs2 (fun W => Below w.heap.size w W ∧ W.heap[w.heap.size]? = some (.cells (List.toArray (fX (4) x)) 43 (0, 0))) ⟨belx, heap_alloc_new _ _⟩ ?_
 rintro w1 ⟨hb1, q1⟩
 obtain ⟨f1, -, z1⟩ := lie_cell q1
 go_upto_region 2 with (fail)
 refine wp_region_lit ?_
 iterate 4 (refine sp fun q r => ?_; go_simp; refine r _ _ ?_; clear r q)
 refine wpList_store_mid rfl 43 (.tmp 10) (.tmp 18) rfl w1.heap.size 0 _ rfl rfl (whole_there (heap_alloc_new _ _) rfl) cellsIns (all_oneCell_toArray (cs := insC { op := 4 }) (insC_one _)) ?_
 refine wpList_abs (fun W => Below w1.heap.size w1 W ∧ W.heap[w1.heap.size]? = some (.cells (List.toArray (fZ (4))) 43 (0, 0))) ⟨below_cells _ _ _ _ _ ((Below.refl _ _).alloc (Nat.le_refl _) _), box_whole (heap_alloc_new _ _) rfl⟩ ?_
 rintro w2 ⟨hb12, r2⟩
 have q2 := (hb12.block _ z1).trans q1
 have hb2 := after hb1 hb12
 obtain ⟨B, hB⟩ : ∃ B, w1.heap.size = B := ⟨_, rfl⟩
 rw [hB] at r2 z1
 have hsB : w.heap.size ≤ B := Nat.le_of_lt z1
 have hne : ¬ w.heap.size = B := by omega
 have hne2 : ¬ B = w.heap.size := by omega
 clear f1 hb12 hb1 q1
 iterate 1 (refine sp fun q r => ?_; go_simp; refine r _ _ ?_; clear r q)
 refine wpList_nil ?_
 obtain ⟨f2, -, z2⟩ := lie_cell q2
 obtain ⟨g2, d2, y2⟩ := lie_cell r2
 have cC := (fun W (hW : Below w2.heap.size w2 W) => (win_any x.a 1 9 W).mono fun _ _ h => h.ret)
 rw [hOKV] at cC
 clear hOKV
 go_upto_region 12 with (fail)
 have kcc := gcell w2
 refine region_below_tail 7 (by kernel_rfl) (by kernel_rfl) ?_
 simp only [List.take_succ_cons, List.take_zero, List.drop_succ_cons, List.drop_zero]
 iterate 7 (quiet_step (exact Ret.grown cC))
 refine wpQuiet_nil ?_
 intro w4 hb4
 have q4 := (hb4.block _ z2).trans q2
 have r4 := (hb4.block _ y2).trans r2
 have hb04 := after hb2 hb4
 clear f2 g2 d2 kcc
 obtain ⟨g4, d4, y4⟩ := lie_cell r4
 (refine sp fun q r => ?_; go_simp; refine r _ _ ?_; clear r q)
 refine wpList_abs (fun W => Below w.heap.size w W ∧ W.heap[w.heap.size]? = some (.cells (List.toArray (fX (4) x)) 43 (0, 0)) ∧ W.heap[B]? = some (.cells (List.toArray (fB4a x)) 43 (0, 0))) ⟨setB hb04 hsB, (heap_set_other hne).trans q4, heap_set_same r4⟩ ?_
 rintro wE ⟨hbE, qE, rE⟩
 clear g4 d4 q4 r4
 iterate 1 (refine sp fun q r => ?_; go_simp; refine r _ _ ?_; clear r q)
 refine wpList_nil ?_
 go_upto_region 47 with (fail)
 cases OKV
 ·
  go_wp2
  go_ret; exact Ret.mk' rfl hbE
 ·
  refine wp_region_lit ?_
  iterate 2 (refine sp fun q r => ?_; go_simp; refine r _ _ ?_; clear r q)
  refine wpList_want (by rfl) (fun KK hKK => ?_)
  refine wp_load_row 43 (.tmp 4) rfl w.heap.size rfl 43 (List.toArray (fX (4) x)) (0, 0) _ qE Tryz.underlying43 rfl (by exact cellsIns) ?_
  refine hKK _ _ ?_; clear hKK KK
  refine wpList_want (by rfl) (fun KK hKK => ?_)
  refine wp_load_row 43 (.tmp 10) rfl B rfl 43 (List.toArray (fB4a x)) (0, 0) _ rE Tryz.underlying43 rfl (by exact cellsIns) ?_
  refine hKK _ _ ?_; clear hKK KK
  refine wpList_want (by rfl) (fun KK hKK => ?_)
  refine wp_eql_struct rfl rfl rfl guardIns (hEq _) ?_
  refine hKK _ _ ?_; clear hKK KK
  clear hEq
  cases SM
  all_goals (
   iterate 2 (refine sp fun q r => ?_; go_simp; refine r _ _ ?_; clear r q)
   refine wpList_nil ?_
   go_wp2
   go_ret; exact Ret.mk' rfl hbE)
set_option maxRecDepth 100000 in
set_option maxHeartbeats 8000000 in
theorem fields_5 (x : InsD) (b blocks behind : Int) (h : FOk x b blocks behind) (w : World) (hg : Good w) (hk : x.op = 5) : Calls Tryz.prog 26 #[insV x, .int .i64 b, .int .i64 blocks, .int .i64 behind] w (Ret (.bool (fieldsC x b blocks behind)) w) := by
 have hEq : ∀ W, (Op.equalIn 10000 43 (.agg (List.toArray (fX (5) x))) (.agg (List.toArray (fB5r x)))).run Tryz.prog W = .ok (sameI x (bareI x)) W := fun W => by
  have := insEq_run 9997 x (bareI x) W
  have e1 : insV x = .agg (List.toArray (fX (5) x)) := by unfold insV fX; rw [hk]
  have e2 : insV (bareI x) = .agg (List.toArray (fB5r x)) := by unfold bareI; simp only [hk]; rfl
  rw [e1, e2] at this; exact this
 have hV : fieldsC x b blocks behind = ((x.ref.right) && sameI x (bareI x)) := by unfold fieldsC okI; simp only [hk]; rfl
 rw [hV]
 obtain ⟨h1, h2, h3, h4, h5⟩ := h
 generalize sameI x (bareI x) = SM at *
 unfold insV
 rw [hk]
 clear hV hk
 obtain ⟨OKV, hOKV⟩ : ∃ OKV, (rightB x.ref.s.data.toList x.ref.row x.ref.col x.ref.fr x.ref.fc x.ref.bad) = OKV := ⟨_, rfl⟩
 change Calls _ _ _ _ (Ret (.bool (rightB x.ref.s.data.toList x.ref.row x.ref.col x.ref.fr x.ref.fc x.ref.bad && SM)) w)
 rw [hOKV]
 go_enter Tryz.func26, Tryz.ntmps26
 go_upto_region 1 with (fail)
 refine wp_abs2 (fun W => Below w.heap.size w W ∧ W.heap[w.heap.size]? = some (.cells (List.toArray (fX (5) x)) 43 (0, 0))) ⟨belx, heap_alloc_new _ _⟩ ?_
 rintro w1 ⟨hb1, q1⟩
 obtain ⟨f1, -, z1⟩ := lie_cell q1
 go_upto_region 2 with (fail)
 refine wp_region_lit ?_
 iterate 4 (refine sp fun q r => ?_; go_simp; refine r _ _ ?_; clear r q)
 refine wpList_store_mid rfl 43 (.tmp 10) (.tmp 18) rfl w1.heap.size 0 _ rfl rfl (whole_there (heap_alloc_new _ _) rfl) cellsIns (all_oneCell_toArray (cs := insC { op := 5 }) (insC_one _)) ?_
 refine wpList_abs (fun W => Below w1.heap.size w1 W ∧ W.heap[w1.heap.size]? = some (.cells (List.toArray (fZ (5))) 43 (0, 0))) ⟨below_cells _ _ _ _ _ ((Below.refl _ _).alloc (Nat.le_refl _) _), box_whole (heap_alloc_new _ _) rfl⟩ ?_
 rintro w2 ⟨hb12, r2⟩
 have q2 := (hb12.block _ z1).trans q1
 have hb2 := after hb1 hb12
 obtain ⟨B, hB⟩ : ∃ B, w1.heap.size = B := ⟨_, rfl⟩
 rw [hB] at r2 z1
 have hsB : w.heap.size ≤ B := Nat.le_of_lt z1
 have hne : ¬ w.heap.size = B := by omega
 have hne2 : ¬ B = w.heap.size := by omega
 clear f1 hb12 hb1 q1
 iterate 1 (refine sp fun q r => ?_; go_simp; refine r _ _ ?_; clear r q)
 refine wpList_nil ?_
 obtain ⟨f2, -, z2⟩ := lie_cell q2
 obtain ⟨g2, d2, y2⟩ := lie_cell r2
 have cC := (fun W (hW : Below w2.heap.size w2 W) => Right_any x.ref.s x.ref.row x.ref.col x.ref.fr x.ref.fc x.ref.bad W (hg.below (after hb2 hW)) h5.1)
 rw [hOKV] at cC
 clear hOKV
 go_upto_region 14 with (fail)
 have kcc := gcell w2
 refine region_below_tail 6 (by kernel_rfl) (by kernel_rfl) ?_
 simp only [List.take_succ_cons, List.take_zero, List.drop_succ_cons, List.drop_zero]
 iterate 6 (quiet_step (exact Ret.grown cC))
 refine wpQuiet_nil ?_
 intro w4 hb4
 have q4 := (hb4.block _ z2).trans q2
 have r4 := (hb4.block _ y2).trans r2
 have hb04 := after hb2 hb4
 clear f2 g2 d2 kcc
 obtain ⟨g4, d4, y4⟩ := lie_cell r4
 refine wpList_store_mid rfl 27 (.tmp 75) (.tmp 71) rfl B 6 (List.toArray [.string x.ref.s, .int .i64 x.ref.row, .int .i64 x.ref.col, .bool x.ref.fr, .bool x.ref.fc, .bool x.ref.bad]) rfl rfl (part_there r4 (Nat.le_of_ble_eq_true rfl)) cellsRef (oneRef _) ?_
 refine wpList_abs (fun W => Below w.heap.size w W ∧ W.heap[w.heap.size]? = some (.cells (List.toArray (fX (5) x)) 43 (0, 0)) ∧ W.heap[B]? = some (.cells (List.toArray (fB5r x)) 43 (0, 0))) ⟨below_cells2 hsB _ _ _ hb04, (cells_other hne _ _ _).trans q4, setCells_heap _ 6 _ _ r4 (Nat.le_of_ble_eq_true rfl)⟩ ?_
 rintro wE ⟨hbE, qE, rE⟩
 clear g4 d4 q4 r4
 iterate 1 (refine sp fun q r => ?_; go_simp; refine r _ _ ?_; clear r q)
 refine wpList_nil ?_
 go_upto_region 47 with (fail)
 cases OKV
 ·
  go_wp2
  go_ret; exact Ret.mk' rfl hbE
 ·
  refine wp_region_lit ?_
  iterate 2 (refine sp fun q r => ?_; go_simp; refine r _ _ ?_; clear r q)
  refine wpList_want (by rfl) (fun KK hKK => ?_)
  refine wp_load_row 43 (.tmp 4) rfl w.heap.size rfl 43 (List.toArray (fX (5) x)) (0, 0) _ qE Tryz.underlying43 rfl (by exact cellsIns) ?_
  refine hKK _ _ ?_; clear hKK KK
  refine wpList_want (by rfl) (fun KK hKK => ?_)
  refine wp_load_row 43 (.tmp 10) rfl B rfl 43 (List.toArray (fB5r x)) (0, 0) _ rE Tryz.underlying43 rfl (by exact cellsIns) ?_
  refine hKK _ _ ?_; clear hKK KK
  refine wpList_want (by rfl) (fun KK hKK => ?_)
  refine wp_eql_struct rfl rfl rfl guardIns (hEq _) ?_
  refine hKK _ _ ?_; clear hKK KK
  clear hEq
  cases SM
  all_goals (
   iterate 2 (refine sp fun q r => ?_; go_simp; refine r _ _ ?_; clear r q)
   refine wpList_nil ?_
   go_wp2
   go_ret; exact Ret.mk' rfl hbE)
set_option maxRecDepth 100000 in
set_option maxHeartbeats 8000000 in
theorem fields_6 (x : InsD) (b blocks behind : Int) (h : FOk x b blocks behind) (w : World) (hg : Good w) (hk : x.op = 6) : Calls Tryz.prog 26 #[insV x, .int .i64 b, .int .i64 blocks, .int .i64 behind] w (Ret (.bool (fieldsC x b blocks behind)) w) := by
 have hEq : ∀ W, (Op.equalIn 10000 43 (.agg (List.toArray (fX (6) x))) (.agg (List.toArray (fB6rf x)))).run Tryz.prog W = .ok (sameI x (bareI x)) W := fun W => by
  have := insEq_run 9997 x (bareI x) W
  have e1 : insV x = .agg (List.toArray (fX (6) x)) := by unfold insV fX; rw [hk]
  have e2 : insV (bareI x) = .agg (List.toArray (fB6rf x)) := by unfold bareI; simp only [hk]; rfl
  rw [e1, e2] at this; exact this
 have hV : fieldsC x b blocks behind = ((x.ref.right && x.far.right) && sameI x (bareI x)) := by unfold fieldsC okI; simp only [hk]; rfl
 rw [hV]
 obtain ⟨h1, h2, h3, h4, h5⟩ := h
 generalize sameI x (bareI x) = SM at *
 unfold insV
 rw [hk]
 clear hV hk
 change Calls _ _ _ _ (Ret (.bool ((rightB x.ref.s.data.toList x.ref.row x.ref.col x.ref.fr x.ref.fc x.ref.bad && rightB x.far.s.data.toList x.far.row x.far.col x.far.fr x.far.fc x.far.bad) && SM)) w)
 have c1 := fun W (hW : Below w.heap.size w W) => Right_any x.ref.s x.ref.row x.ref.col x.ref.fr x.ref.fc x.ref.bad W (hg.below hW) h5.1
 have c2 := fun W (hW : Below w.heap.size w W) => Right_any x.far.s x.far.row x.far.col x.far.fr x.far.fc x.far.bad W (hg.below hW) h5.2
 generalize rightB x.ref.s.data.toList x.ref.row x.ref.col x.ref.fr x.ref.fc x.ref.bad = A1 at c1 ⊢
 generalize rightB x.far.s.data.toList x.far.row x.far.col x.far.fr x.far.fc x.far.bad = A2 at c2 ⊢
 go_enter Tryz.func26, Tryz.ntmps26
 go_upto_region 1 with (fail)
 refine wp_abs2 (fun W => Below w.heap.size w W ∧ W.heap[w.heap.size]? = some (.cells (List.toArray (fX (6) x)) 43 (0, 0))) ⟨belx, heap_alloc_new _ _⟩ ?_
 rintro w1 ⟨hb1, q1⟩
 obtain ⟨f1, -, z1⟩ := lie_cell q1
 go_upto_region 2 with (fail)
 refine wp_region_lit ?_
 iterate 4 (refine sp fun q r => ?_; go_simp; refine r _ _ ?_; clear r q)
 refine wpList_store_mid rfl 43 (.tmp 10) (.tmp 18) rfl w1.heap.size 0 _ rfl rfl (whole_there (heap_alloc_new _ _) rfl) cellsIns (all_oneCell_toArray (cs := insC { op := 6 }) (insC_one _)) ?_
 refine wpList_abs (fun W => Below w1.heap.size w1 W ∧ W.heap[w1.heap.size]? = some (.cells (List.toArray (fZ (6))) 43 (0, 0))) ⟨below_cells _ _ _ _ _ ((Below.refl _ _).alloc (Nat.le_refl _) _), box_whole (heap_alloc_new _ _) rfl⟩ ?_
 rintro w2 ⟨hb12, r2⟩
 have q2 := (hb12.block _ z1).trans q1
 have hb2 := after hb1 hb12
 obtain ⟨B, hB⟩ : ∃ B, w1.heap.size = B := ⟨_, rfl⟩
 rw [hB] at r2 z1
 have hsB : w.heap.size ≤ B := Nat.le_of_lt z1
 have hne : ¬ w.heap.size = B := by omega
 have hne2 : ¬ B = w.heap.size := by omega
 clear f1 hb12 hb1 q1
 iterate 1 (refine sp fun q r => ?_; go_simp; refine r _ _ ?_; clear r q)
 refine wpList_nil ?_
 obtain ⟨f2, -, z2⟩ := lie_cell q2
 obtain ⟨g2, d2, y2⟩ := lie_cell r2
 go_upto_region 16 with (fail)
 refine wp_region_held_drew (S := fun w' => ∀ i, w'.cell? ⟨w.heap.size, i, none⟩ = (List.toArray (fX (6) x))[i]?) (by kernel_rfl) f2 (fun hHeld => ?_)
 have q3 : w2.drew.heap[w.heap.size]? = some (.cells (List.toArray (fX (6) x)) 43 (0, 0)) := q2
 have r3 : w2.drew.heap[B]? = some (.cells (List.toArray (fZ (6))) 43 (0, 0)) := r2
 have hb03 : Below w.heap.size w w2.drew := drewB hb2
 clear f2 g2 d2
 obtain ⟨g3, d3, y3⟩ := lie_cell r3
 refine tk 0 hHeld ?_
 refine wpAnyH_take (i := 1) (oi := _) (v := .agg (List.toArray [.string x.ref.s, .int .i64 x.ref.row, .int .i64 x.ref.col, .bool x.ref.fr, .bool x.ref.fc, .bool x.ref.bad])) rfl (by kernel_rfl) (by kernel_rfl) (by kernel_rfl) (fun _ _ _ h => h) ?_ hHeld ?_
 ·exact yieldsIf_load_mid (by rfl) 27 (.tmp 78) rfl w.heap.size 6 rfl [.string x.ref.s, .int .i64 x.ref.row, .int .i64 x.ref.col, .bool x.ref.fr, .bool x.ref.fc, .bool x.ref.bad] _ (fun w' hSw => range_of hSw rfl) Tryz.underlying27 rfl cellsRef
 simp only [List.getElem_toArray, List.getElem_cons_succ, List.getElem_cons_zero, Act.put, List.setIfInBounds_toArray, List.set_cons_zero, List.set_cons_succ]
 refine tk 2 hHeld ?_
 refine wpAnyH_take (i := 3) (oi := _) (v := .agg (List.toArray [.string x.far.s, .int .i64 x.far.row, .int .i64 x.far.col, .bool x.far.fr, .bool x.far.fc, .bool x.far.bad])) rfl (by kernel_rfl) (by kernel_rfl) (by kernel_rfl) (fun _ _ _ h => h) ?_ hHeld ?_
 ·exact yieldsIf_load_mid (by rfl) 27 (.tmp 80) rfl w.heap.size 12 rfl [.string x.far.s, .int .i64 x.far.row, .int .i64 x.far.col, .bool x.far.fr, .bool x.far.fc, .bool x.far.bad] _ (fun w' hSw => range_of hSw rfl) Tryz.underlying27 rfl cellsRef
 simp only [List.getElem_toArray, List.getElem_cons_succ, List.getElem_cons_zero, Act.put, List.setIfInBounds_toArray, List.set_cons_zero, List.set_cons_succ]
 refine tk 4 hHeld ?_
 refine wpAnyH_ready (rs := [5]) (by kernel_rfl) (by simp) ?_
 refine AllReadyH.cons rfl (fun K1 hK1 => ?_) AllReadyH.nil
 rw [if_pos (by rfl)]
 refine wp_store_mid 27 (.tmp 82) (.tmp 79) rfl B 6 (List.toArray [.string x.ref.s, .int .i64 x.ref.row, .int .i64 x.ref.col, .bool x.ref.fr, .bool x.ref.fc, .bool x.ref.bad]) rfl rfl (part_there r3 (Nat.le_of_ble_eq_true rfl)) cellsRef (oneRef _) ?_
 simp only [Act.put, List.setIfInBounds_toArray]
 refine hK1.out _ _ (lie_cell ((cells_other hne _ _ _).trans q3)).1 (fun hHeld => ?_)
 refine anyH_abs (fun W => Below w.heap.size w W ∧ W.heap[w.heap.size]? = some (.cells (List.toArray (fX (6) x)) 43 (0, 0)) ∧ W.heap[B]? = some (.cells (List.toArray (fB6r x)) 43 (0, 0))) hHeld ⟨below_cells2 hsB _ _ _ hb03, (cells_other hne _ _ _).trans q3, setCells_heap _ 6 _ _ r3 (Nat.le_of_ble_eq_true rfl)⟩ ?_
 clear hHeld hK1 K1
 rintro v5 ⟨hb5, q5, r5⟩ hHeld
 clear g3 d3
 obtain ⟨g5, d5, y5⟩ := lie_cell r5
 refine tk 6 hHeld ?_
 refine wpAnyH_ready (rs := [7]) (by kernel_rfl) (by simp) ?_
 refine AllReadyH.cons rfl (fun K1 hK1 => ?_) AllReadyH.nil
 rw [if_pos (by rfl)]
 refine wp_store_mid 27 (.tmp 83) (.tmp 81) rfl B 12 (List.toArray [.string x.far.s, .int .i64 x.far.row, .int .i64 x.far.col, .bool x.far.fr, .bool x.far.fc, .bool x.far.bad]) rfl rfl (part_there r5 (Nat.le_of_ble_eq_true rfl)) cellsRef (oneRef _) ?_
 simp only [Act.put, List.setIfInBounds_toArray]
 refine hK1.out _ _ (lie_cell ((cells_other hne _ _ _).trans q5)).1 (fun hHeld => ?_)
 refine anyH_abs (fun W => Below w.heap.size w W ∧ W.heap[w.heap.size]? = some (.cells (List.toArray (fX (6) x)) 43 (0, 0)) ∧ W.heap[B]? = some (.cells (List.toArray (fB6rf x)) 43 (0, 0))) hHeld ⟨below_cells2 hsB _ _ _ hb5, (cells_other hne _ _ _).trans q5, setCells_heap _ 12 _ _ r5 (Nat.le_of_ble_eq_true rfl)⟩ ?_
 clear hHeld hK1 K1
 rintro v7 ⟨hb7, q7, r7⟩ hHeld
 clear g5 d5
 refine wpAnyH_done (by kernel_rfl) ?_ _
 clear hHeld q3 r3 hb03 y3 q5 r5 hb5 y5
 obtain ⟨f7, -, z7⟩ := lie_cell q7
 have hbE := hb7
 have qE := q7
 have rE := r7
 clear hb7 q7 r7
 go_upto_region 17 with (fail)
 go_wp2_with fail
 refine (c1 _ hbE).mono ?_; rintro e wc1 ⟨rfl, hbc1⟩
 replace qE := (hbc1.block _ (heap_in qE)).trans qE
 replace rE := (hbc1.block _ (heap_in rE)).trans rE
 replace hbE := after hbE hbc1
 clear f7
 obtain ⟨fc1, -, zc1⟩ := lie_cell qE
 cases A1
 ·go_wp2
  go_ret; exact Ret.mk' rfl hbE
 ·
  go_wp2_with fail
  refine (c2 _ hbE).mono ?_; rintro e wc2 ⟨rfl, hbc2⟩
  replace qE := (hbc2.block _ (heap_in qE)).trans qE
  replace rE := (hbc2.block _ (heap_in rE)).trans rE
  replace hbE := after hbE hbc2
  clear fc1
  obtain ⟨fc2, -, zc2⟩ := lie_cell qE
  clear fc2
  cases A2
  ·
   go_wp2
   go_ret; exact Ret.mk' rfl hbE
  ·
   go_upto_region 47 with (fail)
   refine wp_region_lit ?_
   iterate 2 (refine sp fun q r => ?_; go_simp; refine r _ _ ?_; clear r q)
   refine wpList_want (by rfl) (fun KK hKK => ?_)
   refine wp_load_row 43 (.tmp 4) rfl w.heap.size rfl 43 (List.toArray (fX (6) x)) (0, 0) _ qE Tryz.underlying43 rfl (by exact cellsIns) ?_
   refine hKK _ _ ?_; clear hKK KK
   refine wpList_want (by rfl) (fun KK hKK => ?_)
   refine wp_load_row 43 (.tmp 10) rfl B rfl 43 (List.toArray (fB6rf x)) (0, 0) _ rE Tryz.underlying43 rfl (by exact cellsIns) ?_
   refine hKK _ _ ?_; clear hKK KK
   refine wpList_want (by rfl) (fun KK hKK => ?_)
   refine wp_eql_struct rfl rfl rfl guardIns (hEq _) ?_
   refine hKK _ _ ?_; clear hKK KK
   clear hEq
   cases SM
   all_goals (
    iterate 2 (refine sp fun q r => ?_; go_simp; refine r _ _ ?_; clear r q)
    refine wpList_nil ?_
    go_wp2
    go_ret; exact Ret.mk' rfl hbE)
end Go.Proofs.YtlpgigdegnbkmaaGreatDoor
