import Derived.Test.YtlpgigdegnbkmaaGreatDoorM28
namespace Go.Proofs.YtlpgigdegnbkmaaGreatDoor
open Go.RowKit Tab
set_option maxRecDepth 100000 in
set_option maxHeartbeats 8000000 in
theorem fields_13 (x : InsD) (b blocks behind : Int) (h : FOk x b blocks behind) (w : World) (_hg : Good w) (hk : x.op = 13) : Calls Tryz.prog 26 #[insV x, .int .i64 b, .int .i64 blocks, .int .i64 behind] w (Ret (.bool (fieldsC x b blocks behind)) w) := by
 have hEq : ∀ W, (Op.equalIn 10000 43 (.agg (List.toArray (fX (13) x))) (.agg (List.toArray (fB13ab x)))).run Tryz.prog W = .ok (sameI x (bareI x)) W := fun W => by
  have := insEq_run 9997 x (bareI x) W
  have e1 : insV x = .agg (List.toArray (fX (13) x)) := by unfold insV fX; rw [hk]
  have e2 : insV (bareI x) = .agg (List.toArray (fB13ab x)) := by unfold bareI; simp only [hk]; rfl
  rw [e1, e2] at this; exact this
 have hV : fieldsC x b blocks behind = ((winD x.a 0 behind && winD x.b 0 behind) && sameI x (bareI x)) := by unfold fieldsC okI; simp only [hk]; rfl
 rw [hV]
 obtain ⟨h1, h2, h3, h4, h5⟩ := h
 generalize sameI x (bareI x) = SM at *
 unfold insV
 rw [hk]
 clear hV hk
 have c1 := fun W (hW : Below w.heap.size w W) => (win_any x.a 0 behind W).mono fun _ _ h => h.ret
 have c2 := fun W (hW : Below w.heap.size w W) => (win_any x.b 0 behind W).mono fun _ _ h => h.ret
 generalize winD x.a 0 behind = A1 at c1 ⊢
 generalize winD x.b 0 behind = A2 at c2 ⊢
 go_enter Tryz.func26, Tryz.ntmps26
 go_upto_region 1 with (fail)
 refine wp_abs2 (fun W => Below w.heap.size w W ∧ W.heap[w.heap.size]? = some (.cells (List.toArray (fX (13) x)) 43 (0, 0))) ⟨belx, heap_alloc_new _ _⟩ ?_
 rintro w1 ⟨hb1, q1⟩
 obtain ⟨f1, -, z1⟩ := lie_cell q1
 go_upto_region 2 with (fail)
 refine wp_region_lit ?_
 iterate 4 (refine sp fun q r => ?_; go_simp; refine r _ _ ?_; clear r q)
 refine wpList_store_mid rfl 43 (.tmp 10) (.tmp 18) rfl w1.heap.size 0 _ rfl rfl (whole_there (heap_alloc_new _ _) rfl) cellsIns (all_oneCell_toArray (cs := insC { op := 13 }) (insC_one _)) ?_
 refine wpList_abs (fun W => Below w1.heap.size w1 W ∧ W.heap[w1.heap.size]? = some (.cells (List.toArray (fZ (13))) 43 (0, 0))) ⟨below_cells _ _ _ _ _ ((Below.refl _ _).alloc (Nat.le_refl _) _), box_whole (heap_alloc_new _ _) rfl⟩ ?_
 rintro w2 ⟨hb12, r2⟩
 have q2 := (hb12.block _ z1).trans q1
 have hb2 := after hb1 hb12
 obtain ⟨B, hB⟩ : ∃ B, w1.heap.size = B := ⟨_, rfl⟩
 rw [hB] at r2 z1
 have hsB : w.heap.size ≤ B := Nat.le_of_lt z1
 have hne : ¬ w.heap.size = B := by omega
 have hne2 : ¬ B = w.heap.size := by omega
 clear f1 hb12 hb1 q1
 iterate 1 (refine sp fun q r => ?_; go_simp; refine r _ _ ?_; clear r q)
 refine wpList_nil ?_
 obtain ⟨f2, -, z2⟩ := lie_cell q2
 obtain ⟨g2, d2, y2⟩ := lie_cell r2
 go_upto_region 33 with (fail)
 refine wp_region_held_drew (S := fun w' => ∀ i, w'.cell? ⟨w.heap.size, i, none⟩ = (List.toArray (fX (13) x))[i]?) (by kernel_rfl) f2 (fun hHeld => ?_)
 have q3 : w2.drew.heap[w.heap.size]? = some (.cells (List.toArray (fX (13) x)) 43 (0, 0)) := q2
 have r3 : w2.drew.heap[B]? = some (.cells (List.toArray (fZ (13))) 43 (0, 0)) := r2
 have hb03 : Below w.heap.size w w2.drew := drewB hb2
 clear f2 g2 d2
 obtain ⟨g3, d3, y3⟩ := lie_cell r3
 refine tk 0 hHeld ?_
 refine tk 1 hHeld ?_
 refine tk 2 hHeld ?_
 refine tk 3 hHeld ?_
 refine tk 4 hHeld ?_
 refine wpAnyH_ready (rs := [5]) (by kernel_rfl) (by simp) ?_
 refine AllReadyH.cons rfl (fun K1 hK1 => ?_) AllReadyH.nil
 go_simp
 refine hK1.out _ _ (lie_cell ((heap_set_other (i := 1) (v := .int .i64 x.a) hne).trans q3)).1 (fun hHeld => ?_)
 refine anyH_abs (fun W => Below w.heap.size w W ∧ W.heap[w.heap.size]? = some (.cells (List.toArray (fX (13) x)) 43 (0, 0)) ∧ W.heap[B]? = some (.cells (List.toArray (fB13a x)) 43 (0, 0))) hHeld ⟨setB hb03 hsB, (heap_set_other (i := 1) (v := .int .i64 x.a) hne).trans q3, heap_set_same (i := 1) (v := .int .i64 x.a) r3⟩ ?_
 clear hHeld hK1 K1
 rintro v5 ⟨hb5, q5, r5⟩ hHeld
 clear g3 d3
 obtain ⟨g5, d5, y5⟩ := lie_cell r5
 refine tk 6 hHeld ?_
 refine wpAnyH_ready (rs := [7]) (by kernel_rfl) (by simp) ?_
 refine AllReadyH.cons rfl (fun K1 hK1 => ?_) AllReadyH.nil
 go_simp
 refine hK1.out _ _ (lie_cell ((heap_set_other (i := 2) (v := .int .i64 x.b) hne).trans q5)).1 (fun hHeld => ?_)
 refine anyH_abs (fun W => Below w.heap.size w W ∧ W.heap[w.heap.size]? = some (.cells (List.toArray (fX (13) x)) 43 (0, 0)) ∧ W.heap[B]? = some (.cells (List.toArray (fB13ab x)) 43 (0, 0))) hHeld ⟨setB hb5 hsB, (heap_set_other (i := 2) (v := .int .i64 x.b) hne).trans q5, heap_set_same (i := 2) (v := .int .i64 x.b) r5⟩ ?_
 clear hHeld hK1 K1
 rintro v7 ⟨hb7, q7, r7⟩ hHeld
 clear g5 d5
 refine wpAnyH_done (by kernel_rfl) ?_ _
 clear hHeld q3 r3 hb03 y3 q5 r5 hb5 y5
 obtain ⟨f7, -, z7⟩ := lie_cell q7
 have hbE := hb7
 have qE := q7
 have rE := r7
 clear hb7 q7 r7
 go_upto_region 34 with (fail)
 go_wp2_with fail
 refine (c1 _ hbE).mono ?_; rintro e wc1 ⟨rfl, hbc1⟩
 replace qE := (hbc1.block _ (heap_in qE)).trans qE
 replace rE := (hbc1.block _ (heap_in rE)).trans rE
 replace hbE := after hbE hbc1
 clear f7
 obtain ⟨fc1, -, zc1⟩ := lie_cell qE
 cases A1
 ·go_wp2
  go_ret; exact Ret.mk' rfl hbE
 ·
  go_wp2_with fail
  refine (c2 _ hbE).mono ?_; rintro e wc2 ⟨rfl, hbc2⟩
  replace qE := (hbc2.block _ (heap_in qE)).trans qE
  replace rE := (hbc2.block _ (heap_in rE)).trans rE
  replace hbE := after hbE hbc2
  clear fc1
  obtain ⟨fc2, -, zc2⟩ := lie_cell qE
  clear fc2
  cases A2
  ·
   go_wp2
   go_ret; exact Ret.mk' rfl hbE
  ·
   go_upto_region 47 with (fail)
   refine wp_region_lit ?_
   iterate 2 (refine sp fun q r => ?_; go_simp; refine r _ _ ?_; clear r q)
   refine wpList_want (by rfl) (fun KK hKK => ?_)
   refine wp_load_row 43 (.tmp 4) rfl w.heap.size rfl 43 (List.toArray (fX (13) x)) (0, 0) _ qE Tryz.underlying43 rfl (by exact cellsIns) ?_
   refine hKK _ _ ?_; clear hKK KK
   refine wpList_want (by rfl) (fun KK hKK => ?_)
   refine wp_load_row 43 (.tmp 10) rfl B rfl 43 (List.toArray (fB13ab x)) (0, 0) _ rE Tryz.underlying43 rfl (by exact cellsIns) ?_
   refine hKK _ _ ?_; clear hKK KK
   refine wpList_want (by rfl) (fun KK hKK => ?_)
   refine wp_eql_struct rfl rfl rfl guardIns (hEq _) ?_
   refine hKK _ _ ?_; clear hKK KK
   clear hEq
   cases SM
   all_goals (
    iterate 2 (refine sp fun q r => ?_; go_simp; refine r _ _ ?_; clear r q)
    refine wpList_nil ?_
    go_wp2
    go_ret; exact Ret.mk' rfl hbE)
set_option maxRecDepth 100000 in
set_option maxHeartbeats 8000000 in
theorem fields_14 (x : InsD) (b blocks behind : Int) (h : FOk x b blocks behind) (w : World) (_hg : Good w) (hk : x.op = 14) : Calls Tryz.prog 26 #[insV x, .int .i64 b, .int .i64 blocks, .int .i64 behind] w (Ret (.bool (fieldsC x b blocks behind)) w) := by
 have hEq : ∀ W, (Op.equalIn 10000 43 (.agg (List.toArray (fX (14) x))) (.agg (List.toArray (fB14a x)))).run Tryz.prog W = .ok (sameI x (bareI x)) W := fun W => by
  have := insEq_run 9997 x (bareI x) W
  have e1 : insV x = .agg (List.toArray (fX (14) x)) := by unfold insV fX; rw [hk]
  have e2 : insV (bareI x) = .agg (List.toArray (fB14a x)) := by unfold bareI; simp only [hk]; rfl
  rw [e1, e2] at this; exact this
 have hV : fieldsC x b blocks behind = ((winD x.a 0 behind) && sameI x (bareI x)) := by unfold fieldsC okI; simp only [hk]; rfl
 rw [hV]
 obtain ⟨h1, h2, h3, h4, h5⟩ := h
 generalize sameI x (bareI x) = SM at *
 unfold insV
 rw [hk]
 clear hV hk
 obtain ⟨OKV, hOKV⟩ : ∃ OKV, (winD x.a 0 behind) = OKV := ⟨_, rfl⟩
 
 rw [hOKV]
 go_enter Tryz.func26, Tryz.ntmps26
 go_upto_region 1 with (fail)
 refine wp_abs2 (fun W => Below w.heap.size w W ∧ W.heap[w.heap.size]? = some (.cells (List.toArray (fX (14) x)) 43 (0, 0))) ⟨belx, heap_alloc_new _ _⟩ ?_
 rintro w1 ⟨hb1, q1⟩
 obtain ⟨f1, -, z1⟩ := lie_cell q1
 go_upto_region 2 with (fail)
 refine wp_region_lit ?_
 iterate 4 (refine sp fun q r => ?_; go_simp; refine r _ _ ?_; clear r q)
 refine wpList_store_mid rfl 43 (.tmp 10) (.tmp 18) rfl w1.heap.size 0 _ rfl rfl (whole_there (heap_alloc_new _ _) rfl) cellsIns (all_oneCell_toArray (cs := insC { op := 14 }) (insC_one _)) ?_
 refine wpList_abs (fun W => Below w1.heap.size w1 W ∧ W.heap[w1.heap.size]? = some (.cells (List.toArray (fZ (14))) 43 (0, 0))) ⟨below_cells _ _ _ _ _ ((Below.refl _ _).alloc (Nat.le_refl _) _), box_whole (heap_alloc_new _ _) rfl⟩ ?_
 rintro w2 ⟨hb12, r2⟩
 have q2 := (hb12.block _ z1).trans q1
 have hb2 := after hb1 hb12
 obtain ⟨B, hB⟩ : ∃ B, w1.heap.size = B := ⟨_, rfl⟩
 rw [hB] at r2 z1
 have hsB : w.heap.size ≤ B := Nat.le_of_lt z1
 have hne : ¬ w.heap.size = B := by omega
 have hne2 : ¬ B = w.heap.size := by omega
 clear f1 hb12 hb1 q1
 iterate 1 (refine sp fun q r => ?_; go_simp; refine r _ _ ?_; clear r q)
 refine wpList_nil ?_
 obtain ⟨f2, -, z2⟩ := lie_cell q2
 obtain ⟨g2, d2, y2⟩ := lie_cell r2
 have cC := (fun W (hW : Below w2.heap.size w2 W) => (win_any x.a 0 behind W).mono fun _ _ h => h.ret)
 rw [hOKV] at cC
 clear hOKV
 go_upto_region 36 with (fail)
 have kcc := gcell w2
 refine region_below_tail 8 (by kernel_rfl) (by kernel_rfl) ?_
 simp only [List.take_succ_cons, List.take_zero, List.drop_succ_cons, List.drop_zero]
 iterate 8 (quiet_step (exact Ret.grown cC))
 refine wpQuiet_nil ?_
 intro w4 hb4
 have q4 := (hb4.block _ z2).trans q2
 have r4 := (hb4.block _ y2).trans r2
 have hb04 := after hb2 hb4
 clear f2 g2 d2 kcc
 obtain ⟨g4, d4, y4⟩ := lie_cell r4
 (refine sp fun q r => ?_; go_simp; refine r _ _ ?_; clear r q)
 refine wpList_abs (fun W => Below w.heap.size w W ∧ W.heap[w.heap.size]? = some (.cells (List.toArray (fX (14) x)) 43 (0, 0)) ∧ W.heap[B]? = some (.cells (List.toArray (fB14a x)) 43 (0, 0))) ⟨setB hb04 hsB, (heap_set_other hne).trans q4, heap_set_same r4⟩ ?_
 rintro wE ⟨hbE, qE, rE⟩
 clear g4 d4 q4 r4
 iterate 1 (refine sp fun q r => ?_; go_simp; refine r _ _ ?_; clear r q)
 refine wpList_nil ?_
 go_upto_region 47 with (fail)
 cases OKV
 ·
  go_wp2
  go_ret; exact Ret.mk' rfl hbE
 ·
  refine wp_region_lit ?_
  iterate 2 (refine sp fun q r => ?_; go_simp; refine r _ _ ?_; clear r q)
  refine wpList_want (by rfl) (fun KK hKK => ?_)
  refine wp_load_row 43 (.tmp 4) rfl w.heap.size rfl 43 (List.toArray (fX (14) x)) (0, 0) _ qE Tryz.underlying43 rfl (by exact cellsIns) ?_
  refine hKK _ _ ?_; clear hKK KK
  refine wpList_want (by rfl) (fun KK hKK => ?_)
  refine wp_load_row 43 (.tmp 10) rfl B rfl 43 (List.toArray (fB14a x)) (0, 0) _ rE Tryz.underlying43 rfl (by exact cellsIns) ?_
  refine hKK _ _ ?_; clear hKK KK
  refine wpList_want (by rfl) (fun KK hKK => ?_)
  refine wp_eql_struct rfl rfl rfl guardIns (hEq _) ?_
  refine hKK _ _ ?_; clear hKK KK
  clear hEq
  cases SM
  all_goals (
   iterate 2 (refine sp fun q r => ?_; go_simp; refine r _ _ ?_; clear r q)
   refine wpList_nil ?_
   go_wp2
   go_ret; exact Ret.mk' rfl hbE)
set_option maxRecDepth 100000 in
set_option maxHeartbeats 8000000 in
theorem fields_15 (x : InsD) (b blocks behind : Int) (h : FOk x b blocks behind) (w : World) (hg : Good w) (hk : x.op = 15) : Calls Tryz.prog 26 #[insV x, .int .i64 b, .int .i64 blocks, .int .i64 behind] w (Ret (.bool (fieldsC x b blocks behind)) w) := by
 have hEq : ∀ W, (Op.equalIn 10000 43 (.agg (List.toArray (fX (15) x))) (.agg (List.toArray (fB15as x)))).run Tryz.prog W = .ok (sameI x (bareI x)) W := fun W => by
  have := insEq_run 9997 x (bareI x) W
  have e1 : insV x = .agg (List.toArray (fX (15) x)) := by unfold insV fX; rw [hk]
  have e2 : insV (bareI x) = .agg (List.toArray (fB15as x)) := by unfold bareI; simp only [hk]; rfl
  rw [e1, e2] at this; exact this
 have hV : fieldsC x b blocks behind = ((funcB x.s && winD x.a (b + 1) (blocks - 1)) && sameI x (bareI x)) := by unfold fieldsC okI; simp only [hk]; rfl
 rw [hV]
 obtain ⟨h1, h2, h3, h4, h5⟩ := h
 generalize sameI x (bareI x) = SM at *
 unfold insV
 rw [hk]
 clear hV hk
 have cC := fun W (hW : Below w.heap.size w W) => cut_any x.s 59 W (hg.below hW) (by omega)
 have hcl := cut_lens x.s [59]
 unfold funcB
 obtain ⟨H, N, has, hcut⟩ : ∃ H N has, Lib.cut x.s [59] = (H, N, has) := ⟨_, _, _, rfl⟩
 rw [hcut] at cC hcl ⊢
 dsimp only at cC hcl ⊢
 have cL := fun W (hW : Below w.heap.size w W) => listed_any H 40 W (hg.below hW) (by omega)
 have cN := fun W (hW : Below w.heap.size w W) => namedS N W (by omega)
 have cW := fun W (hW : Below w.heap.size w W) => (win_any x.a (b + 1) (blocks - 1) W).mono fun _ _ h => h.ret
 have ew1 : IntKind.i64.wrap (b + 1) = b + 1 := by rw [IntWalk.i64_in _ (by omega)]
 have ew2 : IntKind.i64.wrap (blocks - 1) = blocks - 1 := by rw [IntWalk.i64_in _ (by omega)]
 generalize listedB H 40 = A1 at cL ⊢
 generalize namedB N = A2 at cN ⊢
 generalize winD x.a (b + 1) (blocks - 1) = A3 at cW ⊢
 clear hcut hcl h3 h4
 go_enter Tryz.func26, Tryz.ntmps26
 go_upto_region 1 with (fail)
 refine wp_abs2 (fun W => Below w.heap.size w W ∧ W.heap[w.heap.size]? = some (.cells (List.toArray (fX (15) x)) 43 (0, 0))) ⟨belx, heap_alloc_new _ _⟩ ?_
 rintro w1 ⟨hb1, q1⟩
 obtain ⟨f1, -, z1⟩ := lie_cell q1
 go_upto_region 2 with (fail)
 refine wp_region_lit ?_
 iterate 4 (refine sp fun q r => ?_; go_simp; refine r _ _ ?_; clear r q)
 refine wpList_store_mid rfl 43 (.tmp 10) (.tmp 18) rfl w1.heap.size 0 _ rfl rfl (whole_there (heap_alloc_new _ _) rfl) cellsIns (all_oneCell_toArray (cs := insC { op := 15 }) (insC_one _)) ?_
 refine wpList_abs (fun W => Below w1.heap.size w1 W ∧ W.heap[w1.heap.size]? = some (.cells (List.toArray (fZ (15))) 43 (0, 0))) ⟨below_cells _ _ _ _ _ ((Below.refl _ _).alloc (Nat.le_refl _) _), box_whole (heap_alloc_new _ _) rfl⟩ ?_
 rintro w2 ⟨hb12, r2⟩
 have q2 := (hb12.block _ z1).trans q1
 have hb2 := after hb1 hb12
 obtain ⟨B, hB⟩ : ∃ B, w1.heap.size = B := ⟨_, rfl⟩
 rw [hB] at r2 z1
 have hsB : w.heap.size ≤ B := Nat.le_of_lt z1
 have hne : ¬ w.heap.size = B := by omega
 have hne2 : ¬ B = w.heap.size := by omega
 clear f1 hb12 hb1 q1
 iterate 1 (refine sp fun q r => ?_; go_simp; refine r _ _ ?_; clear r q)
 refine wpList_nil ?_
 obtain ⟨f2, -, z2⟩ := lie_cell q2
 obtain ⟨g2, d2, y2⟩ := lie_cell r2
 go_wp2_with fail
 refine (cC _ hb2).mono ?_; rintro e w2b ⟨rfl, hbx⟩
 replace q2 := (hbx.block _ (heap_in q2)).trans q2
 replace r2 := (hbx.block _ (heap_in r2)).trans r2
 replace hb2 := after hb2 hbx
 clear f2 g2 d2 hbx z2 y2
 obtain ⟨f2, -, z2⟩ := lie_cell q2
 obtain ⟨g2, d2, y2⟩ := lie_cell r2
 go_upto_region 39 with (fail)
 refine wp_region_held_drew (S := fun w' => ∀ i, w'.cell? ⟨w.heap.size, i, none⟩ = (List.toArray (fX (15) x))[i]?) (by kernel_rfl) f2 (fun hHeld => ?_)
 have q3 : w2b.drew.heap[w.heap.size]? = some (.cells (List.toArray (fX (15) x)) 43 (0, 0)) := q2
 have r3 : w2b.drew.heap[B]? = some (.cells (List.toArray (fZ (15))) 43 (0, 0)) := r2
 have hb03 : Below w.heap.size w w2b.drew := drewB hb2
 clear f2 g2 d2
 obtain ⟨g3, d3, y3⟩ := lie_cell r3
 refine tk 0 hHeld ?_
 refine tk 1 hHeld ?_
 refine tk 2 hHeld ?_
 refine tk 3 hHeld ?_
 refine tk 4 hHeld ?_
 refine wpAnyH_ready (rs := [5]) (by kernel_rfl) (by simp) ?_
 refine AllReadyH.cons rfl (fun K1 hK1 => ?_) AllReadyH.nil
 go_simp
 refine hK1.out _ _ (lie_cell ((heap_set_other (i := 3) (v := .string ⟨x.s.toArray⟩) hne).trans q3)).1 (fun hHeld => ?_)
 refine anyH_abs (fun W => Below w.heap.size w W ∧ W.heap[w.heap.size]? = some (.cells (List.toArray (fX (15) x)) 43 (0, 0)) ∧ W.heap[B]? = some (.cells (List.toArray (fB15s x)) 43 (0, 0))) hHeld ⟨setB hb03 hsB, (heap_set_other (i := 3) (v := .string ⟨x.s.toArray⟩) hne).trans q3, heap_set_same (i := 3) (v := .string ⟨x.s.toArray⟩) r3⟩ ?_
 clear hHeld hK1 K1
 rintro v5 ⟨hb5, q5, r5⟩ hHeld
 clear g3 d3
 obtain ⟨g5, d5, y5⟩ := lie_cell r5
 refine tk 6 hHeld ?_
 refine wpAnyH_ready (rs := [7]) (by kernel_rfl) (by simp) ?_
 refine AllReadyH.cons rfl (fun K1 hK1 => ?_) AllReadyH.nil
 go_simp
 refine hK1.out _ _ (lie_cell ((heap_set_other (i := 1) (v := .int .i64 x.a) hne).trans q5)).1 (fun hHeld => ?_)
 refine anyH_abs (fun W => Below w.heap.size w W ∧ W.heap[w.heap.size]? = some (.cells (List.toArray (fX (15) x)) 43 (0, 0)) ∧ W.heap[B]? = some (.cells (List.toArray (fB15as x)) 43 (0, 0))) hHeld ⟨setB hb5 hsB, (heap_set_other (i := 1) (v := .int .i64 x.a) hne).trans q5, heap_set_same (i := 1) (v := .int .i64 x.a) r5⟩ ?_
 clear hHeld hK1 K1
 rintro v7 ⟨hb7, q7, r7⟩ hHeld
 clear g5 d5
 refine wpAnyH_done (by kernel_rfl) ?_ _
 clear hHeld q3 r3 hb03 y3 q5 r5 hb5 y5
 obtain ⟨f7, -, z7⟩ := lie_cell q7
 have hbE := hb7
 have qE := q7
 have rE := r7
 clear hb7 q7 r7
 go_upto_region 40 with (fail)
 go_wp2_with fail
 refine (cL _ hbE).mono ?_; rintro e wc1 ⟨rfl, hbc1⟩
 replace qE := (hbc1.block _ (heap_in qE)).trans qE
 replace rE := (hbc1.block _ (heap_in rE)).trans rE
 replace hbE := after hbE hbc1
 clear f7
 obtain ⟨fc1, -, zc1⟩ := lie_cell qE
 cases A1
 ·go_wp2
  go_ret; exact Ret.mk' rfl hbE
 ·cases has
  ·
   go_wp2_with fail
   refine (cW _ hbE).mono ?_; rintro e wc3 ⟨rfl, hbc3⟩
   replace qE := (hbc3.block _ (heap_in qE)).trans qE
   replace rE := (hbc3.block _ (heap_in rE)).trans rE
   replace hbE := after hbE hbc3
   clear fc1
   obtain ⟨fc3, -, zc3⟩ := lie_cell qE
   clear fc3
   cases A3
   ·
    go_wp2
    go_ret; exact Ret.mk' rfl hbE
   ·
    go_upto_region 47 with (fail)
    refine wp_region_lit ?_
    iterate 2 (refine sp fun q r => ?_; go_simp; refine r _ _ ?_; clear r q)
    refine wpList_want (by rfl) (fun KK hKK => ?_)
    refine wp_load_row 43 (.tmp 4) rfl w.heap.size rfl 43 (List.toArray (fX (15) x)) (0, 0) _ qE Tryz.underlying43 rfl (by exact cellsIns) ?_
    refine hKK _ _ ?_; clear hKK KK
    refine wpList_want (by rfl) (fun KK hKK => ?_)
    refine wp_load_row 43 (.tmp 10) rfl B rfl 43 (List.toArray (fB15as x)) (0, 0) _ rE Tryz.underlying43 rfl (by exact cellsIns) ?_
    refine hKK _ _ ?_; clear hKK KK
    refine wpList_want (by rfl) (fun KK hKK => ?_)
    refine wp_eql_struct rfl rfl rfl guardIns (hEq _) ?_
    refine hKK _ _ ?_; clear hKK KK
    clear hEq
    cases SM
    all_goals (
     iterate 2 (refine sp fun q r => ?_; go_simp; refine r _ _ ?_; clear r q)
     refine wpList_nil ?_
     go_wp2
     go_ret; exact Ret.mk' rfl hbE)
  ·
   go_wp2_with fail
   refine (cN _ hbE).mono ?_; rintro e wc2 ⟨rfl, hbc2⟩
   replace qE := (hbc2.block _ (heap_in qE)).trans qE
   replace rE := (hbc2.block _ (heap_in rE)).trans rE
   replace hbE := after hbE hbc2
   clear fc1
   obtain ⟨fc2, -, zc2⟩ := lie_cell qE
   cases A2
   ·go_wp2
    go_ret; exact Ret.mk' rfl hbE
   ·
    go_wp2_with fail
    refine (cW _ hbE).mono ?_; rintro e wc3 ⟨rfl, hbc3⟩
    replace qE := (hbc3.block _ (heap_in qE)).trans qE
    replace rE := (hbc3.block _ (heap_in rE)).trans rE
    replace hbE := after hbE hbc3
    clear fc2
    obtain ⟨fc3, -, zc3⟩ := lie_cell qE
    clear fc3
    cases A3
    ·
     go_wp2
     go_ret; exact Ret.mk' rfl hbE
    ·
     go_upto_region 47 with (fail)
     refine wp_region_lit ?_
     iterate 2 (refine sp fun q r => ?_; go_simp; refine r _ _ ?_; clear r q)
     refine wpList_want (by rfl) (fun KK hKK => ?_)
     refine wp_load_row 43 (.tmp 4) rfl w.heap.size rfl 43 (List.toArray (fX (15) x)) (0, 0) _ qE Tryz.underlying43 rfl (by exact cellsIns) ?_
     refine hKK _ _ ?_; clear hKK KK
     refine wpList_want (by rfl) (fun KK hKK => ?_)
     refine wp_load_row 43 (.tmp 10) rfl B rfl 43 (List.toArray (fB15as x)) (0, 0) _ rE Tryz.underlying43 rfl (by exact cellsIns) ?_
     refine hKK _ _ ?_; clear hKK KK
     refine wpList_want (by rfl) (fun KK hKK => ?_)
     refine wp_eql_struct rfl rfl rfl guardIns (hEq _) ?_
     refine hKK _ _ ?_; clear hKK KK
     clear hEq
     cases SM
     all_goals (
      iterate 2 (refine sp fun q r => ?_; go_simp; refine r _ _ ?_; clear r q)
      refine wpList_nil ?_
      go_wp2
      go_ret; exact Ret.mk' rfl hbE)
set_option maxRecDepth 100000 in
set_option maxHeartbeats 8000000 in
theorem fields_16 (x : InsD) (b blocks behind : Int) (h : FOk x b blocks behind) (w : World) (_hg : Good w) (hk : x.op = 16) : Calls Tryz.prog 26 #[insV x, .int .i64 b, .int .i64 blocks, .int .i64 behind] w (Ret (.bool (fieldsC x b blocks behind)) w) := by
 have hEq : ∀ W, (Op.equalIn 10000 43 (.agg (List.toArray (fX (16) x))) (.agg (List.toArray (fB16a x)))).run Tryz.prog W = .ok (sameI x (bareI x)) W := fun W => by
  have := insEq_run 9997 x (bareI x) W
  have e1 : insV x = .agg (List.toArray (fX (16) x)) := by unfold insV fX; rw [hk]
  have e2 : insV (bareI x) = .agg (List.toArray (fB16a x)) := by unfold bareI; simp only [hk]; rfl
  rw [e1, e2] at this; exact this
 have hV : fieldsC x b blocks behind = ((winD x.a 0 400) && sameI x (bareI x)) := by unfold fieldsC okI; simp only [hk]; rfl
 rw [hV]
 obtain ⟨h1, h2, h3, h4, h5⟩ := h
 generalize sameI x (bareI x) = SM at *
 unfold insV
 rw [hk]
 clear hV hk
 obtain ⟨OKV, hOKV⟩ : ∃ OKV, (winD x.a 0 400) = OKV := ⟨_, rfl⟩
 
 rw [hOKV]
 go_enter Tryz.func26, Tryz.ntmps26
 go_upto_region 1 with (fail)
 refine wp_abs2 (fun W => Below w.heap.size w W ∧ W.heap[w.heap.size]? = some (.cells (List.toArray (fX (16) x)) 43 (0, 0))) ⟨belx, heap_alloc_new _ _⟩ ?_
 rintro w1 ⟨hb1, q1⟩
 obtain ⟨f1, -, z1⟩ := lie_cell q1
 go_upto_region 2 with (fail)
 refine wp_region_lit ?_
 iterate 4 (refine sp fun q r => ?_; go_simp; refine r _ _ ?_; clear r q)
 refine wpList_store_mid rfl 43 (.tmp 10) (.tmp 18) rfl w1.heap.size 0 _ rfl rfl (whole_there (heap_alloc_new _ _) rfl) cellsIns (all_oneCell_toArray (cs := insC { op := 16 }) (insC_one _)) ?_
 refine wpList_abs (fun W => Below w1.heap.size w1 W ∧ W.heap[w1.heap.size]? = some (.cells (List.toArray (fZ (16))) 43 (0, 0))) ⟨below_cells _ _ _ _ _ ((Below.refl _ _).alloc (Nat.le_refl _) _), box_whole (heap_alloc_new _ _) rfl⟩ ?_
 rintro w2 ⟨hb12, r2⟩
 have q2 := (hb12.block _ z1).trans q1
 have hb2 := after hb1 hb12
 obtain ⟨B, hB⟩ : ∃ B, w1.heap.size = B := ⟨_, rfl⟩
 rw [hB] at r2 z1
 have hsB : w.heap.size ≤ B := Nat.le_of_lt z1
 have hne : ¬ w.heap.size = B := by omega
 have hne2 : ¬ B = w.heap.size := by omega
 clear f1 hb12 hb1 q1
 iterate 1 (refine sp fun q r => ?_; go_simp; refine r _ _ ?_; clear r q)
 refine wpList_nil ?_
 obtain ⟨f2, -, z2⟩ := lie_cell q2
 obtain ⟨g2, d2, y2⟩ := lie_cell r2
 have cC := (fun W (hW : Below w2.heap.size w2 W) => (win_any x.a 0 400 W).mono fun _ _ h => h.ret)
 rw [hOKV] at cC
 clear hOKV
 go_upto_region 43 with (fail)
 have kcc := gcell w2
 refine region_below_tail 7 (by kernel_rfl) (by kernel_rfl) ?_
 simp only [List.take_succ_cons, List.take_zero, List.drop_succ_cons, List.drop_zero]
 iterate 7 (quiet_step (exact Ret.grown cC))
 refine wpQuiet_nil ?_
 intro w4 hb4
 have q4 := (hb4.block _ z2).trans q2
 have r4 := (hb4.block _ y2).trans r2
 have hb04 := after hb2 hb4
 clear f2 g2 d2 kcc
 obtain ⟨g4, d4, y4⟩ := lie_cell r4
 (refine sp fun q r => ?_; go_simp; refine r _ _ ?_; clear r q)
 refine wpList_abs (fun W => Below w.heap.size w W ∧ W.heap[w.heap.size]? = some (.cells (List.toArray (fX (16) x)) 43 (0, 0)) ∧ W.heap[B]? = some (.cells (List.toArray (fB16a x)) 43 (0, 0))) ⟨setB hb04 hsB, (heap_set_other hne).trans q4, heap_set_same r4⟩ ?_
 rintro wE ⟨hbE, qE, rE⟩
 clear g4 d4 q4 r4
 iterate 1 (refine sp fun q r => ?_; go_simp; refine r _ _ ?_; clear r q)
 refine wpList_nil ?_
 go_upto_region 47 with (fail)
 cases OKV
 ·
  go_wp2
  go_ret; exact Ret.mk' rfl hbE
 ·
  refine wp_region_lit ?_
  iterate 2 (refine sp fun q r => ?_; go_simp; refine r _ _ ?_; clear r q)
  refine wpList_want (by rfl) (fun KK hKK => ?_)
  refine wp_load_row 43 (.tmp 4) rfl w.heap.size rfl 43 (List.toArray (fX (16) x)) (0, 0) _ qE Tryz.underlying43 rfl (by exact cellsIns) ?_
  refine hKK _ _ ?_; clear hKK KK
  refine wpList_want (by rfl) (fun KK hKK => ?_)
  refine wp_load_row 43 (.tmp 10) rfl B rfl 43 (List.toArray (fB16a x)) (0, 0) _ rE Tryz.underlying43 rfl (by exact cellsIns) ?_
  refine hKK _ _ ?_; clear hKK KK
  refine wpList_want (by rfl) (fun KK hKK => ?_)
  refine wp_eql_struct rfl rfl rfl guardIns (hEq _) ?_
  refine hKK _ _ ?_; clear hKK KK
  clear hEq
  cases SM
  all_goals (
   iterate 2 (refine sp fun q r => ?_; go_simp; refine r _ _ ?_; clear r q)
   refine wpList_nil ?_
   go_wp2
   go_ret; exact Ret.mk' rfl hbE)
set_option maxRecDepth 100000 in
set_option maxHeartbeats 8000000 in
theorem fields_17 (x : InsD) (b blocks behind : Int) (h : FOk x b blocks behind) (w : World) (_hg : Good w) (hk : x.op = 17) : Calls Tryz.prog 26 #[insV x, .int .i64 b, .int .i64 blocks, .int .i64 behind] w (Ret (.bool (fieldsC x b blocks behind)) w) := by
 have hEq : ∀ W, (Op.equalIn 10000 43 (.agg (List.toArray (fX (17) x))) (.agg (List.toArray (fB17s x)))).run Tryz.prog W = .ok (sameI x (bareI x)) W := fun W => by
  have := insEq_run 9997 x (bareI x) W
  have e1 : insV x = .agg (List.toArray (fX (17) x)) := by unfold insV fX; rw [hk]
  have e2 : insV (bareI x) = .agg (List.toArray (fB17s x)) := by unfold bareI; simp only [hk]; rfl
  rw [e1, e2] at this; exact this
 have hV : fieldsC x b blocks behind = ((namedB x.s) && sameI x (bareI x)) := by unfold fieldsC okI; simp only [hk]; rfl
 rw [hV]
 obtain ⟨h1, h2, h3, h4, h5⟩ := h
 generalize sameI x (bareI x) = SM at *
 unfold insV
 rw [hk]
 clear hV hk
 obtain ⟨OKV, hOKV⟩ : ∃ OKV, (namedB x.s) = OKV := ⟨_, rfl⟩
 
 rw [hOKV]
 go_enter Tryz.func26, Tryz.ntmps26
 go_upto_region 1 with (fail)
 refine wp_abs2 (fun W => Below w.heap.size w W ∧ W.heap[w.heap.size]? = some (.cells (List.toArray (fX (17) x)) 43 (0, 0))) ⟨belx, heap_alloc_new _ _⟩ ?_
 rintro w1 ⟨hb1, q1⟩
 obtain ⟨f1, -, z1⟩ := lie_cell q1
 go_upto_region 2 with (fail)
 refine wp_region_lit ?_
 iterate 4 (refine sp fun q r => ?_; go_simp; refine r _ _ ?_; clear r q)
 refine wpList_store_mid rfl 43 (.tmp 10) (.tmp 18) rfl w1.heap.size 0 _ rfl rfl (whole_there (heap_alloc_new _ _) rfl) cellsIns (all_oneCell_toArray (cs := insC { op := 17 }) (insC_one _)) ?_
 refine wpList_abs (fun W => Below w1.heap.size w1 W ∧ W.heap[w1.heap.size]? = some (.cells (List.toArray (fZ (17))) 43 (0, 0))) ⟨below_cells _ _ _ _ _ ((Below.refl _ _).alloc (Nat.le_refl _) _), box_whole (heap_alloc_new _ _) rfl⟩ ?_
 rintro w2 ⟨hb12, r2⟩
 have q2 := (hb12.block _ z1).trans q1
 have hb2 := after hb1 hb12
 obtain ⟨B, hB⟩ : ∃ B, w1.heap.size = B := ⟨_, rfl⟩
 rw [hB] at r2 z1
 have hsB : w.heap.size ≤ B := Nat.le_of_lt z1
 have hne : ¬ w.heap.size = B := by omega
 have hne2 : ¬ B = w.heap.size := by omega
 clear f1 hb12 hb1 q1
 iterate 1 (refine sp fun q r => ?_; go_simp; refine r _ _ ?_; clear r q)
 refine wpList_nil ?_
 obtain ⟨f2, -, z2⟩ := lie_cell q2
 obtain ⟨g2, d2, y2⟩ := lie_cell r2
 have cC := (fun W (hW : Below w2.heap.size w2 W) => namedS x.s W h2)
 rw [hOKV] at cC
 clear hOKV
 go_upto_region 46 with (fail)
 have kcc := gcell w2
 refine region_below_tail 6 (by kernel_rfl) (by kernel_rfl) ?_
 simp only [List.take_succ_cons, List.take_zero, List.drop_succ_cons, List.drop_zero]
 iterate 6 (quiet_step (exact Ret.grown cC))
 refine wpQuiet_nil ?_
 intro w4 hb4
 have q4 := (hb4.block _ z2).trans q2
 have r4 := (hb4.block _ y2).trans r2
 have hb04 := after hb2 hb4
 clear f2 g2 d2 kcc
 obtain ⟨g4, d4, y4⟩ := lie_cell r4
 (refine sp fun q r => ?_; go_simp; refine r _ _ ?_; clear r q)
 refine wpList_abs (fun W => Below w.heap.size w W ∧ W.heap[w.heap.size]? = some (.cells (List.toArray (fX (17) x)) 43 (0, 0)) ∧ W.heap[B]? = some (.cells (List.toArray (fB17s x)) 43 (0, 0))) ⟨setB hb04 hsB, (heap_set_other hne).trans q4, heap_set_same r4⟩ ?_
 rintro wE ⟨hbE, qE, rE⟩
 clear g4 d4 q4 r4
 iterate 1 (refine sp fun q r => ?_; go_simp; refine r _ _ ?_; clear r q)
 refine wpList_nil ?_
 go_upto_region 47 with (fail)
 cases OKV
 ·
  go_wp2
  go_ret; exact Ret.mk' rfl hbE
 ·
  refine wp_region_lit ?_
  iterate 2 (refine sp fun q r => ?_; go_simp; refine r _ _ ?_; clear r q)
  refine wpList_want (by rfl) (fun KK hKK => ?_)
  refine wp_load_row 43 (.tmp 4) rfl w.heap.size rfl 43 (List.toArray (fX (17) x)) (0, 0) _ qE Tryz.underlying43 rfl (by exact cellsIns) ?_
  refine hKK _ _ ?_; clear hKK KK
  refine wpList_want (by rfl) (fun KK hKK => ?_)
  refine wp_load_row 43 (.tmp 10) rfl B rfl 43 (List.toArray (fB17s x)) (0, 0) _ rE Tryz.underlying43 rfl (by exact cellsIns) ?_
  refine hKK _ _ ?_; clear hKK KK
  refine wpList_want (by rfl) (fun KK hKK => ?_)
  refine wp_eql_struct rfl rfl rfl guardIns (hEq _) ?_
  refine hKK _ _ ?_; clear hKK KK
  clear hEq
  cases SM
  all_goals (
   iterate 2 (refine sp fun q r => ?_; go_simp; refine r _ _ ?_; clear r q)
   refine wpList_nil ?_
   go_wp2
   go_ret; exact Ret.mk' rfl hbE)
set_option maxRecDepth 100000 in
set_option maxHeartbeats 8000000 in
theorem fields_18 (x : InsD) (b blocks behind : Int) (h : FOk x b blocks behind) (w : World) (_hg : Good w) (hk : x.op = 18) : Calls Tryz.prog 26 #[insV x, .int .i64 b, .int .i64 blocks, .int .i64 behind] w (Ret (.bool (fieldsC x b blocks behind)) w) := by
 have hEq : ∀ W, (Op.equalIn 10000 43 (.agg (List.toArray (fX (18) x))) (.agg (List.toArray (fB18s x)))).run Tryz.prog W = .ok (sameI x (bareI x)) W := fun W => by
  have := insEq_run 9997 x (bareI x) W
  have e1 : insV x = .agg (List.toArray (fX (18) x)) := by unfold insV fX; rw [hk]
  have e2 : insV (bareI x) = .agg (List.toArray (fB18s x)) := by unfold bareI; simp only [hk]; rfl
  rw [e1, e2] at this; exact this
 have hV : fieldsC x b blocks behind = ((namedB x.s) && sameI x (bareI x)) := by unfold fieldsC okI; simp only [hk]; rfl
 rw [hV]
 obtain ⟨h1, h2, h3, h4, h5⟩ := h
 generalize sameI x (bareI x) = SM at *
 unfold insV
 rw [hk]
 clear hV hk
 obtain ⟨OKV, hOKV⟩ : ∃ OKV, (namedB x.s) = OKV := ⟨_, rfl⟩
 
 rw [hOKV]
 go_enter Tryz.func26, Tryz.ntmps26
 go_upto_region 1 with (fail)
 refine wp_abs2 (fun W => Below w.heap.size w W ∧ W.heap[w.heap.size]? = some (.cells (List.toArray (fX (18) x)) 43 (0, 0))) ⟨belx, heap_alloc_new _ _⟩ ?_
 rintro w1 ⟨hb1, q1⟩
 obtain ⟨f1, -, z1⟩ := lie_cell q1
 go_upto_region 2 with (fail)
 refine wp_region_lit ?_
 iterate 4 (refine sp fun q r => ?_; go_simp; refine r _ _ ?_; clear r q)
 refine wpList_store_mid rfl 43 (.tmp 10) (.tmp 18) rfl w1.heap.size 0 _ rfl rfl (whole_there (heap_alloc_new _ _) rfl) cellsIns (all_oneCell_toArray (cs := insC { op := 18 }) (insC_one _)) ?_
 refine wpList_abs (fun W => Below w1.heap.size w1 W ∧ W.heap[w1.heap.size]? = some (.cells (List.toArray (fZ (18))) 43 (0, 0))) ⟨below_cells _ _ _ _ _ ((Below.refl _ _).alloc (Nat.le_refl _) _), box_whole (heap_alloc_new _ _) rfl⟩ ?_
 rintro w2 ⟨hb12, r2⟩
 have q2 := (hb12.block _ z1).trans q1
 have hb2 := after hb1 hb12
 obtain ⟨B, hB⟩ : ∃ B, w1.heap.size = B := ⟨_, rfl⟩
 rw [hB] at r2 z1
 have hsB : w.heap.size ≤ B := Nat.le_of_lt z1
 have hne : ¬ w.heap.size = B := by omega
 have hne2 : ¬ B = w.heap.size := by omega
 clear f1 hb12 hb1 q1
 iterate 1 (refine sp fun q r => ?_; go_simp; refine r _ _ ?_; clear r q)
 refine wpList_nil ?_
 obtain ⟨f2, -, z2⟩ := lie_cell q2
 obtain ⟨g2, d2, y2⟩ := lie_cell r2
 have cC := (fun W (hW : Below w2.heap.size w2 W) => namedS x.s W h2)
 rw [hOKV] at cC
 clear hOKV
 go_upto_region 46 with (fail)
 have kcc := gcell w2
 refine region_below_tail 6 (by kernel_rfl) (by kernel_rfl) ?_
 simp only [List.take_succ_cons, List.take_zero, List.drop_succ_cons, List.drop_zero]
 iterate 6 (quiet_step (exact Ret.grown cC))
 refine wpQuiet_nil ?_
 intro w4 hb4
 have q4 := (hb4.block _ z2).trans q2
 have r4 := (hb4.block _ y2).trans r2
 have hb04 := after hb2 hb4
 clear f2 g2 d2 kcc
 obtain ⟨g4, d4, y4⟩ := lie_cell r4
 (refine sp fun q r => ?_; go_simp; refine r _ _ ?_; clear r q)
 refine wpList_abs (fun W => Below w.heap.size w W ∧ W.heap[w.heap.size]? = some (.cells (List.toArray (fX (18) x)) 43 (0, 0)) ∧ W.heap[B]? = some (.cells (List.toArray (fB18s x)) 43 (0, 0))) ⟨setB hb04 hsB, (heap_set_other hne).trans q4, heap_set_same r4⟩ ?_
 rintro wE ⟨hbE, qE, rE⟩
 clear g4 d4 q4 r4
 iterate 1 (refine sp fun q r => ?_; go_simp; refine r _ _ ?_; clear r q)
 refine wpList_nil ?_
 go_upto_region 47 with (fail)
 cases OKV
 ·
  go_wp2
  go_ret; exact Ret.mk' rfl hbE
 ·
  refine wp_region_lit ?_
  iterate 2 (refine sp fun q r => ?_; go_simp; refine r _ _ ?_; clear r q)
  refine wpList_want (by rfl) (fun KK hKK => ?_)
  refine wp_load_row 43 (.tmp 4) rfl w.heap.size rfl 43 (List.toArray (fX (18) x)) (0, 0) _ qE Tryz.underlying43 rfl (by exact cellsIns) ?_
  refine hKK _ _ ?_; clear hKK KK
  refine wpList_want (by rfl) (fun KK hKK => ?_)
  refine wp_load_row 43 (.tmp 10) rfl B rfl 43 (List.toArray (fB18s x)) (0, 0) _ rE Tryz.underlying43 rfl (by exact cellsIns) ?_
  refine hKK _ _ ?_; clear hKK KK
  refine wpList_want (by rfl) (fun KK hKK => ?_)
  refine wp_eql_struct rfl rfl rfl guardIns (hEq _) ?_
  refine hKK _ _ ?_; clear hKK KK
  clear hEq
  cases SM
  all_goals (
   iterate 2 (refine sp fun q r => ?_; go_simp; refine r _ _ ?_; clear r q)
   refine wpList_nil ?_
   go_wp2
   go_ret; exact Ret.mk' rfl hbE)
set_option maxRecDepth 100000 in
set_option maxHeartbeats 8000000 in
theorem fields_19 (x : InsD) (b blocks behind : Int) (h : FOk x b blocks behind) (w : World) (_hg : Good w) (hk : x.op = 19) : Calls Tryz.prog 26 #[insV x, .int .i64 b, .int .i64 blocks, .int .i64 behind] w (Ret (.bool (fieldsC x b blocks behind)) w) := by
 have hEq : ∀ W, (Op.equalIn 10000 43 (.agg (List.toArray (fX (19) x))) (.agg (List.toArray (fB19a x)))).run Tryz.prog W = .ok (sameI x (bareI x)) W := fun W => by
  have := insEq_run 9997 x (bareI x) W
  have e1 : insV x = .agg (List.toArray (fX (19) x)) := by unfold insV fX; rw [hk]
  have e2 : insV (bareI x) = .agg (List.toArray (fB19a x)) := by unfold bareI; simp only [hk]; rfl
  rw [e1, e2] at this; exact this
 have hV : fieldsC x b blocks behind = ((winD x.a 0 400) && sameI x (bareI x)) := by unfold fieldsC okI; simp only [hk]; rfl
 rw [hV]
 obtain ⟨h1, h2, h3, h4, h5⟩ := h
 generalize sameI x (bareI x) = SM at *
 unfold insV
 rw [hk]
 clear hV hk
 obtain ⟨OKV, hOKV⟩ : ∃ OKV, (winD x.a 0 400) = OKV := ⟨_, rfl⟩
 
 rw [hOKV]
 go_enter Tryz.func26, Tryz.ntmps26
 go_upto_region 1 with (fail)
 refine wp_abs2 (fun W => Below w.heap.size w W ∧ W.heap[w.heap.size]? = some (.cells (List.toArray (fX (19) x)) 43 (0, 0))) ⟨belx, heap_alloc_new _ _⟩ ?_
 rintro w1 ⟨hb1, q1⟩
 obtain ⟨f1, -, z1⟩ := lie_cell q1
 go_upto_region 2 with (fail)
 refine wp_region_lit ?_
 iterate 4 (refine sp fun q r => ?_; go_simp; refine r _ _ ?_; clear r q)
 refine wpList_store_mid rfl 43 (.tmp 10) (.tmp 18) rfl w1.heap.size 0 _ rfl rfl (whole_there (heap_alloc_new _ _) rfl) cellsIns (all_oneCell_toArray (cs := insC { op := 19 }) (insC_one _)) ?_
 refine wpList_abs (fun W => Below w1.heap.size w1 W ∧ W.heap[w1.heap.size]? = some (.cells (List.toArray (fZ (19))) 43 (0, 0))) ⟨below_cells _ _ _ _ _ ((Below.refl _ _).alloc (Nat.le_refl _) _), box_whole (heap_alloc_new _ _) rfl⟩ ?_
 rintro w2 ⟨hb12, r2⟩
 have q2 := (hb12.block _ z1).trans q1
 have hb2 := after hb1 hb12
 obtain ⟨B, hB⟩ : ∃ B, w1.heap.size = B := ⟨_, rfl⟩
 rw [hB] at r2 z1
 have hsB : w.heap.size ≤ B := Nat.le_of_lt z1
 have hne : ¬ w.heap.size = B := by omega
 have hne2 : ¬ B = w.heap.size := by omega
 clear f1 hb12 hb1 q1
 iterate 1 (refine sp fun q r => ?_; go_simp; refine r _ _ ?_; clear r q)
 refine wpList_nil ?_
 obtain ⟨f2, -, z2⟩ := lie_cell q2
 obtain ⟨g2, d2, y2⟩ := lie_cell r2
 have cC := (fun W (hW : Below w2.heap.size w2 W) => (win_any x.a 0 400 W).mono fun _ _ h => h.ret)
 rw [hOKV] at cC
 clear hOKV
 go_upto_region 43 with (fail)
 have kcc := gcell w2
 refine region_below_tail 7 (by kernel_rfl) (by kernel_rfl) ?_
 simp only [List.take_succ_cons, List.take_zero, List.drop_succ_cons, List.drop_zero]
 iterate 7 (quiet_step (exact Ret.grown cC))
 refine wpQuiet_nil ?_
 intro w4 hb4
 have q4 := (hb4.block _ z2).trans q2
 have r4 := (hb4.block _ y2).trans r2
 have hb04 := after hb2 hb4
 clear f2 g2 d2 kcc
 obtain ⟨g4, d4, y4⟩ := lie_cell r4
 (refine sp fun q r => ?_; go_simp; refine r _ _ ?_; clear r q)
 refine wpList_abs (fun W => Below w.heap.size w W ∧ W.heap[w.heap.size]? = some (.cells (List.toArray (fX (19) x)) 43 (0, 0)) ∧ W.heap[B]? = some (.cells (List.toArray (fB19a x)) 43 (0, 0))) ⟨setB hb04 hsB, (heap_set_other hne).trans q4, heap_set_same r4⟩ ?_
 rintro wE ⟨hbE, qE, rE⟩
 clear g4 d4 q4 r4
 iterate 1 (refine sp fun q r => ?_; go_simp; refine r _ _ ?_; clear r q)
 refine wpList_nil ?_
 go_upto_region 47 with (fail)
 cases OKV
 ·
  go_wp2
  go_ret; exact Ret.mk' rfl hbE
 ·
  refine wp_region_lit ?_
  iterate 2 (refine sp fun q r => ?_; go_simp; refine r _ _ ?_; clear r q)
  refine wpList_want (by rfl) (fun KK hKK => ?_)
  refine wp_load_row 43 (.tmp 4) rfl w.heap.size rfl 43 (List.toArray (fX (19) x)) (0, 0) _ qE Tryz.underlying43 rfl (by exact cellsIns) ?_
  refine hKK _ _ ?_; clear hKK KK
  refine wpList_want (by rfl) (fun KK hKK => ?_)
  refine wp_load_row 43 (.tmp 10) rfl B rfl 43 (List.toArray (fB19a x)) (0, 0) _ rE Tryz.underlying43 rfl (by exact cellsIns) ?_
  refine hKK _ _ ?_; clear hKK KK
  refine wpList_want (by rfl) (fun KK hKK => ?_)
  refine wp_eql_struct rfl rfl rfl guardIns (hEq _) ?_
  refine hKK _ _ ?_; clear hKK KK
  clear hEq
  cases SM
  all_goals (
   iterate 2 (refine sp fun q r => ?_; go_simp; refine r _ _ ?_; clear r q)
   refine wpList_nil ?_
   go_wp2
   go_ret; exact Ret.mk' rfl hbE)
set_option maxRecDepth 100000 in
set_option maxHeartbeats 8000000 in
theorem fields_other (x : InsD) (b blocks behind : Int) (w : World) (hk : x.op < 1 ∨ 19 < x.op) : Calls Tryz.prog 26 #[insV x, .int .i64 b, .int .i64 blocks, .int .i64 behind] w (Ret (.bool (fieldsC x b blocks behind)) w) := by
 have hV : fieldsC x b blocks behind = false := by
  unfold fieldsC okI
  rw [if_neg (by omega)]
  rw [if_neg (by omega)]
  rw [if_neg (by omega)]
  rw [if_neg (by omega)]
  rw [if_neg (by omega)]
  rw [if_neg (by omega)]
  rw [if_neg (by omega)]
  rw [if_neg (by omega)]
  rw [if_neg (by omega)]
  rw [if_neg (by omega)]
  rw [if_neg (by omega)]
  rw [if_neg (by omega)]
  rw [if_neg (by omega)]
  rw [if_neg (by omega)]
  rw [if_neg (by omega)]
  rw [if_neg (by omega)]
  rw [if_neg (by omega)]
  rw [if_neg (by omega)]
  rw [if_neg (by omega)]
  rfl
 rw [hV]
 have n1 : (x.op == 1) = false := beq_eq_false_iff_ne.2 (by omega)
 have n2 : (x.op == 2) = false := beq_eq_false_iff_ne.2 (by omega)
 have n3 : (x.op == 3) = false := beq_eq_false_iff_ne.2 (by omega)
 have n4 : (x.op == 4) = false := beq_eq_false_iff_ne.2 (by omega)
 have n5 : (x.op == 5) = false := beq_eq_false_iff_ne.2 (by omega)
 have n6 : (x.op == 6) = false := beq_eq_false_iff_ne.2 (by omega)
 have n7 : (x.op == 7) = false := beq_eq_false_iff_ne.2 (by omega)
 have n8 : (x.op == 8) = false := beq_eq_false_iff_ne.2 (by omega)
 have n9 : (x.op == 9) = false := beq_eq_false_iff_ne.2 (by omega)
 have n10 : (x.op == 10) = false := beq_eq_false_iff_ne.2 (by omega)
 have n11 : (x.op == 11) = false := beq_eq_false_iff_ne.2 (by omega)
 have n12 : (x.op == 12) = false := beq_eq_false_iff_ne.2 (by omega)
 have n13 : (x.op == 13) = false := beq_eq_false_iff_ne.2 (by omega)
 have n14 : (x.op == 14) = false := beq_eq_false_iff_ne.2 (by omega)
 have n15 : (x.op == 15) = false := beq_eq_false_iff_ne.2 (by omega)
 have n16 : (x.op == 16) = false := beq_eq_false_iff_ne.2 (by omega)
 have n17 : (x.op == 17) = false := beq_eq_false_iff_ne.2 (by omega)
 have n18 : (x.op == 18) = false := beq_eq_false_iff_ne.2 (by omega)
 have n19 : (x.op == 19) = false := beq_eq_false_iff_ne.2 (by omega)
 clear hk hV
 unfold insV
 go_enter Tryz.func26, Tryz.ntmps26
 go_upto_region 1 with (fail)
 refine wp_abs2 (fun W => Below w.heap.size w W ∧ W.heap[w.heap.size]? = some (.cells (List.toArray (fX (x.op) x)) 43 (0, 0))) ⟨belx, heap_alloc_new _ _⟩ ?_
 rintro w1 ⟨hb1, q1⟩
 obtain ⟨f1, -, z1⟩ := lie_cell q1
 go_upto_region 2 with (fail)
 refine wp_region_lit ?_
 iterate 4 (refine sp fun q r => ?_; go_simp; refine r _ _ ?_; clear r q)
 refine wpList_store_mid rfl 43 (.tmp 10) (.tmp 18) rfl w1.heap.size 0 _ rfl rfl (whole_there (heap_alloc_new _ _) rfl) cellsIns (all_oneCell_toArray (cs := insC { op := x.op }) (insC_one _)) ?_
 refine wpList_abs (fun W => Below w1.heap.size w1 W ∧ W.heap[w1.heap.size]? = some (.cells (List.toArray (fZ (x.op))) 43 (0, 0))) ⟨below_cells _ _ _ _ _ ((Below.refl _ _).alloc (Nat.le_refl _) _), box_whole (heap_alloc_new _ _) rfl⟩ ?_
 rintro w2 ⟨hb12, r2⟩
 have q2 := (hb12.block _ z1).trans q1
 have hb2 := after hb1 hb12
 obtain ⟨B, hB⟩ : ∃ B, w1.heap.size = B := ⟨_, rfl⟩
 rw [hB] at r2 z1
 have hsB : w.heap.size ≤ B := Nat.le_of_lt z1
 have hne : ¬ w.heap.size = B := by omega
 have hne2 : ¬ B = w.heap.size := by omega
 clear f1 hb12 hb1 q1
 iterate 1 (refine sp fun q r => ?_; go_simp; refine r _ _ ?_; clear r q)
 refine wpList_nil ?_
 obtain ⟨f2, -, z2⟩ := lie_cell q2
 obtain ⟨g2, d2, y2⟩ := lie_cell r2
 go_wp2
 go_ret; exact Ret.mk' rfl hb2
end Go.Proofs.YtlpgigdegnbkmaaGreatDoor
