import Derived.Test.YtlpgigdegnbkmaaGreatDoorM22
namespace Go.Proofs.YtlpgigdegnbkmaaGreatDoor
open Go.RowKit Tab
set_option maxRecDepth 100000 in
set_option maxHeartbeats 8000000 in
theorem bare_12 (f : Nat) (n : NodeD) (cs : List Value) (w : World) (hg : Good w) (hn : NodeAt f w cs n) (hk : n.kind = 12) : Calls Tryz.prog 50 #[.agg cs.toArray] w (Ret (.bool (bareD n)) w) := by
 cases f with
 | zero => exact hn.elim
 | succ f =>
 obtain ⟨na, nc, rfl, hnc, hs, hkids⟩ := hn
 have hV : bareD n = ((callND n.text && ((upperD n.text == n.text) && (!(n.text == [76, 65, 77, 66, 68, 65]) && !(n.text == [76, 69, 84])))) && sameN n (wantN n)) := by unfold bareD; rw [if_neg (by omega)]; unfold isKindD; simp only [hk]; rfl
 rw [hV]
 obtain ⟨SM, hSM⟩ : ∃ SM, sameN n (wantN n) = SM := ⟨_, rfl⟩
 rw [hSM]
 have hW : wantN n = .mk 12 n.text 0 0 false 0 RefD.zero RefD.zero 0 [] := by unfold wantN; simp only [hk]; rfl
 obtain ⟨B2, hB2⟩ : ∃ B, ((n.m == 0) && (n.e == 0)) = B := ⟨_, rfl⟩
 obtain ⟨B3, hB3⟩ : ∃ B, (!n.b) = B := ⟨_, rfl⟩
 obtain ⟨B4, hB4⟩ : ∃ B, (n.err == 0) = B := ⟨_, rfl⟩
 obtain ⟨B5, hB5⟩ : ∃ B, (sameR n.ref RefD.zero) = B := ⟨_, rfl⟩
 obtain ⟨B6, hB6⟩ : ∃ B, (sameR n.far RefD.zero) = B := ⟨_, rfl⟩
 obtain ⟨B7, hB7⟩ : ∃ B, (n.rows == 0) = B := ⟨_, rfl⟩
 have hSM2 : (true && (B2 && (B3 && (B4 && (B5 && (B6 && B7)))))) = SM := by
  rw [← hSM, hW]
  unfold sameN
  rw [← hB2, ← hB3, ← hB4, ← hB5, ← hB6, ← hB7]
  simp [NodeD.text, NodeD.m, NodeD.e, NodeD.b, NodeD.err, NodeD.ref, NodeD.far, NodeD.rows]
 subst hSM2
 have hq2 : ∀ W, (Op.equalIn 10000 25 (.agg (List.toArray [.int .i64 n.m, .int .i64 n.e])) (.agg (List.toArray [.int .i64 0, .int .i64 0]))).run Tryz.prog W = .ok B2 W := fun W => by
  have := decEq_run 9998 n.m n.e 0 0 W
  rw [hB2] at this; exact this
 have hq5 : ∀ W, (Op.equalIn 10000 27 (.agg (List.toArray [.string n.ref.s, .int .i64 n.ref.row, .int .i64 n.ref.col, .bool n.ref.fr, .bool n.ref.fc, .bool n.ref.bad])) (.agg (List.toArray [.string ⟨#[]⟩, .int .i64 0, .int .i64 0, .bool false, .bool false, .bool false]))).run Tryz.prog W = .ok B5 W := fun W => by
  have := refEq_run 9998 n.ref RefD.zero W
  rw [hB5] at this; exact this
 have hq6 : ∀ W, (Op.equalIn 10000 27 (.agg (List.toArray [.string n.far.s, .int .i64 n.far.row, .int .i64 n.far.col, .bool n.far.fr, .bool n.far.fc, .bool n.far.bad])) (.agg (List.toArray [.string ⟨#[]⟩, .int .i64 0, .int .i64 0, .bool false, .bool false, .bool false]))).run Tryz.prog W = .ok B6 W := fun W => by
  have := refEq_run 9998 n.far RefD.zero W
  rw [hB6] at this; exact this
 clear hSM hW hB2 hB5 hB6
 have HBS := Lib.hid (And.intro hB3 (And.intro hB4 hB7))
 clear hB3 hB4 hB7
 have HK := Lib.hid hk
 obtain ⟨L, hL⟩ : ∃ L, n.kids.length = L := ⟨_, rfl⟩
 unfold nodeC
 rw [hk, hL]
 have htl : n.text.length ≤ 900000 := Nat.le_trans hs.text (by decide)
 have hnc0 := hnc
 clear hV hk hnc
 have cC := fun W (h : Below w.heap.size w W) => (callName_any ⟨n.text.toArray⟩ W (Nat.le_trans (show n.text.length ≤ 1000 from hs.text) (by decide))).mono fun _ _ h => h.ret
 rw [show (⟨n.text.toArray⟩ : ByteArray).data.toList = n.text from rfl] at cC
 obtain ⟨A, hA⟩ : ∃ B, (callND n.text) = B := ⟨_, rfl⟩
 rw [hA] at cC ⊢
 clear hA
 have cG := fun W (h : Below w.heap.size w W) => tgreat_any ⟨n.text.toArray⟩ W (hg.below h) (Nat.le_trans (show n.text.length ≤ 1000 from hs.text) (by decide))
 unfold strV at cG
 rw [show (⟨n.text.toArray⟩ : ByteArray).data.toList = n.text from rfl] at cG
 obtain ⟨U, hU⟩ : ∃ U, upperD n.text = U := ⟨_, rfl⟩
 rw [hU] at cG ⊢
 clear hU
 obtain ⟨G, hG⟩ : ∃ B, (U == n.text) = B := ⟨_, rfl⟩
 rw [hG]
 obtain ⟨M1, hM1⟩ : ∃ B, (n.text == [76, 65, 77, 66, 68, 65]) = B := ⟨_, rfl⟩
 obtain ⟨M2, hM2⟩ : ∃ B, (n.text == [76, 69, 84]) = B := ⟨_, rfl⟩
 rw [hM1, hM2]
 go_enter Tryz.func50, Tryz.ntmps50
 go_upto_region 1 with (fail)
 refine wp_abs2 (fun W => Below w.heap.size w W ∧ W.heap[w.heap.size]? = some (.cells (List.toArray (bN (12) n na L nc)) 30 (0, 0))) ⟨belx, heap_alloc_new _ _⟩ ?_
 rintro w1 ⟨hb1, q1⟩
 obtain ⟨f1, -, z1⟩ := lie_cell q1
 refine wp_region_lit ?_
 iterate 4 (refine sp fun q r => ?_; go_simp; refine r _ _ ?_; clear r q)
 refine wpList_store_mid rfl 30 (.tmp 3) (.tmp 7) rfl w1.heap.size 0 (List.toArray (bZ (12))) rfl rfl (whole_there (heap_alloc_new _ _) rfl) cellsNode (all_oneCell_toArray (wantC_one 12)) ?_
 refine wpList_abs (fun W => Below w1.heap.size w1 W ∧ W.heap[w1.heap.size]? = some (.cells (List.toArray (bZ (12))) 30 (0, 0))) ⟨below_cells _ _ _ _ _ ((Below.refl _ _).alloc (Nat.le_refl _) _), box_whole (heap_alloc_new _ _) rfl⟩ ?_
 rintro w2 ⟨hb12, r2⟩
 refine wpList_nil ?_
 have q2 := (hb12.block _ z1).trans q1
 have hb2 := after hb1 hb12
 obtain ⟨B, hB⟩ : ∃ B, w1.heap.size = B := ⟨_, rfl⟩
 rw [hB] at r2 z1 ⊢
 have hsB : w.heap.size ≤ B := Nat.le_of_lt z1
 have hne : ¬ w.heap.size = B := by omega
 have hne2 : ¬ B = w.heap.size := by omega
 clear f1 hb12 hb1 q1
 obtain ⟨f2, -, z2⟩ := lie_cell q2
 obtain ⟨g2, d2, y2⟩ := lie_cell r2
 cases A
 ·
  go_upto_region 29 with (fail)
  refine wp_region_held_drew (S := fun w' => ∀ i, w'.cell? ⟨w.heap.size, i, none⟩ = (List.toArray (bN (12) n na L nc))[i]?) (by kernel_rfl) f2 (fun hHeld => ?_)
  have q3 : w2.drew.heap[w.heap.size]? = some (.cells (List.toArray (bN (12) n na L nc)) 30 (0, 0)) := q2
  have r3 : w2.drew.heap[B]? = some (.cells (List.toArray (bZ (12))) 30 (0, 0)) := r2
  have hb03 : Below w.heap.size w w2.drew := drewB hb2
  clear f2 g2 d2
  obtain ⟨g3, d3, y3⟩ := lie_cell r3
  refine tk 0 hHeld ?_
  refine tk 1 hHeld ?_
  refine tk 2 hHeld ?_
  refine tk 3 hHeld ?_
  refine tk 23 hHeld ?_
  refine wpAnyH_ready (rs := [4]) (by kernel_rfl) (by simp) ?_
  refine AllReadyH.cons rfl (fun K1 hK1 => ?_) AllReadyH.nil
  go_simp
  refine (cC _ hb03).mono ?_; rintro e w4 ⟨rfl, hbx⟩
  dsimp only
  have q4 := (hbx.block _ (heap_in q3)).trans q3
  have r4 := (hbx.block _ (heap_in r3)).trans r3
  have hb04 := after hb03 hbx
  refine hK1.out _ _ (lie_cell q4).1 (fun hHeld => ?_)
  clear hK1 K1 g3 d3 q3 r3 hb03 hbx y3
  obtain ⟨g4, d4, y4⟩ := lie_cell r4
  refine tk 5 hHeld ?_
  refine tk 6 hHeld ?_
  refine tk 7 hHeld ?_
  refine tk 8 hHeld ?_
  refine tk 9 hHeld ?_
  refine tk 10 hHeld ?_
  refine tk 11 hHeld ?_
  refine tk 12 hHeld ?_
  refine tk 13 hHeld ?_
  refine tk 14 hHeld ?_
  refine tk 15 hHeld ?_
  refine tk 16 hHeld ?_
  refine tk 17 hHeld ?_
  refine tk 18 hHeld ?_
  refine tk 19 hHeld ?_
  refine tk 20 hHeld ?_
  refine tk 21 hHeld ?_
  refine tk 22 hHeld ?_
  refine wpAnyH_ready (rs := [24]) (by kernel_rfl) (by simp) ?_
  refine AllReadyH.cons rfl (fun K1 hK1 => ?_) AllReadyH.nil
  go_simp
  refine hK1.out _ _ (lie_cell ((heap_set_other (i := 1) (v := .string ⟨n.text.toArray⟩) hne).trans q4)).1 (fun hHeld => ?_)
  refine anyH_abs (fun W => Below w.heap.size w W ∧ W.heap[w.heap.size]? = some (.cells (List.toArray (bN (12) n na L nc)) 30 (0, 0)) ∧ W.heap[B]? = some (.cells (List.toArray (bW12s n)) 30 (0, 0))) hHeld ⟨setB hb04 hsB, (heap_set_other (i := 1) (v := .string ⟨n.text.toArray⟩) hne).trans q4, heap_set_same (i := 1) (v := .string ⟨n.text.toArray⟩) r4⟩ ?_
  clear hHeld hK1 K1 g4 d4 q4 r4 hb04 y4
  rintro w5 ⟨hb05, q5, r5⟩ hHeld
  obtain ⟨g5, d5, y5⟩ := lie_cell r5
  refine tk 25 hHeld ?_
  refine wpAnyH_done (by kernel_rfl) ?_ _
  have hbE := hb05
  have qE := q5
  have rE := r5
  clear hHeld q5 r5 hb05 y5 g5 d5
  go_wp2
  go_ret; exact Ret.mk' rfl hbE
 cases G
 ·
  go_upto_region 29 with (fail)
  refine wp_region_held_drew (S := fun w' => ∀ i, w'.cell? ⟨w.heap.size, i, none⟩ = (List.toArray (bN (12) n na L nc))[i]?) (by kernel_rfl) f2 (fun hHeld => ?_)
  have q3 : w2.drew.heap[w.heap.size]? = some (.cells (List.toArray (bN (12) n na L nc)) 30 (0, 0)) := q2
  have r3 : w2.drew.heap[B]? = some (.cells (List.toArray (bZ (12))) 30 (0, 0)) := r2
  have hb03 : Below w.heap.size w w2.drew := drewB hb2
  clear f2 g2 d2
  obtain ⟨g3, d3, y3⟩ := lie_cell r3
  refine tk 0 hHeld ?_
  refine tk 1 hHeld ?_
  refine tk 2 hHeld ?_
  refine tk 3 hHeld ?_
  refine tk 23 hHeld ?_
  refine wpAnyH_ready (rs := [4]) (by kernel_rfl) (by simp) ?_
  refine AllReadyH.cons rfl (fun K1 hK1 => ?_) AllReadyH.nil
  go_simp
  refine (cC _ hb03).mono ?_; rintro e w4 ⟨rfl, hbx⟩
  dsimp only
  have q4 := (hbx.block _ (heap_in q3)).trans q3
  have r4 := (hbx.block _ (heap_in r3)).trans r3
  have hb04 := after hb03 hbx
  refine hK1.out _ _ (lie_cell q4).1 (fun hHeld => ?_)
  clear hK1 K1 g3 d3 q3 r3 hb03 hbx y3
  obtain ⟨g4, d4, y4⟩ := lie_cell r4
  refine tk 5 hHeld ?_
  refine tk 6 hHeld ?_
  refine tk 7 hHeld ?_
  refine tk 9 hHeld ?_
  refine tk 10 hHeld ?_
  refine wpAnyH_ready (rs := [8]) (by kernel_rfl) (by simp) ?_
  refine AllReadyH.cons rfl (fun K1 hK1 => ?_) AllReadyH.nil
  go_simp
  refine (cG _ hb04).mono ?_; rintro e w5 ⟨rfl, hbx⟩
  dsimp only
  have q5 := (hbx.block _ (heap_in q4)).trans q4
  have r5 := (hbx.block _ (heap_in r4)).trans r4
  have hb05 := after hb04 hbx
  refine hK1.out _ _ (lie_cell q5).1 (fun hHeld => ?_)
  clear hK1 K1 g4 d4 q4 r4 hb04 hbx y4
  obtain ⟨g5, d5, y5⟩ := lie_cell r5
  refine tk 11 hHeld ?_
  refine tk 12 hHeld ?_
  refine tk 13 hHeld ?_
  refine tk 14 hHeld ?_
  refine tk 15 hHeld ?_
  refine tk 16 hHeld ?_
  refine tk 17 hHeld ?_
  refine tk 18 hHeld ?_
  refine tk 19 hHeld ?_
  refine tk 20 hHeld ?_
  refine tk 21 hHeld ?_
  refine tk 22 hHeld ?_
  refine wpAnyH_ready (rs := [24]) (by kernel_rfl) (by simp) ?_
  refine AllReadyH.cons rfl (fun K1 hK1 => ?_) AllReadyH.nil
  go_simp
  refine hK1.out _ _ (lie_cell ((heap_set_other (i := 1) (v := .string ⟨n.text.toArray⟩) hne).trans q5)).1 (fun hHeld => ?_)
  refine anyH_abs (fun W => Below w.heap.size w W ∧ W.heap[w.heap.size]? = some (.cells (List.toArray (bN (12) n na L nc)) 30 (0, 0)) ∧ W.heap[B]? = some (.cells (List.toArray (bW12s n)) 30 (0, 0))) hHeld ⟨setB hb05 hsB, (heap_set_other (i := 1) (v := .string ⟨n.text.toArray⟩) hne).trans q5, heap_set_same (i := 1) (v := .string ⟨n.text.toArray⟩) r5⟩ ?_
  clear hHeld hK1 K1 g5 d5 q5 r5 hb05 y5
  rintro w6 ⟨hb06, q6, r6⟩ hHeld
  obtain ⟨g6, d6, y6⟩ := lie_cell r6
  refine tk 25 hHeld ?_
  refine wpAnyH_done (by kernel_rfl) ?_ _
  have hbE := hb06
  have qE := q6
  have rE := r6
  clear hHeld q6 r6 hb06 y6 g6 d6
  go_wp2
  go_ret; exact Ret.mk' rfl hbE
 cases M1
 ·cases M2
  ·
   go_upto_region 29 with (fail)
   refine wp_region_held_drew (S := fun w' => ∀ i, w'.cell? ⟨w.heap.size, i, none⟩ = (List.toArray (bN (12) n na L nc))[i]?) (by kernel_rfl) f2 (fun hHeld => ?_)
   have q3 : w2.drew.heap[w.heap.size]? = some (.cells (List.toArray (bN (12) n na L nc)) 30 (0, 0)) := q2
   have r3 : w2.drew.heap[B]? = some (.cells (List.toArray (bZ (12))) 30 (0, 0)) := r2
   have hb03 : Below w.heap.size w w2.drew := drewB hb2
   clear f2 g2 d2
   obtain ⟨g3, d3, y3⟩ := lie_cell r3
   refine tk 0 hHeld ?_
   refine tk 1 hHeld ?_
   refine tk 2 hHeld ?_
   refine tk 3 hHeld ?_
   refine tk 23 hHeld ?_
   refine wpAnyH_ready (rs := [4]) (by kernel_rfl) (by simp) ?_
   refine AllReadyH.cons rfl (fun K1 hK1 => ?_) AllReadyH.nil
   go_simp
   refine (cC _ hb03).mono ?_; rintro e w4 ⟨rfl, hbx⟩
   dsimp only
   have q4 := (hbx.block _ (heap_in q3)).trans q3
   have r4 := (hbx.block _ (heap_in r3)).trans r3
   have hb04 := after hb03 hbx
   refine hK1.out _ _ (lie_cell q4).1 (fun hHeld => ?_)
   clear hK1 K1 g3 d3 q3 r3 hb03 hbx y3
   obtain ⟨g4, d4, y4⟩ := lie_cell r4
   refine tk 5 hHeld ?_
   refine tk 6 hHeld ?_
   refine tk 7 hHeld ?_
   refine tk 9 hHeld ?_
   refine tk 10 hHeld ?_
   refine wpAnyH_ready (rs := [8]) (by kernel_rfl) (by simp) ?_
   refine AllReadyH.cons rfl (fun K1 hK1 => ?_) AllReadyH.nil
   go_simp
   refine (cG _ hb04).mono ?_; rintro e w5 ⟨rfl, hbx⟩
   dsimp only
   have q5 := (hbx.block _ (heap_in q4)).trans q4
   have r5 := (hbx.block _ (heap_in r4)).trans r4
   have hb05 := after hb04 hbx
   refine hK1.out _ _ (lie_cell q5).1 (fun hHeld => ?_)
   clear hK1 K1 g4 d4 q4 r4 hb04 hbx y4
   obtain ⟨g5, d5, y5⟩ := lie_cell r5
   refine tk 11 hHeld ?_
   refine tk 12 hHeld ?_
   refine tk 13 hHeld ?_
   refine tk 14 hHeld ?_
   refine tk 15 hHeld ?_
   refine tk 16 hHeld ?_
   refine tk 17 hHeld ?_
   refine tk 18 hHeld ?_
   refine tk 19 hHeld ?_
   refine tk 20 hHeld ?_
   refine tk 21 hHeld ?_
   refine tk 22 hHeld ?_
   refine wpAnyH_ready (rs := [24]) (by kernel_rfl) (by simp) ?_
   refine AllReadyH.cons rfl (fun K1 hK1 => ?_) AllReadyH.nil
   go_simp
   refine hK1.out _ _ (lie_cell ((heap_set_other (i := 1) (v := .string ⟨n.text.toArray⟩) hne).trans q5)).1 (fun hHeld => ?_)
   refine anyH_abs (fun W => Below w.heap.size w W ∧ W.heap[w.heap.size]? = some (.cells (List.toArray (bN (12) n na L nc)) 30 (0, 0)) ∧ W.heap[B]? = some (.cells (List.toArray (bW12s n)) 30 (0, 0))) hHeld ⟨setB hb05 hsB, (heap_set_other (i := 1) (v := .string ⟨n.text.toArray⟩) hne).trans q5, heap_set_same (i := 1) (v := .string ⟨n.text.toArray⟩) r5⟩ ?_
   clear hHeld hK1 K1 g5 d5 q5 r5 hb05 y5
   rintro w6 ⟨hb06, q6, r6⟩ hHeld
   obtain ⟨g6, d6, y6⟩ := lie_cell r6
   refine tk 25 hHeld ?_
   refine wpAnyH_done (by kernel_rfl) ?_ _
   have hbE := hb06
   have qE := q6
   have rE := r6
   clear hHeld q6 r6 hb06 y6 g6 d6
   go_upto_region 37 with (fail)
   obtain ⟨fE, -, zE⟩ := lie_cell qE
   obtain ⟨gE, -, yE⟩ := lie_cell rE
   obtain ⟨hB3, hB4, hB7⟩ := HBS.out
   clear qE rE
   refine wp_region_lit ?_
   iterate 2 (refine sp fun q r => ?_; go_simp; refine r _ _ ?_; clear r q)
   iterate 5 (refine sw fun q r => ?_; go_simp; refine r _ _ ?_; clear r q)
   iterate 2 (refine sp fun q r => ?_; go_simp; refine r _ _ ?_; clear r q)
   iterate 4 (refine sw fun q r => ?_; go_simp; refine r _ _ ?_; clear r q)
   refine wpList_want (by rfl) (fun KK hKK => ?_)
   refine wp_eql_struct rfl rfl rfl guardDec (hq2 _) ?_
   refine hKK _ _ ?_; clear hKK KK hq2
   cases B2
   ·go_wp2
    go_ret; exact Ret.mk' rfl hbE
   iterate 2 (refine sp fun q r => ?_; go_simp; refine r _ _ ?_; clear r q)
   iterate 5 (refine sw fun q r => ?_; go_simp; refine r _ _ ?_; clear r q)
   cases B3
   ·go_wp2
    go_ret; exact Ret.mk' rfl hbE
   iterate 2 (refine sp fun q r => ?_; go_simp; refine r _ _ ?_; clear r q)
   iterate 5 (refine sw fun q r => ?_; go_simp; refine r _ _ ?_; clear r q)
   cases B4
   ·go_wp2
    go_ret; exact Ret.mk' rfl hbE
   iterate 2 (refine sp fun q r => ?_; go_simp; refine r _ _ ?_; clear r q)
   iterate 4 (refine sw fun q r => ?_; go_simp; refine r _ _ ?_; clear r q)
   refine wpList_want (by rfl) (fun KK hKK => ?_)
   refine wp_eql_struct rfl rfl rfl guardRef (hq5 _) ?_
   refine hKK _ _ ?_; clear hKK KK hq5
   cases B5
   ·go_wp2
    go_ret; exact Ret.mk' rfl hbE
   iterate 2 (refine sp fun q r => ?_; go_simp; refine r _ _ ?_; clear r q)
   iterate 4 (refine sw fun q r => ?_; go_simp; refine r _ _ ?_; clear r q)
   refine wpList_want (by rfl) (fun KK hKK => ?_)
   refine wp_eql_struct rfl rfl rfl guardRef (hq6 _) ?_
   refine hKK _ _ ?_; clear hKK KK hq6
   cases B6
   ·go_wp2
    go_ret; exact Ret.mk' rfl hbE
   iterate 2 (refine sp fun q r => ?_; go_simp; refine r _ _ ?_; clear r q)
   iterate 5 (refine sw fun q r => ?_; go_simp; refine r _ _ ?_; clear r q)
   cases B7
   ·go_wp2
    go_ret; exact Ret.mk' rfl hbE
   go_wp2
   go_ret; exact Ret.mk' rfl hbE
  ·
   go_upto_region 29 with (fail)
   refine wp_region_held_drew (S := fun w' => ∀ i, w'.cell? ⟨w.heap.size, i, none⟩ = (List.toArray (bN (12) n na L nc))[i]?) (by kernel_rfl) f2 (fun hHeld => ?_)
   have q3 : w2.drew.heap[w.heap.size]? = some (.cells (List.toArray (bN (12) n na L nc)) 30 (0, 0)) := q2
   have r3 : w2.drew.heap[B]? = some (.cells (List.toArray (bZ (12))) 30 (0, 0)) := r2
   have hb03 : Below w.heap.size w w2.drew := drewB hb2
   clear f2 g2 d2
   obtain ⟨g3, d3, y3⟩ := lie_cell r3
   refine tk 0 hHeld ?_
   refine tk 1 hHeld ?_
   refine tk 2 hHeld ?_
   refine tk 3 hHeld ?_
   refine tk 23 hHeld ?_
   refine wpAnyH_ready (rs := [4]) (by kernel_rfl) (by simp) ?_
   refine AllReadyH.cons rfl (fun K1 hK1 => ?_) AllReadyH.nil
   go_simp
   refine (cC _ hb03).mono ?_; rintro e w4 ⟨rfl, hbx⟩
   dsimp only
   have q4 := (hbx.block _ (heap_in q3)).trans q3
   have r4 := (hbx.block _ (heap_in r3)).trans r3
   have hb04 := after hb03 hbx
   refine hK1.out _ _ (lie_cell q4).1 (fun hHeld => ?_)
   clear hK1 K1 g3 d3 q3 r3 hb03 hbx y3
   obtain ⟨g4, d4, y4⟩ := lie_cell r4
   refine tk 5 hHeld ?_
   refine tk 6 hHeld ?_
   refine tk 7 hHeld ?_
   refine tk 9 hHeld ?_
   refine tk 10 hHeld ?_
   refine wpAnyH_ready (rs := [8]) (by kernel_rfl) (by simp) ?_
   refine AllReadyH.cons rfl (fun K1 hK1 => ?_) AllReadyH.nil
   go_simp
   refine (cG _ hb04).mono ?_; rintro e w5 ⟨rfl, hbx⟩
   dsimp only
   have q5 := (hbx.block _ (heap_in q4)).trans q4
   have r5 := (hbx.block _ (heap_in r4)).trans r4
   have hb05 := after hb04 hbx
   refine hK1.out _ _ (lie_cell q5).1 (fun hHeld => ?_)
   clear hK1 K1 g4 d4 q4 r4 hb04 hbx y4
   obtain ⟨g5, d5, y5⟩ := lie_cell r5
   refine tk 11 hHeld ?_
   refine tk 12 hHeld ?_
   refine tk 13 hHeld ?_
   refine tk 14 hHeld ?_
   refine tk 15 hHeld ?_
   refine tk 16 hHeld ?_
   refine tk 17 hHeld ?_
   refine tk 18 hHeld ?_
   refine tk 19 hHeld ?_
   refine tk 20 hHeld ?_
   refine tk 21 hHeld ?_
   refine tk 22 hHeld ?_
   refine wpAnyH_ready (rs := [24]) (by kernel_rfl) (by simp) ?_
   refine AllReadyH.cons rfl (fun K1 hK1 => ?_) AllReadyH.nil
   go_simp
   refine hK1.out _ _ (lie_cell ((heap_set_other (i := 1) (v := .string ⟨n.text.toArray⟩) hne).trans q5)).1 (fun hHeld => ?_)
   refine anyH_abs (fun W => Below w.heap.size w W ∧ W.heap[w.heap.size]? = some (.cells (List.toArray (bN (12) n na L nc)) 30 (0, 0)) ∧ W.heap[B]? = some (.cells (List.toArray (bW12s n)) 30 (0, 0))) hHeld ⟨setB hb05 hsB, (heap_set_other (i := 1) (v := .string ⟨n.text.toArray⟩) hne).trans q5, heap_set_same (i := 1) (v := .string ⟨n.text.toArray⟩) r5⟩ ?_
   clear hHeld hK1 K1 g5 d5 q5 r5 hb05 y5
   rintro w6 ⟨hb06, q6, r6⟩ hHeld
   obtain ⟨g6, d6, y6⟩ := lie_cell r6
   refine tk 25 hHeld ?_
   refine wpAnyH_done (by kernel_rfl) ?_ _
   have hbE := hb06
   have qE := q6
   have rE := r6
   clear hHeld q6 r6 hb06 y6 g6 d6
   go_wp2
   go_ret; exact Ret.mk' rfl hbE
 ·clear hM2
  go_upto_region 29 with (fail)
  refine wp_region_held_drew (S := fun w' => ∀ i, w'.cell? ⟨w.heap.size, i, none⟩ = (List.toArray (bN (12) n na L nc))[i]?) (by kernel_rfl) f2 (fun hHeld => ?_)
  have q3 : w2.drew.heap[w.heap.size]? = some (.cells (List.toArray (bN (12) n na L nc)) 30 (0, 0)) := q2
  have r3 : w2.drew.heap[B]? = some (.cells (List.toArray (bZ (12))) 30 (0, 0)) := r2
  have hb03 : Below w.heap.size w w2.drew := drewB hb2
  clear f2 g2 d2
  obtain ⟨g3, d3, y3⟩ := lie_cell r3
  refine tk 0 hHeld ?_
  refine tk 1 hHeld ?_
  refine tk 2 hHeld ?_
  refine tk 3 hHeld ?_
  refine tk 23 hHeld ?_
  refine wpAnyH_ready (rs := [4]) (by kernel_rfl) (by simp) ?_
  refine AllReadyH.cons rfl (fun K1 hK1 => ?_) AllReadyH.nil
  go_simp
  refine (cC _ hb03).mono ?_; rintro e w4 ⟨rfl, hbx⟩
  dsimp only
  have q4 := (hbx.block _ (heap_in q3)).trans q3
  have r4 := (hbx.block _ (heap_in r3)).trans r3
  have hb04 := after hb03 hbx
  refine hK1.out _ _ (lie_cell q4).1 (fun hHeld => ?_)
  clear hK1 K1 g3 d3 q3 r3 hb03 hbx y3
  obtain ⟨g4, d4, y4⟩ := lie_cell r4
  refine tk 5 hHeld ?_
  refine tk 6 hHeld ?_
  refine tk 7 hHeld ?_
  refine tk 9 hHeld ?_
  refine tk 10 hHeld ?_
  refine wpAnyH_ready (rs := [8]) (by kernel_rfl) (by simp) ?_
  refine AllReadyH.cons rfl (fun K1 hK1 => ?_) AllReadyH.nil
  go_simp
  refine (cG _ hb04).mono ?_; rintro e w5 ⟨rfl, hbx⟩
  dsimp only
  have q5 := (hbx.block _ (heap_in q4)).trans q4
  have r5 := (hbx.block _ (heap_in r4)).trans r4
  have hb05 := after hb04 hbx
  refine hK1.out _ _ (lie_cell q5).1 (fun hHeld => ?_)
  clear hK1 K1 g4 d4 q4 r4 hb04 hbx y4
  obtain ⟨g5, d5, y5⟩ := lie_cell r5
  refine tk 11 hHeld ?_
  refine tk 12 hHeld ?_
  refine tk 13 hHeld ?_
  refine tk 14 hHeld ?_
  refine tk 15 hHeld ?_
  refine tk 16 hHeld ?_
  refine tk 17 hHeld ?_
  refine tk 18 hHeld ?_
  refine tk 19 hHeld ?_
  refine tk 20 hHeld ?_
  refine tk 21 hHeld ?_
  refine tk 22 hHeld ?_
  refine wpAnyH_ready (rs := [24]) (by kernel_rfl) (by simp) ?_
  refine AllReadyH.cons rfl (fun K1 hK1 => ?_) AllReadyH.nil
  go_simp
  refine hK1.out _ _ (lie_cell ((heap_set_other (i := 1) (v := .string ⟨n.text.toArray⟩) hne).trans q5)).1 (fun hHeld => ?_)
  refine anyH_abs (fun W => Below w.heap.size w W ∧ W.heap[w.heap.size]? = some (.cells (List.toArray (bN (12) n na L nc)) 30 (0, 0)) ∧ W.heap[B]? = some (.cells (List.toArray (bW12s n)) 30 (0, 0))) hHeld ⟨setB hb05 hsB, (heap_set_other (i := 1) (v := .string ⟨n.text.toArray⟩) hne).trans q5, heap_set_same (i := 1) (v := .string ⟨n.text.toArray⟩) r5⟩ ?_
  clear hHeld hK1 K1 g5 d5 q5 r5 hb05 y5
  rintro w6 ⟨hb06, q6, r6⟩ hHeld
  obtain ⟨g6, d6, y6⟩ := lie_cell r6
  refine tk 25 hHeld ?_
  refine wpAnyH_done (by kernel_rfl) ?_ _
  have hbE := hb06
  have qE := q6
  have rE := r6
  clear hHeld q6 r6 hb06 y6 g6 d6
  go_wp2
  go_ret; exact Ret.mk' rfl hbE
end Go.Proofs.YtlpgigdegnbkmaaGreatDoor
