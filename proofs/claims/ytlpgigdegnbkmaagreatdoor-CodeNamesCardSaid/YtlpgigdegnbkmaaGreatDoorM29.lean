import Derived.Test.YtlpgigdegnbkmaaGreatDoorM28
set_option maxRecDepth 100000
set_option maxHeartbeats 8000000
namespace Go.Proofs.YtlpgigdegnbkmaaGreatDoor
open Go.RowKit Tab Tryz
theorem fields_a (x : InsD) (b blocks behind : Int) (h : FOk x b blocks behind) (w : World) (hg : Good w) (hk : x.op = 1 \/ x.op = 2 \/ x.op = 3 \/ x.op = 4 \/ x.op = 5 \/ x.op = 6 \/ x.op = 7) : Calls prog 26 #[insV x, .int .i64 b, .int .i64 blocks, .int .i64 behind] w (Ret (.bool (fieldsC x b blocks behind)) w) := by
 have hEq := insEq_run 9997 x (bareI x)
 unfold fieldsC
 obtain ⟨h1, h2, h3, h4, h5⟩ := h
 generalize sameI x (bareI x) = SM at *
 obtain ⟨OKV, hO⟩ : ∃ o, okI x b blocks behind = o := ⟨_, rfl⟩
 rw [hO]
 have HO := Lib.hid hO
 obtain ⟨K, hK⟩ : ∃ K, x.op = K := ⟨_, rfl⟩
 unfold insV at hEq ⊢
 rw [hK] at hk hEq ⊢
 have HK := Lib.hid hK
 have Hk := Lib.hid hk
 have HEq := Lib.hid hEq
 clear hk hK hEq hO
 go_enter func26, ntmps26
 go_upto_region 1 with (fail)
 refine wp_abs2 (On1 43 w (List.toArray (fX (K) x))) ⟨belx, heap_alloc_new _ _⟩ ?_
 rintro w1 ⟨hb1, q1⟩
 obtain ⟨f1, -, z1⟩ := lie_cell q1
 go_upto_region 2 with (fail)
 refine wp_region_lit ?_
 iterate 4 refine st ?_
 refine wpList_store_mid rfl 43 (.tmp 10) (.tmp 18) rfl w1.heap.size 0 _ rfl rfl (whole_there (heap_alloc_new _ _) rfl) cellsIns (all_oneCell_toArray (cs := insC { op := K }) (insC_one _)) ?_
 refine wpList_abs (On1 43 w1 (List.toArray (fZ (K)))) ⟨below_cells _ _ _ _ _ ((Below.refl _ _).alloc (Nat.le_refl _) _), box_whole (heap_alloc_new _ _) rfl⟩ ?_
 rintro w2 ⟨hb12, r⟩
 have q := (hb12.block _ z1).trans q1
 have hb := after hb1 hb12
 obtain ⟨B, hB⟩ : ∃ B, w1.heap.size = B := ⟨_, rfl⟩
 rw [hB] at r z1
 have hsB : w.heap.size <= B := Nat.le_of_lt z1
 have hne : ¬ w.heap.size = B := by omega
 have hne2 : ¬ B = w.heap.size := by omega
 clear f1 hb12 hb1 q1
 iterate 1 refine st ?_
 refine wpList_nil ?_
 obtain ⟨fq, -, z⟩ := lie_cell q
 obtain ⟨g, d, y⟩ := lie_cell r
 go_upto_block 0 with (fail)
 go_cut [11] from 12 (fun si wx => si = .bool OKV /\ Two 43 w B (fX (K) x) (insC (bareI x)) wx)
 case first =>
  have hk := Hk.out
  clear Hk HEq
  rcases hk with rfl | rfl | rfl | rfl | rfl | rfl | rfl
  ·
   have HI := Lib.hid (show okI x b blocks behind = (decOkD x.m x.e) by unfold okI; simp only [HK.out]; rfl)
   have HW := Lib.hid (show bareI x = { op := 1, m := x.m, e := x.e } by unfold bareI; simp only [HK.out]; rfl)
   have cC := (fun W (hW : Below w2.heap.size w2 W) => decRight_any x.m x.e h1 W)
   go_upto_region 5 with (fail)
   have kcc := gcell w2
   refine region_below_tail 6 (by kernel_rfl) (by kernel_rfl) ?_
   simp only [List.take_succ_cons, List.take_zero, List.drop_succ_cons, List.drop_zero]
   iterate 6 (quiet_step (exact Ret.grown cC))
   refine wpQuiet_nil ?_
   intro w4 hbx
   have t := Two.more ⟨hb, q, r⟩ hbx
   clear hb q r fq g d y kcc hbx
   obtain ⟨hb, q, r⟩ := t
   obtain ⟨g, d, y⟩ := lie_cell r
   refine wpList_store_mid rfl 25 (.tmp 28) (.tmp 24) rfl B 4 (List.toArray [.int .i64 x.m, .int .i64 x.e]) rfl rfl (part_there r (Nat.le_of_ble_eq_true rfl)) cellsDec (oneDec _ _) ?_
   refine wpList_abs (Two 43 w B (fX (1) x) (fB 1 0 0 [] x.m x.e RefD.zero RefD.zero)) (Two.sets ⟨hb, q, r⟩ hsB hne) ?_
   clear hb q r g d y
   rintro w5 ⟨hb, q, r⟩
   iterate 1 refine st ?_
   refine wpList_nil ?_
   go_wp2
   go_meet
   rw [<- HO.out, HI.out, HW.out]
   exact ⟨rfl, hb, q, r⟩
  ·
   have HI := Lib.hid (show okI x b blocks behind = (decide (x.s.length <= 200) && textB x.s) by unfold okI; simp only [HK.out]; rfl)
   have HW := Lib.hid (show bareI x = { op := 2, s := x.s } by unfold bareI; simp only [HK.out]; rfl)
   have cV := fun W (hW : Below w.heap.size w W) => Tryz.utf8_ValidString ⟨x.s.toArray⟩ W (Nat.le_trans (show x.s.length <= 900000 from h2) (by decide)) (hg.below hW).u8
   have cO := fun W (hW : Below w.heap.size w W) => hasLow_any x.s W
   rw [show (⟨x.s.toArray⟩ : ByteArray).data.toList = x.s from rfl] at cV
   unfold textB at HI
   rw [show (x.s.all okByte && Lib.validD x.s) = (Lib.validD x.s && x.s.all okByte) from Bool.and_comm _ _] at HI
   obtain ⟨n, hn⟩ : ∃ n, x.s.length = n := ⟨_, rfl⟩
   have hsz : (⟨x.s.toArray⟩ : ByteArray).size = n := hn
   rw [hn] at HI
   generalize Lib.validD x.s = V at cV HI
   generalize x.s.all okByte = O at cO HI
   by_cases hl : n <= 200
   ·have el : decide ((n : Int) <= 200) = true := decide_eq_true (by omega)
    rw [decide_eq_true hl] at HI
    go_upto_region 8 with (fail)
    refine two_in ⟨hb, q, r⟩ ?_
    clear hb q r fq g d y
    rintro w3 ⟨hb, q, r⟩ hHeld
    obtain ⟨g, d, y⟩ := lie_cell r
    refine tk 0 hHeld ?_
    refine tk 1 hHeld ?_
    refine tk 2 hHeld ?_
    refine tk 3 hHeld ?_
    refine tk 4 hHeld ?_
    refine tk 5 hHeld ?_
    refine tk 6 hHeld ?_
    refine tk 7 hHeld ?_
    refine tk 8 hHeld ?_
    refine tk 18 hHeld ?_
    refine ar 9 fun K1 hK1 => ?_
    go_simp
    refine (cV _ hb).mono ?_; rintro e w4 ⟨rfl, hbx⟩
    dsimp only
    refine hk2 hK1 (Two.more ⟨hb, q, r⟩ hbx) ?_
    clear hHeld hK1 K1 hb q r g d y hbx
    rintro w3 ⟨hb, q, r⟩ hHeld
    obtain ⟨g, d, y⟩ := lie_cell r
    refine tk 10 hHeld ?_
    cases V
    ·
     refine tk 11 hHeld ?_
     refine tk 12 hHeld ?_
     refine tk 13 hHeld ?_
     refine tk 14 hHeld ?_
     refine tk 15 hHeld ?_
     refine tk 16 hHeld ?_
     refine tk 17 hHeld ?_
     refine ar 19 fun K1 hK1 => ?_
     go_simp
     refine hk2 hK1 (Two.set (C' := fB 2 0 0 x.s 0 0 RefD.zero RefD.zero) ⟨hb, q, r⟩ hsB hne) ?_
     clear hHeld hK1 K1 hb q r g d y
     rintro w3 ⟨hb, q, r⟩ hHeld
     obtain ⟨g, d, y⟩ := lie_cell r
     refine tk 20 hHeld ?_
     refine wpAnyH_done (by kernel_rfl) ?_ _
     clear hHeld g d y
     go_wp2
     go_meet
     rw [<- HO.out, HI.out, HW.out]
     exact ⟨rfl, hb, q, r⟩
    ·
     refine tk 11 hHeld ?_
     refine tk 12 hHeld ?_
     refine tk 13 hHeld ?_
     refine tk 14 hHeld ?_
     refine ar 15 fun K1 hK1 => ?_
     go_simp
     refine (cO _ hb).mono ?_; rintro e w4 ⟨rfl, hbx⟩
     dsimp only
     refine hk2 hK1 (Two.more ⟨hb, q, r⟩ hbx) ?_
     clear hHeld hK1 K1 hb q r g d y hbx
     rintro w3 ⟨hb, q, r⟩ hHeld
     obtain ⟨g, d, y⟩ := lie_cell r
     refine tk 16 hHeld ?_
     refine tk 17 hHeld ?_
     refine ar 19 fun K1 hK1 => ?_
     go_simp
     refine hk2 hK1 (Two.set (C' := fB 2 0 0 x.s 0 0 RefD.zero RefD.zero) ⟨hb, q, r⟩ hsB hne) ?_
     clear hHeld hK1 K1 hb q r g d y
     rintro w3 ⟨hb, q, r⟩ hHeld
     obtain ⟨g, d, y⟩ := lie_cell r
     refine tk 20 hHeld ?_
     refine wpAnyH_done (by kernel_rfl) ?_ _
     clear hHeld g d y
     go_wp2
     go_meet
     rw [<- HO.out, HI.out, HW.out]
     exact ⟨rfl, hb, q, r⟩
   ·have el : decide ((n : Int) <= 200) = false := decide_eq_false (by omega)
    rw [decide_eq_false hl] at HI
    go_upto_region 8 with (fail)
    refine two_in ⟨hb, q, r⟩ ?_
    clear hb q r fq g d y
    rintro w3 ⟨hb, q, r⟩ hHeld
    obtain ⟨g, d, y⟩ := lie_cell r
    refine tk 0 hHeld ?_
    refine tk 1 hHeld ?_
    refine tk 2 hHeld ?_
    refine tk 3 hHeld ?_
    refine tk 4 hHeld ?_
    refine tk 5 hHeld ?_
    refine tk 6 hHeld ?_
    refine tk 7 hHeld ?_
    refine tk 8 hHeld ?_
    refine tk 9 hHeld ?_
    refine tk 10 hHeld ?_
    refine tk 11 hHeld ?_
    refine tk 12 hHeld ?_
    refine tk 13 hHeld ?_
    refine tk 14 hHeld ?_
    refine tk 15 hHeld ?_
    refine tk 16 hHeld ?_
    refine tk 17 hHeld ?_
    refine tk 18 hHeld ?_
    refine ar 19 fun K1 hK1 => ?_
    go_simp
    refine hk2 hK1 (Two.set (C' := fB 2 0 0 x.s 0 0 RefD.zero RefD.zero) ⟨hb, q, r⟩ hsB hne) ?_
    clear hHeld hK1 K1 hb q r g d y
    rintro w3 ⟨hb, q, r⟩ hHeld
    obtain ⟨g, d, y⟩ := lie_cell r
    refine tk 20 hHeld ?_
    refine wpAnyH_done (by kernel_rfl) ?_ _
    clear hHeld g d y
    go_wp2
    go_meet
    rw [<- HO.out, HI.out, HW.out]
    exact ⟨rfl, hb, q, r⟩
  ·
   have HI := Lib.hid (show okI x b blocks behind = (winD x.a 0 1) by unfold okI; simp only [HK.out]; rfl)
   have HW := Lib.hid (show bareI x = { op := 3, a := x.a } by unfold bareI; simp only [HK.out]; rfl)
   have cC := (fun W (hW : Below w2.heap.size w2 W) => (win_any x.a 0 1 W).mono fun _ _ h => h.ret)
   go_upto_region 10 with (fail)
   have kcc := gcell w2
   refine region_below_tail 7 (by kernel_rfl) (by kernel_rfl) ?_
   simp only [List.take_succ_cons, List.take_zero, List.drop_succ_cons, List.drop_zero]
   iterate 7 (quiet_step (exact Ret.grown cC))
   refine wpQuiet_nil ?_
   intro w4 hbx
   have t := Two.more ⟨hb, q, r⟩ hbx
   clear hb q r fq g d y kcc hbx
   obtain ⟨hb, q, r⟩ := t
   obtain ⟨g, d, y⟩ := lie_cell r
   refine st ?_
   refine wpList_abs (Two 43 w B (fX (3) x) (fB 3 x.a 0 [] 0 0 RefD.zero RefD.zero)) (Two.set ⟨hb, q, r⟩ hsB hne) ?_
   clear hb q r g d y
   rintro w5 ⟨hb, q, r⟩
   iterate 1 refine st ?_
   refine wpList_nil ?_
   go_wp2
   go_meet
   rw [<- HO.out, HI.out, HW.out]
   exact ⟨rfl, hb, q, r⟩
  ·
   have HI := Lib.hid (show okI x b blocks behind = (winD x.a 1 9) by unfold okI; simp only [HK.out]; rfl)
   have HW := Lib.hid (show bareI x = { op := 4, a := x.a } by unfold bareI; simp only [HK.out]; rfl)
   have cC := (fun W (hW : Below w2.heap.size w2 W) => (win_any x.a 1 9 W).mono fun _ _ h => h.ret)
   go_upto_region 12 with (fail)
   have kcc := gcell w2
   refine region_below_tail 7 (by kernel_rfl) (by kernel_rfl) ?_
   simp only [List.take_succ_cons, List.take_zero, List.drop_succ_cons, List.drop_zero]
   iterate 7 (quiet_step (exact Ret.grown cC))
   refine wpQuiet_nil ?_
   intro w4 hbx
   have t := Two.more ⟨hb, q, r⟩ hbx
   clear hb q r fq g d y kcc hbx
   obtain ⟨hb, q, r⟩ := t
   obtain ⟨g, d, y⟩ := lie_cell r
   refine st ?_
   refine wpList_abs (Two 43 w B (fX (4) x) (fB 4 x.a 0 [] 0 0 RefD.zero RefD.zero)) (Two.set ⟨hb, q, r⟩ hsB hne) ?_
   clear hb q r g d y
   rintro w5 ⟨hb, q, r⟩
   iterate 1 refine st ?_
   refine wpList_nil ?_
   go_wp2
   go_meet
   rw [<- HO.out, HI.out, HW.out]
   exact ⟨rfl, hb, q, r⟩
  ·
   have HI := Lib.hid (show okI x b blocks behind = (x.ref.right) by unfold okI; simp only [HK.out]; rfl)
   have HW := Lib.hid (show bareI x = { op := 5, ref := x.ref } by unfold bareI; simp only [HK.out]; rfl)
   have cC := (fun W (hW : Below w2.heap.size w2 W) => Right_any x.ref.s x.ref.row x.ref.col x.ref.fr x.ref.fc x.ref.bad W (hg.below (after hb hW)) h5.1)
   go_upto_region 14 with (fail)
   have kcc := gcell w2
   refine region_below_tail 6 (by kernel_rfl) (by kernel_rfl) ?_
   simp only [List.take_succ_cons, List.take_zero, List.drop_succ_cons, List.drop_zero]
   iterate 6 (quiet_step (exact Ret.grown cC))
   refine wpQuiet_nil ?_
   intro w4 hbx
   have t := Two.more ⟨hb, q, r⟩ hbx
   clear hb q r fq g d y kcc hbx
   obtain ⟨hb, q, r⟩ := t
   obtain ⟨g, d, y⟩ := lie_cell r
   refine wpList_store_mid rfl 27 (.tmp 75) (.tmp 71) rfl B 6 (List.toArray [.string x.ref.s, .int .i64 x.ref.row, .int .i64 x.ref.col, .bool x.ref.fr, .bool x.ref.fc, .bool x.ref.bad]) rfl rfl (part_there r (Nat.le_of_ble_eq_true rfl)) cellsRef (oneRef _) ?_
   refine wpList_abs (Two 43 w B (fX (5) x) (fB 5 0 0 [] 0 0 x.ref RefD.zero)) (Two.sets ⟨hb, q, r⟩ hsB hne) ?_
   clear hb q r g d y
   rintro w5 ⟨hb, q, r⟩
   iterate 1 refine st ?_
   refine wpList_nil ?_
   go_wp2
   go_meet
   rw [<- HO.out, HI.out, HW.out]
   exact ⟨rfl, hb, q, r⟩
  ·
   have HI := Lib.hid (show okI x b blocks behind = (x.ref.right && x.far.right) by unfold okI; simp only [HK.out]; rfl)
   have HW := Lib.hid (show bareI x = { op := 6, ref := x.ref, far := x.far } by unfold bareI; simp only [HK.out]; rfl)
   rw [show x.ref.right = rightB x.ref.s.data.toList x.ref.row x.ref.col x.ref.fr x.ref.fc x.ref.bad from rfl, show x.far.right = rightB x.far.s.data.toList x.far.row x.far.col x.far.fr x.far.fc x.far.bad from rfl] at HI
   have c1 := fun W (hW : Below w.heap.size w W) => Right_any x.ref.s x.ref.row x.ref.col x.ref.fr x.ref.fc x.ref.bad W (hg.below hW) h5.1
   have c2 := fun W (hW : Below w.heap.size w W) => Right_any x.far.s x.far.row x.far.col x.far.fr x.far.fc x.far.bad W (hg.below hW) h5.2
   generalize rightB x.ref.s.data.toList x.ref.row x.ref.col x.ref.fr x.ref.fc x.ref.bad = A1 at c1 HI
   go_upto_region 16 with (fail)
   refine two_in ⟨hb, q, r⟩ ?_
   clear hb q r fq g d y
   rintro w3 ⟨hb, q, r⟩ hHeld
   obtain ⟨g, d, y⟩ := lie_cell r
   refine tk 0 hHeld ?_
   refine wpAnyH_take (i := 1) (oi := _) (v := .agg (List.toArray [.string x.ref.s, .int .i64 x.ref.row, .int .i64 x.ref.col, .bool x.ref.fr, .bool x.ref.fc, .bool x.ref.bad])) rfl (by kernel_rfl) (by kernel_rfl) (by kernel_rfl) (fun _ _ _ h => h) ?_ hHeld ?_
   ·exact yieldsIf_load_mid (by rfl) 27 (.tmp 78) rfl w.heap.size 6 rfl [.string x.ref.s, .int .i64 x.ref.row, .int .i64 x.ref.col, .bool x.ref.fr, .bool x.ref.fc, .bool x.ref.bad] _ (fun w' hSw => range_of hSw rfl) underlying27 rfl cellsRef
   simp only [List.getElem_toArray, List.getElem_cons_succ, List.getElem_cons_zero, Act.put, List.setIfInBounds_toArray, List.set_cons_zero, List.set_cons_succ]
   refine tk 2 hHeld ?_
   refine wpAnyH_take (i := 3) (oi := _) (v := .agg (List.toArray [.string x.far.s, .int .i64 x.far.row, .int .i64 x.far.col, .bool x.far.fr, .bool x.far.fc, .bool x.far.bad])) rfl (by kernel_rfl) (by kernel_rfl) (by kernel_rfl) (fun _ _ _ h => h) ?_ hHeld ?_
   ·exact yieldsIf_load_mid (by rfl) 27 (.tmp 80) rfl w.heap.size 12 rfl [.string x.far.s, .int .i64 x.far.row, .int .i64 x.far.col, .bool x.far.fr, .bool x.far.fc, .bool x.far.bad] _ (fun w' hSw => range_of hSw rfl) underlying27 rfl cellsRef
   simp only [List.getElem_toArray, List.getElem_cons_succ, List.getElem_cons_zero, Act.put, List.setIfInBounds_toArray, List.set_cons_zero, List.set_cons_succ]
   refine tk 4 hHeld ?_
   refine ar 5 fun K1 hK1 => ?_
   rw [if_pos (by rfl)]
   refine wp_store_mid 27 (.tmp 82) (.tmp 79) rfl B 6 (List.toArray [.string x.ref.s, .int .i64 x.ref.row, .int .i64 x.ref.col, .bool x.ref.fr, .bool x.ref.fc, .bool x.ref.bad]) rfl rfl (part_there r (Nat.le_of_ble_eq_true rfl)) cellsRef (oneRef _) ?_
   simp only [Act.put, List.setIfInBounds_toArray]
   refine hk2 hK1 (Two.sets (C' := fB 6 0 0 [] 0 0 x.ref RefD.zero) ⟨hb, q, r⟩ hsB hne) ?_
   clear hHeld hK1 K1 hb q r g d y
   rintro w3 ⟨hb, q, r⟩ hHeld
   obtain ⟨g, d, y⟩ := lie_cell r
   refine tk 6 hHeld ?_
   refine ar 7 fun K1 hK1 => ?_
   rw [if_pos (by rfl)]
   refine wp_store_mid 27 (.tmp 83) (.tmp 81) rfl B 12 (List.toArray [.string x.far.s, .int .i64 x.far.row, .int .i64 x.far.col, .bool x.far.fr, .bool x.far.fc, .bool x.far.bad]) rfl rfl (part_there r (Nat.le_of_ble_eq_true rfl)) cellsRef (oneRef _) ?_
   simp only [Act.put, List.setIfInBounds_toArray]
   refine hk2 hK1 (Two.sets (C' := fB 6 0 0 [] 0 0 x.ref x.far) ⟨hb, q, r⟩ hsB hne) ?_
   clear hHeld hK1 K1 hb q r g d y
   rintro w3 ⟨hb, q, r⟩ hHeld
   obtain ⟨g, d, y⟩ := lie_cell r
   refine wpAnyH_done (by kernel_rfl) ?_ _
   clear hHeld g d y
   obtain ⟨fq, -, z⟩ := lie_cell q
   go_upto_region 17 with (fail)
   go_wp2_with fail
   refine (c1 _ hb).mono ?_; rintro e wc ⟨rfl, hbx⟩
   have t := Two.more ⟨hb, q, r⟩ hbx
   clear hb q r fq hbx
   obtain ⟨hb, q, r⟩ := t
   obtain ⟨fq, -, z⟩ := lie_cell q
   cases A1
   ·
    go_wp2
    go_meet
    rw [<- HO.out, HI.out, HW.out]
    exact ⟨rfl, hb, q, r⟩
   go_wp2_with fail
   refine (c2 _ hb).mono ?_; rintro e wc ⟨rfl, hbx⟩
   have t := Two.more ⟨hb, q, r⟩ hbx
   clear hb q r fq hbx
   obtain ⟨hb, q, r⟩ := t
   obtain ⟨fq, -, z⟩ := lie_cell q
   go_wp2
   go_meet
   rw [<- HO.out, HI.out, HW.out]
   exact ⟨rfl, hb, q, r⟩
  ·
   have HI := Lib.hid (show okI x b blocks behind = (true) by unfold okI; simp only [HK.out]; rfl)
   have HW := Lib.hid (show bareI x = { op := 7 } by unfold bareI; simp only [HK.out]; rfl)
   go_wp2
   go_meet
   rw [<- HO.out, HI.out, HW.out]
   exact ⟨rfl, hb, q, r⟩
 case rest =>
  obtain ⟨rfl, hbE, qE, rE⟩ := hcut
  clear Hk HK HO hb q r fq g d hg h1 h2 h3 h4 h5
  have hEq := HEq.out
  clear HEq
  cases OKV
  ·go_wp2
   go_ret; exact Ret.mk' rfl hbE
  go_upto_region 47 with (fail)
  refine wp_region_lit ?_
  iterate 2 refine st ?_
  refine wpList_want (by rfl) (fun KK hKK => ?_)
  refine wp_load_row 43 (.tmp 4) rfl w.heap.size rfl 43 (List.toArray (fX (K) x)) (0, 0) _ qE underlying43 rfl (by exact cellsIns) ?_
  refine hKK _ _ ?_; clear hKK KK
  refine wpList_want (by rfl) (fun KK hKK => ?_)
  refine wp_load_row 43 (.tmp 10) rfl B rfl 43 (List.toArray (insC (bareI x))) (0, 0) _ rE underlying43 rfl (by exact cellsIns) ?_
  refine hKK _ _ ?_; clear hKK KK
  refine wpList_want (by rfl) (fun KK hKK => ?_)
  refine wp_eql_struct rfl rfl rfl guardIns (hEq _) ?_
  refine hKK _ _ ?_; clear hKK KK
  clear hEq
  cases SM
  all_goals (
   iterate 2 refine st ?_
   refine wpList_nil ?_
   go_wp2
   go_ret; exact Ret.mk' rfl hbE)
end Go.Proofs.YtlpgigdegnbkmaaGreatDoor
