import Derived.Test.YtlpgigdegnbkmaaGreatDoorM28
set_option maxRecDepth 100000
set_option maxHeartbeats 8000000
namespace Go.Proofs.YtlpgigdegnbkmaaGreatDoor
open Go.RowKit Tab Tryz
theorem fields_c (x : InsD) (b blocks behind : Int) (h : FOk x b blocks behind) (w : World) (hg : Good w) (hk : x.op = 14 \/ x.op = 15 \/ x.op = 16 \/ x.op = 17 \/ x.op = 18 \/ x.op = 19 \/ x.op < 1 \/ 19 < x.op) : Calls prog 26 #[insV x, .int .i64 b, .int .i64 blocks, .int .i64 behind] w (Ret (.bool (fieldsC x b blocks behind)) w) := by
 have hEq := insEq_run 9997 x (bareI x)
 unfold fieldsC
 obtain ⟨h1, h2, h3, h4, h5⟩ := h
 generalize sameI x (bareI x) = SM at *
 obtain ⟨OKV, hO⟩ : ∃ o, okI x b blocks behind = o := ⟨_, rfl⟩
 rw [hO]
 have HO := Lib.hid hO
 obtain ⟨K, hK⟩ : ∃ K, x.op = K := ⟨_, rfl⟩
 unfold insV at hEq ⊢
 rw [hK] at hk hEq ⊢
 have HK := Lib.hid hK
 have Hk := Lib.hid hk
 have HEq := Lib.hid hEq
 clear hk hK hEq hO
 go_enter func26, ntmps26
 go_upto_region 1 with (fail)
 refine wp_abs2 (On1 43 w (List.toArray (fX (K) x))) ⟨belx, heap_alloc_new _ _⟩ ?_
 rintro w1 ⟨hb1, q1⟩
 obtain ⟨f1, -, z1⟩ := lie_cell q1
 go_upto_region 2 with (fail)
 refine wp_region_lit ?_
 iterate 4 refine st ?_
 refine wpList_store_mid rfl 43 (.tmp 10) (.tmp 18) rfl w1.heap.size 0 _ rfl rfl (whole_there (heap_alloc_new _ _) rfl) cellsIns (all_oneCell_toArray (cs := insC { op := K }) (insC_one _)) ?_
 refine wpList_abs (On1 43 w1 (List.toArray (fZ (K)))) ⟨below_cells _ _ _ _ _ ((Below.refl _ _).alloc (Nat.le_refl _) _), box_whole (heap_alloc_new _ _) rfl⟩ ?_
 rintro w2 ⟨hb12, r⟩
 have q := (hb12.block _ z1).trans q1
 have hb := after hb1 hb12
 obtain ⟨B, hB⟩ : ∃ B, w1.heap.size = B := ⟨_, rfl⟩
 rw [hB] at r z1
 have hsB : w.heap.size <= B := Nat.le_of_lt z1
 have hne : ¬ w.heap.size = B := by omega
 have hne2 : ¬ B = w.heap.size := by omega
 clear f1 hb12 hb1 q1
 iterate 1 refine st ?_
 refine wpList_nil ?_
 obtain ⟨fq, -, z⟩ := lie_cell q
 obtain ⟨g, d, y⟩ := lie_cell r
 go_upto_block 0 with (fail)
 go_cut [11] from 12 (fun si wx => si = .bool OKV /\ Two 43 w B (fX (K) x) (insC (bareI x)) wx)
 case first =>
  have hk := Hk.out
  clear Hk HEq
  rcases hk with rfl | rfl | rfl | rfl | rfl | rfl | hk
  ·
   have HI := Lib.hid (show okI x b blocks behind = (winD x.a 0 behind) by unfold okI; simp only [HK.out]; rfl)
   have HW := Lib.hid (show bareI x = { op := 14, a := x.a } by unfold bareI; simp only [HK.out]; rfl)
   have cC := (fun W (hW : Below w2.heap.size w2 W) => (win_any x.a 0 behind W).mono fun _ _ h => h.ret)
   go_upto_region 36 with (fail)
   have kcc := gcell w2
   refine region_below_tail 8 (by kernel_rfl) (by kernel_rfl) ?_
   simp only [List.take_succ_cons, List.take_zero, List.drop_succ_cons, List.drop_zero]
   iterate 8 (quiet_step (exact Ret.grown cC))
   refine wpQuiet_nil ?_
   intro w4 hbx
   have t := Two.more ⟨hb, q, r⟩ hbx
   clear hb q r fq g d y kcc hbx
   obtain ⟨hb, q, r⟩ := t
   obtain ⟨g, d, y⟩ := lie_cell r
   refine st ?_
   refine wpList_abs (Two 43 w B (fX (14) x) (fB 14 x.a 0 [] 0 0 RefD.zero RefD.zero)) (Two.set ⟨hb, q, r⟩ hsB hne) ?_
   clear hb q r g d y
   rintro w5 ⟨hb, q, r⟩
   iterate 1 refine st ?_
   refine wpList_nil ?_
   go_wp2
   go_meet
   rw [<- HO.out, HI.out, HW.out]
   exact ⟨rfl, hb, q, r⟩
  ·
   have HI := Lib.hid (show okI x b blocks behind = (funcB x.s && winD x.a (b + 1) (blocks - 1)) by unfold okI; simp only [HK.out]; rfl)
   have HW := Lib.hid (show bareI x = { op := 15, s := x.s, a := x.a } by unfold bareI; simp only [HK.out]; rfl)
   have cC := fun W (hW : Below w.heap.size w W) => cut_any x.s 59 W (hg.below hW) (by omega)
   have hcl := cut_lens x.s [59]
   unfold funcB at HI
   obtain ⟨H, N, has, hcut⟩ : ∃ H N has, Lib.cut x.s [59] = (H, N, has) := ⟨_, _, _, rfl⟩
   rw [hcut] at cC hcl HI
   dsimp only at cC hcl HI
   have cL := fun W (hW : Below w.heap.size w W) => listed_any H 40 W (hg.below hW) (by omega)
   have cN := fun W (hW : Below w.heap.size w W) => namedS N W (by omega)
   have cW := fun W (hW : Below w.heap.size w W) => (win_any x.a (b + 1) (blocks - 1) W).mono fun _ _ h => h.ret
   have ew1 : IntKind.i64.wrap (b + 1) = b + 1 := by rw [IntWalk.i64_in _ (by omega)]
   have ew2 : IntKind.i64.wrap (blocks - 1) = blocks - 1 := by rw [IntWalk.i64_in _ (by omega)]
   generalize listedB H 40 = A1 at cL HI
   generalize namedB N = A2 at cN HI
   generalize winD x.a (b + 1) (blocks - 1) = A3 at cW HI
   clear hcut hcl h3 h4
   go_wp2_with fail
   refine (cC _ hb).mono ?_; rintro e w2b ⟨rfl, hbx⟩
   have t := Two.more ⟨hb, q, r⟩ hbx
   clear hb q r fq g d y hbx z
   obtain ⟨hb, q, r⟩ := t
   obtain ⟨fq, -, z⟩ := lie_cell q
   obtain ⟨g, d, y⟩ := lie_cell r
   go_upto_region 39 with (fail)
   refine two_in ⟨hb, q, r⟩ ?_
   clear hb q r fq g d y
   rintro w3 ⟨hb, q, r⟩ hHeld
   obtain ⟨g, d, y⟩ := lie_cell r
   refine tk 0 hHeld ?_
   refine tk 1 hHeld ?_
   refine tk 2 hHeld ?_
   refine tk 3 hHeld ?_
   refine tk 4 hHeld ?_
   refine ar 5 fun K1 hK1 => ?_
   go_simp
   refine hk2 hK1 (Two.set (C' := fB 15 0 0 x.s 0 0 RefD.zero RefD.zero) ⟨hb, q, r⟩ hsB hne) ?_
   clear hHeld hK1 K1 hb q r g d y
   rintro w3 ⟨hb, q, r⟩ hHeld
   obtain ⟨g, d, y⟩ := lie_cell r
   refine tk 6 hHeld ?_
   refine ar 7 fun K1 hK1 => ?_
   go_simp
   refine hk2 hK1 (Two.set (C' := fB 15 x.a 0 x.s 0 0 RefD.zero RefD.zero) ⟨hb, q, r⟩ hsB hne) ?_
   clear hHeld hK1 K1 hb q r g d y
   rintro w3 ⟨hb, q, r⟩ hHeld
   obtain ⟨g, d, y⟩ := lie_cell r
   refine wpAnyH_done (by kernel_rfl) ?_ _
   clear hHeld g d y
   obtain ⟨fq, -, z⟩ := lie_cell q
   go_upto_region 40 with (fail)
   go_wp2_with fail
   refine (cL _ hb).mono ?_; rintro e wc ⟨rfl, hbx⟩
   have t := Two.more ⟨hb, q, r⟩ hbx
   clear hb q r fq hbx
   obtain ⟨hb, q, r⟩ := t
   obtain ⟨fq, -, z⟩ := lie_cell q
   cases A1
   ·
    go_wp2
    go_meet
    rw [<- HO.out, HI.out, HW.out]
    exact ⟨rfl, hb, q, r⟩
   cases has
   ·
    go_wp2_with fail
    refine (cW _ hb).mono ?_; rintro e wc ⟨rfl, hbx⟩
    have t := Two.more ⟨hb, q, r⟩ hbx
    clear hb q r fq hbx
    obtain ⟨hb, q, r⟩ := t
    obtain ⟨fq, -, z⟩ := lie_cell q
    go_wp2
    go_meet
    rw [<- HO.out, HI.out, HW.out]
    exact ⟨rfl, hb, q, r⟩
   go_wp2_with fail
   refine (cN _ hb).mono ?_; rintro e wc ⟨rfl, hbx⟩
   have t := Two.more ⟨hb, q, r⟩ hbx
   clear hb q r fq hbx
   obtain ⟨hb, q, r⟩ := t
   obtain ⟨fq, -, z⟩ := lie_cell q
   cases A2
   ·
    go_wp2
    go_meet
    rw [<- HO.out, HI.out, HW.out]
    exact ⟨rfl, hb, q, r⟩
   go_wp2_with fail
   refine (cW _ hb).mono ?_; rintro e wc ⟨rfl, hbx⟩
   have t := Two.more ⟨hb, q, r⟩ hbx
   clear hb q r fq hbx
   obtain ⟨hb, q, r⟩ := t
   obtain ⟨fq, -, z⟩ := lie_cell q
   go_wp2
   go_meet
   rw [<- HO.out, HI.out, HW.out]
   exact ⟨rfl, hb, q, r⟩
  ·
   have HI := Lib.hid (show okI x b blocks behind = (winD x.a 0 400) by unfold okI; simp only [HK.out]; rfl)
   have HW := Lib.hid (show bareI x = { op := 16, a := x.a } by unfold bareI; simp only [HK.out]; rfl)
   have cC := (fun W (hW : Below w2.heap.size w2 W) => (win_any x.a 0 400 W).mono fun _ _ h => h.ret)
   go_upto_region 43 with (fail)
   have kcc := gcell w2
   refine region_below_tail 7 (by kernel_rfl) (by kernel_rfl) ?_
   simp only [List.take_succ_cons, List.take_zero, List.drop_succ_cons, List.drop_zero]
   iterate 7 (quiet_step (exact Ret.grown cC))
   refine wpQuiet_nil ?_
   intro w4 hbx
   have t := Two.more ⟨hb, q, r⟩ hbx
   clear hb q r fq g d y kcc hbx
   obtain ⟨hb, q, r⟩ := t
   obtain ⟨g, d, y⟩ := lie_cell r
   refine st ?_
   refine wpList_abs (Two 43 w B (fX (16) x) (fB 16 x.a 0 [] 0 0 RefD.zero RefD.zero)) (Two.set ⟨hb, q, r⟩ hsB hne) ?_
   clear hb q r g d y
   rintro w5 ⟨hb, q, r⟩
   iterate 1 refine st ?_
   refine wpList_nil ?_
   go_wp2
   go_meet
   rw [<- HO.out, HI.out, HW.out]
   exact ⟨rfl, hb, q, r⟩
  ·
   have HI := Lib.hid (show okI x b blocks behind = (namedB x.s) by unfold okI; simp only [HK.out]; rfl)
   have HW := Lib.hid (show bareI x = { op := 17, s := x.s } by unfold bareI; simp only [HK.out]; rfl)
   have cC := (fun W (hW : Below w2.heap.size w2 W) => namedS x.s W h2)
   go_upto_region 46 with (fail)
   have kcc := gcell w2
   refine region_below_tail 6 (by kernel_rfl) (by kernel_rfl) ?_
   simp only [List.take_succ_cons, List.take_zero, List.drop_succ_cons, List.drop_zero]
   iterate 6 (quiet_step (exact Ret.grown cC))
   refine wpQuiet_nil ?_
   intro w4 hbx
   have t := Two.more ⟨hb, q, r⟩ hbx
   clear hb q r fq g d y kcc hbx
   obtain ⟨hb, q, r⟩ := t
   obtain ⟨g, d, y⟩ := lie_cell r
   refine st ?_
   refine wpList_abs (Two 43 w B (fX (17) x) (fB 17 0 0 x.s 0 0 RefD.zero RefD.zero)) (Two.set ⟨hb, q, r⟩ hsB hne) ?_
   clear hb q r g d y
   rintro w5 ⟨hb, q, r⟩
   iterate 1 refine st ?_
   refine wpList_nil ?_
   go_wp2
   go_meet
   rw [<- HO.out, HI.out, HW.out]
   exact ⟨rfl, hb, q, r⟩
  ·
   have HI := Lib.hid (show okI x b blocks behind = (namedB x.s) by unfold okI; simp only [HK.out]; rfl)
   have HW := Lib.hid (show bareI x = { op := 18, s := x.s } by unfold bareI; simp only [HK.out]; rfl)
   have cC := (fun W (hW : Below w2.heap.size w2 W) => namedS x.s W h2)
   go_upto_region 46 with (fail)
   have kcc := gcell w2
   refine region_below_tail 6 (by kernel_rfl) (by kernel_rfl) ?_
   simp only [List.take_succ_cons, List.take_zero, List.drop_succ_cons, List.drop_zero]
   iterate 6 (quiet_step (exact Ret.grown cC))
   refine wpQuiet_nil ?_
   intro w4 hbx
   have t := Two.more ⟨hb, q, r⟩ hbx
   clear hb q r fq g d y kcc hbx
   obtain ⟨hb, q, r⟩ := t
   obtain ⟨g, d, y⟩ := lie_cell r
   refine st ?_
   refine wpList_abs (Two 43 w B (fX (18) x) (fB 18 0 0 x.s 0 0 RefD.zero RefD.zero)) (Two.set ⟨hb, q, r⟩ hsB hne) ?_
   clear hb q r g d y
   rintro w5 ⟨hb, q, r⟩
   iterate 1 refine st ?_
   refine wpList_nil ?_
   go_wp2
   go_meet
   rw [<- HO.out, HI.out, HW.out]
   exact ⟨rfl, hb, q, r⟩
  ·
   have HI := Lib.hid (show okI x b blocks behind = (winD x.a 0 400) by unfold okI; simp only [HK.out]; rfl)
   have HW := Lib.hid (show bareI x = { op := 19, a := x.a } by unfold bareI; simp only [HK.out]; rfl)
   have cC := (fun W (hW : Below w2.heap.size w2 W) => (win_any x.a 0 400 W).mono fun _ _ h => h.ret)
   go_upto_region 43 with (fail)
   have kcc := gcell w2
   refine region_below_tail 7 (by kernel_rfl) (by kernel_rfl) ?_
   simp only [List.take_succ_cons, List.take_zero, List.drop_succ_cons, List.drop_zero]
   iterate 7 (quiet_step (exact Ret.grown cC))
   refine wpQuiet_nil ?_
   intro w4 hbx
   have t := Two.more ⟨hb, q, r⟩ hbx
   clear hb q r fq g d y kcc hbx
   obtain ⟨hb, q, r⟩ := t
   obtain ⟨g, d, y⟩ := lie_cell r
   refine st ?_
   refine wpList_abs (Two 43 w B (fX (19) x) (fB 19 x.a 0 [] 0 0 RefD.zero RefD.zero)) (Two.set ⟨hb, q, r⟩ hsB hne) ?_
   clear hb q r g d y
   rintro w5 ⟨hb, q, r⟩
   iterate 1 refine st ?_
   refine wpList_nil ?_
   go_wp2
   go_meet
   rw [<- HO.out, HI.out, HW.out]
   exact ⟨rfl, hb, q, r⟩
  ·
   have hkk : x.op < 1 \/ 19 < x.op := by rw [HK.out]; exact hk
   have HI := Lib.hid (show okI x b blocks behind = false by unfold okI; iterate 19 rw [if_neg (by omega)])
   have HW := Lib.hid (show bareI x = { op := K } by unfold bareI; (iterate 19 rw [if_neg (by omega)]); rw [HK.out])
   have n1 : (K == 1) = false := beq_eq_false_iff_ne.2 (by omega)
   have n2 : (K == 2) = false := beq_eq_false_iff_ne.2 (by omega)
   have n3 : (K == 3) = false := beq_eq_false_iff_ne.2 (by omega)
   have n4 : (K == 4) = false := beq_eq_false_iff_ne.2 (by omega)
   have n5 : (K == 5) = false := beq_eq_false_iff_ne.2 (by omega)
   have n6 : (K == 6) = false := beq_eq_false_iff_ne.2 (by omega)
   have n7 : (K == 7) = false := beq_eq_false_iff_ne.2 (by omega)
   have n8 : (K == 8) = false := beq_eq_false_iff_ne.2 (by omega)
   have n9 : (K == 9) = false := beq_eq_false_iff_ne.2 (by omega)
   have n10 : (K == 10) = false := beq_eq_false_iff_ne.2 (by omega)
   have n11 : (K == 11) = false := beq_eq_false_iff_ne.2 (by omega)
   have n12 : (K == 12) = false := beq_eq_false_iff_ne.2 (by omega)
   have n13 : (K == 13) = false := beq_eq_false_iff_ne.2 (by omega)
   have n14 : (K == 14) = false := beq_eq_false_iff_ne.2 (by omega)
   have n15 : (K == 15) = false := beq_eq_false_iff_ne.2 (by omega)
   have n16 : (K == 16) = false := beq_eq_false_iff_ne.2 (by omega)
   have n17 : (K == 17) = false := beq_eq_false_iff_ne.2 (by omega)
   have n18 : (K == 18) = false := beq_eq_false_iff_ne.2 (by omega)
   have n19 : (K == 19) = false := beq_eq_false_iff_ne.2 (by omega)
   clear hk hkk
   go_wp2
   go_meet
   rw [<- HO.out, HI.out, HW.out]
   exact ⟨rfl, hb, q, r⟩
 case rest =>
  obtain ⟨rfl, hbE, qE, rE⟩ := hcut
  clear Hk HK HO hb q r fq g d hg h1 h2 h3 h4 h5
  have hEq := HEq.out
  clear HEq
  cases OKV
  ·go_wp2
   go_ret; exact Ret.mk' rfl hbE
  go_upto_region 47 with (fail)
  refine wp_region_lit ?_
  iterate 2 refine st ?_
  refine wpList_want (by rfl) (fun KK hKK => ?_)
  refine wp_load_row 43 (.tmp 4) rfl w.heap.size rfl 43 (List.toArray (fX (K) x)) (0, 0) _ qE underlying43 rfl (by exact cellsIns) ?_
  refine hKK _ _ ?_; clear hKK KK
  refine wpList_want (by rfl) (fun KK hKK => ?_)
  refine wp_load_row 43 (.tmp 10) rfl B rfl 43 (List.toArray (insC (bareI x))) (0, 0) _ rE underlying43 rfl (by exact cellsIns) ?_
  refine hKK _ _ ?_; clear hKK KK
  refine wpList_want (by rfl) (fun KK hKK => ?_)
  refine wp_eql_struct rfl rfl rfl guardIns (hEq _) ?_
  refine hKK _ _ ?_; clear hKK KK
  clear hEq
  cases SM
  all_goals (
   iterate 2 refine st ?_
   refine wpList_nil ?_
   go_wp2
   go_ret; exact Ret.mk' rfl hbE)
end Go.Proofs.YtlpgigdegnbkmaaGreatDoor
