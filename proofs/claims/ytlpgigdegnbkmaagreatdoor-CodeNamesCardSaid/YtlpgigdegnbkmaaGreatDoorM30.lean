import Derived.Test.YtlpgigdegnbkmaaGreatDoorM28
set_option maxRecDepth 100000
set_option maxHeartbeats 8000000
namespace Go.Proofs.YtlpgigdegnbkmaaGreatDoor
open Go.RowKit Tab Tryz
theorem fields_b (x : InsD) (b blocks behind : Int) (h : FOk x b blocks behind) (w : World) (_hg : Good w) (hk : x.op = 8 \/ x.op = 9 \/ x.op = 10 \/ x.op = 11 \/ x.op = 12 \/ x.op = 13) : Calls prog 26 #[insV x, .int .i64 b, .int .i64 blocks, .int .i64 behind] w (Ret (.bool (fieldsC x b blocks behind)) w) := by
 have hEq := insEq_run 9997 x (bareI x)
 unfold fieldsC
 obtain ⟨h1, h2, h3, h4, h5⟩ := h
 generalize sameI x (bareI x) = SM at *
 obtain ⟨OKV, hO⟩ : ∃ o, okI x b blocks behind = o := ⟨_, rfl⟩
 rw [hO]
 have HO := Lib.hid hO
 obtain ⟨K, hK⟩ : ∃ K, x.op = K := ⟨_, rfl⟩
 unfold insV at hEq ⊢
 rw [hK] at hk hEq ⊢
 have HK := Lib.hid hK
 have Hk := Lib.hid hk
 have HEq := Lib.hid hEq
 clear hk hK hEq hO
 go_enter func26, ntmps26
 go_upto_region 1 with (fail)
 refine wp_abs2 (On1 43 w (List.toArray (fX (K) x))) ⟨belx, heap_alloc_new _ _⟩ ?_
 rintro w1 ⟨hb1, q1⟩
 obtain ⟨f1, -, z1⟩ := lie_cell q1
 go_upto_region 2 with (fail)
 refine wp_region_lit ?_
 iterate 4 refine st ?_
 refine wpList_store_mid rfl 43 (.tmp 10) (.tmp 18) rfl w1.heap.size 0 _ rfl rfl (whole_there (heap_alloc_new _ _) rfl) cellsIns (all_oneCell_toArray (cs := insC { op := K }) (insC_one _)) ?_
 refine wpList_abs (On1 43 w1 (List.toArray (fZ (K)))) ⟨below_cells _ _ _ _ _ ((Below.refl _ _).alloc (Nat.le_refl _) _), box_whole (heap_alloc_new _ _) rfl⟩ ?_
 rintro w2 ⟨hb12, r⟩
 have q := (hb12.block _ z1).trans q1
 have hb := after hb1 hb12
 obtain ⟨B, hB⟩ : ∃ B, w1.heap.size = B := ⟨_, rfl⟩
 rw [hB] at r z1
 have hsB : w.heap.size <= B := Nat.le_of_lt z1
 have hne : ¬ w.heap.size = B := by omega
 have hne2 : ¬ B = w.heap.size := by omega
 clear f1 hb12 hb1 q1
 iterate 1 refine st ?_
 refine wpList_nil ?_
 obtain ⟨fq, -, z⟩ := lie_cell q
 obtain ⟨g, d, y⟩ := lie_cell r
 go_upto_block 0 with (fail)
 go_cut [11] from 12 (fun si wx => si = .bool OKV /\ Two 43 w B (fX (K) x) (insC (bareI x)) wx)
 case first =>
  have hk := Hk.out
  clear Hk HEq
  rcases hk with rfl | rfl | rfl | rfl | rfl | rfl
  ·
   have HI := Lib.hid (show okI x b blocks behind = (opsB.contains x.s) by unfold okI; simp only [HK.out]; rfl)
   have HW := Lib.hid (show bareI x = { op := 8, s := x.s } by unfold bareI; simp only [HK.out]; rfl)
   go_upto_region 21 with (fail)
   refine two_in ⟨hb, q, r⟩ ?_
   clear hb q r fq g d y
   rintro w3 ⟨hb, q, r⟩ hHeld
   obtain ⟨g, d, y⟩ := lie_cell r
   refine tk 0 hHeld ?_
   refine tk 1 hHeld ?_
   refine tk 3 hHeld ?_
   refine tk 4 hHeld ?_
   refine tk 6 hHeld ?_
   refine ar 2 fun K1 hK1 => ?_
   go_simp
   have hba : Below w3.heap.size w3 (w3.alloc (.cells opsV.toArray 9)) := allocB (Below.refl _ w3)
   refine hk2 hK1 (R := fun W => Two 43 w B (fX (8) x) (fZ (8)) W /\ W.heap[w3.heap.size]? = some (.cells opsV.toArray 9 (0, 0))) ⟨Two.more ⟨hb, q, r⟩ hba, heap_alloc_new w3 _⟩ ?_ (fun _ t => (lie_cell t.1.2.1).1)
   clear hHeld hK1 K1 hb q r g d y hba
   rintro w4 ⟨⟨hb, q, r⟩, n4⟩ hHeld
   obtain ⟨g, d, y⟩ := lie_cell r
   have cC := fun c => hasOp_any x.s w3.heap.size c w4 _ n4
   generalize opsB.contains x.s = CO at cC HI
   clear n4
   refine ar 5 fun K1 hK1 => ?_
   go_simp
   refine (cC _).mono ?_; rintro e w5 ⟨rfl, rfl⟩
   dsimp only
   refine hK1.out _ _ hHeld (fun hHeld => ?_)
   clear hK1 K1 cC
   refine ar 7 fun K1 hK1 => ?_
   go_simp
   refine hk2 hK1 (Two.set (C' := fB 8 0 0 x.s 0 0 RefD.zero RefD.zero) ⟨hb, q, r⟩ hsB hne) ?_
   clear hHeld hK1 K1 hb q r g d y
   rintro w3 ⟨hb, q, r⟩ hHeld
   obtain ⟨g, d, y⟩ := lie_cell r
   refine tk 8 hHeld ?_
   refine wpAnyH_done (by kernel_rfl) ?_ _
   clear hHeld g d y
   go_wp2
   go_meet
   rw [<- HO.out, HI.out, HW.out]
   exact ⟨rfl, hb, q, r⟩
  ·
   have HI := Lib.hid (show okI x b blocks behind = ((x.s == [43]) || (x.s == [45])) by unfold okI; simp only [HK.out]; rfl)
   have HW := Lib.hid (show bareI x = { op := 9, s := x.s } by unfold bareI; simp only [HK.out]; rfl)
   obtain ⟨E1, qE1⟩ : ∃ E, (x.s == [43]) = E := ⟨_, rfl⟩
   rw [qE1] at HI
   cases E1
   ·
    go_upto_region 23 with (fail)
    refine two_in ⟨hb, q, r⟩ ?_
    clear hb q r fq g d y
    rintro w3 ⟨hb, q, r⟩ hHeld
    obtain ⟨g, d, y⟩ := lie_cell r
    refine tk 0 hHeld ?_
    refine tk 1 hHeld ?_
    refine tk 2 hHeld ?_
    refine tk 3 hHeld ?_
    refine tk 4 hHeld ?_
    refine tk 5 hHeld ?_
    refine tk 6 hHeld ?_
    refine tk 7 hHeld ?_
    refine tk 8 hHeld ?_
    refine tk 9 hHeld ?_
    refine tk 10 hHeld ?_
    refine ar 11 fun K1 hK1 => ?_
    go_simp
    refine hk2 hK1 (Two.set (C' := fB 9 0 0 x.s 0 0 RefD.zero RefD.zero) ⟨hb, q, r⟩ hsB hne) ?_
    clear hHeld hK1 K1 hb q r g d y
    rintro w3 ⟨hb, q, r⟩ hHeld
    obtain ⟨g, d, y⟩ := lie_cell r
    refine tk 12 hHeld ?_
    refine wpAnyH_done (by kernel_rfl) ?_ _
    clear hHeld g d y
    go_wp2
    go_meet
    rw [<- HO.out, HI.out, HW.out]
    exact ⟨rfl, hb, q, r⟩
   ·
    go_upto_region 23 with (fail)
    refine two_in ⟨hb, q, r⟩ ?_
    clear hb q r fq g d y
    rintro w3 ⟨hb, q, r⟩ hHeld
    obtain ⟨g, d, y⟩ := lie_cell r
    refine tk 0 hHeld ?_
    refine tk 1 hHeld ?_
    refine tk 2 hHeld ?_
    refine tk 3 hHeld ?_
    refine tk 4 hHeld ?_
    refine tk 5 hHeld ?_
    refine tk 6 hHeld ?_
    refine tk 7 hHeld ?_
    refine tk 8 hHeld ?_
    refine tk 9 hHeld ?_
    refine tk 10 hHeld ?_
    refine ar 11 fun K1 hK1 => ?_
    go_simp
    refine hk2 hK1 (Two.set (C' := fB 9 0 0 x.s 0 0 RefD.zero RefD.zero) ⟨hb, q, r⟩ hsB hne) ?_
    clear hHeld hK1 K1 hb q r g d y
    rintro w3 ⟨hb, q, r⟩ hHeld
    obtain ⟨g, d, y⟩ := lie_cell r
    refine tk 12 hHeld ?_
    refine wpAnyH_done (by kernel_rfl) ?_ _
    clear hHeld g d y
    go_wp2
    go_meet
    rw [<- HO.out, HI.out, HW.out]
    exact ⟨rfl, hb, q, r⟩
  ·
   have HI := Lib.hid (show okI x b blocks behind = (x.s == [37]) by unfold okI; simp only [HK.out]; rfl)
   have HW := Lib.hid (show bareI x = { op := 10, s := x.s } by unfold bareI; simp only [HK.out]; rfl)
   go_upto_region 25 with (fail)
   refine two_in ⟨hb, q, r⟩ ?_
   clear hb q r fq g d y
   rintro w3 ⟨hb, q, r⟩ hHeld
   obtain ⟨g, d, y⟩ := lie_cell r
   refine tk 0 hHeld ?_
   refine tk 1 hHeld ?_
   refine tk 2 hHeld ?_
   refine tk 3 hHeld ?_
   refine tk 4 hHeld ?_
   refine tk 5 hHeld ?_
   refine ar 6 fun K1 hK1 => ?_
   go_simp
   refine hk2 hK1 (Two.set (C' := fB 10 0 0 x.s 0 0 RefD.zero RefD.zero) ⟨hb, q, r⟩ hsB hne) ?_
   clear hHeld hK1 K1 hb q r g d y
   rintro w3 ⟨hb, q, r⟩ hHeld
   obtain ⟨g, d, y⟩ := lie_cell r
   refine tk 7 hHeld ?_
   refine wpAnyH_done (by kernel_rfl) ?_ _
   clear hHeld g d y
   go_wp2
   go_meet
   rw [<- HO.out, HI.out, HW.out]
   exact ⟨rfl, hb, q, r⟩
  ·
   have HI := Lib.hid (show okI x b blocks behind = (namedB x.s && winD x.a 0 400) by unfold okI; simp only [HK.out]; rfl)
   have HW := Lib.hid (show bareI x = { op := 11, s := x.s, a := x.a } by unfold bareI; simp only [HK.out]; rfl)
   have c1 := fun W (hW : Below w.heap.size w W) => namedS x.s W h2
   have c2 := fun W (hW : Below w.heap.size w W) => (win_any x.a 0 400 W).mono fun _ _ h => h.ret
   generalize namedB x.s = A1 at c1 HI
   go_upto_region 27 with (fail)
   refine two_in ⟨hb, q, r⟩ ?_
   clear hb q r fq g d y
   rintro w3 ⟨hb, q, r⟩ hHeld
   obtain ⟨g, d, y⟩ := lie_cell r
   refine tk 0 hHeld ?_
   refine tk 1 hHeld ?_
   refine tk 2 hHeld ?_
   refine tk 3 hHeld ?_
   refine tk 4 hHeld ?_
   refine ar 5 fun K1 hK1 => ?_
   go_simp
   refine hk2 hK1 (Two.set (C' := fB 11 0 0 x.s 0 0 RefD.zero RefD.zero) ⟨hb, q, r⟩ hsB hne) ?_
   clear hHeld hK1 K1 hb q r g d y
   rintro w3 ⟨hb, q, r⟩ hHeld
   obtain ⟨g, d, y⟩ := lie_cell r
   refine tk 6 hHeld ?_
   refine ar 7 fun K1 hK1 => ?_
   go_simp
   refine hk2 hK1 (Two.set (C' := fB 11 x.a 0 x.s 0 0 RefD.zero RefD.zero) ⟨hb, q, r⟩ hsB hne) ?_
   clear hHeld hK1 K1 hb q r g d y
   rintro w3 ⟨hb, q, r⟩ hHeld
   obtain ⟨g, d, y⟩ := lie_cell r
   refine wpAnyH_done (by kernel_rfl) ?_ _
   clear hHeld g d y
   obtain ⟨fq, -, z⟩ := lie_cell q
   go_upto_region 28 with (fail)
   go_wp2_with fail
   refine (c1 _ hb).mono ?_; rintro e wc ⟨rfl, hbx⟩
   have t := Two.more ⟨hb, q, r⟩ hbx
   clear hb q r fq hbx
   obtain ⟨hb, q, r⟩ := t
   obtain ⟨fq, -, z⟩ := lie_cell q
   cases A1
   ·
    go_wp2
    go_meet
    rw [<- HO.out, HI.out, HW.out]
    exact ⟨rfl, hb, q, r⟩
   go_wp2_with fail
   refine (c2 _ hb).mono ?_; rintro e wc ⟨rfl, hbx⟩
   have t := Two.more ⟨hb, q, r⟩ hbx
   clear hb q r fq hbx
   obtain ⟨hb, q, r⟩ := t
   obtain ⟨fq, -, z⟩ := lie_cell q
   go_wp2
   go_meet
   rw [<- HO.out, HI.out, HW.out]
   exact ⟨rfl, hb, q, r⟩
  ·
   have HI := Lib.hid (show okI x b blocks behind = (winD x.a 1 400 && winD x.b 1 400) by unfold okI; simp only [HK.out]; rfl)
   have HW := Lib.hid (show bareI x = { op := 12, a := x.a, b := x.b } by unfold bareI; simp only [HK.out]; rfl)
   have c1 := fun W (hW : Below w.heap.size w W) => (win_any x.a 1 400 W).mono fun _ _ h => h.ret
   have c2 := fun W (hW : Below w.heap.size w W) => (win_any x.b 1 400 W).mono fun _ _ h => h.ret
   generalize winD x.a 1 400 = A1 at c1 HI
   go_upto_region 30 with (fail)
   refine two_in ⟨hb, q, r⟩ ?_
   clear hb q r fq g d y
   rintro w3 ⟨hb, q, r⟩ hHeld
   obtain ⟨g, d, y⟩ := lie_cell r
   refine tk 0 hHeld ?_
   refine tk 1 hHeld ?_
   refine tk 2 hHeld ?_
   refine tk 3 hHeld ?_
   refine tk 4 hHeld ?_
   refine ar 5 fun K1 hK1 => ?_
   go_simp
   refine hk2 hK1 (Two.set (C' := fB 12 x.a 0 [] 0 0 RefD.zero RefD.zero) ⟨hb, q, r⟩ hsB hne) ?_
   clear hHeld hK1 K1 hb q r g d y
   rintro w3 ⟨hb, q, r⟩ hHeld
   obtain ⟨g, d, y⟩ := lie_cell r
   refine tk 6 hHeld ?_
   refine ar 7 fun K1 hK1 => ?_
   go_simp
   refine hk2 hK1 (Two.set (C' := fB 12 x.a x.b [] 0 0 RefD.zero RefD.zero) ⟨hb, q, r⟩ hsB hne) ?_
   clear hHeld hK1 K1 hb q r g d y
   rintro w3 ⟨hb, q, r⟩ hHeld
   obtain ⟨g, d, y⟩ := lie_cell r
   refine wpAnyH_done (by kernel_rfl) ?_ _
   clear hHeld g d y
   obtain ⟨fq, -, z⟩ := lie_cell q
   go_upto_region 31 with (fail)
   go_wp2_with fail
   refine (c1 _ hb).mono ?_; rintro e wc ⟨rfl, hbx⟩
   have t := Two.more ⟨hb, q, r⟩ hbx
   clear hb q r fq hbx
   obtain ⟨hb, q, r⟩ := t
   obtain ⟨fq, -, z⟩ := lie_cell q
   cases A1
   ·
    go_wp2
    go_meet
    rw [<- HO.out, HI.out, HW.out]
    exact ⟨rfl, hb, q, r⟩
   go_wp2_with fail
   refine (c2 _ hb).mono ?_; rintro e wc ⟨rfl, hbx⟩
   have t := Two.more ⟨hb, q, r⟩ hbx
   clear hb q r fq hbx
   obtain ⟨hb, q, r⟩ := t
   obtain ⟨fq, -, z⟩ := lie_cell q
   go_wp2
   go_meet
   rw [<- HO.out, HI.out, HW.out]
   exact ⟨rfl, hb, q, r⟩
  ·
   have HI := Lib.hid (show okI x b blocks behind = (winD x.a 0 behind && winD x.b 0 behind) by unfold okI; simp only [HK.out]; rfl)
   have HW := Lib.hid (show bareI x = { op := 13, a := x.a, b := x.b } by unfold bareI; simp only [HK.out]; rfl)
   have c1 := fun W (hW : Below w.heap.size w W) => (win_any x.a 0 behind W).mono fun _ _ h => h.ret
   have c2 := fun W (hW : Below w.heap.size w W) => (win_any x.b 0 behind W).mono fun _ _ h => h.ret
   generalize winD x.a 0 behind = A1 at c1 HI
   go_upto_region 33 with (fail)
   refine two_in ⟨hb, q, r⟩ ?_
   clear hb q r fq g d y
   rintro w3 ⟨hb, q, r⟩ hHeld
   obtain ⟨g, d, y⟩ := lie_cell r
   refine tk 0 hHeld ?_
   refine tk 1 hHeld ?_
   refine tk 2 hHeld ?_
   refine tk 3 hHeld ?_
   refine tk 4 hHeld ?_
   refine ar 5 fun K1 hK1 => ?_
   go_simp
   refine hk2 hK1 (Two.set (C' := fB 13 x.a 0 [] 0 0 RefD.zero RefD.zero) ⟨hb, q, r⟩ hsB hne) ?_
   clear hHeld hK1 K1 hb q r g d y
   rintro w3 ⟨hb, q, r⟩ hHeld
   obtain ⟨g, d, y⟩ := lie_cell r
   refine tk 6 hHeld ?_
   refine ar 7 fun K1 hK1 => ?_
   go_simp
   refine hk2 hK1 (Two.set (C' := fB 13 x.a x.b [] 0 0 RefD.zero RefD.zero) ⟨hb, q, r⟩ hsB hne) ?_
   clear hHeld hK1 K1 hb q r g d y
   rintro w3 ⟨hb, q, r⟩ hHeld
   obtain ⟨g, d, y⟩ := lie_cell r
   refine wpAnyH_done (by kernel_rfl) ?_ _
   clear hHeld g d y
   obtain ⟨fq, -, z⟩ := lie_cell q
   go_upto_region 34 with (fail)
   go_wp2_with fail
   refine (c1 _ hb).mono ?_; rintro e wc ⟨rfl, hbx⟩
   have t := Two.more ⟨hb, q, r⟩ hbx
   clear hb q r fq hbx
   obtain ⟨hb, q, r⟩ := t
   obtain ⟨fq, -, z⟩ := lie_cell q
   cases A1
   ·
    go_wp2
    go_meet
    rw [<- HO.out, HI.out, HW.out]
    exact ⟨rfl, hb, q, r⟩
   go_wp2_with fail
   refine (c2 _ hb).mono ?_; rintro e wc ⟨rfl, hbx⟩
   have t := Two.more ⟨hb, q, r⟩ hbx
   clear hb q r fq hbx
   obtain ⟨hb, q, r⟩ := t
   obtain ⟨fq, -, z⟩ := lie_cell q
   go_wp2
   go_meet
   rw [<- HO.out, HI.out, HW.out]
   exact ⟨rfl, hb, q, r⟩
 case rest =>
  obtain ⟨rfl, hbE, qE, rE⟩ := hcut
  clear Hk HK HO hb q r fq g d h1 h2 h3 h4 h5
  have hEq := HEq.out
  clear HEq
  cases OKV
  ·go_wp2
   go_ret; exact Ret.mk' rfl hbE
  go_upto_region 47 with (fail)
  refine wp_region_lit ?_
  iterate 2 refine st ?_
  refine wpList_want (by rfl) (fun KK hKK => ?_)
  refine wp_load_row 43 (.tmp 4) rfl w.heap.size rfl 43 (List.toArray (fX (K) x)) (0, 0) _ qE underlying43 rfl (by exact cellsIns) ?_
  refine hKK _ _ ?_; clear hKK KK
  refine wpList_want (by rfl) (fun KK hKK => ?_)
  refine wp_load_row 43 (.tmp 10) rfl B rfl 43 (List.toArray (insC (bareI x))) (0, 0) _ rE underlying43 rfl (by exact cellsIns) ?_
  refine hKK _ _ ?_; clear hKK KK
  refine wpList_want (by rfl) (fun KK hKK => ?_)
  refine wp_eql_struct rfl rfl rfl guardIns (hEq _) ?_
  refine hKK _ _ ?_; clear hKK KK
  clear hEq
  cases SM
  all_goals (
   iterate 2 refine st ?_
   refine wpList_nil ?_
   go_wp2
   go_ret; exact Ret.mk' rfl hbE)
end Go.Proofs.YtlpgigdegnbkmaaGreatDoor
