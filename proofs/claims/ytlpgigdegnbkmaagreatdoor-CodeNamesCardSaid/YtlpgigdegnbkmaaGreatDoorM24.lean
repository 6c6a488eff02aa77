import Derived.Test.YtlpgigdegnbkmaaGreatDoorM22
set_option maxRecDepth 100000
set_option maxHeartbeats 8000000
namespace Go.Proofs.YtlpgigdegnbkmaaGreatDoor
open Go.RowKit Tab Tryz
theorem bare_b (f : Nat) (n : NodeD) (cs : List Value) (w : World) (hg : Good w) (hn : NodeAt f w cs n) (hk : n.kind = 7 \/ n.kind = 8 \/ n.kind = 9 \/ n.kind = 10 \/ n.kind = 11 \/ n.kind = 13) : Calls prog 50 #[.agg cs.toArray] w (Ret (.bool (bareD n)) w) := by
 cases f with
 | zero => exact hn.elim
 | succ f =>
 obtain ⟨na, nc, rfl, hnc, hs, hkids⟩ := hn
 have hV : bareD n = (isKindD n && sameN n (wantN n)) := by unfold bareD; rw [if_neg (by omega)]
 rw [hV]
 obtain ⟨wn, hwn⟩ : ∃ x, wantN n = x := ⟨_, rfl⟩
 obtain ⟨I, hI⟩ : ∃ x, isKindD n = x := ⟨_, rfl⟩
 rw [hwn, hI]
 unfold sameN
 have hq2 := decEq_run 9998 n.m n.e wn.m wn.e
 have hq5 := refEq_run 9998 n.ref wn.ref
 have hq6 := refEq_run 9998 n.far wn.far
 generalize ((n.m == wn.m) && (n.e == wn.e)) = B2 at hq2 ⊢
 generalize sameR n.ref wn.ref = B5 at hq5 ⊢
 generalize sameR n.far wn.far = B6 at hq6 ⊢
 obtain ⟨B1, hB1⟩ : ∃ B, (n.text == wn.text) = B := ⟨_, rfl⟩
 obtain ⟨B3, hB3⟩ : ∃ B, (n.b == wn.b) = B := ⟨_, rfl⟩
 obtain ⟨B4, hB4⟩ : ∃ B, (n.err == wn.err) = B := ⟨_, rfl⟩
 obtain ⟨B7, hB7⟩ : ∃ B, (n.rows == wn.rows) = B := ⟨_, rfl⟩
 rw [hB1, hB3, hB4, hB7]
 have HB := Lib.hid (And.intro hB1 (And.intro hB3 (And.intro hB4 hB7)))
 have HQ := Lib.hid (And.intro hq2 (And.intro hq5 hq6))
 have HE := Lib.hid (And.intro hI hwn)
 clear hwn hI hB1 hB3 hB4 hB7 hq2 hq5 hq6
 obtain ⟨L, hL⟩ : ∃ L, n.kids.length = L := ⟨_, rfl⟩
 obtain ⟨K, hK⟩ : ∃ K, n.kind = K := ⟨_, rfl⟩
 unfold nodeC
 rw [hK, hL]
 rw [hK] at hk
 have HK := Lib.hid hK
 have Hk := Lib.hid hk
 have HL := Lib.hid hL
 have htl : n.text.length <= 900000 := Nat.le_trans hs.text (by decide)
 have Hnc := Lib.hid hnc
 clear hV hk hnc hK hL
 go_enter func50, ntmps50
 go_upto_region 1 with (fail)
 refine wp_abs2 (On1 30 w (List.toArray (bN (K) n na L nc))) ⟨belx, heap_alloc_new _ _⟩ ?_
 rintro w1 ⟨hb1, q1⟩
 obtain ⟨f1, -, z1⟩ := lie_cell q1
 refine wp_region_lit ?_
 iterate 4 refine st ?_
 refine wpList_store_mid rfl 30 (.tmp 3) (.tmp 7) rfl w1.heap.size 0 (List.toArray (bZ (K))) rfl rfl (whole_there (heap_alloc_new _ _) rfl) cellsNode (all_oneCell_toArray (wantC_one K)) ?_
 refine wpList_abs (On1 30 w1 (List.toArray (bZ (K)))) ⟨below_cells _ _ _ _ _ ((Below.refl _ _).alloc (Nat.le_refl _) _), box_whole (heap_alloc_new _ _) rfl⟩ ?_
 rintro w2 ⟨hb12, r⟩
 refine wpList_nil ?_
 have q := (hb12.block _ z1).trans q1
 have hb := after hb1 hb12
 obtain ⟨B, hB⟩ : ∃ B, w1.heap.size = B := ⟨_, rfl⟩
 rw [hB] at r z1 ⊢
 have hsB : w.heap.size <= B := Nat.le_of_lt z1
 have hne : ¬ w.heap.size = B := by omega
 have hne2 : ¬ B = w.heap.size := by omega
 clear f1 hb12 hb1 q1
 obtain ⟨fq, -, z⟩ := lie_cell q
 obtain ⟨g, d, y⟩ := lie_cell r
 go_upto_block 0 with (fail)
 go_cut [4] from 5 (fun si wx => si = .bool I /\ Two 30 w B (bN (K) n na L nc) (wC K wn) wx)
 case first =>
  have hk := Hk.out
  clear Hk HB HQ
  rcases hk with rfl | rfl | rfl | rfl | rfl | rfl
  ·as_aux_lemma =>
    have HI := Lib.hid (show isKindD n = (isNameD n.text) by unfold isKindD; simp only [HK.out]; rfl)
    have HW := Lib.hid (show wantN n = .mk 7 n.text 0 0 false 0 RefD.zero RefD.zero 0 [] by unfold wantN; simp only [HK.out]; rfl)
    have cC := fun W (h : Below w.heap.size w W) => isNameS n.text W (hg.below h) htl
    go_upto_region 19 with (fail)
    refine two_in ⟨hb, q, r⟩ ?_
    clear hb q r fq g d y
    rintro w3 ⟨hb, q, r⟩ hHeld
    obtain ⟨g, d, y⟩ := lie_cell r
    refine tk 0 hHeld ?_
    refine tk 1 hHeld ?_
    refine tk 2 hHeld ?_
    refine tk 3 hHeld ?_
    refine tk 5 hHeld ?_
    refine ar 4 fun K1 hK1 => ?_
    go_simp
    refine (cC _ hb).mono ?_; rintro e w4 ⟨rfl, hbx⟩
    dsimp only
    refine hk2 hK1 (Two.more ⟨hb, q, r⟩ hbx) ?_
    clear hHeld hK1 K1 hb q r g d y hbx
    rintro w4 ⟨hb, q, r⟩ hHeld
    obtain ⟨g, d, y⟩ := lie_cell r
    refine ar 6 fun K1 hK1 => ?_
    go_simp
    refine hk2 hK1 (Two.set (C' := bW (7) n.text 0 0 false 0 RefD.zero RefD.zero 0) ⟨hb, q, r⟩ hsB hne) ?_
    clear hHeld hK1 K1 hb q r g d y
    rintro w5 ⟨hb, q, r⟩ hHeld
    obtain ⟨g, d, y⟩ := lie_cell r
    refine tk 7 hHeld ?_
    refine wpAnyH_done (by kernel_rfl) ?_ _
    clear hHeld g d y
    go_wp2
    go_meet
    rw [<- HE.out.1, <- HE.out.2, HI.out, HW.out]
    exact ⟨rfl, hb, q, r⟩
  ·as_aux_lemma =>
    have HI := Lib.hid (show isKindD n = (columnD' n.text) by unfold isKindD; simp only [HK.out]; rfl)
    have HW := Lib.hid (show wantN n = .mk 8 n.text 0 0 false 0 RefD.zero RefD.zero 0 [] by unfold wantN; simp only [HK.out]; rfl)
    have cC := fun W (h : Below w.heap.size w W) => column_any' n.text W (hg.below h) htl
    go_upto_region 21 with (fail)
    refine two_in ⟨hb, q, r⟩ ?_
    clear hb q r fq g d y
    rintro w3 ⟨hb, q, r⟩ hHeld
    obtain ⟨g, d, y⟩ := lie_cell r
    refine tk 0 hHeld ?_
    refine tk 1 hHeld ?_
    refine tk 2 hHeld ?_
    refine tk 3 hHeld ?_
    refine tk 5 hHeld ?_
    refine ar 4 fun K1 hK1 => ?_
    go_simp
    refine (cC _ hb).mono ?_; rintro e w4 ⟨rfl, hbx⟩
    dsimp only
    refine hk2 hK1 (Two.more ⟨hb, q, r⟩ hbx) ?_
    clear hHeld hK1 K1 hb q r g d y hbx
    rintro w4 ⟨hb, q, r⟩ hHeld
    obtain ⟨g, d, y⟩ := lie_cell r
    refine ar 6 fun K1 hK1 => ?_
    go_simp
    refine hk2 hK1 (Two.set (C' := bW (8) n.text 0 0 false 0 RefD.zero RefD.zero 0) ⟨hb, q, r⟩ hsB hne) ?_
    clear hHeld hK1 K1 hb q r g d y
    rintro w5 ⟨hb, q, r⟩ hHeld
    obtain ⟨g, d, y⟩ := lie_cell r
    refine tk 7 hHeld ?_
    refine wpAnyH_done (by kernel_rfl) ?_ _
    clear hHeld g d y
    go_wp2
    go_meet
    rw [<- HE.out.1, <- HE.out.2, HI.out, HW.out]
    exact ⟨rfl, hb, q, r⟩
  ·as_aux_lemma =>
    have HI := Lib.hid (show isKindD n = (decide (0 < operD n.text)) by unfold isKindD; simp only [HK.out]; rfl)
    have HW := Lib.hid (show wantN n = .mk 9 n.text 0 0 false 0 RefD.zero RefD.zero 0 [] by unfold wantN; simp only [HK.out]; rfl)
    have cC := fun W (h : Below w.heap.size w W) => (operator_any n.text W).mono fun _ _ h => h.ret
    go_upto_region 23 with (fail)
    refine two_in ⟨hb, q, r⟩ ?_
    clear hb q r fq g d y
    rintro w3 ⟨hb, q, r⟩ hHeld
    obtain ⟨g, d, y⟩ := lie_cell r
    refine tk 0 hHeld ?_
    refine tk 1 hHeld ?_
    refine tk 2 hHeld ?_
    refine tk 3 hHeld ?_
    refine tk 6 hHeld ?_
    refine ar 4 fun K1 hK1 => ?_
    go_simp
    refine (cC _ hb).mono ?_; rintro e w4 ⟨rfl, hbx⟩
    dsimp only
    refine hk2 hK1 (Two.more ⟨hb, q, r⟩ hbx) ?_
    clear hHeld hK1 K1 hb q r g d y hbx
    rintro w4 ⟨hb, q, r⟩ hHeld
    obtain ⟨g, d, y⟩ := lie_cell r
    refine tk 5 hHeld ?_
    refine ar 7 fun K1 hK1 => ?_
    go_simp
    refine hk2 hK1 (Two.set (C' := bW (9) n.text 0 0 false 0 RefD.zero RefD.zero 0) ⟨hb, q, r⟩ hsB hne) ?_
    clear hHeld hK1 K1 hb q r g d y
    rintro w5 ⟨hb, q, r⟩ hHeld
    obtain ⟨g, d, y⟩ := lie_cell r
    refine tk 8 hHeld ?_
    refine wpAnyH_done (by kernel_rfl) ?_ _
    clear hHeld g d y
    go_wp2
    go_meet
    rw [<- HE.out.1, <- HE.out.2, HI.out, HW.out]
    exact ⟨rfl, hb, q, r⟩
  ·as_aux_lemma =>
    have HI := Lib.hid (show isKindD n = ((n.text == [43]) || (n.text == [45])) by unfold isKindD; simp only [HK.out]; rfl)
    have HW := Lib.hid (show wantN n = .mk 10 n.text 0 0 false 0 RefD.zero RefD.zero 0 [] by unfold wantN; simp only [HK.out]; rfl)
    obtain ⟨A, hA⟩ : ∃ B, (n.text == [43]) = B := ⟨_, rfl⟩
    rw [hA] at HI
    cases A
    ·
     go_upto_region 25 with (fail)
     refine two_in ⟨hb, q, r⟩ ?_
     clear hb q r fq g d y
     rintro w3 ⟨hb, q, r⟩ hHeld
     obtain ⟨g, d, y⟩ := lie_cell r
     refine tk 0 hHeld ?_
     refine tk 1 hHeld ?_
     refine tk 2 hHeld ?_
     refine tk 3 hHeld ?_
     refine tk 4 hHeld ?_
     refine tk 5 hHeld ?_
     refine tk 6 hHeld ?_
     refine tk 7 hHeld ?_
     refine tk 8 hHeld ?_
     refine tk 9 hHeld ?_
     refine tk 10 hHeld ?_
     refine ar 11 fun K1 hK1 => ?_
     go_simp
     refine hk2 hK1 (Two.set (C' := bW (10) n.text 0 0 false 0 RefD.zero RefD.zero 0) ⟨hb, q, r⟩ hsB hne) ?_
     clear hHeld hK1 K1 hb q r g d y
     rintro w4 ⟨hb, q, r⟩ hHeld
     obtain ⟨g, d, y⟩ := lie_cell r
     refine tk 12 hHeld ?_
     refine wpAnyH_done (by kernel_rfl) ?_ _
     clear hHeld g d y
     go_wp2
     go_meet
     rw [<- HE.out.1, <- HE.out.2, HI.out, HW.out]
     exact ⟨rfl, hb, q, r⟩
    ·
     go_upto_region 25 with (fail)
     refine two_in ⟨hb, q, r⟩ ?_
     clear hb q r fq g d y
     rintro w3 ⟨hb, q, r⟩ hHeld
     obtain ⟨g, d, y⟩ := lie_cell r
     refine tk 0 hHeld ?_
     refine tk 1 hHeld ?_
     refine tk 2 hHeld ?_
     refine tk 3 hHeld ?_
     refine tk 4 hHeld ?_
     refine tk 5 hHeld ?_
     refine tk 6 hHeld ?_
     refine tk 7 hHeld ?_
     refine tk 8 hHeld ?_
     refine tk 9 hHeld ?_
     refine tk 10 hHeld ?_
     refine ar 11 fun K1 hK1 => ?_
     go_simp
     refine hk2 hK1 (Two.set (C' := bW (10) n.text 0 0 false 0 RefD.zero RefD.zero 0) ⟨hb, q, r⟩ hsB hne) ?_
     clear hHeld hK1 K1 hb q r g d y
     rintro w4 ⟨hb, q, r⟩ hHeld
     obtain ⟨g, d, y⟩ := lie_cell r
     refine tk 12 hHeld ?_
     refine wpAnyH_done (by kernel_rfl) ?_ _
     clear hHeld g d y
     go_wp2
     go_meet
     rw [<- HE.out.1, <- HE.out.2, HI.out, HW.out]
     exact ⟨rfl, hb, q, r⟩
  ·as_aux_lemma =>
    have HI := Lib.hid (show isKindD n = (n.text == [37]) by unfold isKindD; simp only [HK.out]; rfl)
    have HW := Lib.hid (show wantN n = .mk 11 n.text 0 0 false 0 RefD.zero RefD.zero 0 [] by unfold wantN; simp only [HK.out]; rfl)
    go_upto_region 27 with (fail)
    refine two_in ⟨hb, q, r⟩ ?_
    clear hb q r fq g d y
    rintro w3 ⟨hb, q, r⟩ hHeld
    obtain ⟨g, d, y⟩ := lie_cell r
    refine tk 0 hHeld ?_
    refine tk 1 hHeld ?_
    refine tk 2 hHeld ?_
    refine tk 3 hHeld ?_
    refine tk 4 hHeld ?_
    refine tk 5 hHeld ?_
    refine ar 6 fun K1 hK1 => ?_
    go_simp
    refine hk2 hK1 (Two.set (C' := bW (11) n.text 0 0 false 0 RefD.zero RefD.zero 0) ⟨hb, q, r⟩ hsB hne) ?_
    clear hHeld hK1 K1 hb q r g d y
    rintro w4 ⟨hb, q, r⟩ hHeld
    obtain ⟨g, d, y⟩ := lie_cell r
    refine tk 7 hHeld ?_
    refine wpAnyH_done (by kernel_rfl) ?_ _
    clear hHeld g d y
    go_wp2
    go_meet
    rw [<- HE.out.1, <- HE.out.2, HI.out, HW.out]
    exact ⟨rfl, hb, q, r⟩
  ·as_aux_lemma =>
    have HI := Lib.hid (show isKindD n = (decide (1 <= n.rows) && !(n.kids.any fun k => !constD k)) by unfold isKindD; simp only [HK.out]; rfl)
    have HW := Lib.hid (show wantN n = .mk 13 [] 0 0 false 0 RefD.zero RefD.zero n.rows [] by unfold wantN; simp only [HK.out]; rfl)
    have cC := fun W (h : Below w.heap.size w W) => contConst_any f na nc n.kids W Hnc.out (Nat.le_trans hs.kids (by decide)) (kids_below hkids h)
    rw [HL.out] at cC
    generalize (n.kids.any fun k => !constD k) = A at cC HI
    obtain ⟨D, hD⟩ : ∃ B, (decide (1 <= n.rows)) = B := ⟨_, rfl⟩
    rw [hD] at HI
    cases D
    ·
     go_upto_region 31 with (fail)
     refine two_in ⟨hb, q, r⟩ ?_
     clear hb q r fq g d y
     rintro w3 ⟨hb, q, r⟩ hHeld
     obtain ⟨g, d, y⟩ := lie_cell r
     refine tk 0 hHeld ?_
     refine tk 1 hHeld ?_
     refine tk 2 hHeld ?_
     refine tk 3 hHeld ?_
     refine tk 4 hHeld ?_
     refine tk 5 hHeld ?_
     refine tk 6 hHeld ?_
     refine tk 7 hHeld ?_
     refine tk 8 hHeld ?_
     refine tk 9 hHeld ?_
     refine tk 10 hHeld ?_
     refine tk 11 hHeld ?_
     refine ar 12 fun K1 hK1 => ?_
     go_simp
     refine hk2 hK1 (Two.set (C' := bW (13) [] 0 0 false 0 RefD.zero RefD.zero n.rows) ⟨hb, q, r⟩ hsB hne) ?_
     clear hHeld hK1 K1 hb q r g d y
     rintro w4 ⟨hb, q, r⟩ hHeld
     obtain ⟨g, d, y⟩ := lie_cell r
     refine tk 13 hHeld ?_
     refine wpAnyH_done (by kernel_rfl) ?_ _
     clear hHeld g d y
     go_wp2
     go_meet
     rw [<- HE.out.1, <- HE.out.2, HI.out, HW.out]
     exact ⟨rfl, hb, q, r⟩
    ·
     go_upto_region 31 with (fail)
     refine two_in ⟨hb, q, r⟩ ?_
     clear hb q r fq g d y
     rintro w3 ⟨hb, q, r⟩ hHeld
     obtain ⟨g, d, y⟩ := lie_cell r
     refine tk 0 hHeld ?_
     refine tk 1 hHeld ?_
     refine tk 2 hHeld ?_
     refine tk 3 hHeld ?_
     refine tk 4 hHeld ?_
     refine tk 5 hHeld ?_
     refine tk 6 hHeld ?_
     refine tk 7 hHeld ?_
     refine tk 11 hHeld ?_
     refine ar 8 fun K1 hK1 => ?_
     go_simp
     refine (cC _ hb).mono ?_; rintro e w4 ⟨rfl, hbx⟩
     dsimp only
     refine hk2 hK1 (Two.more ⟨hb, q, r⟩ hbx) ?_
     clear hHeld hK1 K1 hb q r g d y hbx
     rintro w4 ⟨hb, q, r⟩ hHeld
     obtain ⟨g, d, y⟩ := lie_cell r
     refine tk 9 hHeld ?_
     refine tk 10 hHeld ?_
     refine ar 12 fun K1 hK1 => ?_
     go_simp
     refine hk2 hK1 (Two.set (C' := bW (13) [] 0 0 false 0 RefD.zero RefD.zero n.rows) ⟨hb, q, r⟩ hsB hne) ?_
     clear hHeld hK1 K1 hb q r g d y
     rintro w5 ⟨hb, q, r⟩ hHeld
     obtain ⟨g, d, y⟩ := lie_cell r
     refine tk 13 hHeld ?_
     refine wpAnyH_done (by kernel_rfl) ?_ _
     clear hHeld g d y
     go_wp2
     go_meet
     rw [<- HE.out.1, <- HE.out.2, HI.out, HW.out]
     exact ⟨rfl, hb, q, r⟩
 case rest => as_aux_lemma =>
  obtain ⟨rfl, hbE, qE, rE⟩ := hcut
  clear Hk HL HK HE hkids hs htl hb q r fq g d hg
  obtain ⟨hB1, hB3, hB4, hB7⟩ := HB.out
  obtain ⟨hq2, hq5, hq6⟩ := HQ.out
  clear HB HQ
  cases I
  ·go_wp2
   go_ret; exact Ret.mk' rfl hbE
  go_upto_region 37 with (fail)
  obtain ⟨fE, -, zE⟩ := lie_cell qE
  obtain ⟨gE, -, yE⟩ := lie_cell rE
  clear qE rE
  refine wp_region_lit ?_
  iterate 2 refine st ?_
  iterate 5 refine sx ?_
  cases B1
  ·go_wp2
   go_ret; exact Ret.mk' rfl hbE
  iterate 2 refine st ?_
  iterate 4 refine sx ?_
  refine wpList_want (by rfl) (fun KK hKK => ?_)
  refine wp_eql_struct rfl rfl rfl guardDec (hq2 _) ?_
  refine hKK _ _ ?_; clear hKK KK hq2
  cases B2
  ·go_wp2
   go_ret; exact Ret.mk' rfl hbE
  iterate 2 refine st ?_
  iterate 5 refine sx ?_
  cases B3
  ·go_wp2
   go_ret; exact Ret.mk' rfl hbE
  iterate 2 refine st ?_
  iterate 5 refine sx ?_
  cases B4
  ·go_wp2
   go_ret; exact Ret.mk' rfl hbE
  iterate 2 refine st ?_
  iterate 4 refine sx ?_
  refine wpList_want (by rfl) (fun KK hKK => ?_)
  refine wp_eql_struct rfl rfl rfl guardRef (hq5 _) ?_
  refine hKK _ _ ?_; clear hKK KK hq5
  cases B5
  ·go_wp2
   go_ret; exact Ret.mk' rfl hbE
  iterate 2 refine st ?_
  iterate 4 refine sx ?_
  refine wpList_want (by rfl) (fun KK hKK => ?_)
  refine wp_eql_struct rfl rfl rfl guardRef (hq6 _) ?_
  refine hKK _ _ ?_; clear hKK KK hq6
  cases B6
  ·go_wp2
   go_ret; exact Ret.mk' rfl hbE
  iterate 2 refine st ?_
  iterate 5 refine sx ?_
  cases B7
  ·go_wp2
   go_ret; exact Ret.mk' rfl hbE
  go_wp2
  go_ret; exact Ret.mk' rfl hbE
end Go.Proofs.YtlpgigdegnbkmaaGreatDoor
