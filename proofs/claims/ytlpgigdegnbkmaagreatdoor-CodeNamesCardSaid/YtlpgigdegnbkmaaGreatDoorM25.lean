import Derived.Test.YtlpgigdegnbkmaaGreatDoorM22
set_option maxRecDepth 100000
set_option maxHeartbeats 8000000
namespace Go.Proofs.YtlpgigdegnbkmaaGreatDoor
open Go.RowKit Tab Tryz
theorem bare_c (f : Nat) (n : NodeD) (cs : List Value) (w : World) (hg : Good w) (hn : NodeAt f w cs n) (hk : n.kind = 12 \/ n.kind = 14 \/ n.kind = 15 \/ n.kind = 16) : Calls prog 50 #[.agg cs.toArray] w (Ret (.bool (bareD n)) w) := by
 cases f with
 | zero => exact hn.elim
 | succ f =>
 obtain ⟨na, nc, rfl, hnc, hs, hkids⟩ := hn
 have hV : bareD n = (isKindD n && sameN n (wantN n)) := by unfold bareD; rw [if_neg (by omega)]
 rw [hV]
 obtain ⟨wn, hwn⟩ : ∃ x, wantN n = x := ⟨_, rfl⟩
 obtain ⟨I, hI⟩ : ∃ x, isKindD n = x := ⟨_, rfl⟩
 rw [hwn, hI]
 unfold sameN
 have hq2 := decEq_run 9998 n.m n.e wn.m wn.e
 have hq5 := refEq_run 9998 n.ref wn.ref
 have hq6 := refEq_run 9998 n.far wn.far
 generalize ((n.m == wn.m) && (n.e == wn.e)) = B2 at hq2 ⊢
 generalize sameR n.ref wn.ref = B5 at hq5 ⊢
 generalize sameR n.far wn.far = B6 at hq6 ⊢
 obtain ⟨B1, hB1⟩ : ∃ B, (n.text == wn.text) = B := ⟨_, rfl⟩
 obtain ⟨B3, hB3⟩ : ∃ B, (n.b == wn.b) = B := ⟨_, rfl⟩
 obtain ⟨B4, hB4⟩ : ∃ B, (n.err == wn.err) = B := ⟨_, rfl⟩
 obtain ⟨B7, hB7⟩ : ∃ B, (n.rows == wn.rows) = B := ⟨_, rfl⟩
 rw [hB1, hB3, hB4, hB7]
 have HB := Lib.hid (And.intro hB1 (And.intro hB3 (And.intro hB4 hB7)))
 have HQ := Lib.hid (And.intro hq2 (And.intro hq5 hq6))
 have HE := Lib.hid (And.intro hI hwn)
 clear hwn hI hB1 hB3 hB4 hB7 hq2 hq5 hq6
 obtain ⟨L, hL⟩ : ∃ L, n.kids.length = L := ⟨_, rfl⟩
 obtain ⟨K, hK⟩ : ∃ K, n.kind = K := ⟨_, rfl⟩
 unfold nodeC
 rw [hK, hL]
 rw [hK] at hk
 have HK := Lib.hid hK
 have Hk := Lib.hid hk
 have HL := Lib.hid hL
 have htl : n.text.length <= 900000 := Nat.le_trans hs.text (by decide)
 have Hnc := Lib.hid hnc
 clear hV hk hnc hK hL
 go_enter func50, ntmps50
 go_upto_region 1 with (fail)
 refine wp_abs2 (On1 30 w (List.toArray (bN (K) n na L nc))) ⟨belx, heap_alloc_new _ _⟩ ?_
 rintro w1 ⟨hb1, q1⟩
 obtain ⟨f1, -, z1⟩ := lie_cell q1
 refine wp_region_lit ?_
 iterate 4 refine st ?_
 refine wpList_store_mid rfl 30 (.tmp 3) (.tmp 7) rfl w1.heap.size 0 (List.toArray (bZ (K))) rfl rfl (whole_there (heap_alloc_new _ _) rfl) cellsNode (all_oneCell_toArray (wantC_one K)) ?_
 refine wpList_abs (On1 30 w1 (List.toArray (bZ (K)))) ⟨below_cells _ _ _ _ _ ((Below.refl _ _).alloc (Nat.le_refl _) _), box_whole (heap_alloc_new _ _) rfl⟩ ?_
 rintro w2 ⟨hb12, r⟩
 refine wpList_nil ?_
 have q := (hb12.block _ z1).trans q1
 have hb := after hb1 hb12
 obtain ⟨B, hB⟩ : ∃ B, w1.heap.size = B := ⟨_, rfl⟩
 rw [hB] at r z1 ⊢
 have hsB : w.heap.size <= B := Nat.le_of_lt z1
 have hne : ¬ w.heap.size = B := by omega
 have hne2 : ¬ B = w.heap.size := by omega
 clear f1 hb12 hb1 q1
 obtain ⟨fq, -, z⟩ := lie_cell q
 obtain ⟨g, d, y⟩ := lie_cell r
 go_upto_block 0 with (fail)
 go_cut [4] from 5 (fun si wx => si = .bool I /\ Two 30 w B (bN (K) n na L nc) (wC K wn) wx)
 case first =>
  have hk := Hk.out
  clear Hk HB HQ
  rcases hk with rfl | rfl | rfl | rfl
  ·as_aux_lemma =>
    have HI := Lib.hid (show isKindD n = (callND n.text && ((upperD n.text == n.text) && (!(n.text == [76, 65, 77, 66, 68, 65]) && !(n.text == [76, 69, 84])))) by unfold isKindD; simp only [HK.out]; rfl)
    have HW := Lib.hid (show wantN n = .mk 12 n.text 0 0 false 0 RefD.zero RefD.zero 0 [] by unfold wantN; simp only [HK.out]; rfl)
    have cC := fun W (h : Below w.heap.size w W) => (callName_any ⟨n.text.toArray⟩ W (Nat.le_trans (show n.text.length <= 1000 from hs.text) (by decide))).mono fun _ _ h => h.ret
    rw [show (⟨n.text.toArray⟩ : ByteArray).data.toList = n.text from rfl] at cC
    generalize callND n.text = A at cC HI
    have cG := fun W (h : Below w.heap.size w W) => tgreat_any ⟨n.text.toArray⟩ W (hg.below h) (Nat.le_trans (show n.text.length <= 1000 from hs.text) (by decide))
    unfold strV at cG
    rw [show (⟨n.text.toArray⟩ : ByteArray).data.toList = n.text from rfl] at cG
    generalize upperD n.text = U at cG HI
    obtain ⟨G, hG⟩ : ∃ B, (U == n.text) = B := ⟨_, rfl⟩
    rw [hG] at HI
    obtain ⟨M1, hM1⟩ : ∃ B, (n.text == [76, 65, 77, 66, 68, 65]) = B := ⟨_, rfl⟩
    rw [hM1] at HI
    obtain ⟨M2, hM2⟩ : ∃ B, (n.text == [76, 69, 84]) = B := ⟨_, rfl⟩
    rw [hM2] at HI
    cases A
    ·
     go_upto_region 29 with (fail)
     refine two_in ⟨hb, q, r⟩ ?_
     clear hb q r fq g d y
     rintro w3 ⟨hb, q, r⟩ hHeld
     obtain ⟨g, d, y⟩ := lie_cell r
     refine tk 0 hHeld ?_
     refine tk 1 hHeld ?_
     refine tk 2 hHeld ?_
     refine tk 3 hHeld ?_
     refine tk 23 hHeld ?_
     refine ar 4 fun K1 hK1 => ?_
     go_simp
     refine (cC _ hb).mono ?_; rintro e w4 ⟨rfl, hbx⟩
     dsimp only
     refine hk2 hK1 (Two.more ⟨hb, q, r⟩ hbx) ?_
     clear hHeld hK1 K1 hb q r g d y hbx
     rintro w4 ⟨hb, q, r⟩ hHeld
     obtain ⟨g, d, y⟩ := lie_cell r
     refine tk 5 hHeld ?_
     refine tk 6 hHeld ?_
     refine tk 7 hHeld ?_
     refine tk 8 hHeld ?_
     refine tk 9 hHeld ?_
     refine tk 10 hHeld ?_
     refine tk 11 hHeld ?_
     refine tk 12 hHeld ?_
     refine tk 13 hHeld ?_
     refine tk 14 hHeld ?_
     refine tk 15 hHeld ?_
     refine tk 16 hHeld ?_
     refine tk 17 hHeld ?_
     refine tk 18 hHeld ?_
     refine tk 19 hHeld ?_
     refine tk 20 hHeld ?_
     refine tk 21 hHeld ?_
     refine tk 22 hHeld ?_
     refine ar 24 fun K1 hK1 => ?_
     go_simp
     refine hk2 hK1 (Two.set (C' := bW (12) n.text 0 0 false 0 RefD.zero RefD.zero 0) ⟨hb, q, r⟩ hsB hne) ?_
     clear hHeld hK1 K1 hb q r g d y
     rintro w5 ⟨hb, q, r⟩ hHeld
     obtain ⟨g, d, y⟩ := lie_cell r
     refine tk 25 hHeld ?_
     refine wpAnyH_done (by kernel_rfl) ?_ _
     clear hHeld g d y
     go_wp2
     go_meet
     rw [<- HE.out.1, <- HE.out.2, HI.out, HW.out]
     exact ⟨rfl, hb, q, r⟩
    cases G
    ·
     go_upto_region 29 with (fail)
     refine two_in ⟨hb, q, r⟩ ?_
     clear hb q r fq g d y
     rintro w3 ⟨hb, q, r⟩ hHeld
     obtain ⟨g, d, y⟩ := lie_cell r
     refine tk 0 hHeld ?_
     refine tk 1 hHeld ?_
     refine tk 2 hHeld ?_
     refine tk 3 hHeld ?_
     refine tk 23 hHeld ?_
     refine ar 4 fun K1 hK1 => ?_
     go_simp
     refine (cC _ hb).mono ?_; rintro e w4 ⟨rfl, hbx⟩
     dsimp only
     refine hk2 hK1 (Two.more ⟨hb, q, r⟩ hbx) ?_
     clear hHeld hK1 K1 hb q r g d y hbx
     rintro w4 ⟨hb, q, r⟩ hHeld
     obtain ⟨g, d, y⟩ := lie_cell r
     refine tk 5 hHeld ?_
     refine tk 6 hHeld ?_
     refine tk 7 hHeld ?_
     refine tk 9 hHeld ?_
     refine tk 10 hHeld ?_
     refine ar 8 fun K1 hK1 => ?_
     go_simp
     refine (cG _ hb).mono ?_; rintro e w5 ⟨rfl, hbx⟩
     dsimp only
     refine hk2 hK1 (Two.more ⟨hb, q, r⟩ hbx) ?_
     clear hHeld hK1 K1 hb q r g d y hbx
     rintro w5 ⟨hb, q, r⟩ hHeld
     obtain ⟨g, d, y⟩ := lie_cell r
     refine tk 11 hHeld ?_
     refine tk 12 hHeld ?_
     refine tk 13 hHeld ?_
     refine tk 14 hHeld ?_
     refine tk 15 hHeld ?_
     refine tk 16 hHeld ?_
     refine tk 17 hHeld ?_
     refine tk 18 hHeld ?_
     refine tk 19 hHeld ?_
     refine tk 20 hHeld ?_
     refine tk 21 hHeld ?_
     refine tk 22 hHeld ?_
     refine ar 24 fun K1 hK1 => ?_
     go_simp
     refine hk2 hK1 (Two.set (C' := bW (12) n.text 0 0 false 0 RefD.zero RefD.zero 0) ⟨hb, q, r⟩ hsB hne) ?_
     clear hHeld hK1 K1 hb q r g d y
     rintro w6 ⟨hb, q, r⟩ hHeld
     obtain ⟨g, d, y⟩ := lie_cell r
     refine tk 25 hHeld ?_
     refine wpAnyH_done (by kernel_rfl) ?_ _
     clear hHeld g d y
     go_wp2
     go_meet
     rw [<- HE.out.1, <- HE.out.2, HI.out, HW.out]
     exact ⟨rfl, hb, q, r⟩
    cases M1
    ·
     go_upto_region 29 with (fail)
     refine two_in ⟨hb, q, r⟩ ?_
     clear hb q r fq g d y
     rintro w3 ⟨hb, q, r⟩ hHeld
     obtain ⟨g, d, y⟩ := lie_cell r
     refine tk 0 hHeld ?_
     refine tk 1 hHeld ?_
     refine tk 2 hHeld ?_
     refine tk 3 hHeld ?_
     refine tk 23 hHeld ?_
     refine ar 4 fun K1 hK1 => ?_
     go_simp
     refine (cC _ hb).mono ?_; rintro e w4 ⟨rfl, hbx⟩
     dsimp only
     refine hk2 hK1 (Two.more ⟨hb, q, r⟩ hbx) ?_
     clear hHeld hK1 K1 hb q r g d y hbx
     rintro w4 ⟨hb, q, r⟩ hHeld
     obtain ⟨g, d, y⟩ := lie_cell r
     refine tk 5 hHeld ?_
     refine tk 6 hHeld ?_
     refine tk 7 hHeld ?_
     refine tk 9 hHeld ?_
     refine tk 10 hHeld ?_
     refine ar 8 fun K1 hK1 => ?_
     go_simp
     refine (cG _ hb).mono ?_; rintro e w5 ⟨rfl, hbx⟩
     dsimp only
     refine hk2 hK1 (Two.more ⟨hb, q, r⟩ hbx) ?_
     clear hHeld hK1 K1 hb q r g d y hbx
     rintro w5 ⟨hb, q, r⟩ hHeld
     obtain ⟨g, d, y⟩ := lie_cell r
     refine tk 11 hHeld ?_
     refine tk 12 hHeld ?_
     refine tk 13 hHeld ?_
     refine tk 14 hHeld ?_
     refine tk 15 hHeld ?_
     refine tk 16 hHeld ?_
     refine tk 17 hHeld ?_
     refine tk 18 hHeld ?_
     refine tk 19 hHeld ?_
     refine tk 20 hHeld ?_
     refine tk 21 hHeld ?_
     refine tk 22 hHeld ?_
     refine ar 24 fun K1 hK1 => ?_
     go_simp
     refine hk2 hK1 (Two.set (C' := bW (12) n.text 0 0 false 0 RefD.zero RefD.zero 0) ⟨hb, q, r⟩ hsB hne) ?_
     clear hHeld hK1 K1 hb q r g d y
     rintro w6 ⟨hb, q, r⟩ hHeld
     obtain ⟨g, d, y⟩ := lie_cell r
     refine tk 25 hHeld ?_
     refine wpAnyH_done (by kernel_rfl) ?_ _
     clear hHeld g d y
     go_wp2
     go_meet
     rw [<- HE.out.1, <- HE.out.2, HI.out, HW.out]
     exact ⟨rfl, hb, q, r⟩
    go_upto_region 29 with (fail)
    refine two_in ⟨hb, q, r⟩ ?_
    clear hb q r fq g d y
    rintro w3 ⟨hb, q, r⟩ hHeld
    obtain ⟨g, d, y⟩ := lie_cell r
    refine tk 0 hHeld ?_
    refine tk 1 hHeld ?_
    refine tk 2 hHeld ?_
    refine tk 3 hHeld ?_
    refine tk 23 hHeld ?_
    refine ar 4 fun K1 hK1 => ?_
    go_simp
    refine (cC _ hb).mono ?_; rintro e w4 ⟨rfl, hbx⟩
    dsimp only
    refine hk2 hK1 (Two.more ⟨hb, q, r⟩ hbx) ?_
    clear hHeld hK1 K1 hb q r g d y hbx
    rintro w4 ⟨hb, q, r⟩ hHeld
    obtain ⟨g, d, y⟩ := lie_cell r
    refine tk 5 hHeld ?_
    refine tk 6 hHeld ?_
    refine tk 7 hHeld ?_
    refine tk 9 hHeld ?_
    refine tk 10 hHeld ?_
    refine ar 8 fun K1 hK1 => ?_
    go_simp
    refine (cG _ hb).mono ?_; rintro e w5 ⟨rfl, hbx⟩
    dsimp only
    refine hk2 hK1 (Two.more ⟨hb, q, r⟩ hbx) ?_
    clear hHeld hK1 K1 hb q r g d y hbx
    rintro w5 ⟨hb, q, r⟩ hHeld
    obtain ⟨g, d, y⟩ := lie_cell r
    refine tk 11 hHeld ?_
    refine tk 12 hHeld ?_
    refine tk 13 hHeld ?_
    refine tk 14 hHeld ?_
    refine tk 15 hHeld ?_
    refine tk 16 hHeld ?_
    refine tk 17 hHeld ?_
    refine tk 18 hHeld ?_
    refine tk 19 hHeld ?_
    refine tk 20 hHeld ?_
    refine tk 21 hHeld ?_
    refine tk 22 hHeld ?_
    refine ar 24 fun K1 hK1 => ?_
    go_simp
    refine hk2 hK1 (Two.set (C' := bW (12) n.text 0 0 false 0 RefD.zero RefD.zero 0) ⟨hb, q, r⟩ hsB hne) ?_
    clear hHeld hK1 K1 hb q r g d y
    rintro w6 ⟨hb, q, r⟩ hHeld
    obtain ⟨g, d, y⟩ := lie_cell r
    refine tk 25 hHeld ?_
    refine wpAnyH_done (by kernel_rfl) ?_ _
    clear hHeld g d y
    go_wp2
    go_meet
    rw [<- HE.out.1, <- HE.out.2, HI.out, HW.out]
    exact ⟨rfl, hb, q, r⟩
  ·as_aux_lemma =>
    have HI := Lib.hid (show isKindD n = ((n.text == []) || someD n.text) by unfold isKindD; simp only [HK.out]; rfl)
    have HW := Lib.hid (show wantN n = .mk 14 n.text 0 0 false 0 RefD.zero RefD.zero 0 [] by unfold wantN; simp only [HK.out]; rfl)
    have cC := fun W (h : Below w.heap.size w W) => some_any n.text W (hg.below h) htl
    obtain ⟨E, hE⟩ : ∃ B, n.text.isEmpty = B := ⟨_, rfl⟩
    rw [show (n.text == []) = E from (empty_is2 _).symm.trans hE] at HI
    cases E
    ·
     go_upto_region 33 with (fail)
     refine two_in ⟨hb, q, r⟩ ?_
     clear hb q r fq g d y
     rintro w3 ⟨hb, q, r⟩ hHeld
     obtain ⟨g, d, y⟩ := lie_cell r
     refine tk 0 hHeld ?_
     refine tk 1 hHeld ?_
     refine tk 2 hHeld ?_
     refine tk 3 hHeld ?_
     refine tk 4 hHeld ?_
     refine tk 5 hHeld ?_
     refine tk 6 hHeld ?_
     refine tk 7 hHeld ?_
     refine tk 10 hHeld ?_
     refine ar 8 fun K1 hK1 => ?_
     go_simp
     refine (cC _ hb).mono ?_; rintro e w4 ⟨rfl, hbx⟩
     dsimp only
     refine hk2 hK1 (Two.more ⟨hb, q, r⟩ hbx) ?_
     clear hHeld hK1 K1 hb q r g d y hbx
     rintro w4 ⟨hb, q, r⟩ hHeld
     obtain ⟨g, d, y⟩ := lie_cell r
     refine tk 9 hHeld ?_
     refine ar 11 fun K1 hK1 => ?_
     go_simp
     refine hk2 hK1 (Two.set (C' := bW (14) n.text 0 0 false 0 RefD.zero RefD.zero 0) ⟨hb, q, r⟩ hsB hne) ?_
     clear hHeld hK1 K1 hb q r g d y
     rintro w5 ⟨hb, q, r⟩ hHeld
     obtain ⟨g, d, y⟩ := lie_cell r
     refine tk 12 hHeld ?_
     refine wpAnyH_done (by kernel_rfl) ?_ _
     clear hHeld g d y
     go_wp2
     go_meet
     rw [<- HE.out.1, <- HE.out.2, HI.out, HW.out]
     exact ⟨rfl, hb, q, r⟩
    ·
     go_upto_region 33 with (fail)
     refine two_in ⟨hb, q, r⟩ ?_
     clear hb q r fq g d y
     rintro w3 ⟨hb, q, r⟩ hHeld
     obtain ⟨g, d, y⟩ := lie_cell r
     refine tk 0 hHeld ?_
     refine tk 1 hHeld ?_
     refine tk 2 hHeld ?_
     refine tk 3 hHeld ?_
     refine tk 4 hHeld ?_
     refine tk 5 hHeld ?_
     refine tk 6 hHeld ?_
     refine tk 7 hHeld ?_
     refine tk 8 hHeld ?_
     refine tk 9 hHeld ?_
     refine tk 10 hHeld ?_
     refine ar 11 fun K1 hK1 => ?_
     go_simp
     refine hk2 hK1 (Two.set (C' := bW (14) n.text 0 0 false 0 RefD.zero RefD.zero 0) ⟨hb, q, r⟩ hsB hne) ?_
     clear hHeld hK1 K1 hb q r g d y
     rintro w4 ⟨hb, q, r⟩ hHeld
     obtain ⟨g, d, y⟩ := lie_cell r
     refine tk 12 hHeld ?_
     refine wpAnyH_done (by kernel_rfl) ?_ _
     clear hHeld g d y
     go_wp2
     go_meet
     rw [<- HE.out.1, <- HE.out.2, HI.out, HW.out]
     exact ⟨rfl, hb, q, r⟩
  ·as_aux_lemma =>
    have HI := Lib.hid (show isKindD n = (true) by unfold isKindD; simp only [HK.out]; rfl)
    have HW := Lib.hid (show wantN n = .mk 15 [] 0 0 false 0 RefD.zero RefD.zero 0 [] by unfold wantN; simp only [HK.out]; rfl)
    go_wp2
    go_meet
    rw [<- HE.out.1, <- HE.out.2, HI.out, HW.out]
    exact ⟨rfl, hb, q, r⟩
  ·as_aux_lemma =>
    have HI := Lib.hid (show isKindD n = (someD n.text) by unfold isKindD; simp only [HK.out]; rfl)
    have HW := Lib.hid (show wantN n = .mk 16 n.text 0 0 false 0 RefD.zero RefD.zero 0 [] by unfold wantN; simp only [HK.out]; rfl)
    have cC := fun W (h : Below w.heap.size w W) => some_any n.text W (hg.below h) htl
    go_upto_region 35 with (fail)
    refine two_in ⟨hb, q, r⟩ ?_
    clear hb q r fq g d y
    rintro w3 ⟨hb, q, r⟩ hHeld
    obtain ⟨g, d, y⟩ := lie_cell r
    refine tk 0 hHeld ?_
    refine tk 1 hHeld ?_
    refine tk 2 hHeld ?_
    refine tk 3 hHeld ?_
    refine tk 5 hHeld ?_
    refine ar 4 fun K1 hK1 => ?_
    go_simp
    refine (cC _ hb).mono ?_; rintro e w4 ⟨rfl, hbx⟩
    dsimp only
    refine hk2 hK1 (Two.more ⟨hb, q, r⟩ hbx) ?_
    clear hHeld hK1 K1 hb q r g d y hbx
    rintro w4 ⟨hb, q, r⟩ hHeld
    obtain ⟨g, d, y⟩ := lie_cell r
    refine ar 6 fun K1 hK1 => ?_
    go_simp
    refine hk2 hK1 (Two.set (C' := bW (16) n.text 0 0 false 0 RefD.zero RefD.zero 0) ⟨hb, q, r⟩ hsB hne) ?_
    clear hHeld hK1 K1 hb q r g d y
    rintro w5 ⟨hb, q, r⟩ hHeld
    obtain ⟨g, d, y⟩ := lie_cell r
    refine tk 7 hHeld ?_
    refine wpAnyH_done (by kernel_rfl) ?_ _
    clear hHeld g d y
    go_wp2
    go_meet
    rw [<- HE.out.1, <- HE.out.2, HI.out, HW.out]
    exact ⟨rfl, hb, q, r⟩
 case rest => as_aux_lemma =>
  obtain ⟨rfl, hbE, qE, rE⟩ := hcut
  clear Hk HL HK HE hkids hs htl hb q r fq g d hg
  obtain ⟨hB1, hB3, hB4, hB7⟩ := HB.out
  obtain ⟨hq2, hq5, hq6⟩ := HQ.out
  clear HB HQ
  cases I
  ·go_wp2
   go_ret; exact Ret.mk' rfl hbE
  go_upto_region 37 with (fail)
  obtain ⟨fE, -, zE⟩ := lie_cell qE
  obtain ⟨gE, -, yE⟩ := lie_cell rE
  clear qE rE
  refine wp_region_lit ?_
  iterate 2 refine st ?_
  iterate 5 refine sx ?_
  cases B1
  ·go_wp2
   go_ret; exact Ret.mk' rfl hbE
  iterate 2 refine st ?_
  iterate 4 refine sx ?_
  refine wpList_want (by rfl) (fun KK hKK => ?_)
  refine wp_eql_struct rfl rfl rfl guardDec (hq2 _) ?_
  refine hKK _ _ ?_; clear hKK KK hq2
  cases B2
  ·go_wp2
   go_ret; exact Ret.mk' rfl hbE
  iterate 2 refine st ?_
  iterate 5 refine sx ?_
  cases B3
  ·go_wp2
   go_ret; exact Ret.mk' rfl hbE
  iterate 2 refine st ?_
  iterate 5 refine sx ?_
  cases B4
  ·go_wp2
   go_ret; exact Ret.mk' rfl hbE
  iterate 2 refine st ?_
  iterate 4 refine sx ?_
  refine wpList_want (by rfl) (fun KK hKK => ?_)
  refine wp_eql_struct rfl rfl rfl guardRef (hq5 _) ?_
  refine hKK _ _ ?_; clear hKK KK hq5
  cases B5
  ·go_wp2
   go_ret; exact Ret.mk' rfl hbE
  iterate 2 refine st ?_
  iterate 4 refine sx ?_
  refine wpList_want (by rfl) (fun KK hKK => ?_)
  refine wp_eql_struct rfl rfl rfl guardRef (hq6 _) ?_
  refine hKK _ _ ?_; clear hKK KK hq6
  cases B6
  ·go_wp2
   go_ret; exact Ret.mk' rfl hbE
  iterate 2 refine st ?_
  iterate 5 refine sx ?_
  cases B7
  ·go_wp2
   go_ret; exact Ret.mk' rfl hbE
  go_wp2
  go_ret; exact Ret.mk' rfl hbE
end Go.Proofs.YtlpgigdegnbkmaaGreatDoor
