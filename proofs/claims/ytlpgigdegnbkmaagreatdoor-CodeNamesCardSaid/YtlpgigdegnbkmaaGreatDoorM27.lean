import Derived.Test.YtlpgigdegnbkmaaGreatDoorM23
import Derived.Test.YtlpgigdegnbkmaaGreatDoorM24
import Derived.Test.YtlpgigdegnbkmaaGreatDoorM25
set_option maxRecDepth 100000
set_option maxHeartbeats 8000000
namespace Go.Proofs.YtlpgigdegnbkmaaGreatDoor
open Go.RowKit Tab Tryz
theorem bare_other (f : Nat) (n : NodeD) (cs : List Value) (w : World) (hn : NodeAt f w cs n) (hk : n.kind < 1 \/ 16 < n.kind) : Calls prog 50 #[.agg cs.toArray] w (Ret (.bool (bareD n)) w) := by
 cases f with
 | zero => exact hn.elim
 | succ f =>
 obtain ⟨na, nc, rfl, hnc, hs, hkids⟩ := hn
 have hV : bareD n = false := by unfold bareD; rw [if_pos hk]
 rw [hV]
 obtain ⟨L, hL⟩ : ∃ L, n.kids.length = L := ⟨_, rfl⟩
 unfold nodeC
 rw [hL]
 have n1 : (n.kind == 1) = false := beq_eq_false_iff_ne.2 (by omega)
 have n2 : (n.kind == 2) = false := beq_eq_false_iff_ne.2 (by omega)
 have n3 : (n.kind == 3) = false := beq_eq_false_iff_ne.2 (by omega)
 have n4 : (n.kind == 4) = false := beq_eq_false_iff_ne.2 (by omega)
 have n5 : (n.kind == 5) = false := beq_eq_false_iff_ne.2 (by omega)
 have n6 : (n.kind == 6) = false := beq_eq_false_iff_ne.2 (by omega)
 have n7 : (n.kind == 7) = false := beq_eq_false_iff_ne.2 (by omega)
 have n8 : (n.kind == 8) = false := beq_eq_false_iff_ne.2 (by omega)
 have n9 : (n.kind == 9) = false := beq_eq_false_iff_ne.2 (by omega)
 have n10 : (n.kind == 10) = false := beq_eq_false_iff_ne.2 (by omega)
 have n11 : (n.kind == 11) = false := beq_eq_false_iff_ne.2 (by omega)
 have n12 : (n.kind == 12) = false := beq_eq_false_iff_ne.2 (by omega)
 have n13 : (n.kind == 13) = false := beq_eq_false_iff_ne.2 (by omega)
 have n14 : (n.kind == 14) = false := beq_eq_false_iff_ne.2 (by omega)
 have n15 : (n.kind == 15) = false := beq_eq_false_iff_ne.2 (by omega)
 have n16 : (n.kind == 16) = false := beq_eq_false_iff_ne.2 (by omega)
 clear hk hV hnc hkids hs hL
 go_enter func50, ntmps50
 go_upto_region 1 with (fail)
 refine wp_abs2 (On1 30 w (List.toArray (bN (n.kind) n na L nc))) ⟨belx, heap_alloc_new _ _⟩ ?_
 rintro w1 ⟨hb1, q1⟩
 obtain ⟨f1, -, z1⟩ := lie_cell q1
 refine wp_region_lit ?_
 iterate 4 refine st ?_
 refine wpList_store_mid rfl 30 (.tmp 3) (.tmp 7) rfl w1.heap.size 0 (List.toArray (bZ (n.kind))) rfl rfl (whole_there (heap_alloc_new _ _) rfl) cellsNode (all_oneCell_toArray (wantC_one n.kind)) ?_
 refine wpList_abs (On1 30 w1 (List.toArray (bZ (n.kind)))) ⟨below_cells _ _ _ _ _ ((Below.refl _ _).alloc (Nat.le_refl _) _), box_whole (heap_alloc_new _ _) rfl⟩ ?_
 rintro w2 ⟨hb12, r⟩
 refine wpList_nil ?_
 have q := (hb12.block _ z1).trans q1
 have hb := after hb1 hb12
 obtain ⟨B, hB⟩ : ∃ B, w1.heap.size = B := ⟨_, rfl⟩
 rw [hB] at r z1 ⊢
 have hsB : w.heap.size <= B := Nat.le_of_lt z1
 have hne : ¬ w.heap.size = B := by omega
 have hne2 : ¬ B = w.heap.size := by omega
 clear f1 hb12 hb1 q1
 obtain ⟨fq, -, z⟩ := lie_cell q
 obtain ⟨g, d, y⟩ := lie_cell r
 go_wp2
 go_ret; exact Ret.mk' rfl hb
theorem bare_any (f : Nat) (n : NodeD) (cs : List Value) (w : World) (hg : Good w) (hn : NodeAt f w cs n) : Calls prog 50 #[.agg cs.toArray] w (Ret (.bool (bareD n)) w) := by
 by_cases ha : n.kind = 1 \/ n.kind = 2 \/ n.kind = 3 \/ n.kind = 4 \/ n.kind = 5 \/ n.kind = 6
 ·exact bare_a f n cs w hg hn ha
 by_cases hb : n.kind = 7 \/ n.kind = 8 \/ n.kind = 9 \/ n.kind = 10 \/ n.kind = 11 \/ n.kind = 13
 ·exact bare_b f n cs w hg hn hb
 by_cases hc : n.kind = 12 \/ n.kind = 14 \/ n.kind = 15 \/ n.kind = 16
 ·exact bare_c f n cs w hg hn hc
 exact bare_other f n cs w hn (by omega)
end Go.Proofs.YtlpgigdegnbkmaaGreatDoor
namespace Tab
def stepS (f : Nat) (r : Option (Nat × Nat)) (k : NodeD) : Option (Nat × Nat) := match r, sizeD f k with
 | some (d, m), some (d', m') => some (max d d', m + m')
 | _, _ => none
theorem stepS_at {f D M : Nat} {k : NodeD} {z : Option (Nat × Nat)} (h : sizeD f k = z) : stepS f (some (D, M)) k = z.map fun p => (max D p.1, M + p.2) := by
 unfold stepS
 rw [h]
 cases z <;> rfl
theorem sizeD_is (f : Nat) (n : NodeD) : sizeD (f + 1) n = if bareD n && kidsD n then (n.kids.foldl (stepS f) (some (0, 0))).map (fun p => (p.1 + 1, p.2 + 1)) else none := rfl
theorem stepS_none (f : Nat) : ∀ l : List NodeD, l.foldl (stepS f) none = none
 | [] => rfl
 | k :: l => by rw [List.foldl_cons]; exact stepS_none f l
theorem size_le : ∀ (f : Nat) (n : NodeD) (d m : Nat), sizeD f n = some (d, m) -> d <= f /\ m <= cntN f n
 | 0, n, d, m, h => by simp [sizeD] at h
 | f + 1, n, d, m, h => by
  rw [sizeD_is] at h
  split at h
  ·have go : ∀ (l : List NodeD) (d0 m0 d1 m1 : Nat), d0 <= f -> l.foldl (stepS f) (some (d0, m0)) = some (d1, m1) -> d1 <= f /\ m1 <= m0 + (l.map (cntN f)).sum := by
    intro l
    induction l with
    | nil => intro d0 m0 d1 m1 h0 h; simp at h; simp; omega
    | cons k l ih =>
     intro d0 m0 d1 m1 h0 h
     rw [List.foldl_cons] at h
     cases hk : sizeD f k with
     | none =>
      have e : stepS f (some (d0, m0)) k = none := by unfold stepS; rw [hk]
      rw [e, stepS_none] at h; cases h
     | some p =>
      obtain ⟨d', m'⟩ := p
      have e : stepS f (some (d0, m0)) k = some (max d0 d', m0 + m') := by unfold stepS; rw [hk]
      rw [e] at h
      obtain ⟨h1, h2⟩ := size_le f k d' m' hk
      obtain ⟨h3, h4⟩ := ih _ _ _ _ (by omega) h
      simp only [List.map_cons, List.sum_cons]; omega
   obtain ⟨p, hp, he⟩ := Option.map_eq_some_iff.1 h
   obtain ⟨d0, m0⟩ := p
   have := go _ _ _ _ _ (Nat.zero_le _) hp
   simp only [Prod.mk.injEq] at he
   rw [cntN]; omega
  ·cases h
theorem cnt_drop (f : Nat) (l : List NodeD) (j : Nat) (h : j < l.length) : ((l.drop j).map (cntN f)).sum = cntN f l[j] + ((l.drop (j + 1)).map (cntN f)).sum := by
 rw [List.drop_eq_getElem_cons h, List.map_cons, List.sum_cons]
end Tab
namespace Go.Proofs.YtlpgigdegnbkmaaGreatDoor
open Go.RowKit Tab Tryz
def sizeV : Option (Nat × Nat) -> Value
 | none => .tuple #[.int .i64 0, .int .i64 0, .bool false]
 | some (d, m) => .tuple #[.int .i64 (d : Int), .int .i64 (m : Int), .bool true]
theorem bare_rows {n : NodeD} (h : bareD n = true) : n.kind = 13 -> 1 <= n.rows := fun hk => by
 unfold bareD at h
 rw [hk, if_neg (by omega)] at h
 rw [Bool.and_eq_true] at h
 have h1 := h.1
 unfold isKindD at h1
 simp only [hk] at h1
 have h2 : (decide (1 <= n.rows) && !(n.kids.any fun k => !constD k)) = true := h1
 rw [Bool.and_eq_true, decide_eq_true_iff] at h2
 exact h2.1
theorem size_any : ∀ (f : Nat) (n : NodeD) (cs : List Value) (w : World), Good w -> NodeAt f w cs n -> cntN f n <= 1000000 -> f <= 1000 -> Calls prog 24 #[.agg cs.toArray] w (Ret (sizeV (sizeD f n)) w) := by
 intro f
 induction f with
 | zero => intro _ _ _ _ hn; exact hn.elim
 | succ f ih =>
 intro n cs w hg hn hcnt hf
 have hn0 := hn
 obtain ⟨a, c, rfl, hc, hs, hkids⟩ := hn
 have cB := fun W (h : Below w.heap.size w W) => bare_any (f + 1) n _ W (hg.below h) (hn0.below h)
 have cK := fun (hr : n.kind = 13 -> 1 <= n.rows) W => kids_any n a c W (Nat.le_trans hs.text (by decide)) (Nat.le_trans hs.kids (by decide)) (fun h => ⟨hr h, hs.rows⟩)
 have hkl := hs.kids
 obtain ⟨C, hC⟩ : ∃ C, nodeC n (.slice a n.kids.length c) = C := ⟨_, rfl⟩
 have hC19 : C.toArray[19]? = some (.slice a n.kids.length c) := by rw [<- hC]; rfl
 have hCl : C.length = 20 := by rw [<- hC]; rfl
 rw [sizeD_is]
 rw [hC] at cB cK ⊢
 obtain ⟨L, hL⟩ : ∃ L, n.kids.length = L := ⟨_, rfl⟩
 rw [hL] at hC19 hkl hc
 have hgh := Lib.hid hg
 have HN := Lib.hid (And.intro hkids (And.intro hL hcnt))
 clear hn0 hs hC hg hkids hL
 obtain ⟨B, hB⟩ : ∃ B, bareD n = B := ⟨_, rfl⟩
 have hBr := fun h : B = true => bare_rows (n := n) (hB.trans h)
 rw [hB] at cB ⊢
 clear hB
 cases B
 ·clear cK hBr HN hcnt hkl hc
  have hV : sizeV (if (false && kidsD n) = true then (n.kids.foldl (stepS f) (some (0, 0))).map (fun p => (p.1 + 1, p.2 + 1)) else none) = .tuple #[.int .i64 0, .int .i64 0, .bool false] := rfl
  rw [hV]
  clear hV
  go_enter func24, ntmps24
  go_upto_region 1 with (fail)
  refine wp_abs2 (On1 30 w C.toArray) ⟨belx, heap_alloc_new _ _⟩ ?_
  rintro w1 ⟨hb1, q1⟩
  refine wp_region_lit ?_
  refine wpList_load_row rfl 30 (.tmp 1) rfl w.heap.size rfl 30 C.toArray (0, 0) _ q1 underlying30 rfl (by rw [List.size_toArray, hCl]; exact cellsNode) ?_
  refine wpList_plain rfl (fun KK hKK => ?_); go_simp
  refine (cB w1 hb1).mono ?_; rintro e w2 ⟨rfl, hb2⟩
  refine hKK _ _ ?_; clear hKK KK
  go_wp2
  go_ret3; exact Ret.mk' rfl (after hb1 hb2)
 replace cK := cK (hBr rfl)
 rw [Bool.true_and]
 generalize kidsD n = D at *
 cases D
 ·clear HN hcnt hkl hc
  have hV : sizeV (if false = true then (n.kids.foldl (stepS f) (some (0, 0))).map (fun p => (p.1 + 1, p.2 + 1)) else none) = .tuple #[.int .i64 0, .int .i64 0, .bool false] := rfl
  rw [hV]
  clear hV
  go_enter func24, ntmps24
  go_upto_region 1 with (fail)
  refine wp_abs2 (On1 30 w C.toArray) ⟨belx, heap_alloc_new _ _⟩ ?_
  rintro w1 ⟨hb1, q1⟩
  refine wp_region_lit ?_
  refine wpList_load_row rfl 30 (.tmp 1) rfl w.heap.size rfl 30 C.toArray (0, 0) _ q1 underlying30 rfl (by rw [List.size_toArray, hCl]; exact cellsNode) ?_
  refine wpList_plain rfl (fun KK hKK => ?_); go_simp
  refine (cB w1 hb1).mono ?_; rintro e w2 ⟨rfl, hb2⟩
  refine hKK _ _ ?_; clear hKK KK
  have q2 := kq hb2 q1
  iterate 2 refine st ?_
  refine wpList_want rfl (fun KK hKK => ?_)
  refine wp_load_row 30 (.tmp 1) rfl w.heap.size rfl 30 C.toArray (0, 0) _ q2 underlying30 rfl (by rw [List.size_toArray, hCl]; exact cellsNode) ?_
  refine hKK _ _ ?_; clear hKK KK
  refine wpList_want rfl (fun KK hKK => ?_); go_simp
  refine (cK w2).mono ?_; rintro e w3 ⟨rfl, hb3⟩
  refine hKK _ _ ?_; clear hKK KK
  go_wp2
  go_ret3; exact Ret.mk' rfl (after (after hb1 hb2) hb3)
 obtain ⟨R, hR⟩ : ∃ R, n.kids.foldl (stepS f) (some (0, 0)) = R := ⟨_, rfl⟩
 rw [if_pos rfl, hR]
 obtain ⟨V, hV⟩ : ∃ V, sizeV (R.map fun p => (p.1 + 1, p.2 + 1)) = V := ⟨_, rfl⟩
 rw [hV]
 have HR := Lib.hid (And.intro hR hV)
 clear hR hV hcnt
 go_enter func24, ntmps24
 go_upto_region 1 with (fail)
 refine wp_abs2 (On1 30 w C.toArray) ⟨belx, heap_alloc_new _ _⟩ ?_
 rintro w1 ⟨hb1, q1⟩
 refine wp_region_lit ?_
 refine wpList_load_row rfl 30 (.tmp 1) rfl w.heap.size rfl 30 C.toArray (0, 0) _ q1 underlying30 rfl (by rw [List.size_toArray, hCl]; exact cellsNode) ?_
 refine wpList_plain rfl (fun KK hKK => ?_); go_simp
 refine (cB w1 hb1).mono ?_; rintro e w2 ⟨rfl, hb2⟩
 refine hKK _ _ ?_; clear hKK KK
 have q2 := kq hb2 q1
 iterate 2 refine st ?_
 refine wpList_want rfl (fun KK hKK => ?_)
 refine wp_load_row 30 (.tmp 1) rfl w.heap.size rfl 30 C.toArray (0, 0) _ q2 underlying30 rfl (by rw [List.size_toArray, hCl]; exact cellsNode) ?_
 refine hKK _ _ ?_; clear hKK KK
 refine wpList_want rfl (fun KK hKK => ?_); go_simp
 refine (cK w2).mono ?_; rintro e w3 ⟨rfl, hb3⟩
 refine hKK _ _ ?_; clear hKK KK
 have q3 := kq hb3 q2
 have hB3 := after (after hb1 hb2) hb3
 obtain ⟨f3, -, z3⟩ := lie_cell q3
 have hc3 : w3.cell? ⟨w.heap.size, 19, none⟩ = some (.slice a L c) := (f3 19).trans hC19
 clear f3 q1 q2 hb1 hb2 hb3 cB cK hC19
 have HQ3 := Lib.hid q3
 clear q3
 go_wp2_with fail
 go_loopw [2, 3, 21] (fun s2 s3 i w' => ∃ (j D M : Nat), s2 = .int .i64 (D : Int) /\ s3 = .int .i64 (M : Int) /\ i = .int .i64 (j : Int) /\ j <= L /\ D <= f /\ M + ((n.kids.drop j).map (cntN f)).sum <= 1000000 /\ (n.kids.drop j).foldl (stepS f) (some (D, M)) = R /\ Below w.heap.size w w') (fun _ _ i _ => L - (intOf i).toNat)
 case atStart =>
  refine ⟨0, 0, 0, rfl, rfl, rfl, by omega, by omega, ?_, HR.out.1, hB3⟩
  have h := HN.out.2.2
  rw [cntN] at h
  rw [List.drop_zero]; omega
 case round =>
  clear hc3 HQ3 hB3 z3
  obtain ⟨j, D, M, rfl, rfl, rfl, hj, hD, hM, hH, hB⟩ := hrel
  have HH := Lib.hid (And.intro hH hM)
  by_cases hlt : j < L
  ·obtain ⟨hkids, hL, -⟩ := HN.out
   rcases hkids with e | ⟨bb, o, rfl, hbb, hk⟩
   ·rw [e] at hL; simp at hL; omega
   obtain ⟨k, hkj⟩ : ∃ k, n.kids[j]? = some k := ⟨_, List.getElem?_eq_getElem (by omega)⟩
   obtain ⟨cs, hcs, hkn⟩ := hk j k hkj
   have hr : wr.rangeAt bb (o + j * 20) cs := fun i v hv => (hB.cell (p := ⟨bb, o + j * 20 + i, none⟩) hbb).trans (hcs i v hv)
   have hlen := hkn.len
   have hone : cs.toArray.all (·.oneCell') = true := by
    cases f with
    | zero => exact hkn.elim
    | succ f => obtain ⟨a', c', rfl, _⟩ := hkn; exact nodeC_one _ _ _ _
   have hkj' : j < n.kids.length := by omega
   have hke : n.kids[j] = k := (List.getElem?_eq_some_iff.1 hkj).2
   have hM1 : cntN f k + ((n.kids.drop (j + 1)).map (cntN f)).sum + M <= 1000000 := by
    have := cnt_drop f n.kids j hkj'
    rw [hke] at this; omega
   have hlt' : (j : Int) < (L : Int) := by omega
   have HK := Lib.hid (And.intro hkn (And.intro hM1 (And.intro hkj' hke)))
   clear hk hcs hkn hkj hke hL hH hM hM1
   go_upto_region 5 with (fail)
   refine wp_region_lit ?_
   refine st ?_
   refine wpList_load_mid rfl 30 (.tmp 23) rfl bb (o + j * 20) rfl cs _ hr underlying30 rfl (by rw [hlen]; exact cellsNode) ?_
   refine st ?_
   refine wpList_store_mid rfl 30 (.tmp 6) (.tmp 24) rfl wr.heap.size 0 cs.toArray rfl rfl (box_there wr zeroN 30 (by rw [List.size_toArray, hlen]; rfl)) (by rw [List.size_toArray, hlen]; exact cellsNode) hone ?_
   refine wpList_abs (fun W => Below wr.heap.size wr W /\ W.rangeAt wr.heap.size 0 cs /\ wr.heap.size < W.heap.size) ⟨(by rw [List.toList_toArray]; exact box_below wr zeroN 30 cs), (by rw [List.toList_toArray]; exact box_range wr zeroN 30 cs (by rw [hlen]; rfl)), (by rw [List.toList_toArray]; exact Nat.lt_of_lt_of_le (Nat.lt_succ_self _) (box_size wr zeroN 30 cs))⟩ ?_
   rintro w4 ⟨hb4, hr4, hz4⟩
   refine wpList_nil ?_
   have hB4 := after hB hb4
   obtain ⟨hkn, hM1, hkj', hke⟩ := HK.out
   have cS := ih k cs w4 (hgh.out.below hB4) (hkn.below hB4) (by omega) (by omega)
   have hle := size_le f k
   have hH := HH.out.1
   rw [List.drop_eq_getElem_cons hkj', List.foldl_cons, hke] at hH
   obtain ⟨z, hz⟩ : ∃ z, sizeD f k = z := ⟨_, rfl⟩
   have hst := stepS_at (D := D) (M := M) hz
   rw [hst] at hH
   rw [hz] at cS hle
   have HM := Lib.hid (show cntN f k + ((n.kids.drop (j + 1)).map (cntN f)).sum + M <= 1000000 from hM1)
   clear hkn hkj' hke hst hz HK HH hr hM1 hB hb4
   cases z with
   | none =>
    have hH : none = R := by rw [<- hH]; exact (stepS_none f _).symm
    subst hH
    have hV : Value.tuple #[.int .i64 0, .int .i64 0, .bool false] = V := HR.out.2
    subst hV
    clear hle
    go_upto_region 6 with (fail)
    refine wp_region_lit ?_
    refine wpList_load_mid rfl 30 (.tmp 6) rfl wr.heap.size 0 rfl cs _ hr4 underlying30 rfl (by rw [hlen]; exact cellsNode) ?_
    refine wpList_plain rfl (fun KK hKK => ?_); go_simp
    refine cS.mono ?_; rintro e w5 ⟨rfl, hb5⟩
    refine hKK _ _ ?_; clear hKK KK
    unfold sizeV
    go_wp2
    go_ret3; exact Ret.mk' rfl (after hB4 hb5)
   | some p =>
    obtain ⟨d', m'⟩ := p
    obtain ⟨hd', hm'⟩ := hle d' m' rfl
    have HH2 := Lib.hid hH
    have hM1 := HM.out
    have ewM : IntKind.i64.wrap ((M : Int) + (m' : Int)) = ((M + m' : Nat) : Int) := by rw [IntWalk.i64_in _ (by omega)]; omega
    have ewJ : IntKind.i64.wrap ((j : Int) + 1) = ((j + 1 : Nat) : Int) := by rw [IntWalk.i64_in _ (by omega)]; omega
    have ewX : max (D : Int) (d' : Int) = ((max D d' : Nat) : Int) := by omega
    clear hH
    go_upto_region 6 with (fail)
    refine wp_region_lit ?_
    refine wpList_load_mid rfl 30 (.tmp 6) rfl wr.heap.size 0 rfl cs _ hr4 underlying30 rfl (by rw [hlen]; exact cellsNode) ?_
    refine wpList_plain rfl (fun KK hKK => ?_); go_simp
    refine cS.mono ?_; rintro e w5 ⟨rfl, hb5⟩
    refine hKK _ _ ?_; clear hKK KK
    unfold sizeV
    go_wp2
    go_roundw
    case rel => exact ⟨j + 1, max D d', M + m', rfl, rfl, rfl, by omega, by omega, by omega, HH2.out, after hB4 hb5⟩
    case measure => simp [intOf]; omega
  ·have hLj : L = j := by omega
   subst hLj
   have hH := HH.out.1
   rw [List.drop_eq_nil_of_le (by rw [HN.out.2.1]; exact Nat.le_refl _), List.foldl_nil] at hH
   subst hH
   have hV : Value.tuple #[.int .i64 ((D + 1 : Nat) : Int), .int .i64 ((M + 1 : Nat) : Int), .bool true] = V := HR.out.2
   subst hV
   have ewD : IntKind.i64.wrap ((D : Int) + 1) = ((D + 1 : Nat) : Int) := by rw [IntWalk.i64_in _ (by omega)]; omega
   have ewM : IntKind.i64.wrap ((M : Int) + 1) = ((M + 1 : Nat) : Int) := by rw [IntWalk.i64_in _ (by omega)]; omega
   clear HH HR HN
   go_wp2
   go_ret3; exact Ret.mk' rfl hB
theorem NodeAt.mono {w : World} : ∀ {f g : Nat} {cs : List Value} {n : NodeD}, f <= g -> NodeAt f w cs n -> NodeAt g w cs n
 | 0, _, _, _, _, h => h.elim
 | f + 1, 0, _, _, h, _ => by omega
 | f + 1, g + 1, cs, n, h, hn => by
  obtain ⟨a, c, h1, h2, h3, hk⟩ := hn
  refine ⟨a, c, h1, h2, h3, hk.imp id ?_⟩
  rintro ⟨b, o, e1, e2, e3⟩
  refine ⟨b, o, e1, e2, fun i k hi => ?_⟩
  obtain ⟨cs', r1, r2⟩ := e3 i k hi
  exact ⟨cs', r1, r2.mono (by omega)⟩
theorem treeRight_any (n : NodeD) (cs : List Value) (w : World) (hg : Good w) (hn : NodeAt 24 w cs n) (hcnt : cntN 24 n <= 1000000) : Calls prog 11 #[.agg cs.toArray] w (Ret (.bool (rightT n)) w) := by
 have cS := fun W (h : Below w.heap.size w W) => size_any 24 n cs W (hg.below h) (hn.below h) hcnt (by decide)
 have hlen := hn.len
 unfold rightT
 generalize sizeD 24 n = z at *
 clear hg hn hcnt
 cases z with
 | none =>
  go_enter func11, ntmps11
  go_upto_region 1 with (fail)
  refine wp_abs2 (On1 30 w cs.toArray) ⟨belx, heap_alloc_new _ _⟩ ?_
  rintro w1 ⟨hb1, q1⟩
  refine wp_region_lit ?_
  refine wpList_load_row rfl 30 (.tmp 1) rfl w.heap.size rfl 30 cs.toArray (0, 0) _ q1 underlying30 rfl (by rw [List.size_toArray, hlen]; exact cellsNode) ?_
  refine wpList_plain rfl (fun KK hKK => ?_); go_simp
  refine (cS w1 hb1).mono ?_; rintro e w2 ⟨rfl, hb2⟩
  refine hKK _ _ ?_; clear hKK KK
  unfold sizeV
  go_wp2
  go_ret; exact Ret.mk' rfl (after hb1 hb2)
 | some p =>
  obtain ⟨d, m⟩ := p
  have e1 : decide ((d : Int) <= 20) = decide (d <= 20) := by
   by_cases h : d <= 20
   ·rw [decide_eq_true h]; exact decide_eq_true (by omega)
   ·rw [decide_eq_false h]; exact decide_eq_false (by omega)
  have e2 : decide ((m : Int) <= 200) = decide (m <= 200) := by
   by_cases h : m <= 200
   ·rw [decide_eq_true h]; exact decide_eq_true (by omega)
   ·rw [decide_eq_false h]; exact decide_eq_false (by omega)
  dsimp only
  generalize decide (d <= 20) = A at *
  generalize decide (m <= 200) = B at *
  cases A <;> cases B
  all_goals (
   go_enter func11, ntmps11
   go_upto_region 1 with (fail)
   refine wp_abs2 (On1 30 w cs.toArray) ⟨belx, heap_alloc_new _ _⟩ ?_
   rintro w1 ⟨hb1, q1⟩
   refine wp_region_lit ?_
   refine wpList_load_row rfl 30 (.tmp 1) rfl w.heap.size rfl 30 cs.toArray (0, 0) _ q1 underlying30 rfl (by rw [List.size_toArray, hlen]; exact cellsNode) ?_
   refine wpList_plain rfl (fun KK hKK => ?_); go_simp
   refine (cS w1 hb1).mono ?_; rintro e w2 ⟨rfl, hb2⟩
   refine hKK _ _ ?_; clear hKK KK
   unfold sizeV
   go_wp2
   go_ret; exact Ret.mk' rfl (after hb1 hb2))
end Go.Proofs.YtlpgigdegnbkmaaGreatDoor
