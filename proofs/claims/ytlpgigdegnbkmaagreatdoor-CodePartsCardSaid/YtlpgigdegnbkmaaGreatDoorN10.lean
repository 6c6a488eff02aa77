import Derived.Test.YtlpgigdegnbkmaaGreatDoorM41
import Derived.Test.YtlpgigdegnbkmaaGreatDoorN07
import Derived.Test.YtlpgigdegnbkmaaGreatDoorN08
set_option maxRecDepth 100000
set_option maxHeartbeats 8000000
namespace Go.Proofs.YtlpgigdegnbkmaaGreatDoor
open Go.RowKit Tab Tryz
theorem nam_sm {k : Int} {s : Bs} {l : List NodeD} (hs : s.length <= 1000) (hl : l.length <= 1000) : NodeSm (namN k s l) := sm_of ⟨by show (-9000000000000000000 : Int) <= 0; decide, by show (0 : Int) <= 9000000000000000000; decide⟩ hs hl (by show (0 : Int) <= 9223372036854775807; decide) rfl rfl
theorem cnt_two {k : Int} {s : Bs} {a b : NodeD} (ha : cntN 23 a <= 122880) (hb : cntN 23 b <= 122880) : cntN 24 (namN k s [a, b]) <= 1000000 := by
 show 1 + (([a, b] : List NodeD).map (cntN 23)).sum <= 1000000
 simp; omega
theorem cnt_three {k : Int} {s : Bs} {a b c : NodeD} (ha : cntN 23 a <= 122880) (hb : cntN 23 b <= 122880) (hc : cntN 23 c <= 122880) : cntN 24 (namN k s [a, b, c]) <= 1000000 := by
 show 1 + (([a, b, c] : List NodeD).map (cntN 23)).sum <= 1000000
 simp; omega
theorem node_three {f : Nat} {W : World} {b c : Nat} {T : TypeId} {fr : Nat × Nat} {n x y z : NodeD} {cx cy cz : List Value} (hk : n.kids = [x, y, z]) (h : W.heap[b]? = some (.cells (cx ++ cy ++ cz).toArray T fr)) (hc : 3 <= c) (hs : NodeSm n) (hx : NodeAt f W cx x) (hy : NodeAt f W cy y) (hz : NodeAt f W cz z) : NodeAt (f + 1) W (nodeC n (.slice (some ⟨b, 0, none⟩) 3 c)) n := by
 have hl : n.kids.length = 3 := by rw [hk]; rfl
 have := node_row (f := f) (n := n) (c := c) [cx, cy, cz] (by simpa using h) (by rw [hl]; rfl) (by omega) hs (fun i cs k h1 h2 => by
  rw [hk] at h2
  rcases i with _ | _ | _ | i
  ·simp at h1 h2; subst h1 h2; exact hx
  ·simp at h1 h2; subst h1 h2; exact hy
  ·simp at h1 h2; subst h1 h2; exact hz
  ·simp at h1)
 rw [hl] at this
 exact this
theorem deep_of {w : World} : ∀ {f : Nat} {cs : List Value} {n : NodeD}, NodeAt f w cs n -> Deep f n
 | 0, _, _, h => h.elim
 | f + 1, cs, n, h => by
  obtain ⟨a, c, _, _, _, hk⟩ := h
  intro k hm
  obtain ⟨i, hi⟩ := List.mem_iff_getElem?.1 hm
  rcases hk with hk | ⟨b, o, _, _, hk⟩
  ·rw [hk] at hm; cases hm
  ·obtain ⟨cs', _, hr⟩ := hk i k hi
   exact deep_of hr
theorem one_len {a : NodeD} {x : List InsD} (h : OneD a x) : x.length <= 400 := by
 obtain ⟨c, hc, hb⟩ := h
 have hr : rightC c = true := by
  unfold compileD at hc
  split at hc
  ·split at hc
   ·rename_i r; injection hc with hc; subst hc; exact r
   ·cases hc
  ·cases hc
 obtain ⟨_, _, _, _, _, h6⟩ := rightC_parts hr
 exact (h6 x (by rw [hb]; exact List.mem_cons_self ..)).1
/-- what a row handed back is, if one is. -/
def RowOf (W : World) (n : NodeD) (v : Value) (o : Bool) : Prop := o = true -> ∃ x, OneD n x /\ InsRow W v x /\ x.length <= 1000000 /\ ∀ i ∈ x, InsSm i
theorem RowOf.below {w W : World} {n : NodeD} {v : Value} {o : Bool} (h : RowOf w n v o) (hb : Below w.heap.size w W) : RowOf W n v o := fun e => by
 obtain ⟨x, h1, h2, h3, h4⟩ := h e
 exact ⟨x, h1, h2.below hb, h3, h4⟩
theorem plain_st {w : World} {n : NodeD} {e : Ending} {W : World} (h : PlainRet w n e W) : Below w.heap.size w W /\ ∃ v o, e = .returned (.tuple #[v, .bool o]) /\ RowOf W n v o := by
 obtain ⟨hb, rfl | ⟨x, v, h1, rfl, h2, h3, h4⟩⟩ := h
 ·exact ⟨hb, _, _, rfl, fun e => by cases e⟩
 ·exact ⟨hb, _, _, rfl, fun _ => ⟨x, h1, h2, h3, h4⟩⟩
theorem code_ret2 {w : World} {n : NodeD} {e : Ending} {W : World} (hr : CodeRet w n e W) : Below w.heap.size w W /\ ∃ ga gc ha hc c E, e = .returned (.tuple #[codeV ga gc ha hc c, .int .i64 E]) /\ CodeIn W ga gc ha hc c /\ CodeSm c /\ ((E = 0 /\ compileD n = some c) \/ E = 50 \/ E = 60) := by
 obtain ⟨hb, ⟨h1, h2⟩ | ⟨c, ga, gc, ha, hc, h1, h2, h3, h4⟩⟩ := hr
 ·refine ⟨hb, none, 0, none, 0, ⟨[], []⟩, errOf n, h2, noCode_in W, noCode_sm, .inr ?_⟩
  unfold compileD at h1
  unfold errOf
  split at h1
  ·rename_i r1
   split at h1
   ·cases h1
   ·rename_i r2; rw [if_pos r1, if_neg r2]; exact .inr rfl
  ·rename_i r1; rw [if_neg r1]; exact .inl rfl
 ·exact ⟨hb, ga, gc, ha, hc, c, 0, h2, h3, h4, .inl ⟨rfl, h1⟩⟩
theorem parts_any (X0 : List RawD) (a0 : Option Addr) (cap0 : Nat) (X1 : List RawD) (a1 : Option Addr) (cap1 : Nat) (X2 : List RawD) (a2 : Option Addr) (cap2 : Nat) (w : World) (hg : Good w) (o0 : ∀ x ∈ X0, RawOk x) (l0 : X0.length <= 9223372036854775807) (r0 : RawRow w a0 X0) (o1 : ∀ x ∈ X1, RawOk x) (l1 : X1.length <= 9223372036854775807) (r1 : RawRow w a1 X1) (o2 : ∀ x ∈ X2, RawOk x) (l2 : X2.length <= 9223372036854775807) (r2 : RawRow w a2 X2) : Calls prog 4 #[.slice a0 X0.length cap0, .slice a1 X1.length cap1, .slice a2 X2.length cap2] w (Ret (.bool true) w) := by
 have hgh := Lib.hid hg
 go_enter func4, ntmps4
 go_wp2_with fail
 refine (awake_any w hg).mono ?_; rintro e w1 ⟨rfl, hb⟩
 clear hg
 go_upto_region 2 with (fail)
 refine wp_region_lit ?_
 refine wn (.slice a0 X0.length cap0) w1 ?_
 refine wpList_enter 9 #[.slice a0 X0.length cap0] (by kernel_rfl) (by kernel_rfl) _ (treeOf_any X0 a0 cap0 w1 o0 l0 (r0.below hb)) ?_
 rintro e w2 ⟨n0, cs0, rfl, hq, hnice, hx⟩
 refine ⟨_, rfl, ?_⟩
 obtain ⟨na0, nm0, nc0, rfl⟩ := hq.shape
 have h23_0 := (hq.deep (show 17 <= 23 by decide)).at
 have h24_0 := (hq.deep (show 17 <= 24 by decide)).at
 have k23_0 : cntN 23 n0 <= 122880 := (hnice 23).1
 have k24_0 : cntN 24 n0 <= 1000000 := Nat.le_trans (hnice 24).1 (by decide)
 clear hq hnice
 replace hb := after hb hx
 clear hx
 refine wn (.pointer (some ⟨w2.heap.size, 0, none⟩)) (w2.alloc (.cells zeroN 30)) ?_
 refine wpList_store_mid rfl 30 (.tmp 8) (.tmp 27) rfl w2.heap.size 0 (nodeC n0 (.slice na0 nm0 nc0)).toArray rfl rfl (whole_there (heap_alloc_new _ _) rfl) cellsNode (nodeC_one _ _ _ _) ?_
 refine wpList_abs (fun  W => Below w2.heap.size w2 W /\ W.heap[w2.heap.size]? = some (.cells (nodeC n0 (.slice na0 nm0 nc0)).toArray 30 (0, 0))) ⟨below_cells2 (Nat.le_refl _) _ _ _ (allocB (Below.refl _ _)), box_whole (heap_alloc_new _ _) rfl⟩ ?_
 rintro w3 ⟨hx, q0⟩
 simp only [Act.put]
 replace h23_0 := h23_0.below hx
 replace h24_0 := h24_0.below hx
 replace hb := after hb hx
 clear hx
 obtain ⟨B0, hB⟩ : ∃ z, w2.heap.size = z := ⟨_, rfl⟩
 rw [hB] at q0 ⊢
 clear hB
 refine wpList_nil ?_
 go_upto_region 3 with (fail)
 refine wp_region_lit ?_
 refine wn (.slice a1 X1.length cap1) w3 ?_
 refine wpList_enter 9 #[.slice a1 X1.length cap1] (by kernel_rfl) (by kernel_rfl) _ (treeOf_any X1 a1 cap1 w3 o1 l1 (r1.below hb)) ?_
 rintro e w4 ⟨n1, cs1, rfl, hq, hnice, hx⟩
 refine ⟨_, rfl, ?_⟩
 obtain ⟨na1, nm1, nc1, rfl⟩ := hq.shape
 have h23_1 := (hq.deep (show 17 <= 23 by decide)).at
 have h24_1 := (hq.deep (show 17 <= 24 by decide)).at
 have k23_1 : cntN 23 n1 <= 122880 := (hnice 23).1
 have k24_1 : cntN 24 n1 <= 1000000 := Nat.le_trans (hnice 24).1 (by decide)
 clear hq hnice
 replace q0 := kq hx q0
 replace h23_0 := h23_0.below hx
 replace h24_0 := h24_0.below hx
 replace hb := after hb hx
 clear hx
 refine wn (.pointer (some ⟨w4.heap.size, 0, none⟩)) (w4.alloc (.cells zeroN 30)) ?_
 refine wpList_store_mid rfl 30 (.tmp 9) (.tmp 29) rfl w4.heap.size 0 (nodeC n1 (.slice na1 nm1 nc1)).toArray rfl rfl (whole_there (heap_alloc_new _ _) rfl) cellsNode (nodeC_one _ _ _ _) ?_
 refine wpList_abs (fun  W => Below w4.heap.size w4 W /\ W.heap[w4.heap.size]? = some (.cells (nodeC n1 (.slice na1 nm1 nc1)).toArray 30 (0, 0))) ⟨below_cells2 (Nat.le_refl _) _ _ _ (allocB (Below.refl _ _)), box_whole (heap_alloc_new _ _) rfl⟩ ?_
 rintro w5 ⟨hx, q1⟩
 simp only [Act.put]
 replace h23_1 := h23_1.below hx
 replace h24_1 := h24_1.below hx
 replace q0 := kq hx q0
 replace h23_0 := h23_0.below hx
 replace h24_0 := h24_0.below hx
 replace hb := after hb hx
 clear hx
 obtain ⟨B1, hB⟩ : ∃ z, w4.heap.size = z := ⟨_, rfl⟩
 rw [hB] at q1 ⊢
 clear hB
 refine wpList_nil ?_
 go_upto_region 4 with (fail)
 refine wp_region_lit ?_
 refine wn (.slice a2 X2.length cap2) w5 ?_
 refine wpList_enter 9 #[.slice a2 X2.length cap2] (by kernel_rfl) (by kernel_rfl) _ (treeOf_any X2 a2 cap2 w5 o2 l2 (r2.below hb)) ?_
 rintro e w6 ⟨n2, cs2, rfl, hq, hnice, hx⟩
 refine ⟨_, rfl, ?_⟩
 obtain ⟨na2, nm2, nc2, rfl⟩ := hq.shape
 have h23_2 := (hq.deep (show 17 <= 23 by decide)).at
 have h24_2 := (hq.deep (show 17 <= 24 by decide)).at
 have k23_2 : cntN 23 n2 <= 122880 := (hnice 23).1
 have k24_2 : cntN 24 n2 <= 1000000 := Nat.le_trans (hnice 24).1 (by decide)
 clear hq hnice
 replace q0 := kq hx q0
 replace h23_0 := h23_0.below hx
 replace h24_0 := h24_0.below hx
 replace q1 := kq hx q1
 replace h23_1 := h23_1.below hx
 replace h24_1 := h24_1.below hx
 replace hb := after hb hx
 clear hx
 refine wn (.pointer (some ⟨w6.heap.size, 0, none⟩)) (w6.alloc (.cells zeroN 30)) ?_
 refine wpList_store_mid rfl 30 (.tmp 10) (.tmp 31) rfl w6.heap.size 0 (nodeC n2 (.slice na2 nm2 nc2)).toArray rfl rfl (whole_there (heap_alloc_new _ _) rfl) cellsNode (nodeC_one _ _ _ _) ?_
 refine wpList_abs (fun  W => Below w6.heap.size w6 W /\ W.heap[w6.heap.size]? = some (.cells (nodeC n2 (.slice na2 nm2 nc2)).toArray 30 (0, 0))) ⟨below_cells2 (Nat.le_refl _) _ _ _ (allocB (Below.refl _ _)), box_whole (heap_alloc_new _ _) rfl⟩ ?_
 rintro w7 ⟨hx, q2⟩
 simp only [Act.put]
 replace h23_2 := h23_2.below hx
 replace h24_2 := h24_2.below hx
 replace q0 := kq hx q0
 replace h23_0 := h23_0.below hx
 replace h24_0 := h24_0.below hx
 replace q1 := kq hx q1
 replace h23_1 := h23_1.below hx
 replace h24_1 := h24_1.below hx
 replace hb := after hb hx
 clear hx
 obtain ⟨B2, hB⟩ : ∃ z, w6.heap.size = z := ⟨_, rfl⟩
 rw [hB] at q2 ⊢
 clear hB
 refine wpList_nil ?_
 go_upto_region 5 with (fail)
 refine wp_region_lit ?_
 refine wpList_load_row rfl 30 (.tmp 8) rfl B0 rfl 30 (nodeC n0 (.slice na0 nm0 nc0)).toArray (0, 0) _ q0 underlying30 rfl cellsNode ?_
 refine wpList_enter 13 #[.agg (nodeC n0 (.slice na0 nm0 nc0)).toArray] (by kernel_rfl) (by kernel_rfl) _ (codePlain_any n0 _ w7 (hgh.out.below hb) h24_0 k24_0) ?_
 rintro e w8 hr
 obtain ⟨hx, v0, b0, rfl, R0⟩ := plain_st hr
 refine ⟨_, rfl, ?_⟩
 clear hr
 replace q0 := kq hx q0
 replace h23_0 := h23_0.below hx
 replace h24_0 := h24_0.below hx
 replace q1 := kq hx q1
 replace h23_1 := h23_1.below hx
 replace h24_1 := h24_1.below hx
 replace q2 := kq hx q2
 replace h23_2 := h23_2.below hx
 replace h24_2 := h24_2.below hx
 replace hb := after hb hx
 clear hx
 refine wn (.tuple #[v0, .bool b0]) w8 ?_
 refine wn (v0) w8 ?_
 refine wn (.bool b0) w8 ?_
 refine wn (v0) w8 ?_
 refine wn (.bool b0) w8 ?_
 refine wpList_nil ?_
 go_upto_region 6 with (fail)
 refine wp_region_lit ?_
 refine wpList_load_row rfl 30 (.tmp 9) rfl B1 rfl 30 (nodeC n1 (.slice na1 nm1 nc1)).toArray (0, 0) _ q1 underlying30 rfl cellsNode ?_
 refine wpList_enter 13 #[.agg (nodeC n1 (.slice na1 nm1 nc1)).toArray] (by kernel_rfl) (by kernel_rfl) _ (codePlain_any n1 _ w8 (hgh.out.below hb) h24_1 k24_1) ?_
 rintro e w9 hr
 obtain ⟨hx, v1, b1, rfl, R1⟩ := plain_st hr
 refine ⟨_, rfl, ?_⟩
 clear hr
 replace q0 := kq hx q0
 replace h23_0 := h23_0.below hx
 replace h24_0 := h24_0.below hx
 replace q1 := kq hx q1
 replace h23_1 := h23_1.below hx
 replace h24_1 := h24_1.below hx
 replace q2 := kq hx q2
 replace h23_2 := h23_2.below hx
 replace h24_2 := h24_2.below hx
 replace R0 := R0.below hx
 replace hb := after hb hx
 clear hx
 refine wn (.tuple #[v1, .bool b1]) w9 ?_
 refine wn (v1) w9 ?_
 refine wn (.bool b1) w9 ?_
 refine wn (v1) w9 ?_
 refine wn (.bool b1) w9 ?_
 refine wpList_nil ?_
 go_upto_region 7 with (fail)
 refine wp_region_lit ?_
 refine wpList_load_row rfl 30 (.tmp 10) rfl B2 rfl 30 (nodeC n2 (.slice na2 nm2 nc2)).toArray (0, 0) _ q2 underlying30 rfl cellsNode ?_
 refine wpList_enter 13 #[.agg (nodeC n2 (.slice na2 nm2 nc2)).toArray] (by kernel_rfl) (by kernel_rfl) _ (codePlain_any n2 _ w9 (hgh.out.below hb) h24_2 k24_2) ?_
 rintro e w10 hr
 obtain ⟨hx, v2, b2, rfl, R2⟩ := plain_st hr
 refine ⟨_, rfl, ?_⟩
 clear hr
 replace q0 := kq hx q0
 replace h23_0 := h23_0.below hx
 replace h24_0 := h24_0.below hx
 replace q1 := kq hx q1
 replace h23_1 := h23_1.below hx
 replace h24_1 := h24_1.below hx
 replace q2 := kq hx q2
 replace h23_2 := h23_2.below hx
 replace h24_2 := h24_2.below hx
 replace R0 := R0.below hx
 replace R1 := R1.below hx
 replace hb := after hb hx
 clear hx
 refine wn (.tuple #[v2, .bool b2]) w10 ?_
 refine wn (v2) w10 ?_
 refine wn (.bool b2) w10 ?_
 refine wn (v2) w10 ?_
 refine wn (.bool b2) w10 ?_
 refine wpList_nil ?_
 go_upto_region 8 with (fail)
 refine wp_region_lit ?_
 refine wpList_load_row rfl 30 (.tmp 8) rfl B0 rfl 30 (nodeC n0 (.slice na0 nm0 nc0)).toArray (0, 0) _ q0 underlying30 rfl cellsNode ?_
 refine wpList_load_row rfl 30 (.tmp 9) rfl B1 rfl 30 (nodeC n1 (.slice na1 nm1 nc1)).toArray (0, 0) _ q1 underlying30 rfl cellsNode ?_
 refine wn (.slice (some ⟨w10.heap.size, 0, none⟩) 2 2) (w10.alloc (.cells ((nodeC n0 (.slice na0 nm0 nc0)) ++ (nodeC n1 (.slice na1 nm1 nc1))).toArray 30)) ?_
 refine wpList_abs (fun  W => Below w10.heap.size w10 W /\ W.heap[w10.heap.size]? = some (.cells ((nodeC n0 (.slice na0 nm0 nc0)) ++ (nodeC n1 (.slice na1 nm1 nc1))).toArray 30 (0, 0))) ⟨allocB (Below.refl _ _), heap_alloc_new _ _⟩ ?_
 rintro w11 ⟨hx, kr⟩
 replace q0 := kq hx q0
 replace h23_0 := h23_0.below hx
 replace h24_0 := h24_0.below hx
 replace q1 := kq hx q1
 replace h23_1 := h23_1.below hx
 replace h24_1 := h24_1.below hx
 replace q2 := kq hx q2
 replace h23_2 := h23_2.below hx
 replace h24_2 := h24_2.below hx
 replace R0 := R0.below hx
 replace R1 := R1.below hx
 replace R2 := R2.below hx
 replace hb := after hb hx
 clear hx
 refine wn (.agg (nodeC (namN 9 [43] [n0, n1]) (.slice (some ⟨w10.heap.size, 0, none⟩) 2 2)).toArray) w11 ?_
 refine wpList_enter 10 #[.agg (nodeC (namN 9 [43] [n0, n1]) (.slice (some ⟨w10.heap.size, 0, none⟩) 2 2)).toArray] (by kernel_rfl) (by kernel_rfl) _ (compile_any (namN 9 [43] [n0, n1]) _ w11 (hgh.out.below hb) (node_two rfl kr (Nat.le_refl _) (nam_sm (by decide) (show 2 <= 1000 by decide)) h23_0 h23_1) (cnt_two k23_0 k23_1)) ?_
 rintro e w12 hr
 obtain ⟨hx, ga8, gc8, ha8, hc8, c8, E8, rfl, hI8, hS8, hE8⟩ := code_ret2 hr
 refine ⟨_, rfl, ?_⟩
 clear hr kr
 replace q0 := kq hx q0
 replace h23_0 := h23_0.below hx
 replace h24_0 := h24_0.below hx
 replace q1 := kq hx q1
 replace h23_1 := h23_1.below hx
 replace h24_1 := h24_1.below hx
 replace q2 := kq hx q2
 replace h23_2 := h23_2.below hx
 replace h24_2 := h24_2.below hx
 replace R0 := R0.below hx
 replace R1 := R1.below hx
 replace R2 := R2.below hx
 replace hb := after hb hx
 clear hx
 refine wn (.tuple #[codeV ga8 gc8 ha8 hc8 c8, .int .i64 E8]) w12 ?_
 refine wn (codeV ga8 gc8 ha8 hc8 c8) w12 ?_
 refine wn (.int .i64 E8) w12 ?_
 refine wn (.pointer (some ⟨w12.heap.size, 0, none⟩)) (w12.alloc (.cells #[.slice none 0 0, .slice none 0 0] 35)) ?_
 refine wpList_store_mid rfl 35 (.tmp 17) (.tmp 53) rfl w12.heap.size 0 ([.slice ga8 c8.blocks.length gc8, .slice ha8 c8.params.length hc8]).toArray rfl rfl (whole_there (heap_alloc_new _ _) rfl) cellsCode (oneCode _ _ rfl rfl) ?_
 refine wpList_abs (fun  W => Below w12.heap.size w12 W /\ W.heap[w12.heap.size]? = some (.cells ([.slice ga8 c8.blocks.length gc8, .slice ha8 c8.params.length hc8]).toArray 35 (0, 0))) ⟨below_cells2 (Nat.le_refl _) _ _ _ (allocB (Below.refl _ _)), box_whole (heap_alloc_new _ _) rfl⟩ ?_
 rintro w13 ⟨hx, p8⟩
 simp only [Act.put]
 replace hI8 := hI8.below hx
 replace q0 := kq hx q0
 replace h23_0 := h23_0.below hx
 replace h24_0 := h24_0.below hx
 replace q1 := kq hx q1
 replace h23_1 := h23_1.below hx
 replace h24_1 := h24_1.below hx
 replace q2 := kq hx q2
 replace h23_2 := h23_2.below hx
 replace h24_2 := h24_2.below hx
 replace R0 := R0.below hx
 replace R1 := R1.below hx
 replace R2 := R2.below hx
 replace hb := after hb hx
 clear hx
 obtain ⟨P8, hP⟩ : ∃ z, w12.heap.size = z := ⟨_, rfl⟩
 rw [hP] at p8 ⊢
 clear hP
 refine wn (.int .i64 E8) w13 ?_
 refine wpList_nil ?_
 go_upto_region 9 with (fail)
 refine wp_region_lit ?_
 refine wpList_load_row rfl 30 (.tmp 8) rfl B0 rfl 30 (nodeC n0 (.slice na0 nm0 nc0)).toArray (0, 0) _ q0 underlying30 rfl cellsNode ?_
 refine wpList_load_row rfl 30 (.tmp 9) rfl B1 rfl 30 (nodeC n1 (.slice na1 nm1 nc1)).toArray (0, 0) _ q1 underlying30 rfl cellsNode ?_
 refine wn (.slice (some ⟨w13.heap.size, 0, none⟩) 2 2) (w13.alloc (.cells ((nodeC n0 (.slice na0 nm0 nc0)) ++ (nodeC n1 (.slice na1 nm1 nc1))).toArray 30)) ?_
 refine wpList_abs (fun  W => Below w13.heap.size w13 W /\ W.heap[w13.heap.size]? = some (.cells ((nodeC n0 (.slice na0 nm0 nc0)) ++ (nodeC n1 (.slice na1 nm1 nc1))).toArray 30 (0, 0))) ⟨allocB (Below.refl _ _), heap_alloc_new _ _⟩ ?_
 rintro w14 ⟨hx, kr⟩
 replace q0 := kq hx q0
 replace h23_0 := h23_0.below hx
 replace h24_0 := h24_0.below hx
 replace q1 := kq hx q1
 replace h23_1 := h23_1.below hx
 replace h24_1 := h24_1.below hx
 replace q2 := kq hx q2
 replace h23_2 := h23_2.below hx
 replace h24_2 := h24_2.below hx
 replace R0 := R0.below hx
 replace R1 := R1.below hx
 replace R2 := R2.below hx
 replace p8 := kq hx p8
 replace hI8 := hI8.below hx
 replace hb := after hb hx
 clear hx
 refine wn (.agg (nodeC (namN 12 [77, 65, 88] [n0, n1]) (.slice (some ⟨w13.heap.size, 0, none⟩) 2 2)).toArray) w14 ?_
 refine wpList_enter 10 #[.agg (nodeC (namN 12 [77, 65, 88] [n0, n1]) (.slice (some ⟨w13.heap.size, 0, none⟩) 2 2)).toArray] (by kernel_rfl) (by kernel_rfl) _ (compile_any (namN 12 [77, 65, 88] [n0, n1]) _ w14 (hgh.out.below hb) (node_two rfl kr (Nat.le_refl _) (nam_sm (by decide) (show 2 <= 1000 by decide)) h23_0 h23_1) (cnt_two k23_0 k23_1)) ?_
 rintro e w15 hr
 obtain ⟨hx, ga9, gc9, ha9, hc9, c9, E9, rfl, hI9, hS9, hE9⟩ := code_ret2 hr
 refine ⟨_, rfl, ?_⟩
 clear hr kr
 replace q0 := kq hx q0
 replace h23_0 := h23_0.below hx
 replace h24_0 := h24_0.below hx
 replace q1 := kq hx q1
 replace h23_1 := h23_1.below hx
 replace h24_1 := h24_1.below hx
 replace q2 := kq hx q2
 replace h23_2 := h23_2.below hx
 replace h24_2 := h24_2.below hx
 replace R0 := R0.below hx
 replace R1 := R1.below hx
 replace R2 := R2.below hx
 replace p8 := kq hx p8
 replace hI8 := hI8.below hx
 replace hb := after hb hx
 clear hx
 refine wn (.tuple #[codeV ga9 gc9 ha9 hc9 c9, .int .i64 E9]) w15 ?_
 refine wn (codeV ga9 gc9 ha9 hc9 c9) w15 ?_
 refine wn (.int .i64 E9) w15 ?_
 refine wn (.pointer (some ⟨w15.heap.size, 0, none⟩)) (w15.alloc (.cells #[.slice none 0 0, .slice none 0 0] 35)) ?_
 refine wpList_store_mid rfl 35 (.tmp 19) (.tmp 61) rfl w15.heap.size 0 ([.slice ga9 c9.blocks.length gc9, .slice ha9 c9.params.length hc9]).toArray rfl rfl (whole_there (heap_alloc_new _ _) rfl) cellsCode (oneCode _ _ rfl rfl) ?_
 refine wpList_abs (fun  W => Below w15.heap.size w15 W /\ W.heap[w15.heap.size]? = some (.cells ([.slice ga9 c9.blocks.length gc9, .slice ha9 c9.params.length hc9]).toArray 35 (0, 0))) ⟨below_cells2 (Nat.le_refl _) _ _ _ (allocB (Below.refl _ _)), box_whole (heap_alloc_new _ _) rfl⟩ ?_
 rintro w16 ⟨hx, p9⟩
 simp only [Act.put]
 replace hI9 := hI9.below hx
 replace q0 := kq hx q0
 replace h23_0 := h23_0.below hx
 replace h24_0 := h24_0.below hx
 replace q1 := kq hx q1
 replace h23_1 := h23_1.below hx
 replace h24_1 := h24_1.below hx
 replace q2 := kq hx q2
 replace h23_2 := h23_2.below hx
 replace h24_2 := h24_2.below hx
 replace R0 := R0.below hx
 replace R1 := R1.below hx
 replace R2 := R2.below hx
 replace p8 := kq hx p8
 replace hI8 := hI8.below hx
 replace hb := after hb hx
 clear hx
 obtain ⟨P9, hP⟩ : ∃ z, w15.heap.size = z := ⟨_, rfl⟩
 rw [hP] at p9 ⊢
 clear hP
 refine wn (.int .i64 E9) w16 ?_
 refine wpList_nil ?_
 go_upto_region 10 with (fail)
 refine wp_region_lit ?_
 refine wpList_load_row rfl 30 (.tmp 8) rfl B0 rfl 30 (nodeC n0 (.slice na0 nm0 nc0)).toArray (0, 0) _ q0 underlying30 rfl cellsNode ?_
 refine wpList_load_row rfl 30 (.tmp 9) rfl B1 rfl 30 (nodeC n1 (.slice na1 nm1 nc1)).toArray (0, 0) _ q1 underlying30 rfl cellsNode ?_
 refine wpList_load_row rfl 30 (.tmp 10) rfl B2 rfl 30 (nodeC n2 (.slice na2 nm2 nc2)).toArray (0, 0) _ q2 underlying30 rfl cellsNode ?_
 refine wn (.slice (some ⟨w16.heap.size, 0, none⟩) 3 3) (w16.alloc (.cells ((nodeC n0 (.slice na0 nm0 nc0)) ++ (nodeC n1 (.slice na1 nm1 nc1)) ++ (nodeC n2 (.slice na2 nm2 nc2))).toArray 30)) ?_
 refine wpList_abs (fun  W => Below w16.heap.size w16 W /\ W.heap[w16.heap.size]? = some (.cells ((nodeC n0 (.slice na0 nm0 nc0)) ++ (nodeC n1 (.slice na1 nm1 nc1)) ++ (nodeC n2 (.slice na2 nm2 nc2))).toArray 30 (0, 0))) ⟨allocB (Below.refl _ _), heap_alloc_new _ _⟩ ?_
 rintro w17 ⟨hx, kr⟩
 replace q0 := kq hx q0
 replace h23_0 := h23_0.below hx
 replace h24_0 := h24_0.below hx
 replace q1 := kq hx q1
 replace h23_1 := h23_1.below hx
 replace h24_1 := h24_1.below hx
 replace q2 := kq hx q2
 replace h23_2 := h23_2.below hx
 replace h24_2 := h24_2.below hx
 replace R0 := R0.below hx
 replace R1 := R1.below hx
 replace R2 := R2.below hx
 replace p8 := kq hx p8
 replace hI8 := hI8.below hx
 replace p9 := kq hx p9
 replace hI9 := hI9.below hx
 replace hb := after hb hx
 clear hx
 refine wn (.agg (nodeC (namN 12 [73, 70] [n0, n1, n2]) (.slice (some ⟨w16.heap.size, 0, none⟩) 3 3)).toArray) w17 ?_
 refine wpList_enter 10 #[.agg (nodeC (namN 12 [73, 70] [n0, n1, n2]) (.slice (some ⟨w16.heap.size, 0, none⟩) 3 3)).toArray] (by kernel_rfl) (by kernel_rfl) _ (compile_any (namN 12 [73, 70] [n0, n1, n2]) _ w17 (hgh.out.below hb) (node_three rfl kr (Nat.le_refl _) (nam_sm (by decide) (show 3 <= 1000 by decide)) h23_0 h23_1 h23_2) (cnt_three k23_0 k23_1 k23_2)) ?_
 rintro e w18 hr
 obtain ⟨hx, ga10, gc10, ha10, hc10, c10, E10, rfl, hI10, hS10, hE10⟩ := code_ret2 hr
 refine ⟨_, rfl, ?_⟩
 clear hr kr
 replace q0 := kq hx q0
 replace h23_0 := h23_0.below hx
 replace h24_0 := h24_0.below hx
 replace q1 := kq hx q1
 replace h23_1 := h23_1.below hx
 replace h24_1 := h24_1.below hx
 replace q2 := kq hx q2
 replace h23_2 := h23_2.below hx
 replace h24_2 := h24_2.below hx
 replace R0 := R0.below hx
 replace R1 := R1.below hx
 replace R2 := R2.below hx
 replace p8 := kq hx p8
 replace hI8 := hI8.below hx
 replace p9 := kq hx p9
 replace hI9 := hI9.below hx
 replace hb := after hb hx
 clear hx
 refine wn (.tuple #[codeV ga10 gc10 ha10 hc10 c10, .int .i64 E10]) w18 ?_
 refine wn (codeV ga10 gc10 ha10 hc10 c10) w18 ?_
 refine wn (.int .i64 E10) w18 ?_
 refine wn (.pointer (some ⟨w18.heap.size, 0, none⟩)) (w18.alloc (.cells #[.slice none 0 0, .slice none 0 0] 35)) ?_
 refine wpList_store_mid rfl 35 (.tmp 21) (.tmp 70) rfl w18.heap.size 0 ([.slice ga10 c10.blocks.length gc10, .slice ha10 c10.params.length hc10]).toArray rfl rfl (whole_there (heap_alloc_new _ _) rfl) cellsCode (oneCode _ _ rfl rfl) ?_
 refine wpList_abs (fun  W => Below w18.heap.size w18 W /\ W.heap[w18.heap.size]? = some (.cells ([.slice ga10 c10.blocks.length gc10, .slice ha10 c10.params.length hc10]).toArray 35 (0, 0))) ⟨below_cells2 (Nat.le_refl _) _ _ _ (allocB (Below.refl _ _)), box_whole (heap_alloc_new _ _) rfl⟩ ?_
 rintro w19 ⟨hx, p10⟩
 simp only [Act.put]
 replace hI10 := hI10.below hx
 replace q0 := kq hx q0
 replace h23_0 := h23_0.below hx
 replace h24_0 := h24_0.below hx
 replace q1 := kq hx q1
 replace h23_1 := h23_1.below hx
 replace h24_1 := h24_1.below hx
 replace q2 := kq hx q2
 replace h23_2 := h23_2.below hx
 replace h24_2 := h24_2.below hx
 replace R0 := R0.below hx
 replace R1 := R1.below hx
 replace R2 := R2.below hx
 replace p8 := kq hx p8
 replace hI8 := hI8.below hx
 replace p9 := kq hx p9
 replace hI9 := hI9.below hx
 replace hb := after hb hx
 clear hx
 obtain ⟨P10, hP⟩ : ∃ z, w18.heap.size = z := ⟨_, rfl⟩
 rw [hP] at p10 ⊢
 clear hP
 refine wn (.int .i64 E10) w19 ?_
 refine wpList_nil ?_
 cases b0
 ·clear hI8 hI9 hI10 hS8 hS9 hS10 q0 q1 q2 p8 p9 p10 r0 r1 r2 o0 o1 o2 h23_0 h23_1 h23_2 h24_0 h24_1 h24_2 R0 R1 R2
  go_wp2
  go_ret; exact Ret.mk' rfl hb
 cases b1
 ·clear hI8 hI9 hI10 hS8 hS9 hS10 q0 q1 q2 p8 p9 p10 r0 r1 r2 o0 o1 o2 h23_0 h23_1 h23_2 h24_0 h24_1 h24_2 R0 R1 R2
  go_wp2
  go_ret; exact Ret.mk' rfl hb
 cases b2
 ·clear hI8 hI9 hI10 hS8 hS9 hS10 q0 q1 q2 p8 p9 p10 r0 r1 r2 o0 o1 o2 h23_0 h23_1 h23_2 h24_0 h24_1 h24_2 R0 R1 R2
  go_wp2
  go_ret; exact Ret.mk' rfl hb
 rcases hE8 with ⟨rfl, hc8e⟩ | rfl | rfl
 rotate_left
 ·clear hI8 hI9 hI10 hS8 hS9 hS10 q0 q1 q2 p8 p9 p10 r0 r1 r2 o0 o1 o2 h23_0 h23_1 h23_2 h24_0 h24_1 h24_2 R0 R1 R2
  go_wp2
  go_ret; exact Ret.mk' rfl hb
 ·clear hI8 hI9 hI10 hS8 hS9 hS10 q0 q1 q2 p8 p9 p10 r0 r1 r2 o0 o1 o2 h23_0 h23_1 h23_2 h24_0 h24_1 h24_2 R0 R1 R2
  go_wp2
  go_ret; exact Ret.mk' rfl hb
 rcases hE9 with ⟨rfl, hc9e⟩ | rfl | rfl
 rotate_left
 ·clear hI8 hI9 hI10 hS8 hS9 hS10 q0 q1 q2 p8 p9 p10 r0 r1 r2 o0 o1 o2 h23_0 h23_1 h23_2 h24_0 h24_1 h24_2 R0 R1 R2
  go_wp2
  go_ret; exact Ret.mk' rfl hb
 ·clear hI8 hI9 hI10 hS8 hS9 hS10 q0 q1 q2 p8 p9 p10 r0 r1 r2 o0 o1 o2 h23_0 h23_1 h23_2 h24_0 h24_1 h24_2 R0 R1 R2
  go_wp2
  go_ret; exact Ret.mk' rfl hb
 rcases hE10 with ⟨rfl, hc10e⟩ | rfl | rfl
 rotate_left
 ·clear hI8 hI9 hI10 hS8 hS9 hS10 q0 q1 q2 p8 p9 p10 r0 r1 r2 o0 o1 o2 h23_0 h23_1 h23_2 h24_0 h24_1 h24_2 R0 R1 R2
  go_wp2
  go_ret; exact Ret.mk' rfl hb
 ·clear hI8 hI9 hI10 hS8 hS9 hS10 q0 q1 q2 p8 p9 p10 r0 r1 r2 o0 o1 o2 h23_0 h23_1 h23_2 h24_0 h24_1 h24_2 R0 R1 R2
  go_wp2
  go_ret; exact Ret.mk' rfl hb
 obtain ⟨x, ox, hx0, lx, sx⟩ := R0 rfl
 obtain ⟨y, oy, hy0, ly, sy⟩ := R1 rfl
 obtain ⟨z, oz, hz0, lz, sz⟩ := R2 rfl
 have e8 := sum_is (ox.flat (deep_of h23_0)) (oy.flat (deep_of h23_1)) rfl rfl rfl hc8e
 have e9 := call_is (ox.flat (deep_of h23_0)) (oy.flat (deep_of h23_1)) rfl rfl rfl hc9e
 have e10 := if_is (ox.flat (deep_of h23_0)) (oy.flat (deep_of h23_1)) (oz.flat (deep_of h23_2)) rfl rfl rfl hc10e
 replace lx := one_len ox
 replace ly := one_len oy
 replace lz := one_len oz
 have nx := ox.ne
 have ny := oy.ne
 have nz := oz.ne
 clear hc8e hc9e hc10e ox oy oz h23_0 h23_1 h23_2 h24_0 h24_1 h24_2 q0 q1 q2 r0 r1 r2 o0 o1 o2 R0 R1 R2
 have s8 : sameC c8 ⟨[x ++ y ++ [({ op := 8, s := [43] } : InsD)]], [[]]⟩ = true := by rw [e8]; exact (sameC_iff _ _).2 rfl
 have s9 : sameC c9 ⟨[x ++ y ++ [({ op := 11, s := [77, 65, 88], a := 2 } : InsD)]], [[]]⟩ = true := by rw [e9]; exact (sameC_iff _ _).2 rfl
 have s10 : sameC c10 ⟨[ifRow x y z], [[]]⟩ = true := by rw [e10]; exact (sameC_iff _ _).2 rfl
 have HS := Lib.hid (And.intro s8 (And.intro s9 s10))
 clear e8 e9 e10 s8 s9 s10
 obtain ⟨xa, xc, rfl, -⟩ := id hx0
 obtain ⟨ya, yc, rfl, -⟩ := id hy0
 obtain ⟨za, zc, rfl, -⟩ := id hz0
 have ewY : IntKind.i64.wrap ((y.length : Int) + 1) = (y.length : Int) + 1 := by rw [IntWalk.i64_in _ (by omega)]
 have ewZ : IntKind.i64.wrap ((y.length : Int) + 1 + (z.length : Int)) = (y.length : Int) + 1 + (z.length : Int) := by rw [IntWalk.i64_in _ (by omega)]
 go_upto_region 13 with (fail)
 refine wp_region_lit ?_
 refine wn (.slice (some ⟨w19.heap.size, 0, none⟩) 0 0) (w19.alloc (.cells #[] 43)) ?_
 refine wpList_abs (fun  W => Below w19.heap.size w19 W /\ W.heap[w19.heap.size]? = some (.cells #[] 43 (0, 0))) ⟨allocB (Below.refl _ _), heap_alloc_new _ _⟩ ?_
 rintro w20 ⟨hR, e0⟩
 have own := own_empty (Nat.le_refl _) e0
 refine wn (.slice xa x.length xc) w20 ?_
 refine wpList_app (.tmp 95) (.tmp 96) w19 _ ([]) own hR (x) _ (hx0.below hR) nx (by first | omega | (simp; omega)) ?_
 clear e0
 intro u21 w21 own2 hR2
 clear own hR
 have own := own2
 have hR := hR2
 clear own2 hR2
 have e0 := own
 simp only [Act.put, List.setIfInBounds_toArray, List.set_cons_zero, List.set_cons_succ]
 rw [List.nil_append] at own
 refine wn (.slice ya y.length yc) w21 ?_
 refine wpList_app (.tmp 97) (.tmp 98) w19 _ (x) own hR (y) _ (hy0.below hR) ny (by first | omega | (simp; omega)) ?_
 clear e0
 intro u22 w22 own2 hR2
 clear own hR
 have own := own2
 have hR := hR2
 clear own2 hR2
 have e0 := own
 simp only [Act.put, List.setIfInBounds_toArray, List.set_cons_zero, List.set_cons_succ]
 refine wn (u22) w22 ?_
 refine wpList_nil ?_
 have hB := own.row
 have hx := hR
 clear own hR e0
 replace p8 := kq hx p8
 replace p9 := kq hx p9
 replace p10 := kq hx p10
 replace hI8 := hI8.below hx
 replace hI9 := hI9.below hx
 replace hI10 := hI10.below hx
 replace hx0 := hx0.below hx
 replace hy0 := hy0.below hx
 replace hz0 := hz0.below hx
 replace hb := after hb hx
 clear hx
 obtain ⟨vb, hvb⟩ : ∃ v, v = u22 := ⟨_, rfl⟩
 rw [<- hvb] at hB ⊢
 clear hvb
 go_upto_region 14 with (fail)
 refine wp_region_lit ?_
 refine wn (.slice (some ⟨w22.heap.size, 0, none⟩) 0 0) (w22.alloc (.cells #[] 43)) ?_
 refine wpList_abs (fun  W => Below w22.heap.size w22 W /\ W.heap[w22.heap.size]? = some (.cells #[] 43 (0, 0))) ⟨allocB (Below.refl _ _), heap_alloc_new _ _⟩ ?_
 rintro w23 ⟨hR, e0⟩
 have own := own_empty (Nat.le_refl _) e0
 refine wn (.slice xa x.length xc) w23 ?_
 refine wpList_app (.tmp 100) (.tmp 101) w22 _ ([]) own hR (x) _ (hx0.below hR) nx (by first | omega | (simp; omega)) ?_
 clear e0
 intro u24 w24 own2 hR2
 clear own hR
 have own := own2
 have hR := hR2
 clear own2 hR2
 have e0 := own
 simp only [Act.put, List.setIfInBounds_toArray, List.set_cons_zero, List.set_cons_succ]
 rw [List.nil_append] at own
 refine wn (.slice ya y.length yc) w24 ?_
 refine wn (.int .i64 (y.length : Int)) w24 ?_
 refine wn (.int .i64 (IntKind.i64.wrap ((y.length : Int) + 1))) w24 ?_
 refine wn (.slice ya y.length yc) w24 ?_
 refine wn (.int .i64 (y.length : Int)) w24 ?_
 refine wn (.int .i64 (IntKind.i64.wrap ((y.length : Int) + 1))) w24 ?_
 refine wn (.slice za z.length zc) w24 ?_
 refine wn (.int .i64 (z.length : Int)) w24 ?_
 rw [ewY]
 refine wn (.int .i64 (IntKind.i64.wrap ((y.length : Int) + 1 + (z.length : Int)))) w24 ?_
 rw [ewZ]
 refine wn (.agg (insC ({ op := 13, a := (y.length : Int) + 1, b := (y.length : Int) + 1 + z.length } : InsD)).toArray) w24 ?_
 refine wn (.slice (some ⟨w24.heap.size, 0, none⟩) 1 1) (w24.alloc (.cells (insC ({ op := 13, a := (y.length : Int) + 1, b := (y.length : Int) + 1 + z.length } : InsD)).toArray 43)) ?_
 refine wpList_abs (fun  W => OwnI W w22.heap.size u24 (x) /\ Below w22.heap.size w22 W /\ W.heap[w24.heap.size]? = some (.cells (insC ({ op := 13, a := (y.length : Int) + 1, b := (y.length : Int) + 1 + z.length } : InsD)).toArray 43 (0, 0))) ⟨own.alloc _, allocB hR, heap_alloc_new _ _⟩ ?_
 clear own hR e0
 rintro w25 ⟨own, hR, e0⟩
 refine wpList_app (.tmp 102) (.tmp 113) w22 _ (x) own hR ([({ op := 13, a := (y.length : Int) + 1, b := (y.length : Int) + 1 + z.length } : InsD)]) _ (lit_row e0) (by simp) (by first | omega | (simp; omega)) ?_
 clear e0
 intro u26 w26 own2 hR2
 clear own hR
 have own := own2
 have hR := hR2
 clear own2 hR2
 have e0 := own
 simp only [Act.put, List.setIfInBounds_toArray, List.set_cons_zero, List.set_cons_succ]
 refine wn (u26) w26 ?_
 refine wpList_nil ?_
 go_upto_region 15 with (fail)
 refine wp_region_lit ?_
 refine wn (u26) w26 ?_
 refine wn (.slice ya y.length yc) w26 ?_
 refine wpList_app (.tmp 115) (.tmp 116) w22 _ (x ++ [({ op := 13, a := (y.length : Int) + 1, b := (y.length : Int) + 1 + z.length } : InsD)]) own hR (y) _ (hy0.below hR) ny (by first | omega | (simp; omega)) ?_
 clear e0
 intro u27 w27 own2 hR2
 clear own hR
 have own := own2
 have hR := hR2
 clear own2 hR2
 have e0 := own
 simp only [Act.put, List.setIfInBounds_toArray, List.set_cons_zero, List.set_cons_succ]
 refine wn (.slice za z.length zc) w27 ?_
 refine wn (.int .i64 (z.length : Int)) w27 ?_
 refine wn (.agg (insC ({ op := 14, a := (z.length : Int) } : InsD)).toArray) w27 ?_
 refine wn (.slice (some ⟨w27.heap.size, 0, none⟩) 1 1) (w27.alloc (.cells (insC ({ op := 14, a := (z.length : Int) } : InsD)).toArray 43)) ?_
 refine wpList_abs (fun  W => OwnI W w22.heap.size u27 ((x ++ [({ op := 13, a := (y.length : Int) + 1, b := (y.length : Int) + 1 + z.length } : InsD)]) ++ y) /\ Below w22.heap.size w22 W /\ W.heap[w27.heap.size]? = some (.cells (insC ({ op := 14, a := (z.length : Int) } : InsD)).toArray 43 (0, 0))) ⟨own.alloc _, allocB hR, heap_alloc_new _ _⟩ ?_
 clear own hR e0
 rintro w28 ⟨own, hR, e0⟩
 refine wpList_app (.tmp 117) (.tmp 121) w22 _ ((x ++ [({ op := 13, a := (y.length : Int) + 1, b := (y.length : Int) + 1 + z.length } : InsD)]) ++ y) own hR ([({ op := 14, a := (z.length : Int) } : InsD)]) _ (lit_row e0) (by simp) (by first | omega | (simp; omega)) ?_
 clear e0
 intro u29 w29 own2 hR2
 clear own hR
 have own := own2
 have hR := hR2
 clear own2 hR2
 have e0 := own
 simp only [Act.put, List.setIfInBounds_toArray, List.set_cons_zero, List.set_cons_succ]
 refine wn (u29) w29 ?_
 refine wpList_nil ?_
 go_upto_region 16 with (fail)
 refine wp_region_lit ?_
 refine wn (u29) w29 ?_
 refine wn (.slice za z.length zc) w29 ?_
 refine wpList_app (.tmp 123) (.tmp 124) w22 _ (((x ++ [({ op := 13, a := (y.length : Int) + 1, b := (y.length : Int) + 1 + z.length } : InsD)]) ++ y) ++ [({ op := 14, a := (z.length : Int) } : InsD)]) own hR (z) _ (hz0.below hR) nz (by first | omega | (simp; omega)) ?_
 clear e0
 intro u30 w30 own2 hR2
 clear own hR
 have own := own2
 have hR := hR2
 clear own2 hR2
 have e0 := own
 simp only [Act.put, List.setIfInBounds_toArray, List.set_cons_zero, List.set_cons_succ]
 refine wn (u30) w30 ?_
 refine wpList_nil ?_
 have hA : InsRow w30 u30 (ifRow x y z) := by
  have h := own.row
  rw [show (((x ++ [({ op := 13, a := (y.length : Int) + 1, b := (y.length : Int) + 1 + z.length } : InsD)]) ++ y) ++ [({ op := 14, a := (z.length : Int) } : InsD)]) ++ z = ifRow x y z by unfold ifRow; simp] at h
  exact h
 have hx := hR
 clear own hR e0
 replace p8 := kq hx p8
 replace p9 := kq hx p9
 replace p10 := kq hx p10
 replace hI8 := hI8.below hx
 replace hI9 := hI9.below hx
 replace hI10 := hI10.below hx
 replace hx0 := hx0.below hx
 replace hy0 := hy0.below hx
 replace hz0 := hz0.below hx
 replace hB := hB.below hx
 replace hb := after hb hx
 clear hx
 obtain ⟨va, hva⟩ : ∃ v, v = u30 := ⟨_, rfl⟩
 rw [<- hva] at hA ⊢
 clear hva hx0 hy0 hz0
 obtain ⟨s8, s9, s10⟩ := HS.out
 have i8 : InsSm ({ op := 8, s := [43] } : InsD) := ⟨by simp, by decide, zero_two⟩
 have i9 : InsSm ({ op := 11, s := [77, 65, 88], a := 2 } : InsD) := ⟨by simp, by decide, zero_two⟩
 have sxy : ∀ i ∈ x ++ y, InsSm i := fun i hi => (List.mem_append.1 hi).elim (sx i) (sy i)
 have c17 := fun (W : World) (h : Below w30.heap.size w30 W) (v : Value) (hv : InsRow W v (x ++ y ++ [({ op := 8, s := [43] } : InsD)])) => is_any c8 ga8 ha8 gc8 hc8 _ v W (hI8.below h) hS8 hv (by simp; omega) (fun i hi => (List.mem_append.1 hi).elim (sxy i) fun hi => by rw [List.mem_singleton.1 hi]; exact i8)
 have c19 := fun (W : World) (h : Below w30.heap.size w30 W) (v : Value) (hv : InsRow W v (x ++ y ++ [({ op := 11, s := [77, 65, 88], a := 2 } : InsD)])) => is_any c9 ga9 ha9 gc9 hc9 _ v W (hI9.below h) hS9 hv (by simp; omega) (fun i hi => (List.mem_append.1 hi).elim (sxy i) fun hi => by rw [List.mem_singleton.1 hi]; exact i9)
 have c21 := fun (W : World) (h : Below w30.heap.size w30 W) => is_any c10 ga10 ha10 gc10 hc10 _ va W (hI10.below h) hS10 (hA.below h) (by unfold ifRow; simp; omega) (fun i hi => by
  unfold ifRow at hi
  simp only [List.mem_append, List.mem_cons] at hi
  rcases hi with hi | rfl | hi | rfl | hi
  ·exact sx i hi
  ·exact ⟨by simp, by simp, zero_two⟩
  ·exact sy i hi
  ·exact ⟨by simp, by simp, zero_two⟩
  ·exact sz i hi)
 rw [s8] at c17
 rw [s9] at c19
 rw [s10] at c21
 have nxy : x ++ y ≠ [] := fun e => nx (List.append_eq_nil_iff.1 e).1
 clear s8 s9 s10 i8 i9 sxy sx sy sz hI8 hI9 hI10 hS8 hS9 hS10 HS hA
 go_upto_region 17 with (fail)
 refine wp_region_held_drew (S := fun W' => Below w30.heap.size w30 W') (by kernel_rfl) (drewB (Below.refl _ _)) (fun hHeld => ?_)
 have ws := w30.drew.heap.size
 clear ws
 obtain ⟨wg, hwg⟩ : ∃ z, z = w30.drew := ⟨_, rfl⟩
 rw [<- hwg] at hHeld ⊢
 clear hwg
 refine tk 0 hHeld ?_
 refine tk 1 hHeld ?_
 refine wpAnyH_take (i := 2) (oi := _) (v := .agg (List.toArray [.slice ga8 c8.blocks.length gc8, .slice ha8 c8.params.length hc8])) rfl (by kernel_rfl) (by kernel_rfl) (by kernel_rfl) (fun _ _ _ h => h) ?_ hHeld ?_
 ·exact yieldsIf_load_mid (by rfl) 35 (.tmp 17) rfl P8 0 rfl [.slice ga8 c8.blocks.length gc8, .slice ha8 c8.params.length hc8] _ (fun w' hSw => range_of (lie_cell (kq hSw p8)).1 rfl) underlying35 rfl cellsCode
 simp only [Act.put, List.setIfInBounds_toArray, List.set_cons_zero, List.set_cons_succ]
 refine tk 4 hHeld ?_
 refine tk 6 hHeld ?_
 refine wpAnyH_ready (rs := [3, 7]) (by kernel_rfl) (by simp) ?_
 refine (AllReadyH.cons rfl (fun K1 hK1 => ?_) (AllReadyH.cons rfl (fun K1 hK1 => ?_) AllReadyH.nil))
 rotate_left
 case' _ =>
  rw [if_pos (by rfl)]
  refine oper_run (.slice (some ⟨wg.heap.size, 0, none⟩) 1 1) (wg.alloc (.cells (insC ({ op := 8, s := [43] } : InsD)).toArray 43)) ?_
  refine hk2 hK1 (R := fun W' => Below w30.heap.size w30 W' /\ W'.heap[wg.heap.size]? = some (.cells (insC ({ op := 8, s := [43] } : InsD)).toArray 43 (0, 0))) ⟨allocB hHeld, heap_alloc_new _ _⟩ ?_ (fun _ t => t.1)
  have zl := trivial
  obtain ⟨bl, hgg⟩ : ∃ z, wg.heap.size = z := ⟨_, rfl⟩
  rw [hgg]
  clear hHeld hK1 K1 hgg
  rintro wa ⟨-, e1⟩ hHeld
  simp only [Act.put, List.setIfInBounds_toArray, List.set_cons_zero, List.set_cons_succ]
  clear zl
  refine wpAnyH_ready (rs := [3]) (by kernel_rfl) (by simp) ?_
  refine (AllReadyH.cons rfl (fun K1 hK1 => ?_) AllReadyH.nil)
  rw [if_pos (by rfl)]
  refine oper_run (.slice (some ⟨wa.heap.size, 0, none⟩) 0 0) (wa.alloc (.cells #[] 43)) ?_
  refine hk2 hK1 (R := fun W' => Below w30.heap.size w30 W' /\ W'.heap[wa.heap.size]? = some (.cells #[] 43 (0, 0)) /\ W'.heap[bl]? = some (.cells (insC ({ op := 8, s := [43] } : InsD)).toArray 43 (0, 0))) ⟨allocB hHeld, heap_alloc_new _ _, ((allocB (Below.refl wa.heap.size wa)).block bl (heap_in e1)).trans e1⟩ ?_ (fun _ t => t.1)
  have zg := hHeld.size
  have zl := heap_in e1
  obtain ⟨g, hgg⟩ : ∃ z, wa.heap.size = z := ⟨_, rfl⟩
  rw [hgg] at zg zl ⊢
  clear hHeld hK1 K1 hgg e1
  rintro wb ⟨-, e0, e1⟩ hHeld
  simp only [Act.put, List.setIfInBounds_toArray, List.set_cons_zero, List.set_cons_succ]
  have own := own_empty zg e0
  have hne : g ≠ bl := by omega
  refine wpAnyH_ready (rs := [5]) (by kernel_rfl) (by simp) ?_
  refine (AllReadyH.cons rfl (fun K1 hK1 => ?_) AllReadyH.nil)
  rw [if_pos (by rfl)]
  refine oper_app (.tmp 129) (.tmp 130) rfl w30 _ [] rfl own hHeld (x ++ y) vb rfl (hB.below hHeld) nxy (by simp; omega) ?_
  intro ua wz own2 hS hgr
  rw [List.nil_append] at own2
  refine hk2 hK1 (R := fun W' => Below w30.heap.size w30 W' /\ OwnI W' w30.heap.size ua (x ++ y) /\ W'.heap[bl]? = some (.cells (insC ({ op := 8, s := [43] } : InsD)).toArray 43 (0, 0))) ⟨hS, own2, (hgr.block bl (heap_in e1) fun e => hne (Option.some.inj e).symm).trans e1⟩ ?_ (fun _ t => t.1)
  clear hHeld hK1 K1 own own2 hS hgr e1
  rintro wc ⟨-, own, e1⟩ hHeld
  simp only [Act.put, List.setIfInBounds_toArray, List.set_cons_zero, List.set_cons_succ]
 rotate_left
 case' _ =>
  rw [if_pos (by rfl)]
  refine oper_run (.slice (some ⟨wg.heap.size, 0, none⟩) 0 0) (wg.alloc (.cells #[] 43)) ?_
  refine hk2 hK1 (R := fun W' => Below w30.heap.size w30 W' /\ W'.heap[wg.heap.size]? = some (.cells #[] 43 (0, 0))) ⟨allocB hHeld, heap_alloc_new _ _⟩ ?_ (fun _ t => t.1)
  have zg := hHeld.size
  have zl := trivial
  obtain ⟨g, hgg⟩ : ∃ z, wg.heap.size = z := ⟨_, rfl⟩
  rw [hgg] at zg ⊢
  clear hHeld hK1 K1 hgg
  rintro wa ⟨-, e0⟩ hHeld
  simp only [Act.put, List.setIfInBounds_toArray, List.set_cons_zero, List.set_cons_succ]
  have own := own_empty zg e0
  clear zl
  refine wpAnyH_ready (rs := [5, 7]) (by kernel_rfl) (by simp) ?_
  refine (AllReadyH.cons rfl (fun K1 hK1 => ?_) (AllReadyH.cons rfl (fun K1 hK1 => ?_) AllReadyH.nil))
  rotate_left
  case' _ =>
   rw [if_pos (by rfl)]
   refine oper_run (.slice (some ⟨wa.heap.size, 0, none⟩) 1 1) (wa.alloc (.cells (insC ({ op := 8, s := [43] } : InsD)).toArray 43)) ?_
   refine hk2 hK1 (R := fun W' => Below w30.heap.size w30 W' /\ W'.heap[wa.heap.size]? = some (.cells (insC ({ op := 8, s := [43] } : InsD)).toArray 43 (0, 0)) /\ OwnI W' w30.heap.size (.slice (some ⟨g, 0, none⟩) 0 0) ([])) ⟨allocB hHeld, heap_alloc_new _ _, own.alloc _⟩ ?_ (fun _ t => t.1)
   have zl := heap_in e0
   obtain ⟨bl, hgg⟩ : ∃ z, wa.heap.size = z := ⟨_, rfl⟩
   rw [hgg] at zl ⊢
   clear hHeld hK1 K1 hgg own e0
   rintro wb ⟨-, e1, own⟩ hHeld
   simp only [Act.put, List.setIfInBounds_toArray, List.set_cons_zero, List.set_cons_succ]
   have hne : g ≠ bl := by omega
   refine wpAnyH_ready (rs := [5]) (by kernel_rfl) (by simp) ?_
   refine (AllReadyH.cons rfl (fun K1 hK1 => ?_) AllReadyH.nil)
   rw [if_pos (by rfl)]
   refine oper_app (.tmp 129) (.tmp 130) rfl w30 _ [] rfl own hHeld (x ++ y) vb rfl (hB.below hHeld) nxy (by simp; omega) ?_
   intro ua wz own2 hS hgr
   rw [List.nil_append] at own2
   refine hk2 hK1 (R := fun W' => Below w30.heap.size w30 W' /\ OwnI W' w30.heap.size ua (x ++ y) /\ W'.heap[bl]? = some (.cells (insC ({ op := 8, s := [43] } : InsD)).toArray 43 (0, 0))) ⟨hS, own2, (hgr.block bl (heap_in e1) fun e => hne (Option.some.inj e).symm).trans e1⟩ ?_ (fun _ t => t.1)
   clear hHeld hK1 K1 own own2 hS hgr e1
   rintro wc ⟨-, own, e1⟩ hHeld
   simp only [Act.put, List.setIfInBounds_toArray, List.set_cons_zero, List.set_cons_succ]
  rotate_left
  case' _ =>
   rw [if_pos (by rfl)]
   refine oper_app (.tmp 129) (.tmp 130) rfl w30 _ [] rfl own hHeld (x ++ y) vb rfl (hB.below hHeld) nxy (by simp; omega) ?_
   intro ua wz own2 hS hgr
   rw [List.nil_append] at own2
   refine hk2 hK1 (R := fun W' => Below w30.heap.size w30 W' /\ OwnI W' w30.heap.size ua (x ++ y)) ⟨hS, own2⟩ ?_ (fun _ t => t.1)
   clear hHeld hK1 K1 own own2 hS hgr
   rintro wb ⟨-, own⟩ hHeld
   simp only [Act.put, List.setIfInBounds_toArray, List.set_cons_zero, List.set_cons_succ]
   refine wpAnyH_ready (rs := [7]) (by kernel_rfl) (by simp) ?_
   refine (AllReadyH.cons rfl (fun K1 hK1 => ?_) AllReadyH.nil)
   rw [if_pos (by rfl)]
   refine oper_run (.slice (some ⟨wb.heap.size, 0, none⟩) 1 1) (wb.alloc (.cells (insC ({ op := 8, s := [43] } : InsD)).toArray 43)) ?_
   refine hk2 hK1 (R := fun W' => Below w30.heap.size w30 W' /\ W'.heap[wb.heap.size]? = some (.cells (insC ({ op := 8, s := [43] } : InsD)).toArray 43 (0, 0)) /\ OwnI W' w30.heap.size ua (x ++ y)) ⟨allocB hHeld, heap_alloc_new _ _, own.alloc _⟩ ?_ (fun _ t => t.1)
   have zl := trivial
   obtain ⟨bl, hgg⟩ : ∃ z, wb.heap.size = z := ⟨_, rfl⟩
   rw [hgg]
   clear hHeld hK1 K1 hgg own
   rintro wc ⟨-, e1, own⟩ hHeld
   simp only [Act.put, List.setIfInBounds_toArray, List.set_cons_zero, List.set_cons_succ]
   clear zl
 all_goals (
  refine wpAnyH_ready (rs := [8]) (by kernel_rfl) (by simp) ?_
  refine (AllReadyH.cons rfl (fun K1 hK1 => ?_) AllReadyH.nil)
  rw [if_pos (by rfl)]
  refine oper_app (.tmp 131) (.tmp 133) rfl w30 _ (x ++ y) rfl own hHeld [({ op := 8, s := [43] } : InsD)] _ rfl (lit_row e1) (by simp) (by simp; omega) ?_
  intro u2 wz own2 hS hgr
  refine hk2 hK1 (R := fun W' => Below w30.heap.size w30 W' /\ InsRow W' u2 (x ++ y ++ [({ op := 8, s := [43] } : InsD)])) ⟨hS, own2.row⟩ ?_ (fun _ t => t.1)
  clear hHeld hK1 K1 own e1 own2 hS hgr
  rintro wd ⟨-, hrow⟩ hHeld
  simp only [Act.put, List.setIfInBounds_toArray, List.set_cons_zero, List.set_cons_succ]
  refine wpAnyH_ready (rs := [9]) (by kernel_rfl) (by simp) ?_
  refine (AllReadyH.cons rfl (fun K1 hK1 => ?_) AllReadyH.nil)
  rw [if_pos (by rfl)]
  refine oper_enter 14 #[codeV ga8 gc8 ha8 hc8 c8, u2] _ (c17 wd hHeld u2 hrow) ?_
  rintro e wz ⟨rfl, hx⟩
  refine ⟨_, rfl, ?_⟩
  refine hk2 hK1 (R := fun W' => Below w30.heap.size w30 W') (after hHeld hx) ?_ (fun _ t => t)
  clear hHeld hK1 K1 hx
  rintro wg - hHeld
  simp only [Act.put, List.setIfInBounds_toArray, List.set_cons_zero, List.set_cons_succ]
  refine tk 10 hHeld ?_
  refine tk 11 hHeld ?_
  refine wpAnyH_take (i := 12) (oi := _) (v := .agg (List.toArray [.slice ga9 c9.blocks.length gc9, .slice ha9 c9.params.length hc9])) rfl (by kernel_rfl) (by kernel_rfl) (by kernel_rfl) (fun _ _ _ h => h) ?_ hHeld ?_
  ·exact yieldsIf_load_mid (by rfl) 35 (.tmp 19) rfl P9 0 rfl [.slice ga9 c9.blocks.length gc9, .slice ha9 c9.params.length hc9] _ (fun w' hSw => range_of (lie_cell (kq hSw p9)).1 rfl) underlying35 rfl cellsCode
  simp only [Act.put, List.setIfInBounds_toArray, List.set_cons_zero, List.set_cons_succ]
  refine tk 14 hHeld ?_
  refine tk 16 hHeld ?_
  refine wpAnyH_ready (rs := [13, 17]) (by kernel_rfl) (by simp) ?_
  refine (AllReadyH.cons rfl (fun K1 hK1 => ?_) (AllReadyH.cons rfl (fun K1 hK1 => ?_) AllReadyH.nil))
  rotate_left
  case' _ =>
   rw [if_pos (by rfl)]
   refine oper_run (.slice (some ⟨wg.heap.size, 0, none⟩) 1 1) (wg.alloc (.cells (insC ({ op := 11, s := [77, 65, 88], a := 2 } : InsD)).toArray 43)) ?_
   refine hk2 hK1 (R := fun W' => Below w30.heap.size w30 W' /\ W'.heap[wg.heap.size]? = some (.cells (insC ({ op := 11, s := [77, 65, 88], a := 2 } : InsD)).toArray 43 (0, 0))) ⟨allocB hHeld, heap_alloc_new _ _⟩ ?_ (fun _ t => t.1)
   have zl := trivial
   obtain ⟨bl, hgg⟩ : ∃ z, wg.heap.size = z := ⟨_, rfl⟩
   rw [hgg]
   clear hHeld hK1 K1 hgg
   rintro wa ⟨-, e1⟩ hHeld
   simp only [Act.put, List.setIfInBounds_toArray, List.set_cons_zero, List.set_cons_succ]
   clear zl
   refine wpAnyH_ready (rs := [13]) (by kernel_rfl) (by simp) ?_
   refine (AllReadyH.cons rfl (fun K1 hK1 => ?_) AllReadyH.nil)
   rw [if_pos (by rfl)]
   refine oper_run (.slice (some ⟨wa.heap.size, 0, none⟩) 0 0) (wa.alloc (.cells #[] 43)) ?_
   refine hk2 hK1 (R := fun W' => Below w30.heap.size w30 W' /\ W'.heap[wa.heap.size]? = some (.cells #[] 43 (0, 0)) /\ W'.heap[bl]? = some (.cells (insC ({ op := 11, s := [77, 65, 88], a := 2 } : InsD)).toArray 43 (0, 0))) ⟨allocB hHeld, heap_alloc_new _ _, ((allocB (Below.refl wa.heap.size wa)).block bl (heap_in e1)).trans e1⟩ ?_ (fun _ t => t.1)
   have zg := hHeld.size
   have zl := heap_in e1
   obtain ⟨g, hgg⟩ : ∃ z, wa.heap.size = z := ⟨_, rfl⟩
   rw [hgg] at zg zl ⊢
   clear hHeld hK1 K1 hgg e1
   rintro wb ⟨-, e0, e1⟩ hHeld
   simp only [Act.put, List.setIfInBounds_toArray, List.set_cons_zero, List.set_cons_succ]
   have own := own_empty zg e0
   have hne : g ≠ bl := by omega
   refine wpAnyH_ready (rs := [15]) (by kernel_rfl) (by simp) ?_
   refine (AllReadyH.cons rfl (fun K1 hK1 => ?_) AllReadyH.nil)
   rw [if_pos (by rfl)]
   refine oper_app (.tmp 139) (.tmp 140) rfl w30 _ [] rfl own hHeld (x ++ y) vb rfl (hB.below hHeld) nxy (by simp; omega) ?_
   intro ua wz own2 hS hgr
   rw [List.nil_append] at own2
   refine hk2 hK1 (R := fun W' => Below w30.heap.size w30 W' /\ OwnI W' w30.heap.size ua (x ++ y) /\ W'.heap[bl]? = some (.cells (insC ({ op := 11, s := [77, 65, 88], a := 2 } : InsD)).toArray 43 (0, 0))) ⟨hS, own2, (hgr.block bl (heap_in e1) fun e => hne (Option.some.inj e).symm).trans e1⟩ ?_ (fun _ t => t.1)
   clear hHeld hK1 K1 own own2 hS hgr e1
   rintro wc ⟨-, own, e1⟩ hHeld
   simp only [Act.put, List.setIfInBounds_toArray, List.set_cons_zero, List.set_cons_succ]
  rotate_left
  case' _ =>
   rw [if_pos (by rfl)]
   refine oper_run (.slice (some ⟨wg.heap.size, 0, none⟩) 0 0) (wg.alloc (.cells #[] 43)) ?_
   refine hk2 hK1 (R := fun W' => Below w30.heap.size w30 W' /\ W'.heap[wg.heap.size]? = some (.cells #[] 43 (0, 0))) ⟨allocB hHeld, heap_alloc_new _ _⟩ ?_ (fun _ t => t.1)
   have zg := hHeld.size
   have zl := trivial
   obtain ⟨g, hgg⟩ : ∃ z, wg.heap.size = z := ⟨_, rfl⟩
   rw [hgg] at zg ⊢
   clear hHeld hK1 K1 hgg
   rintro wa ⟨-, e0⟩ hHeld
   simp only [Act.put, List.setIfInBounds_toArray, List.set_cons_zero, List.set_cons_succ]
   have own := own_empty zg e0
   clear zl
   refine wpAnyH_ready (rs := [15, 17]) (by kernel_rfl) (by simp) ?_
   refine (AllReadyH.cons rfl (fun K1 hK1 => ?_) (AllReadyH.cons rfl (fun K1 hK1 => ?_) AllReadyH.nil))
   rotate_left
   case' _ =>
    rw [if_pos (by rfl)]
    refine oper_run (.slice (some ⟨wa.heap.size, 0, none⟩) 1 1) (wa.alloc (.cells (insC ({ op := 11, s := [77, 65, 88], a := 2 } : InsD)).toArray 43)) ?_
    refine hk2 hK1 (R := fun W' => Below w30.heap.size w30 W' /\ W'.heap[wa.heap.size]? = some (.cells (insC ({ op := 11, s := [77, 65, 88], a := 2 } : InsD)).toArray 43 (0, 0)) /\ OwnI W' w30.heap.size (.slice (some ⟨g, 0, none⟩) 0 0) ([])) ⟨allocB hHeld, heap_alloc_new _ _, own.alloc _⟩ ?_ (fun _ t => t.1)
    have zl := heap_in e0
    obtain ⟨bl, hgg⟩ : ∃ z, wa.heap.size = z := ⟨_, rfl⟩
    rw [hgg] at zl ⊢
    clear hHeld hK1 K1 hgg own e0
    rintro wb ⟨-, e1, own⟩ hHeld
    simp only [Act.put, List.setIfInBounds_toArray, List.set_cons_zero, List.set_cons_succ]
    have hne : g ≠ bl := by omega
    refine wpAnyH_ready (rs := [15]) (by kernel_rfl) (by simp) ?_
    refine (AllReadyH.cons rfl (fun K1 hK1 => ?_) AllReadyH.nil)
    rw [if_pos (by rfl)]
    refine oper_app (.tmp 139) (.tmp 140) rfl w30 _ [] rfl own hHeld (x ++ y) vb rfl (hB.below hHeld) nxy (by simp; omega) ?_
    intro ua wz own2 hS hgr
    rw [List.nil_append] at own2
    refine hk2 hK1 (R := fun W' => Below w30.heap.size w30 W' /\ OwnI W' w30.heap.size ua (x ++ y) /\ W'.heap[bl]? = some (.cells (insC ({ op := 11, s := [77, 65, 88], a := 2 } : InsD)).toArray 43 (0, 0))) ⟨hS, own2, (hgr.block bl (heap_in e1) fun e => hne (Option.some.inj e).symm).trans e1⟩ ?_ (fun _ t => t.1)
    clear hHeld hK1 K1 own own2 hS hgr e1
    rintro wc ⟨-, own, e1⟩ hHeld
    simp only [Act.put, List.setIfInBounds_toArray, List.set_cons_zero, List.set_cons_succ]
   rotate_left
   case' _ =>
    rw [if_pos (by rfl)]
    refine oper_app (.tmp 139) (.tmp 140) rfl w30 _ [] rfl own hHeld (x ++ y) vb rfl (hB.below hHeld) nxy (by simp; omega) ?_
    intro ua wz own2 hS hgr
    rw [List.nil_append] at own2
    refine hk2 hK1 (R := fun W' => Below w30.heap.size w30 W' /\ OwnI W' w30.heap.size ua (x ++ y)) ⟨hS, own2⟩ ?_ (fun _ t => t.1)
    clear hHeld hK1 K1 own own2 hS hgr
    rintro wb ⟨-, own⟩ hHeld
    simp only [Act.put, List.setIfInBounds_toArray, List.set_cons_zero, List.set_cons_succ]
    refine wpAnyH_ready (rs := [17]) (by kernel_rfl) (by simp) ?_
    refine (AllReadyH.cons rfl (fun K1 hK1 => ?_) AllReadyH.nil)
    rw [if_pos (by rfl)]
    refine oper_run (.slice (some ⟨wb.heap.size, 0, none⟩) 1 1) (wb.alloc (.cells (insC ({ op := 11, s := [77, 65, 88], a := 2 } : InsD)).toArray 43)) ?_
    refine hk2 hK1 (R := fun W' => Below w30.heap.size w30 W' /\ W'.heap[wb.heap.size]? = some (.cells (insC ({ op := 11, s := [77, 65, 88], a := 2 } : InsD)).toArray 43 (0, 0)) /\ OwnI W' w30.heap.size ua (x ++ y)) ⟨allocB hHeld, heap_alloc_new _ _, own.alloc _⟩ ?_ (fun _ t => t.1)
    have zl := trivial
    obtain ⟨bl, hgg⟩ : ∃ z, wb.heap.size = z := ⟨_, rfl⟩
    rw [hgg]
    clear hHeld hK1 K1 hgg own
    rintro wc ⟨-, e1, own⟩ hHeld
    simp only [Act.put, List.setIfInBounds_toArray, List.set_cons_zero, List.set_cons_succ]
    clear zl
  all_goals (
   refine wpAnyH_ready (rs := [18]) (by kernel_rfl) (by simp) ?_
   refine (AllReadyH.cons rfl (fun K1 hK1 => ?_) AllReadyH.nil)
   rw [if_pos (by rfl)]
   refine oper_app (.tmp 141) (.tmp 143) rfl w30 _ (x ++ y) rfl own hHeld [({ op := 11, s := [77, 65, 88], a := 2 } : InsD)] _ rfl (lit_row e1) (by simp) (by simp; omega) ?_
   intro u2 wz own2 hS hgr
   refine hk2 hK1 (R := fun W' => Below w30.heap.size w30 W' /\ InsRow W' u2 (x ++ y ++ [({ op := 11, s := [77, 65, 88], a := 2 } : InsD)])) ⟨hS, own2.row⟩ ?_ (fun _ t => t.1)
   clear hHeld hK1 K1 own e1 own2 hS hgr
   rintro wd ⟨-, hrow⟩ hHeld
   simp only [Act.put, List.setIfInBounds_toArray, List.set_cons_zero, List.set_cons_succ]
   refine wpAnyH_ready (rs := [19]) (by kernel_rfl) (by simp) ?_
   refine (AllReadyH.cons rfl (fun K1 hK1 => ?_) AllReadyH.nil)
   rw [if_pos (by rfl)]
   refine oper_enter 14 #[codeV ga9 gc9 ha9 hc9 c9, u2] _ (c19 wd hHeld u2 hrow) ?_
   rintro e wz ⟨rfl, hx⟩
   refine ⟨_, rfl, ?_⟩
   refine hk2 hK1 (R := fun W' => Below w30.heap.size w30 W') (after hHeld hx) ?_ (fun _ t => t)
   clear hHeld hK1 K1 hx
   rintro wg - hHeld
   simp only [Act.put, List.setIfInBounds_toArray, List.set_cons_zero, List.set_cons_succ]
   refine tk 20 hHeld ?_
   refine tk 21 hHeld ?_
   refine wpAnyH_take (i := 22) (oi := _) (v := .agg (List.toArray [.slice ga10 c10.blocks.length gc10, .slice ha10 c10.params.length hc10])) rfl (by kernel_rfl) (by kernel_rfl) (by kernel_rfl) (fun _ _ _ h => h) ?_ hHeld ?_
   ·exact yieldsIf_load_mid (by rfl) 35 (.tmp 21) rfl P10 0 rfl [.slice ga10 c10.blocks.length gc10, .slice ha10 c10.params.length hc10] _ (fun w' hSw => range_of (lie_cell (kq hSw p10)).1 rfl) underlying35 rfl cellsCode
   simp only [Act.put, List.setIfInBounds_toArray, List.set_cons_zero, List.set_cons_succ]
   refine tk 23 hHeld ?_
   refine wpAnyH_ready (rs := [24]) (by kernel_rfl) (by simp) ?_
   refine (AllReadyH.cons rfl (fun K1 hK1 => ?_) AllReadyH.nil)
   rw [if_pos (by rfl)]
   refine oper_enter 14 #[codeV ga10 gc10 ha10 hc10 c10, va] _ (c21 _ hHeld) ?_
   rintro e wz ⟨rfl, hx⟩
   refine ⟨_, rfl, ?_⟩
   refine hk2 hK1 (R := fun W' => Below w30.heap.size w30 W') (after hHeld hx) ?_ (fun _ t => t)
   clear hHeld hK1 K1 hx
   rintro wg - hHeld
   simp only [Act.put, List.setIfInBounds_toArray, List.set_cons_zero, List.set_cons_succ]
   refine tk 25 hHeld ?_
   refine tk 26 hHeld ?_
   refine wpAnyH_done (by kernel_rfl) ?_ _
   have HB := Lib.hid (after hb hHeld)
   clear hHeld hb
   go_wp2
   go_ret; exact Ret.mk' rfl HB.out))
end Go.Proofs.YtlpgigdegnbkmaaGreatDoor
