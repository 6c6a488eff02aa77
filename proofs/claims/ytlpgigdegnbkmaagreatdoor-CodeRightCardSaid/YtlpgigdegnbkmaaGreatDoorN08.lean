import Derived.Test.YtlpgigdegnbkmaaGreatDoorM41
import Derived.Test.YtlpgigdegnbkmaaGreatDoorN07
set_option maxRecDepth 100000
set_option maxHeartbeats 8000000
namespace Tab
/-- so often, in the first blocks and a part of the next one. -/
def laidN (c : CodeD) (b i : Nat) (k : Nat) : Nat := ((c.blocks.take b).map (cntJ k)).sum + cntJ k ((c.blocks.getD b []).take i)
theorem laid_zero (c : CodeD) : laidN c 0 0 = fun _ => 0 := by
 funext k
 simp [laidN, cntJ]
theorem laid_step {c : CodeD} {b i : Nat} {l : List InsD} {x : InsD} (hl : c.blocks[b]? = some l) (hx : l[i]? = some x) : laidN c b (i + 1) = fun k => laidN c b i k + if x.op = 15 /\ x.a = (k : Int) then 1 else 0 := by
 funext k
 have h1 : c.blocks.getD b [] = l := by simp [List.getD, hl]
 unfold laidN
 rw [h1, List.take_add_one, hx, Option.toList_some, cntJ_put]; omega
theorem laid_next {c : CodeD} {b : Nat} {l : List InsD} (hl : c.blocks[b]? = some l) : laidN c (b + 1) 0 = laidN c b l.length := by
 funext k
 have h1 : c.blocks.getD b [] = l := by simp [List.getD, hl]
 unfold laidN
 rw [h1, List.take_length, List.take_add_one, hl, Option.toList_some, List.map_append, List.sum_append]
 simp [cntJ]
theorem laid_end (c : CodeD) (k : Nat) : laidN c c.blocks.length 0 k = totJ k c := by
 unfold laidN totJ
 rw [List.take_length]
 simp [cntJ]
theorem sum_take' (g : List InsD -> Nat) : ∀ (L : List (List InsD)) (m : Nat), ((L.take m).map g).sum <= (L.map g).sum
 | [], m => by simp
 | _ :: _, 0 => Nat.zero_le _
 | k :: L, m + 1 => by
  rw [List.take_succ_cons, List.map_cons, List.map_cons, List.sum_cons, List.sum_cons]
  have := sum_take' g L m; omega
theorem laid_le {c : CodeD} {b i : Nat} {l : List InsD} (hl : c.blocks[b]? = some l) (k : Nat) : laidN c b i k <= totJ k c := by
 have h1 : c.blocks.getD b [] = l := by simp [List.getD, hl]
 have h2 := sum_take' (cntJ k) c.blocks (b + 1)
 rw [List.take_add_one, hl, Option.toList_some, List.map_append, List.sum_append] at h2
 have h3 : cntJ k (l.take i) <= cntJ k l := List.Sublist.countP_le (List.take_sublist i l)
 unfold laidN totJ
 rw [h1]
 simp only [List.map_cons, List.map_nil, List.sum_cons, List.sum_nil] at h2
 omega
theorem once_small {c : CodeD} (h : Once c) {b i : Nat} {l : List InsD} (hl : c.blocks[b]? = some l) (k : Nat) : laidN c b i k <= 1 := by
 have h1 := laid_le (i := i) hl k
 rw [h.one k] at h1
 split at h1 <;> omega
end Tab
namespace Go.Proofs.YtlpgigdegnbkmaaGreatDoor
open Go.RowKit Tab
/-- numbers, in a row. -/
def laidV (N : Nat) (K : Nat -> Nat) : List Value := (List.range N).map fun k => Value.int .i64 (K k : Int)
theorem laidV_at {N k : Nat} (K : Nat -> Nat) (h : k < N) : (laidV N K).toArray[k]? = some (.int .i64 (K k : Int)) := by
 simp [laidV, h]
theorem laidV_set {N j : Nat} (K : Nat -> Nat) (v : Int) (hv : v = ((K j + 1 : Nat) : Int)) : (laidV N K).toArray.setIfInBounds j (.int .i64 v) = (laidV N (fun k => K k + if k = j then 1 else 0)).toArray := by
 apply Array.ext
 ·simp [laidV]
 ·intro i h1 h2
  have hi : i < N := by simpa [laidV] using h2
  rw [Array.getElem_setIfInBounds (by simpa [laidV] using hi)]
  by_cases e : j = i
  ·subst e; simp [laidV, hv]
  ·have e' : ¬ i = j := fun h => e h.symm
   simp [laidV, e, e']
theorem laidV_zero (N : Nat) : (madeCells (Value.int .i64 0).cells N) = (laidV N fun _ => 0).toArray := by
 apply Array.ext'
 rw [show (madeCells (Value.int IntKind.i64 0).cells N).toList = List.replicate N (Value.int .i64 0) from by simp [madeCells, Value.cells, Nat.mod_one, List.map_const']]
 simp [laidV, List.map_const']
end Go.Proofs.YtlpgigdegnbkmaaGreatDoor
namespace Tab
theorem compile_some {n : NodeD} {c : CodeD} (h : compileD n = some c) : rightT n = true /\ rightC c = true /\ Once c := by
 unfold compileD at h
 split at h
 ·rename_i h1
  split at h
  ·rename_i h2; injection h with h; subst h; exact ⟨h1, h2, once_comp 24 n⟩
  ·cases h
 ·cases h
theorem compile_none {n : NodeD} (h : compileD n = none) : errOf n = if rightT n = true then 60 else 50 := by
 unfold compileD at h
 unfold errOf
 split at h
 ·rename_i h1
  split at h
  ·cases h
  ·rename_i h2; rw [if_pos h1, if_neg h2, if_pos h1]
 ·rename_i h1; rw [if_neg h1, if_neg h1]
end Tab
namespace Go.Proofs.YtlpgigdegnbkmaaGreatDoor
open Go.RowKit Tab
theorem makeInts (n : Nat) (hn : n <= 1000000) (W : World) : (Instr.makeSlice 40 (.int .i64 (n : Int)) (.int .i64 (n : Int))).run Tryz.prog W = .ok (.slice (some ⟨W.heap.size, 0, none⟩) n n) (W.alloc (.cells (laidV n fun _ => 0).toArray 3)) := by
 obtain ⟨i, hi, hz, hs, hb⟩ := info_parts infoI
 have := run_make W 40 3 i (.int .i64 0) Tryz.underlying40 hi hz .i64 .i64 n n (by omega) (by omega) (by rw [hb]; omega) (by omega)
 rw [this, hs, Int.toNat_natCast, Nat.mul_one, laidV_zero]
theorem right_any (X : List RawD) (a : Option Addr) (cap : Nat) (w : World) (hg : Good w) (hXo : ∀ x ∈ X, RawOk x) (hXl : X.length <= 9223372036854775807) (hrow : RawRow w a X) : Calls Tryz.prog 3 #[.slice a X.length cap] w (Ret (.bool true) w) := by
 have hgh := Lib.hid hg
 go_enter Tryz.func3, Tryz.ntmps3
 go_wp2_with fail
 refine (awake_any w hg).mono ?_; rintro e w1 ⟨rfl, hb⟩
 go_upto_region 2 with (fail)
 refine wp_region_lit ?_
 iterate 1 refine st ?_
 refine wpList_enter 9 #[.slice a X.length cap] (by kernel_rfl) (by kernel_rfl) _ (treeOf_any X a cap w1 hXo hXl (hrow.below hb)) ?_
 rintro e w2 ⟨n, cs, rfl, hq, hnice, hx⟩
 refine ⟨_, rfl, ?_⟩
 obtain ⟨a', m', c', rfl⟩ := hq.shape
 have hn := (hq.deep (show 17 <= 24 by decide)).at
 have hcnt : cntN 24 n <= 1000000 := Nat.le_trans (hnice 24).1 (by decide)
 replace hb := after hb hx
 clear hx hq hnice hrow
 refine Go.wr (.pointer (some ⟨w2.heap.size, 0, none⟩)) (w2.alloc (.cells zeroN 30)) ?_
 refine wpList_store_mid rfl 30 (.tmp 4) (.tmp 14) rfl w2.heap.size 0 (nodeC n (.slice a' m' c')).toArray rfl rfl (whole_there (heap_alloc_new _ _) rfl) cellsNode (nodeC_one _ _ _ _) ?_
 refine wpList_abs (On1 30 w2 (nodeC n (.slice a' m' c')).toArray) ⟨below_cells2 (Nat.le_refl _) _ _ _ (allocB (Below.refl _ _)), box_whole (heap_alloc_new _ _) rfl⟩ ?_
 rintro w3 ⟨hx, q⟩
 simp only [Act.put, List.setIfInBounds_toArray, List.set_cons_zero, List.set_cons_succ]
 obtain ⟨B4, hB4⟩ : ∃ z, w2.heap.size = z := ⟨_, rfl⟩
 have z4 : w.heap.size <= B4 := by rw [<- hB4]; exact hb.size
 replace hn := hn.below hx
 replace hb := after hb hx
 rw [hB4] at q ⊢
 clear hx hB4
 refine wpList_nil ?_
 go_upto_region 3 with (fail)
 refine wp_region_lit ?_
 refine wpList_load_row rfl 30 (.tmp 4) rfl B4 rfl 30 (nodeC n (.slice a' m' c')).toArray (0, 0) _ q Tryz.underlying30 rfl cellsNode ?_
 refine wpList_enter 10 #[.agg (nodeC n (.slice a' m' c')).toArray] (by kernel_rfl) (by kernel_rfl) _ (compile_any n _ w3 (hgh.out.below hb) hn hcnt) ?_
 rintro e w4 ⟨hx, h⟩
 replace q := kq hx q
 replace hn := hn.below hx
 replace hb := after hb hx
 clear hx
 have cR := fun W (h : Below w4.heap.size w4 W) => treeRight_any n _ W (hgh.out.below (after hb h)) (hn.below h) hcnt
 have zq := heap_in q
 rcases h with ⟨hno, rfl⟩ | ⟨c, ga, gc, ha, hc, hcd, rfl, hI, hS⟩
 ·
  have hE := compile_none hno
  obtain ⟨R, hR⟩ : ∃ R, rightT n = R := ⟨_, rfl⟩
  rw [hR] at cR hE
  clear hno hR
  unfold noCode
  cases R
  ·
   replace hE : errOf n = 50 := hE
   rw [hE]
   clear hE
   refine ⟨_, rfl, ?_⟩
   refine Go.wr (.tuple #[.agg #[.slice none 0 0, .slice none 0 0], .int .i64 50]) w4 ?_
   refine Go.wr (.agg #[.slice none 0 0, .slice none 0 0]) w4 ?_
   refine Go.wr (.int .i64 50) w4 ?_
   refine Go.wn (.pointer (some ⟨w4.heap.size, 0, none⟩)) (w4.alloc (.cells #[.slice none 0 0, .slice none 0 0] 35)) ?_
   refine wpList_store_mid rfl 35 (.tmp 5) (.tmp 18) rfl w4.heap.size 0 ([.slice none 0 0, .slice none 0 0]).toArray rfl rfl (whole_there (heap_alloc_new _ _) rfl) cellsCode (oneCode _ _ rfl rfl) ?_
   refine wpList_abs (fun  W => Below w4.heap.size w4 W /\ W.heap[w4.heap.size]? = some (.cells ([.slice none 0 0, .slice none 0 0]).toArray 35 (0, 0))) ⟨below_cells2 (Nat.le_refl _) _ _ _ (allocB (Below.refl _ _)), box_whole (heap_alloc_new _ _) rfl⟩ ?_
   rintro w5 ⟨hx, p⟩
   simp only [Act.put]
   refine Go.wn (.int .i64 50) w5 ?_
   refine wpList_nil ?_
   replace q := kq hx q
   replace hb := after hb hx
   have c0 : w5.cell? ⟨w4.heap.size, 0, none⟩ = some (.slice none 0 0) := (lie_cell p).1 0
   replace cR := cR w5 hx
   go_upto_region 5 with (fail)
   refine wp_region_lit ?_
   refine Go.wn (.bool true) w5 ?_
   refine Go.wn (.bool true) w5 ?_
   refine Go.wn (.int .i64 50) w5 ?_
   refine Go.wn (.bool false) w5 ?_
   refine Go.wn (.bool false) w5 ?_
   refine Go.wn (.int .i64 50) w5 ?_
   refine Go.wn (.bool true) w5 ?_
   refine Go.wn (.bool true) w5 ?_
   refine Go.wn (.bool true) w5 ?_
   refine Go.wn (.bool true) w5 ?_
   refine Go.wn (.int .i64 50) w5 ?_
   refine Go.wn (.bool true) w5 ?_
   refine wpList_want (by rfl) (fun KK hKK => ?_)
   refine wp_load_row 30 (.tmp 4) rfl B4 rfl 30 (nodeC n (.slice a' m' c')).toArray (0, 0) _ q Tryz.underlying30 rfl cellsNode ?_
   refine hKK _ _ ?_; clear hKK KK
   refine wpList_enter 11 #[.agg (nodeC n (.slice a' m' c')).toArray] (by kernel_rfl) (by kernel_rfl) _ cR ?_
   rintro e w6 ⟨rfl, hx6⟩
   refine ⟨_, rfl, ?_⟩
   replace hb := after hb hx6
   replace c0 := (hx6.cell (p := ⟨w4.heap.size, 0, none⟩) (heap_in p)).trans c0
   have HB := Lib.hid hb
   clear hb
   refine Go.wn (.bool true) w6 ?_
   refine Go.wn (.bool true) w6 ?_
   refine Go.wn (.bool true) w6 ?_
   refine Go.wn (.bool true) w6 ?_
   refine sx ?_
   refine sx ?_
   refine sx ?_
   refine sx ?_
   iterate 2 refine st ?_
   refine wpList_nil ?_
   go_wp2
   go_ret; exact Ret.mk' rfl HB.out
  ·
   replace hE : errOf n = 60 := hE
   rw [hE]
   clear hE
   refine ⟨_, rfl, ?_⟩
   refine Go.wr (.tuple #[.agg #[.slice none 0 0, .slice none 0 0], .int .i64 60]) w4 ?_
   refine Go.wr (.agg #[.slice none 0 0, .slice none 0 0]) w4 ?_
   refine Go.wr (.int .i64 60) w4 ?_
   refine Go.wn (.pointer (some ⟨w4.heap.size, 0, none⟩)) (w4.alloc (.cells #[.slice none 0 0, .slice none 0 0] 35)) ?_
   refine wpList_store_mid rfl 35 (.tmp 5) (.tmp 18) rfl w4.heap.size 0 ([.slice none 0 0, .slice none 0 0]).toArray rfl rfl (whole_there (heap_alloc_new _ _) rfl) cellsCode (oneCode _ _ rfl rfl) ?_
   refine wpList_abs (fun  W => Below w4.heap.size w4 W /\ W.heap[w4.heap.size]? = some (.cells ([.slice none 0 0, .slice none 0 0]).toArray 35 (0, 0))) ⟨below_cells2 (Nat.le_refl _) _ _ _ (allocB (Below.refl _ _)), box_whole (heap_alloc_new _ _) rfl⟩ ?_
   rintro w5 ⟨hx, p⟩
   simp only [Act.put]
   refine Go.wn (.int .i64 60) w5 ?_
   refine wpList_nil ?_
   replace q := kq hx q
   replace hb := after hb hx
   have c0 : w5.cell? ⟨w4.heap.size, 0, none⟩ = some (.slice none 0 0) := (lie_cell p).1 0
   replace cR := cR w5 hx
   go_upto_region 5 with (fail)
   refine wp_region_lit ?_
   refine Go.wn (.bool true) w5 ?_
   refine Go.wn (.bool true) w5 ?_
   refine Go.wn (.int .i64 60) w5 ?_
   refine Go.wn (.bool true) w5 ?_
   refine Go.wn (.bool true) w5 ?_
   refine wpList_skip (by kernel_rfl) ?_
   simp only [Act.put, List.setIfInBounds_toArray, List.set_cons_zero, List.set_cons_succ]
   refine wpList_skip (by kernel_rfl) ?_
   simp only [Act.put, List.setIfInBounds_toArray, List.set_cons_zero, List.set_cons_succ]
   refine Go.wn (.bool true) w5 ?_
   refine Go.wn (.bool true) w5 ?_
   refine Go.wn (.bool true) w5 ?_
   refine Go.wn (.int .i64 60) w5 ?_
   refine Go.wn (.bool false) w5 ?_
   refine wpList_want (by rfl) (fun KK hKK => ?_)
   refine wp_load_row 30 (.tmp 4) rfl B4 rfl 30 (nodeC n (.slice a' m' c')).toArray (0, 0) _ q Tryz.underlying30 rfl cellsNode ?_
   refine hKK _ _ ?_; clear hKK KK
   refine wpList_enter 11 #[.agg (nodeC n (.slice a' m' c')).toArray] (by kernel_rfl) (by kernel_rfl) _ cR ?_
   rintro e w6 ⟨rfl, hx6⟩
   refine ⟨_, rfl, ?_⟩
   replace hb := after hb hx6
   replace c0 := (hx6.cell (p := ⟨w4.heap.size, 0, none⟩) (heap_in p)).trans c0
   have HB := Lib.hid hb
   clear hb
   refine Go.wn (.bool false) w6 ?_
   refine Go.wn (.bool true) w6 ?_
   refine Go.wn (.bool true) w6 ?_
   refine Go.wn (.bool true) w6 ?_
   refine sx ?_
   refine sx ?_
   refine sx ?_
   refine sx ?_
   iterate 2 refine st ?_
   refine wpList_nil ?_
   go_wp2
   go_ret; exact Ret.mk' rfl HB.out
 ·
  obtain ⟨hT, hC, hOnce⟩ := compile_some hcd
  rw [hT] at cR
  clear hT hcd
  unfold codeV
  refine ⟨_, rfl, ?_⟩
  refine Go.wr (.tuple #[.agg #[.slice ga c.blocks.length gc, .slice ha c.params.length hc], .int .i64 0]) w4 ?_
  refine Go.wr (.agg #[.slice ga c.blocks.length gc, .slice ha c.params.length hc]) w4 ?_
  refine Go.wr (.int .i64 0) w4 ?_
  refine Go.wn (.pointer (some ⟨w4.heap.size, 0, none⟩)) (w4.alloc (.cells #[.slice none 0 0, .slice none 0 0] 35)) ?_
  refine wpList_store_mid rfl 35 (.tmp 5) (.tmp 18) rfl w4.heap.size 0 ([.slice ga c.blocks.length gc, .slice ha c.params.length hc]).toArray rfl rfl (whole_there (heap_alloc_new _ _) rfl) cellsCode (oneCode _ _ rfl rfl) ?_
  refine wpList_abs (fun  W => Below w4.heap.size w4 W /\ W.heap[w4.heap.size]? = some (.cells ([.slice ga c.blocks.length gc, .slice ha c.params.length hc]).toArray 35 (0, 0))) ⟨below_cells2 (Nat.le_refl _) _ _ _ (allocB (Below.refl _ _)), box_whole (heap_alloc_new _ _) rfl⟩ ?_
  rintro w5 ⟨hx, p⟩
  simp only [Act.put]
  refine Go.wn (.int .i64 0) w5 ?_
  refine wpList_nil ?_
  replace q := kq hx q
  replace hb := after hb hx
  replace hI := hI.below hx
  replace cR := fun W (h : Below w5.heap.size w5 W) => cR W (after hx h)
  have cC := fun W (h : Below w5.heap.size w5 W) => codeRight_any ga gc ha hc c W (hgh.out.below (after hb h)) (hI.below h) hS
  rw [hC] at cC
  unfold codeV at cC
  obtain ⟨N, hN⟩ : ∃ N, c.blocks.length = N := ⟨_, rfl⟩
  obtain ⟨P5, hP5⟩ : ∃ z, w4.heap.size = z := ⟨_, rfl⟩
  have hNl : N <= 1000000 := hN ▸ hS.blocks
  rw [hN] at cC p
  rw [hP5] at p ⊢
  clear hP5 hx hC zq
  have c0 : w5.cell? ⟨P5, 0, none⟩ = some (.slice ga N gc) := (lie_cell p).1 0
  have zp := heap_in p
  have mk := fun W => makeInts N hNl W
  obtain ⟨G, hG⟩ : ∃ z, w5.heap.size = z := ⟨_, rfl⟩
  go_upto_region 6 with (fail)
  refine wp_region_lit ?_
  iterate 4 refine st ?_
  refine wpList_abs (On1 3 w5 (laidV N fun _ => 0).toArray) ⟨allocB (Below.refl _ _), heap_alloc_new _ _⟩ ?_
  rintro w6 ⟨h6, g6⟩
  iterate 1 refine st ?_
  refine wpList_nil ?_
  rw [hG] at g6
  rw [<- laid_zero c] at g6
  clear mk
  have c0' : w6.cell? ⟨P5, 0, none⟩ = some (.slice ga N gc) := (h6.cell (p := ⟨P5, 0, none⟩) zp).trans c0
  go_wp2_with fail
  go_loopw [8] (fun i w' => ∃ b : Nat, i = .int .i64 (b : Int) /\ b <= N /\ w'.heap[G]? = some (.cells (laidV N (laidN c b 0)).toArray 3 (0, 0)) /\ Below w5.heap.size w5 w') (fun i _ => N - (intOf i).toNat)
  case atStart => exact ⟨0, rfl, Nat.zero_le _, g6, h6⟩
  case round =>
   clear h6 g6 c0'
   obtain ⟨b, rfl, hbN, g, hB⟩ := hrel
   have c0' : wr.cell? ⟨P5, 0, none⟩ = some (.slice ga N gc) := (hB.cell (p := ⟨P5, 0, none⟩) zp).trans c0
   by_cases hlt : b < N
   ·
    have hbI : (b : Int) < (N : Int) := by omega
    obtain ⟨l, hl⟩ : ∃ l, c.blocks[b]? = some l := ⟨_, List.getElem?_eq_getElem (by omega)⟩
    obtain ⟨rb, ro, rfl, hrb, hrows⟩ := hI.rows.resolve_left (fun h => by rw [h] at hN; simp at hN; omega)
    obtain ⟨v, hv, la, lc, rfl, hlc, hins⟩ := hrows b l hl
    have hll := (hS.each l (List.mem_of_getElem? hl)).1
    have hNg : N <= gc := hN ▸ hI.cap
    have ewB : IntKind.i64.wrap ((b : Int) + 1) = ((b + 1 : Nat) : Int) := by rw [IntWalk.i64_in _ (by omega)]; omega
    obtain ⟨Ln, hLn⟩ : ∃ Ln, l.length = Ln := ⟨_, rfl⟩
    rw [hLn] at hv hlc hll
    have cB' : wr.cell? ⟨rb, ro + b, none⟩ = some (.slice la Ln lc) := (hB.cell (p := ⟨rb, ro + b, none⟩) hrb).trans hv
    clear hrows
    go_wp2_with fail
    go_loopw [9] (fun i w' => ∃ j : Nat, i = .int .i64 (j : Int) /\ j <= Ln /\ w'.heap[G]? = some (.cells (laidV N (laidN c b j)).toArray 3 (0, 0)) /\ Below w5.heap.size w5 w') (fun i _ => Ln - (intOf i).toNat)
    case atStart => exact ⟨0, rfl, Nat.zero_le _, g, hB⟩
    case round =>
     clear g hB c0' cB'
     obtain ⟨j, rfl, hjL, g, hB⟩ := hrel
     have c0' : wr.cell? ⟨P5, 0, none⟩ = some (.slice (some ⟨rb, ro, none⟩) N gc) := (hB.cell (p := ⟨P5, 0, none⟩) zp).trans c0
     have cB' : wr.cell? ⟨rb, ro + b, none⟩ = some (.slice la Ln lc) := (hB.cell (p := ⟨rb, ro + b, none⟩) hrb).trans hv
     by_cases hjl : j < Ln
     ·obtain ⟨x, hx⟩ : ∃ x, l[j]? = some x := ⟨_, List.getElem?_eq_getElem (by omega)⟩
      obtain ⟨xb, xo, rfl, hxb, hxr⟩ := hins.resolve_left (fun h => by rw [h] at hLn; simp at hLn; omega)
      have hxw : wr.rangeAt xb (xo + j * 18) (insC x) := fun jj u hu => (hB.cell (p := ⟨xb, xo + j * 18 + jj, none⟩) hxb).trans (hxr j x hx jj u hu)
      have hjI : (j : Int) < (Ln : Int) := by omega
      have ewJ : IntKind.i64.wrap ((j : Int) + 1) = ((j + 1 : Nat) : Int) := by rw [IntWalk.i64_in _ (by omega)]; omega
      have hst := laid_step hl hx
      have hsm := once_small (i := j) hOnce hl
      have hup := hOnce.up b l x hl (List.mem_of_getElem? hx)
      rw [hN] at hup
      go_upto_region 13 with (fail)
      refine wp_region_lit ?_
      iterate 7 refine st ?_
      refine wpList_load_mid rfl 43 (.tmp 72) rfl xb (xo + j * 18) rfl (insC x) _ hxw Tryz.underlying43 rfl cellsIns ?_
      iterate 1 refine st ?_
      refine wpList_store_mid rfl 43 (.tmp 10) (.tmp 73) rfl wr.heap.size 0 (insC x).toArray rfl rfl (whole_there (heap_alloc_new _ _) rfl) cellsIns (all_oneCell_toArray (insC_one x)) ?_
      refine wpList_abs (On1 43 wr (insC x).toArray) ⟨below_cells _ _ _ _ _ ((Below.refl _ _).alloc (Nat.le_refl _) _), box_whole (heap_alloc_new _ _) rfl⟩ ?_
      rintro w7 ⟨h7, x7⟩
      refine wpList_nil ?_
      obtain ⟨E, hE⟩ : ∃ E, wr.heap.size = E := ⟨_, rfl⟩
      rw [hE] at x7 ⊢
      replace g := kq h7 g
      replace hB := after hB h7
      have cx0 : w7.cell? ⟨E, 0, none⟩ = some (.int .i64 x.op) := (lie_cell x7).1 0
      have cx1 : w7.cell? ⟨E, 1, none⟩ = some (.int .i64 x.a) := (lie_cell x7).1 1
      clear hE h7 x7 hxw hxr c0' cB'
      by_cases hop : x.op = 15
      ·obtain ⟨hu1, hu2⟩ := hup hop
       obtain ⟨k, hk⟩ : ∃ k : Nat, x.a = (k : Int) := ⟨x.a.toNat, by omega⟩
       have hkN : k < N := by omega
       rw [hop] at cx0
       rw [hk] at cx1
       have e1 : decide ((k : Int) <= (b : Int)) = false := decide_eq_false (by omega)
       have e2 : decide ((N : Int) <= (k : Int)) = false := decide_eq_false (by omega)
       have hbk : b < k := by omega
       have e1n : decide (k <= b) = false := decide_eq_false (by omega)
       have e2n : decide (N <= k) = false := decide_eq_false (by omega)
       have hkI : (k : Int) < (N : Int) := by omega
       obtain ⟨fg, dg, zg⟩ := lie_cell g
       have cg : w7.cell? ⟨G, k, none⟩ = some (.int .i64 (laidN c b j k : Int)) := (fg k).trans (laidV_at _ hkN)
       have dgk : w7.frozen? ⟨G, k, none⟩ = false := dg k
       have hk1 := hsm k
       have hfn : laidN c b (j + 1) = fun z => laidN c b j z + if z = k then 1 else 0 := by
        rw [hst]
        funext z
        by_cases ez : z = k
        ·rw [if_pos ez, if_pos ⟨hop, by rw [hk, ez]⟩]
        ·rw [if_neg ez, if_neg (fun h => ez (by have := h.2; rw [hk] at this; omega))]
       have hse := laidV_set (N := N) (laidN c b j) (j := k) (v := (laidN c b j k : Int) + 1) (by omega)
       rw [<- hfn] at hse
       have ewg : IntKind.i64.wrap ((laidN c b j k : Int) + 1) = (laidN c b j k : Int) + 1 := IntWalk.i64_in _ (by omega)
       have hset := heap_set_same (i := k) (v := .int .i64 ((laidN c b j k : Int) + 1)) g
       rw [hse] at hset
       have hBs : Below w5.heap.size w5 (w7.setCell ⟨G, k, none⟩ (.int .i64 ((laidN c b j k : Int) + 1))) := setB hB (by omega)
       have HS := Lib.hid (And.intro hset hBs)
       generalize laidN c b j k = LK at *
       clear hst hsm hup hu1 hu2 hfn hse fg dg g hB hset hBs hk hop
       go_wp2
       go_roundw
       case rel => exact ⟨j + 1, rfl, by omega, HS.out.1, HS.out.2⟩
       case measure => simp [intOf]; omega
      ·have eo : (x.op == 15) = false := beq_eq_false_iff_ne.2 hop
       have hfn : laidN c b (j + 1) = laidN c b j := by
        rw [hst]
        funext z
        rw [if_neg (fun h => hop h.1), Nat.add_zero]
       clear hst hsm hup
       go_wp2
       go_roundw
       case rel => exact ⟨j + 1, rfl, by omega, by rw [hfn]; exact g, hB⟩
       case measure => simp [intOf]; omega
     ·have hjE : j = Ln := by omega
      subst hjE
      rw [<- hLn, <- laid_next hl] at g
      go_wp2
      go_roundw
      case rel => exact ⟨b + 1, rfl, by omega, g, hB⟩
      case measure => simp [intOf]; omega
   ·
    have hbE : b = N := by omega
    subst hbE
    have hK : ∀ k, laidN c b 0 k = if 0 < k /\ k < b then 1 else 0 := fun k => by rw [<- hN, laid_end c k, hOnce.one k]
    go_wp2_with fail
    go_loopw [11] (fun i w' => ∃ k : Nat, i = .int .i64 (k : Int) /\ k <= b /\ w' = wr) (fun i _ => b - (intOf i).toNat)
    case atStart => exact ⟨0, rfl, Nat.zero_le _, rfl⟩
    case round =>
     obtain ⟨k, rfl, hkb, hw⟩ := hrel
     subst hw
     by_cases hkl : k < b
     ·have cgk := ((lie_cell g).1 k).trans (laidV_at _ hkl)
      rw [hK k] at cgk
      have hkI : (k : Int) < (b : Int) := by omega
      have ewK : IntKind.i64.wrap ((k : Int) + 1) = ((k + 1 : Nat) : Int) := by rw [IntWalk.i64_in _ (by omega)]; omega
      by_cases hk0 : k = 0
      ·subst hk0
       rw [if_neg (by omega)] at cgk
       go_wp2
       go_roundw
       case rel => exact ⟨0 + 1, rfl, by omega, trivial⟩
       case measure => simp [intOf]; omega
      ·rw [if_pos ⟨by omega, hkl⟩] at cgk
       have e0 : ((k : Int) == 0) = false := beq_eq_false_iff_ne.2 (by omega)
       have ek : decide ((0 : Int) < (k : Int)) = true := decide_eq_true (by omega)
       go_wp2
       go_roundw
       case rel => exact ⟨k + 1, rfl, by omega, trivial⟩
       case measure => simp [intOf]; omega
     ·have hkE : k = b := by omega
      subst hkE
      have p9 := (hB.block _ zp).trans p
      have q9 := kq hB q
      clear g c0'
      go_upto_region 23 with (fail)
      refine wp_region_lit ?_
      refine Go.wr (.bool true) wr ?_
      refine Go.wn (.bool true) wr ?_
      refine wpList_want (by rfl) (fun KK hKK => ?_)
      refine wp_load_row 35 (.tmp 5) rfl P5 rfl 35 ([.slice ga k gc, .slice ha c.params.length hc]).toArray (0, 0) _ p9 Tryz.underlying35 rfl cellsCode ?_
      refine hKK _ _ ?_; clear hKK KK
      refine wpList_enter 12 #[.agg #[.slice ga k gc, .slice ha c.params.length hc]] (by kernel_rfl) (by kernel_rfl) _ (cC wr hB) ?_
      rintro e w8 ⟨rfl, h8⟩
      refine ⟨_, rfl, ?_⟩
      replace q9 := kq h8 q9
      replace hB := after hB h8
      refine Go.wr (.bool true) w8 ?_
      refine Go.wn (.bool true) w8 ?_
      refine wpList_want (by rfl) (fun KK hKK => ?_)
      refine wp_load_row 30 (.tmp 4) rfl B4 rfl 30 (nodeC n (.slice a' m' c')).toArray (0, 0) _ q9 Tryz.underlying30 rfl cellsNode ?_
      refine hKK _ _ ?_; clear hKK KK
      refine wpList_enter 11 #[.agg (nodeC n (.slice a' m' c')).toArray] (by kernel_rfl) (by kernel_rfl) _ (cR w8 hB) ?_
      rintro e w9 ⟨rfl, h9⟩
      refine ⟨_, rfl, ?_⟩
      have HB := Lib.hid (after hb (after hB h9))
      clear hB hb
      refine Go.wr (.bool true) w9 ?_
      refine Go.wn (.bool true) w9 ?_
      refine wpList_nil ?_
      go_wp2
      go_ret; exact Ret.mk' rfl HB.out
end Go.Proofs.YtlpgigdegnbkmaaGreatDoor
