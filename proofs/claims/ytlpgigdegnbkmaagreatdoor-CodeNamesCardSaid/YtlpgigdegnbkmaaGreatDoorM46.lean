import Derived.Test.YtlpgigdegnbkmaaGreatDoorM35
import Derived.Test.YtlpgigdegnbkmaaGreatDoorM15
import Derived.Test.YtlpgigdegnbkmaaGreatDoorM16
import Derived.Test.YtlpgigdegnbkmaaGreatDoorM34
import Derived.Laws.ResultCell
set_option maxRecDepth 100000
set_option maxHeartbeats 8000000
namespace Go.Proofs.YtlpgigdegnbkmaaGreatDoor
open Go.RowKit Tab Tryz
theorem results_box {P : Program} {fn : Func} {p u : Tmp} {ty : TypeId} (h : fn.results = #[.cell p ty, .tmp u]) (tmps : Array Value) (w : World) (g : Nat) (t : TypeId) (cs : Array Value) (fr : Nat × Nat) (d : TypeDesc)
  (hp : tmps.getD p undef = .pointer (some ⟨g, 0, none⟩)) (hg : w.heap[g]? = some (.cells cs t fr))
  (hu : P.underlying ty = some d) (hd : (match d with | .struct _ | .array _ _ => true | _ => false) = true) (hi : (P.info? ty).map (·.size) = some cs.size) :
  (results fn tmps).run P w = .ok (.tuple #[.agg cs, tmps.getD u undef]) w := by
 rw [results_cell_tmp h, hp]
 simp [asAddr, run_loadVar_row w g t ty cs fr d hg hu hd hi, Result.andThen]
theorem makeRow (W : World) : (Instr.makeSlice 32 (.int .i64 1) (.int .i64 1)).run prog W = .ok (.slice (some ⟨W.heap.size, 0, none⟩) 1 1) (W.alloc (.cells #[.slice none 0 0] 41)) := by
 obtain ⟨i, hi, hz, hs, hb⟩ := info_parts infoRow
 have := run_make W 32 41 i (.slice none 0 0) underlying32 hi hz .i64 .i64 1 1 (by omega) (by omega) (by rw [hb]; omega) (by omega)
 have e : madeCells (Value.slice none 0 0).cells 1 = #[.slice none 0 0] := by kernel_rfl
 rw [this, hs, show Int.toNat 1 = 1 from rfl, Nat.mul_one, e]
theorem makeStr (W : World) : (Instr.makeSlice 33 (.int .i64 1) (.int .i64 1)).run prog W = .ok (.slice (some ⟨W.heap.size, 0, none⟩) 1 1) (W.alloc (.cells #[.string ⟨#[]⟩] 9)) := by
 obtain ⟨i, hi, hz, hs, hb⟩ := info_parts infoStr
 have := run_make W 33 9 i (.string ⟨#[]⟩) underlying33 hi hz .i64 .i64 1 1 (by omega) (by omega) (by rw [hb]; omega) (by omega)
 have e : madeCells (Value.string ⟨#[]⟩).cells 1 = #[.string ⟨#[]⟩] := by kernel_rfl
 rw [this, hs, show Int.toNat 1 = 1 from rfl, Nat.mul_one, e]
theorem alloc_old4 (w : World) (o : Obj) {r : Nat} (h : r < w.heap.size) : (w.alloc o).heap[r]? = w.heap[r]? := by
 show (w.heap.push o)[r]? = _
 rw [Array.getElem?_push_lt h, Array.getElem?_eq_getElem h]
theorem alloc_new4 (w : World) (o : Obj) : (w.alloc o).heap[w.heap.size]? = some o := by
 show (w.heap.push o)[w.heap.size]? = _
 simp
theorem alloc_size4 (w : World) (o : Obj) : (w.alloc o).heap.size = w.heap.size + 1 := by
 show (w.heap.push o).size = _
 simp
theorem heap_alloc3 (w : World) (A B C : Obj) : (((w.alloc A).alloc B).alloc C).drew.heap[w.heap.size]? = some A /\ (((w.alloc A).alloc B).alloc C).drew.heap[w.heap.size + 1]? = some B /\ (((w.alloc A).alloc B).alloc C).drew.heap[w.heap.size + 1 + 1]? = some C := by
 have s1 := alloc_size4 w A
 have s2 := alloc_size4 (w.alloc A) B
 refine ⟨?_, ?_, ?_⟩
 ·exact ((alloc_old4 _ C (by omega)).trans (alloc_old4 _ B (by omega))).trans (alloc_new4 w A)
 ·have h := alloc_new4 (w.alloc A) B
  rw [s1] at h
  exact (alloc_old4 _ C (by omega)).trans h
 ·have h := alloc_new4 ((w.alloc A).alloc B) C
  rw [s2, s1] at h
  exact h
theorem bare_mem {w : World} {B p h g : Nat} (hB : B <= p) (hg : B <= g) (hh : B <= h) (e1 : w.heap[p]? = some (.cells #[.slice (some ⟨g, 0, none⟩) 1 1, .slice (some ⟨h, 0, none⟩) 1 1] 63 (0, 0)))
  (e2 : w.heap[g]? = some (.cells #[.slice none 0 0] 41 (0, 0))) (e3 : w.heap[h]? = some (.cells #[.string ⟨#[]⟩] 9 (0, 0))) : CodeAt w B p h bareC := by
 refine ⟨g, 1, 1, [.slice none 0 0], hB, by decide, e1, ⟨rfl, .inr ⟨g, 1, _, rfl, hg, e2, by decide, by decide, rfl, rfl⟩⟩, ⟨rfl, .inr ⟨h, 1, _, rfl, hh, e3, by decide, by decide, rfl, rfl⟩⟩, ?_, ?_⟩
 ·intro i v l h1 h2
  cases i with
  | zero =>
   have hv : Value.slice none 0 0 = v := by simpa using h1
   have hl : [] = l := by simpa [bareC] using h2
   subst hv hl
   exact ⟨rfl, .inl ⟨rfl, rfl⟩⟩
  | succ i => simp at h1
 ·intro i j v u k h1 h2 h3 h4
  cases i with
  | zero =>
   cases j with
   | zero => rfl
   | succ j => simp at h2
  | succ i => simp at h1
theorem CMem.above {w W : World} {B p h g cg ch : Nat} {vs : List Value} {c : CodeD} (k : CMem w B p h g cg ch vs c) (hW : ∀ i, B <= i -> W.heap[i]? = w.heap[i]?) : CMem W B p h g cg ch vs c where
 lep := k.lep
 few := k.few
 box := (hW p k.lep).trans k.box
 rows := own_kept k.rows fun i hi => hW i (own_type k.rows hi).1
 pars := own_kept k.pars fun i hi => hW i (own_type k.pars hi).1
 each := fun i v l h1 h2 => own_kept (k.each i v l h1 h2) fun j hj => hW j (own_type (k.each i v l h1 h2) hj).1
 apart := k.apart
theorem cellsCode : (prog.info? 35).map (·.size) = some 2 := by kernel_rfl
theorem oneCode (u v : Value) (hu : u.oneCell' = true) (hv : v.oneCell' = true) : (List.toArray [u, v]).all (·.oneCell') = true := all_oneCell_toArray (by
 intro x hx
 simp only [List.mem_cons, List.not_mem_nil, or_false] at hx
 rcases hx with rfl | rfl
 ·exact hu
 ·exact hv)
def noCode : Value := .agg #[.slice none 0 0, .slice none 0 0]
def CodeRet (w : World) (n : NodeD) (e : Ending) (W : World) : Prop :=
 Below w.heap.size w W /\ ((compileD n = none /\ e = .returned (.tuple #[noCode, .int .i64 (errOf n)])) \/
  ∃ c ga gc ha hc, compileD n = some c /\ e = .returned (.tuple #[codeV ga gc ha hc c, .int .i64 0]) /\ CodeIn W ga gc ha hc c /\ CodeSm c)
theorem compile_any (n : NodeD) (cs : List Value) (w : World) (hg : Good w) (hn : NodeAt 24 w cs n) (hcnt : cntN 24 n <= 1000000) : Calls prog 10 #[.agg cs.toArray] w (CodeRet w n) := by
 have hlen := hn.len
 have cR := fun W (h : Below w.heap.size w W) => treeRight_any n cs W (hg.below h) (hn.below h) hcnt
 have hNB := fun W (h : Below w.heap.size w W) => hn.below h
 have hgB := fun W (h : Below w.heap.size w W) => hg.below h
 obtain ⟨T, hT⟩ : ∃ T, rightT n = T := ⟨_, rfl⟩
 rw [hT] at cR
 clear hg hn hcnt
 cases T
 ·have hE : compileD n = none /\ errOf n = 50 := by unfold compileD errOf; rw [hT]; exact ⟨rfl, rfl⟩
  have HE := Lib.hid hE
  clear hT hE hNB hgB
  go_enter func10, ntmps10
  go_upto_region 1 with (fail)
  refine wp_abs2 (fun W => Below w.heap.size w W /\ W.heap[w.heap.size]? = some (.cells cs.toArray 30 (0, 0)) /\ W.heap[w.heap.size + 1]? = some (.cells #[.slice none 0 0, .slice none 0 0] 35 (0, 0))) ⟨belx, heap_alloc2_old _ _ _, heap_alloc2_new _ _ _⟩ ?_
  rintro w1 ⟨hb1, q1, r1⟩
  refine wp_region_lit ?_
  refine wpList_load_row rfl 30 (.tmp 1) rfl w.heap.size rfl 30 cs.toArray (0, 0) _ q1 underlying30 rfl (by rw [List.size_toArray, hlen]; exact cellsNode) ?_
  refine wpList_plain rfl (fun KK hKK => ?_); go_simp
  refine (cR w1 hb1).mono ?_; rintro e w2 ⟨rfl, hb2⟩
  refine hKK _ _ ?_; clear hKK KK
  have hb02 := after hb1 hb2
  have r2 := kq hb2 r1
  clear cR q1 r1 hb1 hb2
  obtain ⟨f2, d2, z2⟩ := lie_cell r2
  go_upto_region 2 with (fail)
  refine wp_region_lit ?_
  refine wpList_plain rfl (fun KK hKK => ?_); go_simp; (refine hKK _ _ ?_; clear hKK KK)
  refine wpList_store_mid rfl 35 (.tmp 2) (.tmp 8) rfl (w.heap.size + 1) 0 (List.toArray [.slice none 0 0, .slice none 0 0]) rfl rfl (whole_there r2 rfl) cellsCode (oneCode _ _ rfl rfl) ?_
  refine wpList_abs (fun W => Below w.heap.size w W /\ W.heap[w.heap.size + 1]? = some (.cells #[.slice none 0 0, .slice none 0 0] 35 (0, 0))) ⟨below_cells2 (by omega) _ _ _ hb02, box_whole r2 rfl⟩ ?_
  rintro w3 ⟨hb3, r3⟩
  clear f2 d2 r2 hb02
  go_wp2
  exact bodyPost_ret (results_box rfl _ _ (w.heap.size + 1) 35 #[.slice none 0 0, .slice none 0 0] (0, 0) _ rfl r3 underlying35 rfl cellsCode) rfl ⟨hb3, .inl ⟨HE.out.1, by rw [HE.out.2]; rfl⟩⟩
 obtain ⟨q, hq⟩ := right_sized hT
 have hNI := fun W (h : Below w.heap.size w W) => node_of (hNB W h) hq
 have hNF : NodeFine w n := ⟨24, cs, q, hNB w (Below.refl _ _), hq⟩
 have hSmall := code_small hT
 have hSm := code_sm hNF hT
 clear hNB hq hNF
 have HN := Lib.hid (And.intro hNI (And.intro hSmall (And.intro hSm (And.intro hgB hT))))
 clear hNI hSmall hSm hgB hT
 go_enter func10, ntmps10
 go_upto_region 1 with (fail)
 refine wp_abs2 (fun W => Below w.heap.size w W /\ W.heap[w.heap.size]? = some (.cells cs.toArray 30 (0, 0)) /\ W.heap[w.heap.size + 1]? = some (.cells #[.slice none 0 0, .slice none 0 0] 35 (0, 0))) ⟨belx, heap_alloc2_old _ _ _, heap_alloc2_new _ _ _⟩ ?_
 rintro w1 ⟨hb1, q1, r1⟩
 refine wp_region_lit ?_
 refine wpList_load_row rfl 30 (.tmp 1) rfl w.heap.size rfl 30 cs.toArray (0, 0) _ q1 underlying30 rfl (by rw [List.size_toArray, hlen]; exact cellsNode) ?_
 refine wpList_plain rfl (fun KK hKK => ?_); go_simp
 refine (cR w1 hb1).mono ?_; rintro e w2 ⟨rfl, hb2⟩
 refine hKK _ _ ?_; clear hKK KK
 have hb02 := after hb1 hb2
 have q2 := kq hb2 q1
 have r2 := kq hb2 r1
 clear cR q1 r1 hb1 hb2
 have HQ2 := Lib.hid (And.intro q2 r2)
 clear q2 r2
 have mR := makeRow
 have mS := makeStr
 go_upto_region 3 with (fail)
 go_cut [4] from 5 (fun v4 wx => ∃ p h, v4 = .pointer (some ⟨p, 0, none⟩) /\ w2.heap.size <= h /\ CodeAt wx w2.heap.size p h bareC /\ Below w2.heap.size w2 wx)
 case first =>
  go_region
  all_goals (
   go_wp2
   go_meet
   first
    | exact ⟨_, w2.heap.size + 1, rfl, by omega, bare_mem (g := w2.heap.size) (by omega) (by omega) (by omega) (heap_alloc3 _ _ _ _).2.2 (heap_alloc3 _ _ _ _).1 (heap_alloc3 _ _ _ _).2.1, belx⟩
    | exact ⟨_, w2.heap.size, rfl, by omega, bare_mem (g := w2.heap.size + 1) (by omega) (by omega) (by omega) (heap_alloc3 _ _ _ _).2.2 (heap_alloc3 _ _ _ _).2.1 (heap_alloc3 _ _ _ _).1, belx⟩)
 case rest =>
  obtain ⟨p, h, rfl, hh, S3, hb3⟩ := hcut
  obtain ⟨hNI, hSmall, hSm, hgB, hT⟩ := HN.out
  have hg2 : Good w2 := hgB w2 hb02
  have hn2 := hNI w2 hb02
  have cT := (ctree_all w2 hg2 (fun f => fun_any w2 hg2 f) (fun f => clet_any w2 hg2 f) 24).1 p h 0 none 0 [] bareC n cs wc hb3 S3 (by decide) ⟨NamesAt.nil _ _ _, fun h => absurd rfl h⟩ hn2 (by simp [wtN]) hSmall
  obtain ⟨q2, r2⟩ := HQ2.out
  have q3 := kq hb3 q2
  have r3 := kq hb3 r2
  have hz2 := heap_in r2
  have hb03 := after hb02 hb3
  clear hNI hn2 HN HQ2 q2 r2 S3 mR mS
  obtain ⟨c, hc⟩ : ∃ c, codeOf n = c := ⟨_, rfl⟩
  rw [show comp 24 bareC 0 [] [] n = c from hc] at cT
  rw [hc] at hSm
  have HT := Lib.hid (And.intro hT hc)
  clear hT hc hSmall
  unfold blkV at cT
  go_upto_region 4 with (fail)
  refine wp_region_lit ?_
  iterate 2 refine st ?_
  refine wpList_load_row rfl 30 (.tmp 1) rfl w.heap.size rfl 30 cs.toArray (0, 0) _ q3 underlying30 rfl (by rw [List.size_toArray, hlen]; exact cellsNode) ?_
  refine wpList_plain rfl (fun KK hKK => ?_); go_simp
  refine cT.mono ?_; rintro e w5 ⟨rfl, h', hh', S5, hB5, hK5⟩
  refine hKK _ _ ?_; clear hKK KK
  refine wpList_nil ?_
  clear cT q3 hh' hK5 hh
  obtain ⟨g, cg, ch, vs, k5⟩ := S5
  have r5 := (hB5.block _ hz2).trans r3
  have hb05 : Below w.heap.size w w5 := hb03.trans (hB5.mono hb02.size)
  have cC := codeRight_any (some ⟨g, 0, none⟩) cg (some ⟨h', 0, none⟩) ch c w5 (hgB w5 hb05) k5.read hSm
  have hrg : w5.rangeAt p 0 [.slice (some ⟨g, 0, none⟩) c.blocks.length cg, .slice (some ⟨h', 0, none⟩) c.params.length ch] := range_of (lie_cell k5.box).1 rfl
  have hpz := heap_in k5.box
  have HK5 := Lib.hid k5
  obtain ⟨V, hV⟩ : ∃ V, rightC c = V := ⟨_, rfl⟩
  rw [hV] at cC
  have HV := Lib.hid hV
  unfold codeV at cC
  clear k5 hV hgB hg2 hb03 hB5 r3
  go_upto_region 5 with (fail)
  refine wp_region_lit ?_
  iterate 3 refine st ?_
  refine wpList_load_mid rfl 35 (.tmp 20) rfl p 0 rfl [.slice (some ⟨g, 0, none⟩) c.blocks.length cg, .slice (some ⟨h', 0, none⟩) c.params.length ch] _ hrg underlying35 rfl cellsCode ?_
  refine wpList_plain rfl (fun KK hKK => ?_); go_simp
  refine cC.mono ?_; rintro e w6 ⟨rfl, hb6⟩
  refine hKK _ _ ?_; clear hKK KK
  have r6 := kq hb6 r5
  have hb06 := after hb05 hb6
  have k6 := HK5.out.below hb6
  clear cC hrg r5 hb05 hb6 HK5
  obtain ⟨f6, d6, z6⟩ := lie_cell r6
  have HK6 := Lib.hid k6
  clear k6
  cases V
  ·go_upto_region 6 with (fail)
   refine wp_region_lit ?_
   refine wpList_plain rfl (fun KK hKK => ?_); go_simp; (refine hKK _ _ ?_; clear hKK KK)
   refine wpList_store_mid rfl 35 (.tmp 2) (.tmp 24) rfl (w.heap.size + 1) 0 (List.toArray [.slice none 0 0, .slice none 0 0]) rfl rfl (whole_there r6 rfl) cellsCode (oneCode _ _ rfl rfl) ?_
   refine wpList_abs (fun W => Below w.heap.size w W /\ W.heap[w.heap.size + 1]? = some (.cells #[.slice none 0 0, .slice none 0 0] 35 (0, 0))) ⟨below_cells2 (by omega) _ _ _ hb06, box_whole r6 rfl⟩ ?_
   rintro w7 ⟨hb7, r7⟩
   clear f6 d6 r6 hb06 HK6
   go_wp2
   exact bodyPost_ret (results_box rfl _ _ (w.heap.size + 1) 35 #[.slice none 0 0, .slice none 0 0] (0, 0) _ rfl r7 underlying35 rfl cellsCode) rfl ⟨hb7, .inl ⟨by unfold compileD; rw [HT.out.1, HT.out.2, HV.out]; rfl, by unfold errOf; rw [HT.out.1, HT.out.2, HV.out]; rfl⟩⟩
  ·have hrg : w6.rangeAt p 0 [.slice (some ⟨g, 0, none⟩) c.blocks.length cg, .slice (some ⟨h', 0, none⟩) c.params.length ch] := range_of (lie_cell HK6.out.box).1 rfl
   have hpz6 := heap_in HK6.out.box
   go_upto_region 7 with (fail)
   refine wp_region_lit ?_
   iterate 3 refine st ?_
   refine wpList_load_mid rfl 35 (.tmp 27) rfl p 0 rfl [.slice (some ⟨g, 0, none⟩) c.blocks.length cg, .slice (some ⟨h', 0, none⟩) c.params.length ch] _ hrg underlying35 rfl cellsCode ?_
   refine wpList_store_mid rfl 35 (.tmp 2) (.tmp 28) rfl (w.heap.size + 1) 0 (List.toArray [.slice (some ⟨g, 0, none⟩) c.blocks.length cg, .slice (some ⟨h', 0, none⟩) c.params.length ch]) rfl rfl (whole_there r6 rfl) cellsCode (oneCode _ _ rfl rfl) ?_
   refine wpList_abs (fun W => Below w.heap.size w W /\ W.heap[w.heap.size + 1]? = some (.cells #[.slice (some ⟨g, 0, none⟩) c.blocks.length cg, .slice (some ⟨h', 0, none⟩) c.params.length ch] 35 (0, 0)) /\ CMem W w2.heap.size p h' g cg ch vs c) ⟨below_cells2 (by omega) _ _ _ hb06, box_whole r6 rfl, HK6.out.above (fun i hi => cells_other (by omega) _ _ _)⟩ ?_
   rintro w7 ⟨hb7, r7, k7⟩
   clear f6 d6 r6 hb06 hrg hpz6
   have HK7 := Lib.hid k7
   clear k7 HK6
   go_wp2
   exact bodyPost_ret (results_box rfl _ _ (w.heap.size + 1) 35 #[.slice (some ⟨g, 0, none⟩) c.blocks.length cg, .slice (some ⟨h', 0, none⟩) c.params.length ch] (0, 0) _ rfl r7 underlying35 rfl cellsCode) rfl ⟨hb7, .inr ⟨c, _, _, _, _, by unfold compileD; rw [HT.out.1, HT.out.2, HV.out]; rfl, rfl, HK7.out.read, hSm⟩⟩
end Go.Proofs.YtlpgigdegnbkmaaGreatDoor
