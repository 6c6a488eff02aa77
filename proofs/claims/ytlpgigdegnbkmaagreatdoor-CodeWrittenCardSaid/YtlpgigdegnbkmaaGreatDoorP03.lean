import Derived.Test.YtlpgigdegnbkmaaGreatDoorM41
import Derived.Test.YtlpgigdegnbkmaaGreatDoorN07
import Derived.Test.YtlpgigdegnbkmaaGreatDoorP01
set_option maxRecDepth 100000
set_option maxHeartbeats 8000000
namespace Tab
open Go
theorem cnt_succ (s : Bs) (k : Nat) (h : k < s.length) : (s.take (k + 1)).countP (· == 10) = (s.take k).countP (· == 10) + (if s[k] == 10 then 1 else 0) := by
 rw [List.take_succ_eq_append_getElem h, List.countP_append]; simp [List.countP_cons]
theorem cnt_le (s : Bs) (k : Nat) : (s.take k).countP (· == 10) <= s.countP (· == 10) := (List.take_sublist k s).countP_le
def upTo (B : List (List InsD)) (b : Nat) : Nat := b + ((B.take b).map List.length).sum
theorem upTo_succ {B : List (List InsD)} {b : Nat} {l : List InsD} (h : B[b]? = some l) : upTo B (b + 1) = upTo B b + 1 + l.length := by
 obtain ⟨h1, h2⟩ := List.getElem?_eq_some_iff.1 h
 unfold upTo
 rw [List.take_succ_eq_append_getElem h1, h2]
 simp; omega
theorem upTo_le (B : List (List InsD)) (b : Nat) (h : b <= B.length) : upTo B b <= B.length + (B.map List.length).sum := by
 have := congrArg (fun l => (l.map List.length).sum) (List.take_append_drop b B)
 simp only [List.map_append, List.sum_append] at this
 unfold upTo
 omega
theorem upTo_all (B : List (List InsD)) : upTo B B.length = B.length + (B.map List.length).sum := by unfold upTo; rw [List.take_length]
theorem sum_le400 : ∀ B : List (List InsD), (∀ l ∈ B, l.length <= 400) -> (B.map List.length).sum <= B.length * 400
 | [], _ => by simp
 | l :: B, h => by
  have h1 := sum_le400 B fun m hm => h m (List.mem_cons_of_mem _ hm)
  have h2 := h l (List.mem_cons_self ..)
  simp only [List.map_cons, List.sum_cons, List.length_cons]
  omega
theorem small_all {c : CodeD} (h : rightC c = true) : c.blocks.length + (c.blocks.map List.length).sum <= 8020 := by
 obtain ⟨_, h2, _, _, _, h6⟩ := rightC_parts h
 have := sum_le400 c.blocks fun l hl => (h6 l hl).1
 omega
end Tab
namespace Go.Proofs.YtlpgigdegnbkmaaGreatDoor
open Go.RowKit Tab
theorem far_rules (w : World) : Rules (fun x => x.op = 6 -> x.far.s.data.toList = []) (fun _ => True) (fun _ => True) (NodeFine w) where
 ab := fun x a b h => h
 leaf := fun n h e => by
  by_cases h6 : n.kind = 6
  ·have hI := (bare_is h.sm.2.1).1
   unfold isKindD at hI
   simp only [h6] at hI
   have h2 : (n.ref.right && (n.far.right && (!n.ref.bad && (!n.far.bad && (n.far.s.data.toList == []))))) = true := hI
   simp only [Bool.and_eq_true, beq_iff_eq] at h2
   have e2 : leafI n = { op := 6, ref := n.ref, far := n.far } := by unfold leafI; simp only [h6]; rfl
   rw [e2]; exact h2.2.2.2.2
  ·exfalso
   revert e
   unfold leafI
   repeat' split
   all_goals first | (intro e; simp at e; done) | exact absurd ‹n.kind = 6› h6
 odd := fun op a b h e => by
  have e : op = 6 := e
  omega
 call := fun n a _ _ e => by simp at e
 get := fun g _ e => by simp at e
 keep := fun g _ e => by simp at e
 func := fun L own a _ _ _ e => by simp at e
 names := fun _ _ _ _ _ => trivial
 par := fun _ _ _ => trivial
 sub := fun n h => h.kid
 text := fun n h => h.sm.1.text
theorem far_code {w : World} {cs : List Value} {n : NodeD} (hn : NodeAt 24 w cs n) (h : rightT n = true) : FarC (codeOf n) := by
 obtain ⟨q, hq⟩ := right_sized h
 exact (code_rules (far_rules w) n ⟨24, cs, q, hn, hq⟩ trivial).1
theorem code_ret {w : World} {cs : List Value} {n : NodeD} (hn : NodeAt 24 w cs n) {e : Ending} {W : World} (hr : CodeRet w n e W) : Below w.heap.size w W /\ ∃ ga gc ha hc c E, e = .returned (.tuple #[codeV ga gc ha hc c, .int .i64 E]) /\ CodeIn W ga gc ha hc c /\ CodeSm c /\ ((E = 0 /\ rightC c = true /\ FarC c) \/ ((E = 50 \/ E = 60) /\ c = ⟨[], []⟩)) := by
 obtain ⟨hb, ⟨h1, h2⟩ | ⟨c, ga, gc, ha, hc, h1, h2, h3, h4⟩⟩ := hr
 ·refine ⟨hb, none, 0, none, 0, ⟨[], []⟩, errOf n, h2, noCode_in W, noCode_sm, .inr ⟨?_, rfl⟩⟩
  unfold compileD at h1
  unfold errOf
  split at h1
  ·rename_i r1
   split at h1
   ·cases h1
   ·rename_i r2; rw [if_pos r1, if_neg r2]; exact .inr rfl
  ·rename_i r1; rw [if_neg r1]; exact .inl rfl
 ·refine ⟨hb, ga, gc, ha, hc, c, 0, h2, h3, h4, .inl ⟨rfl, ?_⟩⟩
  unfold compileD at h1
  split at h1
  ·rename_i r1
   split at h1
   ·rename_i r2; injection h1 with h1; subst h1; exact ⟨r2, far_code hn r1⟩
   ·cases h1
  ·cases h1
theorem text_is {c : CodeD} (hS : CodeSm c) : ∃ (s : ByteArray) (TE : Int), (if rightC c = true then (.tuple #[.string ⟨(textC c).toArray⟩, .int .i64 0] : Value) else .tuple #[.string ⟨#[]⟩, .int .i64 60]) = .tuple #[.string s, .int .i64 TE] /\ ((rightC c = true /\ s.data.toList = textC c /\ TE = 0 /\ s.size <= 1000000000000) \/ (rightC c = false /\ TE = 60)) := by
 cases h : rightC c
 ·exact ⟨⟨#[]⟩, 60, rfl, .inr ⟨rfl, rfl⟩⟩
 ·refine ⟨⟨(textC c).toArray⟩, 0, rfl, .inl ⟨rfl, rfl, rfl, ?_⟩⟩
  obtain ⟨p1, p2, p3, p4, p5, p6⟩ := rightC_parts h
  have hTl := texts_len c.blocks c.params 0 (by omega) (fun l hl => ⟨(p6 l hl).1, fun x hx => lineC_len x ((hS.each l hl).2 x hx).text ((p6 l hl).2 x hx)⟩) hS.names
  show (textC c).length <= 1000000000000
  unfold textC
  omega
theorem text_st {c : CodeD} {E TE : Int} {s : ByteArray} (hE : (E = 0 /\ rightC c = true /\ FarC c) \/ ((E = 50 \/ E = 60) /\ c = ⟨[], []⟩)) (hT : (rightC c = true /\ s.data.toList = textC c /\ TE = 0 /\ s.size <= 1000000000000) \/ (rightC c = false /\ TE = 60)) : (E = 0 /\ TE = 0 /\ rightC c = true /\ FarC c /\ s.data.toList = textC c /\ s.size <= 1000000000000) \/ (E = 50 /\ TE = 60) \/ (E = 60 /\ TE = 60) := by
 rcases hE with ⟨e1, e2, e3⟩ | ⟨e1, e2⟩
 ·rcases hT with ⟨_, t2, t3, t4⟩ | ⟨t1, _⟩
  ·exact .inl ⟨e1, t3, e2, e3, t2, t4⟩
  ·rw [e2] at t1; cases t1
 ·have hn : rightC c = false := by rw [e2]; rfl
  rcases hT with ⟨t1, _⟩ | ⟨_, t2⟩
  ·rw [hn] at t1; cases t1
  ·rcases e1 with e1 | e1
   ·exact .inr (.inl ⟨e1, t2⟩)
   ·exact .inr (.inr ⟨e1, t2⟩)
theorem text_eq {c d : CodeD} {s t : ByteArray} (hc : rightC c = true) (hd : rightC d = true) (fc : FarC c) (fd : FarC d) (hs : s.data.toList = textC c) (ht : t.data.toList = textC d) : (s.toList == t.toList) = sameC c d := by
 rw [ByteArray.toList_eq, ByteArray.toList_eq, hs, ht, Bool.eq_iff_iff, beq_iff_eq, sameC_iff]
 exact text_same hc hd fc fd
theorem written_any (X0 : List RawD) (a0 : Option Addr) (cap0 : Nat) (X1 : List RawD) (a1 : Option Addr) (cap1 : Nat) (w : World) (hg : Good w) (o0 : ∀ x ∈ X0, RawOk x) (l0 : X0.length <= 9223372036854775807) (r0 : RawRow w a0 X0) (o1 : ∀ x ∈ X1, RawOk x) (l1 : X1.length <= 9223372036854775807) (r1 : RawRow w a1 X1) : Calls Tryz.prog 6 #[.slice a0 X0.length cap0, .slice a1 X1.length cap1] w (Ret (.bool true) w) := by
 have hgh := Lib.hid hg
 go_enter Tryz.func6, Tryz.ntmps6
 go_wp2_with fail
 refine (awake_any w hg).mono ?_; rintro e w1 ⟨rfl, hb⟩
 clear hg
 go_upto_region 2 with (fail)
 refine wp_region_lit ?_
 refine wn (.slice a0 X0.length cap0) w1 ?_
 refine wpList_enter 9 #[.slice a0 X0.length cap0] (by kernel_rfl) (by kernel_rfl) _ (treeOf_any X0 a0 cap0 w1 o0 l0 (r0.below hb)) ?_
 rintro e w2 ⟨n, cs, rfl, hq, hnice, hx⟩
 refine ⟨_, rfl, ?_⟩
 obtain ⟨a', m', c', rfl⟩ := hq.shape
 have hn := (hq.deep (show 17 <= 24 by decide)).at
 have hcnt : cntN 24 n <= 1000000 := Nat.le_trans (hnice 24).1 (by decide)
 replace hb := after hb hx
 clear hx hq hnice
 refine wpList_enter 10 #[.agg (nodeC n (.slice a' m' c')).toArray] (by kernel_rfl) (by kernel_rfl) _ (compile_any n _ w2 (hgh.out.below hb) hn hcnt) ?_
 rintro e w3 hr
 obtain ⟨hx, ga0, gc0, ha0, hc0, c0, E0, rfl, hI0, hS0, hE0⟩ := code_ret hn hr
 refine ⟨_, rfl, ?_⟩
 replace hb := after hb hx
 clear hx hr hn hcnt
 refine wn (.tuple #[codeV ga0 gc0 ha0 hc0 c0, .int .i64 E0]) w3 ?_
 refine wn (codeV ga0 gc0 ha0 hc0 c0) w3 ?_
 refine wn (.int .i64 E0) w3 ?_
 refine wn (.pointer (some ⟨w3.heap.size, 0, none⟩)) (w3.alloc (.cells #[.slice none 0 0, .slice none 0 0] 35)) ?_
 refine wpList_store_mid rfl 35 (.tmp 6) (.tmp 22) rfl w3.heap.size 0 ([.slice ga0 c0.blocks.length gc0, .slice ha0 c0.params.length hc0]).toArray rfl rfl (whole_there (heap_alloc_new _ _) rfl) cellsCode (oneCode _ _ rfl rfl) ?_
 refine wpList_abs (fun  W => Below w3.heap.size w3 W /\ W.heap[w3.heap.size]? = some (.cells ([.slice ga0 c0.blocks.length gc0, .slice ha0 c0.params.length hc0]).toArray 35 (0, 0))) ⟨below_cells2 (Nat.le_refl _) _ _ _ (allocB (Below.refl _ _)), box_whole (heap_alloc_new _ _) rfl⟩ ?_
 rintro w4 ⟨hx, q0⟩
 simp only [Act.put]
 replace hI0 := hI0.below hx
 replace hb := after hb hx
 obtain ⟨P0, hP⟩ : ∃ z, w3.heap.size = z := ⟨_, rfl⟩
 rw [hP] at q0 ⊢
 clear hx hP
 refine wn (.int .i64 E0) w4 ?_
 refine wpList_nil ?_
 go_upto_region 3 with (fail)
 refine wp_region_lit ?_
 refine wn (.slice a1 X1.length cap1) w4 ?_
 refine wpList_enter 9 #[.slice a1 X1.length cap1] (by kernel_rfl) (by kernel_rfl) _ (treeOf_any X1 a1 cap1 w4 o1 l1 (r1.below hb)) ?_
 rintro e w5 ⟨n, cs, rfl, hq, hnice, hx⟩
 refine ⟨_, rfl, ?_⟩
 obtain ⟨a', m', c', rfl⟩ := hq.shape
 have hn := (hq.deep (show 17 <= 24 by decide)).at
 have hcnt : cntN 24 n <= 1000000 := Nat.le_trans (hnice 24).1 (by decide)
 replace hb := after hb hx
 replace q0 := kq hx q0
 replace hI0 := hI0.below hx
 clear hx hq hnice
 refine wpList_enter 10 #[.agg (nodeC n (.slice a' m' c')).toArray] (by kernel_rfl) (by kernel_rfl) _ (compile_any n _ w5 (hgh.out.below hb) hn hcnt) ?_
 rintro e w6 hr
 obtain ⟨hx, ga1, gc1, ha1, hc1, c1, E1, rfl, hI1, hS1, hE1⟩ := code_ret hn hr
 refine ⟨_, rfl, ?_⟩
 replace hb := after hb hx
 replace q0 := kq hx q0
 replace hI0 := hI0.below hx
 clear hx hr hn hcnt
 refine wn (.tuple #[codeV ga1 gc1 ha1 hc1 c1, .int .i64 E1]) w6 ?_
 refine wn (codeV ga1 gc1 ha1 hc1 c1) w6 ?_
 refine wn (.int .i64 E1) w6 ?_
 refine wn (.pointer (some ⟨w6.heap.size, 0, none⟩)) (w6.alloc (.cells #[.slice none 0 0, .slice none 0 0] 35)) ?_
 refine wpList_store_mid rfl 35 (.tmp 8) (.tmp 28) rfl w6.heap.size 0 ([.slice ga1 c1.blocks.length gc1, .slice ha1 c1.params.length hc1]).toArray rfl rfl (whole_there (heap_alloc_new _ _) rfl) cellsCode (oneCode _ _ rfl rfl) ?_
 refine wpList_abs (fun  W => Below w6.heap.size w6 W /\ W.heap[w6.heap.size]? = some (.cells ([.slice ga1 c1.blocks.length gc1, .slice ha1 c1.params.length hc1]).toArray 35 (0, 0))) ⟨below_cells2 (Nat.le_refl _) _ _ _ (allocB (Below.refl _ _)), box_whole (heap_alloc_new _ _) rfl⟩ ?_
 rintro w7 ⟨hx, q1⟩
 simp only [Act.put]
 replace hI1 := hI1.below hx
 replace hb := after hb hx
 replace q0 := kq hx q0
 replace hI0 := hI0.below hx
 obtain ⟨P1, hP⟩ : ∃ z, w6.heap.size = z := ⟨_, rfl⟩
 rw [hP] at q1 ⊢
 clear hx hP
 refine wn (.int .i64 E1) w7 ?_
 refine wpList_nil ?_
 go_upto_region 4 with (fail)
 obtain ⟨s0, T0, hT, hTs0⟩ := text_is hS0
 have cT := codeText_any ga0 gc0 ha0 hc0 c0 w7 (hgh.out.below hb) hI0 hS0
 rw [hT] at cT
 refine wp_region_lit ?_
 refine wpList_load_row rfl 35 (.tmp 6) rfl P0 rfl 35 ([.slice ga0 c0.blocks.length gc0, .slice ha0 c0.params.length hc0]).toArray (0, 0) _ q0 Tryz.underlying35 rfl cellsCode ?_
 refine wpList_enter 18 #[codeV ga0 gc0 ha0 hc0 c0] (by kernel_rfl) (by kernel_rfl) _ cT ?_
 rintro e w8 ⟨rfl, hx⟩
 refine ⟨_, rfl, ?_⟩
 replace hb := after hb hx
 replace q0 := kq hx q0
 replace hI0 := hI0.below hx
 replace q1 := kq hx q1
 replace hI1 := hI1.below hx
 clear hx cT hT
 refine wn (.tuple #[.string s0, .int .i64 T0]) w8 ?_
 refine wn (.string s0) w8 ?_
 refine wn (.int .i64 T0) w8 ?_
 refine wn (.string s0) w8 ?_
 refine wn (.int .i64 T0) w8 ?_
 refine wpList_nil ?_
 go_upto_region 5 with (fail)
 obtain ⟨s1, T1, hT, hTs1⟩ := text_is hS1
 have cT := codeText_any ga1 gc1 ha1 hc1 c1 w8 (hgh.out.below hb) hI1 hS1
 rw [hT] at cT
 refine wp_region_lit ?_
 refine wpList_load_row rfl 35 (.tmp 8) rfl P1 rfl 35 ([.slice ga1 c1.blocks.length gc1, .slice ha1 c1.params.length hc1]).toArray (0, 0) _ q1 Tryz.underlying35 rfl cellsCode ?_
 refine wpList_enter 18 #[codeV ga1 gc1 ha1 hc1 c1] (by kernel_rfl) (by kernel_rfl) _ cT ?_
 rintro e w9 ⟨rfl, hx⟩
 refine ⟨_, rfl, ?_⟩
 replace hb := after hb hx
 replace q0 := kq hx q0
 replace hI0 := hI0.below hx
 replace q1 := kq hx q1
 replace hI1 := hI1.below hx
 clear hx cT hT
 refine wn (.tuple #[.string s1, .int .i64 T1]) w9 ?_
 refine wn (.string s1) w9 ?_
 refine wn (.int .i64 T1) w9 ?_
 refine wn (.string s1) w9 ?_
 refine wn (.int .i64 T1) w9 ?_
 refine wpList_nil ?_
 have h0 := text_st hE0 hTs0
 have h1 := text_st hE1 hTs1
 clear hE0 hTs0 hE1 hTs1
 rcases h0 with ⟨rfl, rfl, k0, f0, t0, z0⟩ | ⟨rfl, rfl⟩ | ⟨rfl, rfl⟩ <;> rcases h1 with ⟨rfl, rfl, k1, f1, t1, z1⟩ | ⟨rfl, rfl⟩ | ⟨rfl, rfl⟩
 rotate_left
 iterate 8 (
  clear hI0 hI1 hS0 hS1 q0 q1 r0 r1 o0 o1
  go_wp2
  go_ret; exact Ret.mk' rfl hb)
 have hTU := text_eq k0 k1 f0 f1 t0 t1
 have hcn := text_lines k0
 have hsm := small_all k0
 have hle := cnt_le (textC c0)
 have hsz : (textC c0).length = s0.size := by rw [<- t0, <- Lib.size_eq]
 have cS := fun W (h : Below w9.heap.size w9 W) => codeSame_any c0 c1 ga0 ga1 ha0 ha1 gc0 gc1 hc0 hc1 W (hI0.below h) (hI1.below h) hS0 hS1
 generalize sameC c0 c1 = BV at hTU cS
 obtain ⟨M, hM⟩ : ∃ M, (textC c0).countP (· == 10) = M := ⟨_, rfl⟩
 rw [hM] at hcn hle
 obtain ⟨N, hN⟩ : ∃ N, c0.blocks.length = N := ⟨_, rfl⟩
 have hNl : N <= 1000000 := hN ▸ hS0.blocks
 have cb : w9.cell? ⟨P0, 0, none⟩ = some (.slice ga0 N gc0) := by rw [<- hN]; exact (lie_cell q0).1 0
 have zq := heap_in q0
 have HS := Lib.hid (And.intro hI0 (And.intro hS0 (And.intro hN (And.intro hcn hsm))))
 have HC := Lib.hid (And.intro cS (And.intro hTU (And.intro q0 q1)))
 have HT := Lib.hid (And.intro t0 (And.intro hM (And.intro hle hsz)))
 have HB := Lib.hid hb
 have HM : M <= 8020 := by omega
 clear hI0 hI1 hS0 hS1 hN hcn hsm cS hTU q0 q1 t0 t1 f0 f1 k0 k1 hM hle hsz hb r0 r1 o0 o1
 go_wp2_with fail
 go_loopw [14, 15] (fun l i w' => ∃ (k m : Nat), i = .int .i64 (k : Int) /\ l = .int .i64 (m : Int) /\ m = ((textC c0).take k).countP (· == 10) /\ k <= s0.size /\ w' = w9) (fun _ i _ => s0.size - (intOf i).toNat)
 case atStart => exact ⟨0, 0, rfl, rfl, rfl, Nat.zero_le _, rfl⟩
 case round =>
  obtain ⟨k, m, rfl, rfl, hm, hk, hw⟩ := hrel
  subst hw
  obtain ⟨t0, hM, hle, hsz⟩ := HT.out
  by_cases hlt : k < s0.size
  ·have hcs := cnt_succ (textC c0) k (by omega)
   have hgk : (textC c0)[k]'(by omega) = s0[k] := by
    simp only [<- t0]; rfl
   rw [hgk, <- hm] at hcs
   have hb1 := hle (k + 1)
   have ewK : IntKind.i64.wrap ((k : Int) + 1) = ((k + 1 : Nat) : Int) := by rw [IntWalk.i64_in _ (by omega)]; omega
   have ewM : IntKind.i64.wrap ((m : Int) + 1) = ((m + 1 : Nat) : Int) := by rw [IntWalk.i64_in _ (by have := hle k; omega)]; omega
   obtain ⟨A, hA⟩ : ∃ A, s0[k].toNat = A := ⟨_, rfl⟩
   clear t0 hM hle hgk hb1 hsz hm
   by_cases h10 : s0[k] = 10
   ·have e10 : ((A : Int) == 10) = true := by rw [beq_iff_eq, <- hA, h10]; rfl
    have Hc := Lib.hid (show m + 1 = ((textC c0).take (k + 1)).countP (· == 10) by rw [hcs, h10]; rfl)
    clear hcs h10
    go_wp2
    go_roundw
    case rel => exact ⟨k + 1, m + 1, rfl, rfl, Hc.out, by omega, trivial⟩
    case measure => simp [intOf]; omega
   ·have hA10 : A ≠ 10 := fun e => h10 (UInt8.toNat_inj.1 (by rw [hA, e]; rfl))
    have e10 : ((A : Int) == 10) = false := beq_eq_false_iff_ne.2 (by omega)
    have Hc := Lib.hid (show m = ((textC c0).take (k + 1)).countP (· == 10) by rw [hcs, if_neg (by simpa using h10)]; rfl)
    clear hcs h10 hA10
    go_wp2
    go_roundw
    case rel => exact ⟨k + 1, m, rfl, rfl, Hc.out, by omega, trivial⟩
    case measure => simp [intOf]; omega
  ·have hkE : k = s0.size := by omega
   have hmM : m = M := by rw [hm, hkE, <- hsz, List.take_length, hM]
   subst hkE hmM
   clear t0 hM hle hsz hm hk HT
   go_wp2_with fail
   go_loopw [14, 16] (fun l i w' => ∃ (j : Nat) (V : Int), i = .int .i64 (j : Int) /\ l = .int .i64 V /\ V = (m : Int) - (upTo c0.blocks j : Nat) /\ j <= N /\ w' = wr) (fun _ i _ => N - (intOf i).toNat)
   case atStart => exact ⟨0, m, rfl, rfl, by show (m : Int) = m - ((0 : Nat) : Int); omega, Nat.zero_le _, rfl⟩
   case round =>
    obtain ⟨j, V, rfl, rfl, hV, hj, hw⟩ := hrel
    subst hw
    by_cases hlt : j < N
    ·obtain ⟨hI, hS, hN, hcn, hsm⟩ := HS.out
     obtain ⟨l, hl⟩ : ∃ l, c0.blocks[j]? = some l := ⟨_, List.getElem?_eq_getElem (by omega)⟩
     obtain ⟨rb, ro, rfl, hrb, hrows⟩ := hI.rows.resolve_left (fun h => by rw [h] at hN; simp at hN; omega)
     obtain ⟨v, hv, la, lc, rfl, hlc, _⟩ := hrows j l hl
     have hNg : N <= gc0 := hN ▸ hI.cap
     have hu := upTo_succ hl
     have hu2 := upTo_le c0.blocks (j + 1) (by omega)
     obtain ⟨Ln, hLn⟩ : ∃ Ln, l.length = Ln := ⟨_, rfl⟩
     rw [hLn] at hv hlc hu
     have hjI : (j : Int) < (N : Int) := by omega
     have ewB : IntKind.i64.wrap ((j : Int) + 1) = ((j + 1 : Nat) : Int) := by rw [IntWalk.i64_in _ (by omega)]; omega
     have ew1 : IntKind.i64.wrap (V - 1) = V - 1 := by rw [IntWalk.i64_in _ (by omega)]
     have ew2 : IntKind.i64.wrap (V - 1 - (Ln : Int)) = V - 1 - (Ln : Int) := by rw [IntWalk.i64_in _ (by omega)]
     have HV := Lib.hid (show V - 1 - (Ln : Int) = (m : Int) - (upTo c0.blocks (j + 1) : Nat) by omega)
     clear hI hS hN hcn hsm hl hrows hu hu2 hLn hV
     go_wp2
     go_roundw
     case rel => exact ⟨j + 1, _, rfl, rfl, HV.out, by omega, trivial⟩
     case measure => simp [intOf]; omega
    ·have hjE : j = N := by omega
     obtain ⟨_, _, hN, hcn, _⟩ := HS.out
     have hV0 : V = 0 := by rw [hV, hjE, <- hN, upTo_all, hN]; omega
     subst hV0
     obtain ⟨cS, hTU, q0, q1⟩ := HC.out
     clear hV hj hlt hN hcn HS HC
     subst hjE
     have c18 := cS wr (Below.refl _ _)
     clear cS
     cases BV
     all_goals (
      go_upto_region 18 with (fail)
      refine wp_region_lit ?_
      iterate 14 refine sx ?_
      iterate 3 refine sx ?_
      refine wpList_want (by rfl) (fun KK hKK => ?_)
      refine wp_load_row 35 (.tmp 6) rfl P0 rfl 35 ([.slice ga0 c0.blocks.length gc0, .slice ha0 c0.params.length hc0]).toArray (0, 0) _ q0 Tryz.underlying35 rfl cellsCode ?_
      refine hKK _ _ ?_; clear hKK KK
      refine wpList_want (by rfl) (fun KK hKK => ?_)
      refine wp_load_row 35 (.tmp 8) rfl P1 rfl 35 ([.slice ga1 c1.blocks.length gc1, .slice ha1 c1.params.length hc1]).toArray (0, 0) _ q1 Tryz.underlying35 rfl cellsCode ?_
      refine hKK _ _ ?_; clear hKK KK
      refine wpList_enter 19 #[codeV ga0 gc0 ha0 hc0 c0, codeV ga1 gc1 ha1 hc1 c1] (by kernel_rfl) (by kernel_rfl) _ c18 ?_
      rintro e w10 ⟨rfl, hx⟩
      refine ⟨_, rfl, ?_⟩
      have HB2 := Lib.hid (after HB.out hx)
      clear hx q0 q1
      go_wp2
      go_ret; exact Ret.mk' rfl HB2.out)
end Go.Proofs.YtlpgigdegnbkmaaGreatDoor
