import Derived.Test.YtlpgigdegnbkmaaGreatDoorM13
import Derived.ArgAppend
set_option maxRecDepth 100000
set_option maxHeartbeats 8000000
namespace Tab
def letF (f b : Nat) (r : CodeD × List Bs) (p : Bs × NodeD) : CodeD × List Bs := (putC (comp f r.1 b r.2 (if p.2.kind = 14 then p.1 else []) p.2) b { op := 17, s := p.1 }, r.2 ++ [p.1])
theorem comp_let (f : Nat) (c : CodeD) (b : Nat) (known : List Bs) (own : Bs) (n : NodeD) (h : n.kind = 16) :
  comp (f + 1) c b known own n = putC (subC (fun c b known k => comp f c b known [] k) (((namesD n.text).zip n.kids).foldl (letF f b) (c, known)).1 b (((namesD n.text).zip n.kids).foldl (letF f b) (c, known)).2 n.kids[(namesD n.text).length]?) b { op := 19, a := (namesD n.text).length } := by
 rw [comp]
 dsimp only
 rw [if_neg (by omega), if_pos h]
 rfl
theorem letF_ext (f b : Nat) (l : List (Bs × NodeD)) (r : CodeD × List Bs) (hb : b < r.1.blocks.length) : Ext r.1 (l.foldl (letF f b) r).1 := lets_ext f b l r hb
end Tab
namespace Go.Proofs.YtlpgigdegnbkmaaGreatDoor
open Go.RowKit Tab Tryz
theorem NamesAt.setOther {w : World} {a : Option Addr} {c b i : Nat} {K : List Bs} {C : Array Value} {T : TypeId} {fr : Nat × Nat} {v : Value} (k : NamesAt w a c K) (hb : w.heap[b]? = some (.cells C T fr)) (hT : T ≠ 9) : NamesAt (w.setCell ⟨b, i, none⟩ v) a c K := by
 refine ⟨k.cap, k.lies.imp id ?_⟩
 rintro ⟨b1, o1, C1, fr1, e1, e2, e3⟩
 refine ⟨b1, o1, C1, fr1, e1, (heap_set_other fun e => ?_).trans e2, e3⟩
 rw [e, hb] at e2
 injection e2 with e2; injection e2 with _ e2 _; exact hT e2
theorem CodeAt.setOther {w : World} {B p h b i : Nat} {c : CodeD} {C : Array Value} {T : TypeId} {fr : Nat × Nat} {v : Value} (k : CodeAt w B p h c) (hb : w.heap[b]? = some (.cells C T fr)) (h1 : T ≠ 63) (h2 : T ≠ 41) (h3 : T ≠ 43) (h4 : T ≠ 9) : CodeAt (w.setCell ⟨b, i, none⟩ v) B p h c := by
 obtain ⟨g, cg, ch, vs, k⟩ := k
 have ne : ∀ {j : Nat} {C' : Array Value} {T' : TypeId} {fr' : Nat × Nat}, w.heap[j]? = some (.cells C' T' fr') -> T ≠ T' -> j ≠ b := fun e1 e2 e3 => by
  rw [e3, hb] at e1
  injection e1 with e1; injection e1 with _ e1 _; exact e2 e1
 have own : ∀ {e : TypeId} {m size : Nat} {u : Value} {xs : List Value}, w.ownsRow B e size u m xs -> T ≠ e -> (w.setCell ⟨b, i, none⟩ v).ownsRow B e size u m xs := fun hr he => own_kept hr fun j hj => heap_set_other (by
  obtain ⟨_, cu, e4⟩ := own_type hr hj
  exact ne e4 he)
 exact ⟨g, cg, ch, vs, ⟨k.lep, k.few, (heap_set_other (ne k.box h1)).trans k.box, own k.rows h2, own k.pars h4, fun j u l e1 e2 => own (k.each j u l e1 e2) h3, k.apart⟩⟩
theorem KeptC.setNew {w W : World} {h i : Nat} {v : Value} (k : KeptC h w W) : KeptC h w (W.setCell ⟨w.heap.size, i, none⟩ v) := fun j C T fr h1 h2 h3 h4 h5 => by
 have := heap_in h1
 exact (heap_set_other (by omega)).trans (k j C T fr h1 h2 h3 h4 h5)
theorem strL_app (K L : List Bs) : strL (K ++ L) = strL K ++ strL L := List.map_append
theorem names_cells {w : World} {a : Option Addr} {c : Nat} {K : List Bs} (k : NamesAt w a c K) : ∀ d, a = some d -> ∀ j u, (strL K)[j]? = some u -> w.cell? (d.add j) = some u := fun d hd j u hj => by
 rw [List.getElem?_map] at hj
 obtain ⟨x, hx, rfl⟩ := Option.map_eq_some_iff.1 hj
 obtain ⟨b, o, e, _, hc⟩ := k.cell (List.getElem?_eq_some_iff.1 hx).1
 rw [hd] at e
 injection e with e
 subst e
 rw [Addr.add_mid, hc, (List.getElem?_eq_some_iff.1 hx).2]
theorem node_kind {f : Nat} {w : World} {cs : List Value} {n : NodeD} (h : NodeIs f w cs n) : cs[0]? = some (.int .i64 n.kind) := by
 cases f with
 | zero => exact h.elim
 | succ f => obtain ⟨a, c, rfl, _⟩ := h; rfl
theorem clet_any (w0 : World) (hg : Good w0) (f : Nat) (ihT : TreeK 23 w0 f) (ihF : FunK w0 f) : WriteK 44 16 w0 f := by
 intro p h b a kc K c n cs w hw hc hb hk hn hkind hwt hsm
 obtain ⟨na, nc, rfl, hnc, hok, hkids⟩ := hn
 have hlets := hok.lets hkind
 rw [comp_let f c b K [] n hkind] at hsm ⊢
 clear hkind
 obtain ⟨LN, hLN⟩ : ∃ LN, namesD n.text = LN := ⟨_, rfl⟩
 have hLw : wtN LN <= 1001 := by have h1 := wtN_names n.text; have h2 := hok.text; rw [hLN] at h1; omega
 have hLl : LN.length <= 1001 := Nat.le_trans (wtN_len LN) hLw
 have hnl := hok.kids
 rw [hLN] at hsm hlets ⊢
 obtain ⟨R, hR⟩ : ∃ R, (LN.zip n.kids).foldl (letF f b) (c, K) = R := ⟨_, rfl⟩
 rw [hR] at hsm ⊢
 obtain ⟨x, hx⟩ : ∃ x, n.kids[LN.length]? = some x := ⟨_, List.getElem?_eq_getElem (by omega)⟩
 rw [hx] at hsm ⊢
 change SmallC (putC (comp f R.1 b R.2 [] x) b { op := 19, a := (LN.length : Int) }) at hsm
 change Calls _ _ _ _ (Did _ _ _ (putC (comp f R.1 b R.2 [] x) b { op := 19, a := (LN.length : Int) }) _)
 have hxR : Ext c R.1 := by rw [<- hR]; exact letF_ext f b _ (c, K) hb
 have hbR := Nat.lt_of_lt_of_le hb hxR.len
 have hx2 : Ext R.1 (comp f R.1 b R.2 [] x) := comp_ext f R.1 b R.2 [] x hbR
 have hs2 : SmallC (comp f R.1 b R.2 [] x) := (ext_put _ b _).le.small hsm
 have hsR : SmallC R.1 := hx2.le.small hs2
 have cN := names_any ⟨n.text.toArray⟩ 
 rcases hkids with e0 | ⟨bb, o, rfl, hbb, hkids⟩
 ·rw [e0] at hlets; simp at hlets
 have hKl := many_of hwt
 have hkl := hk.1.cap
 have HS := Lib.hid (And.intro hsm (And.intro hR (And.intro hx (And.intro hs2 (And.intro hsR hLN)))))
 have HKI := Lib.hid hkids
 have cNN := fun W (hW : Below w0.heap.size w0 W) => names_any ⟨n.text.toArray⟩ W (hg.below hW) (Nat.le_trans (show n.text.length <= 1000 from hok.text) (by decide))
 have e1 : namesD (⟨n.text.toArray⟩ : ByteArray).data.toList = LN := hLN
 rw [e1] at cNN
 clear hsm hR hx hs2 hsR hLN hkids hx2 cN e1
 unfold blkV
 rw [nodeA_eq]
 have zB := hw.size
 have hgw := hg.below hw
 obtain ⟨NA, hNA⟩ : ∃ A, nodeA n (.slice (some ⟨bb, o, none⟩) n.kids.length nc) = A := ⟨_, rfl⟩
 unfold nodeA at *
 have HNA := Lib.hid hNA
 clear hNA
 go_enter func44, ntmps44
 go_upto_region 1 with (fail)
 refine wp_abs2 (fun W => Below w.heap.size w W /\ W.heap[w.heap.size]? = some (.cells #[.pointer (some ⟨p, 0, none⟩), .int .i64 (b : Int), .slice a K.length kc] 65 (0, 0)) /\ W.heap[w.heap.size + 1]? = some (.cells NA 30 (0, 0))) ⟨belx, heap_alloc2_old _ _ _, by rw [<- HNA.out]; exact heap_alloc2_new _ _ _⟩ ?_
 rintro w1 ⟨hb1, q1, r1⟩
 have HQ1 := Lib.hid (And.intro q1 r1)
 obtain ⟨f1, -, z1⟩ := lie_cell q1; obtain ⟨g1, -, y1⟩ := lie_cell r1; rw [<- HNA.out] at g1
 clear q1 r1
 go_wp2_with fail
 refine (cNN w1 (hw.trans (hb1.mono zB))).mono ?_; rintro e w2 ⟨la, lc, rfl, hL2, hLf, hb2⟩
 have hb02 := after hb1 hb2
 have q2 := (hb2.block _ z1).trans HQ1.out.1
 have r2 := (hb2.block _ y1).trans HQ1.out.2
 clear f1 g1 HQ1 cNN
 obtain ⟨f2, -, z2⟩ := lie_cell q2; obtain ⟨g2, -, y2⟩ := lie_cell r2; rw [<- HNA.out] at g2
 have d2 := (lie_cell q2).2.1
 go_wp2_with fail
 refine (clip_any a K.length kc hkl w2).mono ?_; rintro e w3 ⟨rfl, rfl⟩
 have hh2 : h < w.heap.size := by obtain ⟨C, hC⟩ := hc.par; exact heap_in hC
 have hLh : LN ≠ [] -> ∀ d, la = some d -> d.block ≠ h := fun _ d hd => by have := hLf d hd; have := hb1.size; omega
 have q3 : (w2.setCell ⟨w.heap.size, 2, none⟩ (.slice a K.length K.length)).heap[w.heap.size]? = some (.cells #[.pointer (some ⟨p, 0, none⟩), .int .i64 (b : Int), .slice a K.length K.length] 65 (0, 0)) := heap_set_same q2
 have r3 : (w2.setCell ⟨w.heap.size, 2, none⟩ (.slice a K.length K.length)).heap[w.heap.size + 1]? = some (.cells NA 30 (0, 0)) := (heap_set_other (by omega)).trans r2
 have hbs : Below w.heap.size w (w2.setCell ⟨w.heap.size, 2, none⟩ (.slice a K.length K.length)) := setB hb02 (Nat.le_refl _)
 have hL3 : NamesAt (w2.setCell ⟨w.heap.size, 2, none⟩ (.slice a K.length K.length)) la lc LN := by
  refine ⟨hL2.cap, hL2.lies.imp id ?_⟩
  rintro ⟨b1, o1, C1, fr1, e1, e2, e3⟩
  refine ⟨b1, o1, C1, fr1, e1, (heap_set_other fun e => ?_).trans e2, e3⟩
  rw [e, q2] at e2
  injection e2 with e2; injection e2 with _ e2 _; exact absurd e2 (by decide)
 have HQ := Lib.hid (And.intro q3 (And.intro r3 hL3))
 have HB := Lib.hid hbs
 clear q3 r3 hL3 q2 r2 hL2 hbs
 go_wp2_with fail
 go_loopw [16] (fun i w' => ∃ (j : Nat) (c' : CodeD) (h' : Nat) (a' : Option Addr) (K' : List Bs), i = .int .i64 (j : Int) /\ j <= LN.length /\ ((LN.zip n.kids).drop j).foldl (letF f b) (c', K') = R /\ b < c'.blocks.length /\ wtN K' <= wtN K + wtN (LN.take j) /\ CodeAt w' w0.heap.size p h' c' /\ Newer h w.heap.size h' /\ Below w0.heap.size w w' /\ KeptC h w w' /\ KnownAt w' h' a' K'.length K' /\ KnownAt w' h' la lc LN /\ w'.heap[w.heap.size]? = some (.cells #[.pointer (some ⟨p, 0, none⟩), .int .i64 (b : Int), .slice a' K'.length K'.length] 65 (0, 0)) /\ w'.heap[w.heap.size + 1]? = some (.cells NA 30 (0, 0))) (fun i _ => LN.length - (intOf i).toNat)
 case atStart =>
  have hkk : KnownAt (w2.setCell ⟨w.heap.size, 2, none⟩ (.slice a K.length K.length)) h a K.length K := ⟨(hk.1.below HB.out).le (Nat.le_refl _), hk.2⟩
  exact ⟨0, c, h, a, K, rfl, by omega, HS.out.2.1, hb, by omega, hc.below HB.out, .inl rfl, HB.out.mono zB, KeptC.below HB.out, hkk, ⟨HQ.out.2.2, hLh⟩, HQ.out.1, HQ.out.2.1⟩
 case round =>
  obtain ⟨j, c', h', a', K', rfl, hj, hI, hb', hwK, S3, hn3, hB3, hK3, hk3, hl3, q3, r3⟩ := hrel
  have HI := Lib.hid hI
  have hw3 := hw.trans hB3
  clear hI HQ HB
  obtain ⟨f3, d3, z3⟩ := lie_cell q3; obtain ⟨g3, -, y3⟩ := lie_cell r3; rw [<- HNA.out] at g3
  have hS3 := Lib.hid S3
  have hQ3 := Lib.hid (And.intro q3 r3)
  have zB3 : w0.heap.size <= wr.heap.size := hw3.size
  have zw3 : w.heap.size <= wr.heap.size := Nat.le_of_lt z3
  clear S3 q3 r3
  by_cases hlt : j < LN.length
  ·obtain ⟨bl, ol, rfl, hbl, hcl⟩ := hl3.1.cell hlt
   have hjk : j < n.kids.length := by omega
   obtain ⟨csj, hrj, hnj⟩ := HKI.out j _ (List.getElem?_eq_getElem hjk)
   have hrw := kid_range hw3 hbb hrj
   have hck := hrw 0 _ (node_kind hnj)
   rw [Nat.add_zero] at hck
   have hlen := hnj.len
   have hI := HI.out
   rw [List.drop_eq_getElem_cons (by rw [List.length_zip]; omega), List.foldl_cons, List.getElem_zip] at hI
   obtain ⟨y, hy⟩ : ∃ y, LN[j] = y := ⟨_, rfl⟩
   obtain ⟨kd, hkd⟩ : ∃ kd, n.kids[j] = kd := ⟨_, rfl⟩
   rw [hkd] at hnj hck hI
   rw [hy] at hcl hI
   have hym : y.length + 1 <= wtN LN := by rw [<- hy]; exact wtN_mem (List.getElem_mem hlt)
   obtain ⟨c2, hc2⟩ : ∃ c2, comp f c' b K' (if kd.kind = 14 then y else []) kd = c2 := ⟨_, rfl⟩
   obtain ⟨c3, hc3⟩ : ∃ c3, putC c2 b { op := 17, s := y } = c3 := ⟨_, rfl⟩
   have hIe : letF f b (c', K') (y, kd) = (c3, K' ++ [y]) := by unfold letF; dsimp only; rw [hc2, hc3]
   rw [hIe] at hI
   have x2 : Ext c' c2 := by rw [<- hc2]; exact comp_ext f c' b K' _ kd hb'
   have b2 := Nat.lt_of_lt_of_le hb' x2.len
   have x3 : Ext c2 c3 := by rw [<- hc3]; exact ext_put _ _ _
   have b3 := Nat.lt_of_lt_of_le b2 x3.len
   have s3 : SmallC c3 := by
    refine (letF_ext f b ((LN.zip n.kids).drop (j + 1)) (c3, K' ++ [y]) b3).le.small ?_
    rw [hI]; exact HS.out.2.2.2.2.1
   have s2 := x3.le.small s3
   have hwj : wtN (LN.take (j + 1)) = wtN (LN.take j) + y.length + 1 := by
    rw [List.take_succ_eq_append_getElem hlt, wtN_app, hy, wtN_one]; omega
   have hwt2 : wtN (LN.take j) + y.length + 1 <= wtN LN := by
    have h1 := congrArg wtN (List.take_append_drop (j + 1) LN)
    rw [wtN_app] at h1
    omega
   have cP := fun W h2 (hW : Below w0.heap.size w0 W) (hc : CodeAt W w0.heap.size p h2 c2) => putK (a := a') (kn := K'.length) (kc := K'.length) { op := 17, s := y } hW hc b2 s3 (by rw [hc3]; exact LenLe.refl _)
   rw [hc3, insV_s] at cP
   have HI2 := Lib.hid (And.intro hI (And.intro hwj (And.intro hc2 hc3)))
   have hli : (j : Int) < (LN.length : Int) := by omega
   have hni : (j : Int) < (n.kids.length : Int) := by omega
   have ew : IntKind.i64.wrap ((j : Int) + 1) = ((j + 1 : Nat) : Int) := by rw [IntWalk.i64_in _ (by omega)]; omega
   clear hI hIe hwj hy HI
   have hyl : y.length <= 1000 := by omega
   have hF : kd.kind = 14 -> ∀ W, Below w0.heap.size w0 W -> CodeAt W w0.heap.size p h' c' -> KnownAt W h' a' K'.length K' -> Calls prog 88 #[blkV p b a' K'.length K'.length, .agg csj.toArray, .string ⟨y.toArray⟩] W (Did w0.heap.size p h' c2 W) := fun e W hW hC hk => by
    have := ihF p h' b a' K'.length K' c' kd csj y W hW hC hb' hk hnj e hyl (by omega) (by rw [if_pos e] at hc2; rw [hc2]; exact s2)
    rw [if_pos e] at hc2
    rw [hc2] at this
    exact this
   have hT : ¬ kd.kind = 14 -> ∀ W, Below w0.heap.size w0 W -> CodeAt W w0.heap.size p h' c' -> KnownAt W h' a' K'.length K' -> Calls prog 23 #[blkV p b a' K'.length K'.length, .agg csj.toArray] W (Did w0.heap.size p h' c2 W) := fun e W hW hC hk => by
    rw [if_neg e] at hc2
    have := ihT p h' b a' K'.length K' c' kd csj W hW hC hb' hk hnj (by omega) (by rw [hc2]; exact s2)
    rw [hc2] at this
    exact this
   unfold blkV at cP hF hT
   clear hc2 hc3 s2 s3 x2 x3
   go_upto_if 27 with (fail)
   go_cut [6] from 26 to 42 (fun v wx => v = .string ⟨y.toArray⟩ /\ ∃ h2, Newer h' wr.heap.size h2 /\ CodeAt wx w0.heap.size p h2 c2 /\ Below w0.heap.size wr wx /\ KeptC h' wr wx /\ wx.heap[w.heap.size]? = some (.cells #[.pointer (some ⟨p, 0, none⟩), .int .i64 (b : Int), .slice a' K'.length K'.length] 65 (0, 0)) /\ wx.heap[w.heap.size + 1]? = some (.cells NA 30 (0, 0)))
   case first =>
    by_cases e : kd.kind = 14
    ·have ee : (kd.kind == 14) = true := beq_iff_eq.2 e
     generalize kd.kind = KD at *
     have cX := hF e
     clear hF hT e
     simp only [ee]
     refine wp_cond_true rfl ?_
     have kcc := gcell wr
     refine region_below_tail 7 (by kernel_rfl) (by kernel_rfl) ?_
     simp only [List.take_succ_cons, List.take_zero, List.drop_succ_cons, List.drop_zero]
     iterate 5 (quiet_step (fail))
     refine wpQ_load 30 (.tmp 32) bb (o + j * 20) csj _ rfl rfl rfl (Nat.lt_of_lt_of_le hbb zB3) hrw underlying30 rfl (by rw [hlen]; exact cellsNode) ?_
     iterate 1 (quiet_step (fail))
     refine wpQuiet_nil ?_
     intro w4 hb4
     clear kcc
     refine wpList_plain rfl (fun KK hKK => ?_)
     go_simp
     refine (cX w4 (hw3.trans (hb4.mono zB3)) (hS3.out.below hb4) (hk3.below hb4)).mono ?_; rintro e' w5 ⟨rfl, h5, hh5, S5, hB5, hK5⟩
     refine hKK _ _ ?_
     refine wpList_nil ?_
     have q4 := (hb4.block _ z3).trans hQ3.out.1
     have r4 := (hb4.block _ y3).trans hQ3.out.2
     have hc4 := hS3.out.below hb4
     have q5 := hK5.other hc4 q4 (by decide) (by decide) (by decide) (by decide)
     have r5 := hK5.other hc4 r4 (by decide) (by decide) (by decide) (by decide)
     have HR5 := Lib.hid (And.intro S5 (And.intro q5 r5))
     have hB35 : Below w0.heap.size wr w5 := (hb4.mono zB3).trans hB5
     have hK35 : KeptC h' wr w5 := (KeptC.below hb4).trans hK5 (.inl rfl)
     have hn5 : Newer h' wr.heap.size h5 := newer (.inl rfl) hh5 hb4.size
     clear S5 q5 r5 q4 r4 hc4 f3 g3 d3
     go_wp2
     go_meet
     case rel => exact ⟨rfl, h5, hn5, HR5.out.1, hB35, hK35, HR5.out.2.1, HR5.out.2.2⟩
    ·have ee : (kd.kind == 14) = false := beq_eq_false_iff_ne.2 e
     generalize kd.kind = KD at *
     have cX := hT e
     clear hF hT e
     simp only [ee]
     refine wp_cond_false rfl ?_
     have kcc := gcell wr
     refine region_below_tail 6 (by kernel_rfl) (by kernel_rfl) ?_
     simp only [List.take_succ_cons, List.take_zero, List.drop_succ_cons, List.drop_zero]
     iterate 5 (quiet_step (fail))
     refine wpQ_load 30 (.tmp 40) bb (o + j * 20) csj _ rfl rfl rfl (Nat.lt_of_lt_of_le hbb zB3) hrw underlying30 rfl (by rw [hlen]; exact cellsNode) ?_
     refine wpQuiet_nil ?_
     intro w4 hb4
     clear kcc
     refine wpList_plain rfl (fun KK hKK => ?_)
     go_simp
     refine (cX w4 (hw3.trans (hb4.mono zB3)) (hS3.out.below hb4) (hk3.below hb4)).mono ?_; rintro e' w5 ⟨rfl, h5, hh5, S5, hB5, hK5⟩
     refine hKK _ _ ?_
     refine wpList_nil ?_
     have q4 := (hb4.block _ z3).trans hQ3.out.1
     have r4 := (hb4.block _ y3).trans hQ3.out.2
     have hc4 := hS3.out.below hb4
     have q5 := hK5.other hc4 q4 (by decide) (by decide) (by decide) (by decide)
     have r5 := hK5.other hc4 r4 (by decide) (by decide) (by decide) (by decide)
     have HR5 := Lib.hid (And.intro S5 (And.intro q5 r5))
     have hB35 : Below w0.heap.size wr w5 := (hb4.mono zB3).trans hB5
     have hK35 : KeptC h' wr w5 := (KeptC.below hb4).trans hK5 (.inl rfl)
     have hn5 : Newer h' wr.heap.size h5 := newer (.inl rfl) hh5 hb4.size
     clear S5 q5 r5 q4 r4 hc4 f3 g3 d3
     go_wp2
     go_meet
     case rel => exact ⟨rfl, h5, hn5, HR5.out.1, hB35, hK35, HR5.out.2.1, HR5.out.2.2⟩
   case rest =>
    obtain ⟨rfl, h5, hn5, S5, hB5, hK5, q5, r5⟩ := hcut
    have hw5 := hw3.trans hB5
    have hKn5 : KnownAt wc h5 a' K'.length K' := hk3.kept hK5 hn5
    have hLn5 : KnownAt wc h5 (some ⟨bl, ol, none⟩) lc LN := hl3.kept hK5 hn5
    clear f3 g3 d3
    obtain ⟨f5, d5, z5⟩ := lie_cell q5; obtain ⟨g5, -, y5⟩ := lie_cell r5; rw [<- HNA.out] at g5
    have HS5 := Lib.hid (And.intro S5 (And.intro q5 r5))
    clear S5 q5 r5 hF hT
    go_wp2_with fail
    refine (cP wc h5 hw5 HS5.out.1).mono ?_; rintro e w6 ⟨rfl, S6, hB6, hK6⟩
    have q6 := hK6.other HS5.out.1 HS5.out.2.1 (by decide) (by decide) (by decide) (by decide)
    have r6 := hK6.other HS5.out.1 HS5.out.2.2 (by decide) (by decide) (by decide) (by decide)
    have hKn6 := hKn5.kept hK6 (.inl rfl)
    have hLn6 := hLn5.kept hK6 (.inl rfl)
    have hw6 := hw5.trans hB6
    clear f5 g5 d5
    obtain ⟨f6, d6, z6⟩ := lie_cell q6; obtain ⟨g6, -, y6⟩ := lie_cell r6; rw [<- HNA.out] at g6
    have h56 : h5 < w6.heap.size := by obtain ⟨C9, hC9⟩ := S6.par; exact heap_in hC9
    have HS6 := Lib.hid (And.intro S6 (And.intro q6 r6))
    clear S6 q6 r6 cP
    have hKl6 : K'.length <= 100000 := by have h1 := wtN_len K'; omega
    have hno : a' = none -> K'.length = 0 /\ K'.length = 0 := fun e => by
     rcases hKn6.1.lies with e1 | ⟨_, _, _, _, e2, _⟩
     ·rw [e1]; exact ⟨rfl, rfl⟩
     ·rw [e] at e2; cases e2
    have hno' := Lib.hid hno
    clear hno
    go_wp2_with (at_builtin; refine held ?_)
    unfold Held
    obtain ⟨iS, hi, hz0, hz1, hz2⟩ := info_parts infoStr
    refine wpList_append_grows _ rfl (.tmp 48) (.tmp 50) 33 rfl 9 iS (.string ⟨#[]⟩) 1 16 underlying33 hi hz0 hz1 hz2 rfl (by decide) a' K'.length K'.length (strL K') rfl hno'.out (by simp) (names_cells (hKn6.1.below ((Below.refl _ _).alloc (Nat.le_refl _) _))) ⟨w6.heap.size, 0, none⟩ 1 1 [.string ⟨y.toArray⟩] rfl rfl (cell_one_new _ _ _) (by intro u hu; simp at hu; subst hu; rfl) (by omega) (by unfold maxLen; omega) (by omega) ?_
    intro v' w7 hown7 hgrow7
    have hb7 : Below w6.heap.size w6 w7 := (allocB (Below.refl _ w6)).grown hgrow7 (by simp) (fun k hk => by cases hk)
    obtain ⟨q7a, c7, rfl⟩ := own_succ hown7
    obtain ⟨cu7, hq7B, _, hq7h, hq7c, _⟩ := own_lies hown7
    have q7 := (hb7.block _ z6).trans HS6.out.2.1
    have r7 := (hb7.block _ y6).trans HS6.out.2.2
    clear f6 g6 d6 hi hz0 hz1 hz2 hgrow7
    obtain ⟨f7, d7, z7⟩ := lie_cell q7
    have HS7 := Lib.hid (And.intro hown7 (And.intro q7 r7))
    clear hown7 q7 r7
    go_wp2_with fail
    refine (clip_any (some ⟨q7a, 0, none⟩) (K'.length + 1) c7 hq7c w7).mono ?_; rintro e w8 ⟨rfl, rfl⟩
    have HQH := Lib.hid hq7h
    clear hq7h
    go_wp2
    go_roundw
    case rel =>
     obtain ⟨hown7, q7, r7⟩ := HS7.out
     have S7 := HS6.out.1.below hb7
     have hl1 : (K' ++ [y]).length = K'.length + 1 := by simp
     have hN7 : NamesAt w7 (some ⟨q7a, 0, none⟩) c7 (K' ++ [y]) := own_names (by rw [hl1, strL_app]; exact hown7)
     have q8 : (w7.setCell ⟨w.heap.size, 2, none⟩ (.slice (some ⟨q7a, 0, none⟩) (K'.length + 1) (K'.length + 1))).heap[w.heap.size]? = some (.cells #[.pointer (some ⟨p, 0, none⟩), .int .i64 (b : Int), .slice (some ⟨q7a, 0, none⟩) (K'.length + 1) (K'.length + 1)] 65 (0, 0)) := heap_set_same q7
     have r8 := (heap_set_other (v := .slice (some ⟨q7a, 0, none⟩) (K'.length + 1) (K'.length + 1)) (i := 2) (show w.heap.size + 1 ≠ w.heap.size by omega)).trans r7
     have hB7 : Below w0.heap.size w w7 := ((hB3.trans hB5).trans hB6).trans (hb7.mono hw6.size)
     have hn7 : Newer h w.heap.size h5 := newer hn3 hn5 zw3
     have hK7 : KeptC h w w7 := ((hK3.trans hK5 hn3).trans hK6 hn7).trans (KeptC.below (h := h) hb7) (.inl rfl)
     have hwx : wtN (K' ++ [y]) <= wtN K + wtN (LN.take (j + 1)) := by rw [wtN_app, wtN_one, HI2.out.2.1]; omega
     have hne : q7a ≠ h5 := by simp at hq7B; omega
     refine ⟨j + 1, c3, h5, some ⟨q7a, 0, none⟩, K' ++ [y], congrArg (Value.int .i64) (by omega), by omega, HI2.out.1, b3, hwx, S7.setOther q7 (by decide) (by decide) (by decide) (by decide), hn7, hB7.setCell (p := ⟨w.heap.size, 2, none⟩) zB _, hK7.setNew, ⟨(hN7.setOther q7 (by decide)).le (Nat.le_refl _), fun _ d hd => by injection hd with hd; subst hd; exact hne⟩, ⟨((hLn6.1.below hb7).setOther q7 (by decide)), hLn6.2⟩, ?_, r8⟩
     rw [hl1]; exact q8
    case measure => simp [intOf]; omega
  ·obtain rfl : j = LN.length := by omega
   have hI := HI.out
   rw [List.drop_eq_nil_of_le (by rw [List.length_zip]; omega), List.foldl_nil] at hI
   subst hI
   clear HI
   obtain ⟨hsm, -, hx, hs2, -, -⟩ := HS.out
   clear HS
   dsimp only at hsm hs2 ⊢
   obtain ⟨csj, hrj, hnj⟩ := HKI.out LN.length _ hx
   have hrw := kid_range hw3 hbb hrj
   have hlen := hnj.len
   have hjk : LN.length < n.kids.length := by omega
   have hni : (LN.length : Int) < (n.kids.length : Int) := by omega
   obtain ⟨c2, hc2⟩ : ∃ c2, comp f c' b K' [] x = c2 := ⟨_, rfl⟩
   have b2 : b < c2.blocks.length := by rw [<- hc2]; exact Nat.lt_of_lt_of_le hb' (comp_ext f c' b K' [] x hb').len
   rw [hc2] at hsm hs2 ⊢
   have hTk : (LN.take LN.length) = LN := List.take_length
   rw [hTk] at hwK
   have cX := fun W (hW : Below w0.heap.size w0 W) (hC : CodeAt W w0.heap.size p h' c') (hk : KnownAt W h' a' K'.length K') => ihT p h' b a' K'.length K' c' x csj W hW hC hb' hk hnj (by omega) (by rw [hc2]; exact hs2)
   rw [hc2] at cX
   have cP := fun W h2 (hW : Below w0.heap.size w0 W) (hc : CodeAt W w0.heap.size p h2 c2) => putK (a := a') (kn := K'.length) (kc := K'.length) { op := 19, a := (LN.length : Int) } hW hc b2 hsm (LenLe.refl _)
   unfold blkV at cX cP
   have HC2 := Lib.hid hc2
   clear hs2 hsm hx hrj hnj hc2 hTk
   go_upto_region 12 with (fail)
   have kcc := gcell wr
   refine region_below_tail 7 (by kernel_rfl) (by kernel_rfl) ?_
   simp only [List.take_succ_cons, List.take_zero, List.drop_succ_cons, List.drop_zero]
   iterate 6 (quiet_step (fail))
   refine wpQ_load 30 (.tmp 60) bb (o + LN.length * 20) csj _ rfl rfl rfl (Nat.lt_of_lt_of_le hbb zB3) hrw underlying30 rfl (by rw [hlen]; exact cellsNode) ?_
   refine wpQuiet_nil ?_
   intro w4 hb4
   clear kcc
   refine wpList_plain rfl (fun KK hKK => ?_)
   go_simp
   refine (cX w4 (hw3.trans (hb4.mono zB3)) (hS3.out.below hb4) (hk3.below hb4)).mono ?_; rintro e' w5 ⟨rfl, h5, hh5, S5, hB5, hK5⟩
   refine hKK _ _ ?_
   refine wpList_nil ?_
   have q4 := (hb4.block _ z3).trans hQ3.out.1
   have r4 := (hb4.block _ y3).trans hQ3.out.2
   have hc4 := hS3.out.below hb4
   have q5 := hK5.other hc4 q4 (by decide) (by decide) (by decide) (by decide)
   have r5 := hK5.other hc4 r4 (by decide) (by decide) (by decide) (by decide)
   have hB35 : Below w0.heap.size wr w5 := (hb4.mono zB3).trans hB5
   have hK35 : KeptC h' wr w5 := (KeptC.below hb4).trans hK5 (.inl rfl)
   have hn5 : Newer h' wr.heap.size h5 := newer (.inl rfl) hh5 hb4.size
   have hw5 := hw3.trans hB35
   clear f3 g3 d3
   obtain ⟨f5, d5, z5⟩ := lie_cell q5; obtain ⟨g5, -, y5⟩ := lie_cell r5; rw [<- HNA.out] at g5
   have HS5 := Lib.hid (And.intro S5 (And.intro q5 r5))
   clear S5 q5 r5 q4 r4 hc4
   go_wp2_with fail
   refine (cP w5 h5 hw5 HS5.out.1).mono ?_; rintro e w6 ⟨rfl, S6, hB6, hK6⟩
   go_wp2
   go_end0
   rw [<- HC2.out] at S6
   exact ⟨rfl, h5, newer hn3 hn5 zw3, S6, (hB3.trans hB35).trans hB6, ((hK3.trans hK35 hn3).trans hK6 (newer hn3 hn5 zw3))⟩
end Go.Proofs.YtlpgigdegnbkmaaGreatDoor
