import Derived.Test.YtlpgigdegnbkmaaGreatDoorM12
set_option maxRecDepth 100000
set_option maxHeartbeats 8000000
namespace Tab
theorem if_rows {c1 c2 c3 c4 c5 : CodeD} {b : Nat} (b1 : b < c1.blocks.length) (_b3 : b < c3.blocks.length) (e2 : putC c1 b { op := 13 } = c2) (e4 : putC c3 b { op := 14 } = c4) (x3 : Ext c2 c3) (x5 : Ext c4 c5) :
  ∃ l u o2 X Y, c5.blocks[b]? = some l /\ hereC c1 b = u /\ hereC c3 b = o2 /\ u < o2 /\ l[u]? = some X /\ l[o2]? = some Y := by
 have h1 : c1.blocks[b]? = some c1.blocks[b] := List.getElem?_eq_getElem b1
 have h2 := put_at { op := 13 } h1
 rw [e2] at h2
 obtain ⟨r, h3⟩ := x3 b _ h2
 have h4 := put_at { op := 14 } h3
 rw [e4] at h4
 obtain ⟨s, h5⟩ := x5 b _ h4
 refine ⟨_, _, _, { op := 13 }, { op := 14 }, h5, here_at h1, here_at h3, by simp, ?_, ?_⟩
 ·simp
 ·rw [List.getElem?_append_left (by simp), List.getElem?_append_right (Nat.le_refl _), Nat.sub_self]; rfl
theorem over_set {c5 : CodeD} {b u o : Nat} {l : List InsD} {X Y : InsD} (hl : c5.blocks[b]? = some l) (hX : l[u]? = some X) (hY : l[o]? = some Y) (huo : u ≠ o) :
  ({ c5 with blocks := ((c5.blocks.set b (l.set u { X with a := (o : Int) - u })).set b ((l.set u { X with a := (o : Int) - u }).set u { X with a := (o : Int) - u, b := (l.length : Int) - u - 1 })).set b (((l.set u { X with a := (o : Int) - u }).set u { X with a := (o : Int) - u, b := (l.length : Int) - u - 1 }).set o { Y with a := (l.length : Int) - o - 1 }) } : CodeD) = overC c5 b u o := by
 unfold overC
 congr 1
 rw [List.set_set, List.set_set, List.set_set]
 apply List.ext_getElem?
 intro j
 rw [List.getElem?_modify]
 by_cases e : b = j
 ·subst e
  rw [List.getElem?_set_self (List.getElem?_eq_some_iff.1 hl).1, hl]
  simp only [if_true]
  congr 1
  apply List.ext_getElem?
  intro i
  simp only [List.getElem?_modify, List.getElem?_set, List.length_set]
  have hul := (List.getElem?_eq_some_iff.1 hX).1
  have hol := (List.getElem?_eq_some_iff.1 hY).1
  by_cases e1 : o = i
  ·subst e1
   rw [hY]; simp [huo, hol]
  ·by_cases e2 : u = i
   ·subst e2
    rw [hX]; simp [e1, hul]
   ·simp [e1, e2]
 ·rw [List.getElem?_set_ne e]
  simp [e]
end Tab
namespace Go.Proofs.YtlpgigdegnbkmaaGreatDoor
open Go.RowKit Tab Tryz
def Newer (h a h1 : Nat) : Prop := h1 = h \/ a <= h1
end Go.Proofs.YtlpgigdegnbkmaaGreatDoor
namespace Tab
theorem if_any (f : Nat) (c : CodeD) (b : Nat) (K : List Bs) (n : NodeD) (hk : n.kind = 12) (hf : findN K n.text = none) (hU : upperD n.text = [73, 70]) (hl : n.kids.length = 2 \/ n.kids.length = 3) : ∃ x y, n.kids[0]? = some x /\ n.kids[1]? = some y /\ ∃ c5, comp (f + 1) c b K [] n = overC c5 b (hereC (comp f c b K [] x) b) (hereC (comp f (putC (comp f c b K [] x) b { op := 13 }) b K [] y) b) /\
  ((n.kids.length = 3 /\ ∃ z, n.kids[2]? = some z /\ c5 = comp f (putC (comp f (putC (comp f c b K [] x) b { op := 13 }) b K [] y) b { op := 14 }) b K [] z) \/ (n.kids.length = 2 /\ c5 = putC (putC (comp f (putC (comp f c b K [] x) b { op := 13 }) b K [] y) b { op := 14 }) b { op := 3 })) := by
 rcases hl with hl | hl
 ·obtain ⟨x, y, hxs⟩ : ∃ x y, n.kids = [x, y] := by
   match n.kids, hl with
   | [x, y], _ => exact ⟨x, y, rfl⟩
  exact ⟨x, y, by rw [hxs]; rfl, by rw [hxs]; rfl, _, comp_if2 f c b K [] n hk hf hU x y hxs, .inr ⟨hl, rfl⟩⟩
 ·obtain ⟨x, y, z, hxs⟩ : ∃ x y z, n.kids = [x, y, z] := by
   match n.kids, hl with
   | [x, y, z], _ => exact ⟨x, y, z, rfl⟩
  exact ⟨x, y, by rw [hxs]; rfl, by rw [hxs]; rfl, _, comp_if3 f c b K [] n hk hf hU x y z hxs, .inl ⟨hl, z, by rw [hxs]; rfl, rfl⟩⟩
end Tab
namespace Go.Proofs.YtlpgigdegnbkmaaGreatDoor
open Go.RowKit Tab Tryz
theorem call_if (w0 : World) (hg : Good w0) (f : Nat) (ihT : TreeK 23 w0 f) : CallK (fun U K n => findN K n.text = none /\ U = [73, 70] /\ (n.kids.length = 2 \/ n.kids.length = 3)) w0 f := by
 intro p h b a kc K c n cs w hw hc hb hk hn hkind hwt hsm hf
 obtain ⟨na, nc, rfl, hnc, hok, hkids⟩ := hn
 obtain ⟨hf, hU, hl⟩ := hf
 rcases hkids with e0 | ⟨bb, o, rfl, hbb, hkids⟩
 ·rw [e0] at hl; simp at hl
 obtain ⟨x, y, hx0, hy0, c5, hcomp, hD⟩ := if_any f c b K n hkind hf hU hl
 rw [hcomp] at hsm ⊢
 clear hkind hcomp
 obtain ⟨cs0, hr00, hn00⟩ := hkids 0 _ hx0
 obtain ⟨cs1, hr01, hn01⟩ := hkids 1 _ hy0
 obtain ⟨c1, e1⟩ : ∃ D, comp f c b K [] x = D := ⟨_, rfl⟩
 rw [e1] at hsm hD ⊢
 obtain ⟨c2, e2⟩ : ∃ D, putC c1 b { op := 13 } = D := ⟨_, rfl⟩
 rw [e2] at hsm hD ⊢
 obtain ⟨c3, e3⟩ : ∃ D, comp f c2 b K [] y = D := ⟨_, rfl⟩
 rw [e3] at hsm hD ⊢
 obtain ⟨c4, e4⟩ : ∃ D, putC c3 b { op := 14 } = D := ⟨_, rfl⟩
 rw [e4] at hD
 have x1 : Ext c c1 := by rw [<- e1]; exact comp_ext f c b K [] x hb
 have b1 := Nat.lt_of_lt_of_le hb x1.len
 have x2 : Ext c1 c2 := by rw [<- e2]; exact ext_put _ _ _
 have b2 := Nat.lt_of_lt_of_le b1 x2.len
 have x3 : Ext c2 c3 := by rw [<- e3]; exact comp_ext f c2 b K [] y b2
 have b3 := Nat.lt_of_lt_of_le b2 x3.len
 have x4 : Ext c3 c4 := by rw [<- e4]; exact ext_put _ _ _
 have b4 := Nat.lt_of_lt_of_le b3 x4.len
 have x5 : Ext c4 c5 := hD.elim (fun ⟨_, z, _, e⟩ => by rw [e]; exact comp_ext f c4 b K [] z b4) (fun ⟨_, e⟩ => by rw [e]; exact ext_put _ _ _)
 have b5 := Nat.lt_of_lt_of_le b4 x5.len
 have s5 : SmallC c5 := (le_over _ _ _ _).small hsm
 have s4 := x5.le.small s5
 have s3 := x4.le.small s4
 have s2 := x3.le.small s3
 have s1 := x2.le.small s2
 obtain ⟨l, u, o2, X, Y, hl5, hu, ho, huo, hX, hY⟩ : ∃ l u o2 X Y, c5.blocks[b]? = some l /\ hereC c1 b = u /\ hereC c3 b = o2 /\ u < o2 /\ l[u]? = some X /\ l[o2]? = some Y := if_rows b1 b3 e2 e4 x3 x5
 rw [hu, ho] at hsm ⊢
 have hlen : l.length <= 1000000 := by have := s5.2 b; rw [List.getD_eq_getElem?_getD, hl5] at this; exact this
 have hcl := s5.1
 have hul : u < l.length := (List.getElem?_eq_some_iff.1 hX).1
 have hol : o2 < l.length := (List.getElem?_eq_some_iff.1 hY).1
 have cF := fun W (hW : Below w0.heap.size w0 W) (hI : NamesAt W a kc K) => find_str (p := p) (b := b) hwt n.text hok.text _ hf W (hg.below hW) hI
 dsimp only [Option.getD, Option.isSome] at cF
 have cG : ∀ W, Below w0.heap.size w0 W -> Calls prog 85 #[.string ⟨n.text.toArray⟩] W (Ret (.string ⟨(upperD n.text).toArray⟩) W) := fun W hW => cgreat_any ⟨n.text.toArray⟩ W (hg.below hW) (Nat.le_trans (show n.text.length <= 1000 from hok.text) (by decide))
 rw [hU] at cG
 have cT0 := fun W h2 hW hC hk => ihT p h2 b a kc K c x cs0 W hW hC hb hk hn00 (by omega) (by rw [e1]; exact s1)
 rw [e1] at cT0
 have cP1 := fun W h2 (hW : Below w0.heap.size w0 W) (hc : CodeAt W w0.heap.size p h2 c1) => putK (a := a) (kn := K.length) (kc := kc) { op := 13 } hW hc b1 s2 (by rw [e2]; exact LenLe.refl _)
 rw [e2, hu] at cP1
 have cT1 := fun W h2 hW hC hk => ihT p h2 b a kc K c2 y cs1 W hW hC b2 hk hn01 (by omega) (by rw [e3]; exact s3)
 rw [e3] at cT1
 have cP2 := fun W h2 (hW : Below w0.heap.size w0 W) (hc : CodeAt W w0.heap.size p h2 c3) => putK (a := a) (kn := K.length) (kc := kc) { op := 14 } hW hc b3 s4 (by rw [e4]; exact LenLe.refl _)
 rw [e4, ho] at cP2
 have cH := fun W h2 (C : CodeD) (hW : Below w0.heap.size w0 W) (hc : CodeAt W w0.heap.size p h2 C) (h1 : C.blocks.length = c5.blocks.length) => here_any w0.heap.size p h2 b a K.length kc C (by rw [h1]; exact b5) (by rw [h1]; exact hcl) W hc
 have HS := Lib.hid (And.intro hsm (And.intro hf (And.intro hU (And.intro hl5 (And.intro huo (And.intro hX hY))))))
 have HD := Lib.hid (And.intro hD (And.intro hkids (And.intro s5 b4)))
 obtain ⟨L, hL⟩ : ∃ L, n.kids.length = L := ⟨_, rfl⟩
 rw [hL] at hl hnc ⊢
 have HL := Lib.hid hL
 have l2 : 2 <= L := by omega
 have l3 : L <= 3 := by omega
 have l0 : 0 < L := by omega
 have l1 : (1 : Int) < (L : Int) := by omega
 have eL2 : decide ((L : Int) < 2) = false := decide_eq_false (by omega)
 have eL3 : decide ((3 : Int) < (L : Int)) = false := decide_eq_false (by omega)
 clear hsm hf hU hl5 huo hX hY e1 e2 e3 e4 hu ho s1 s2 s3 s4 s5 x1 x2 x3 x4 x5 hkids hD hL hx0 hy0 hl
 rw [insV_o] at cP1 cP2
 unfold blkV at cF cT0 cT1 cP1 cP2 cH
 unfold blkV
 rw [nodeA_eq]
 have zB := hw.size
 have hgw := hg.below hw
 obtain ⟨NA, hNA⟩ : ∃ A, nodeA n (.slice (some ⟨bb, o, none⟩) L nc) = A := ⟨_, rfl⟩
 unfold nodeA at *
 have HNA := Lib.hid hNA
 clear hNA
 go_enter func43, ntmps43
 go_upto_region 1 with (fail)
 refine wp_abs2 (fun W => Below w.heap.size w W /\ W.heap[w.heap.size]? = some (.cells #[.pointer (some ⟨p, 0, none⟩), .int .i64 (b : Int), .slice a K.length kc] 65 (0, 0)) /\ W.heap[w.heap.size + 1]? = some (.cells NA 30 (0, 0))) ⟨belx, heap_alloc2_old _ _ _, by rw [<- HNA.out]; exact heap_alloc2_new _ _ _⟩ ?_
 rintro w1 ⟨hb1, q1, r1⟩
 have hB1 := hb1.mono zB
 have hK1 : KeptC h w w1 := KeptC.below hb1
 have hn1 : Newer h w.heap.size h := .inl rfl
 have S1 := Lib.hid (hc.below hb1)
 obtain ⟨f1, -, z1⟩ := lie_cell q1; obtain ⟨g1, -, y1⟩ := lie_cell r1; rw [<- HNA.out] at g1
 go_wp2_with fail
 refine (cF w1 (hw.trans hB1) (hk.1.below hb1)).mono ?_; rintro e w2 ⟨rfl, hb2⟩
 have q2 := (hb2.block _ z1).trans q1
 have r2 := (hb2.block _ y1).trans r1
 have S2 := Lib.hid (S1.out.below hb2)
 have hB2 : Below w0.heap.size w w2 := hB1.trans (hb2.mono (hw.trans hB1).size)
 have hK2 : KeptC h w w2 := hK1.trans (KeptC.below hb2) hn1
 have hn2 : Newer h w.heap.size h := hn1
 clear f1 g1
 obtain ⟨f2, -, z2⟩ := lie_cell q2; obtain ⟨g2, -, y2⟩ := lie_cell r2; rw [<- HNA.out] at g2
 go_wp2_with fail
 refine (cG w2 (hw.trans hB2)).mono ?_; rintro e w3 ⟨rfl, hb3⟩
 have q3 := (hb3.block _ z2).trans q2
 have r3 := (hb3.block _ y2).trans r2
 have S3 := Lib.hid (S2.out.below hb3)
 have hB3 : Below w0.heap.size w w3 := hB2.trans (hb3.mono (hw.trans hB2).size)
 have hK3 : KeptC h w w3 := hK2.trans (KeptC.below hb3) hn2
 have hn3 : Newer h w.heap.size h := hn2
 clear f2 g2
 obtain ⟨f3, -, z3⟩ := lie_cell q3; obtain ⟨g3, -, y3⟩ := lie_cell r3; rw [<- HNA.out] at g3
 go_upto_region 10 with (fail)
 have kc := gcell w3
 have hr0 := kid_range (hw.trans hB3) hbb hr00
 have hbw0 : bb < w3.heap.size := Nat.lt_of_lt_of_le hbb (hw.trans hB3).size
 refine region_below_tail 5 (by kernel_rfl) (by kernel_rfl) ?_
 simp only [List.take_succ_cons, List.take_zero, List.drop_succ_cons, List.drop_zero]
 iterate 4 (quiet_step (fail))
 refine wpQ_load 30 (.tmp 63) bb (o + 0 * 20) cs0 _ rfl rfl rfl hbw0 hr0 underlying30 rfl (by rw [hn00.len]; exact cellsNode) ?_
 refine wpQuiet_nil ?_
 intro w4 hb4
 clear kc hr0 hbw0
 have q4 := (hb4.block _ z3).trans q3
 have r4 := (hb4.block _ y3).trans r3
 have S4 := Lib.hid (S3.out.below hb4)
 have hB4 : Below w0.heap.size w w4 := hB3.trans (hb4.mono (hw.trans hB3).size)
 have hK4 : KeptC h w w4 := hK3.trans (KeptC.below hb4) hn3
 have hn4 : Newer h w.heap.size h := hn3
 clear f3 g3
 obtain ⟨f4, -, z4⟩ := lie_cell q4; obtain ⟨g4, -, y4⟩ := lie_cell r4; rw [<- HNA.out] at g4
 refine wpList_plain rfl (fun KK hKK => ?_)
 go_simp
 refine (cT0 w4 h (hw.trans hB4) S4.out (hk.kept hK4 hn4)).mono ?_; rintro e w5 ⟨rfl, h5, hh5, T5, hBB5, hKK5⟩
 refine hKK _ _ ?_
 clear hKK KK
 refine wpList_nil ?_
 have q5 := hKK5.other S4.out q4 (by decide) (by decide) (by decide) (by decide)
 have r5 := hKK5.other S4.out r4 (by decide) (by decide) (by decide) (by decide)
 have hB5 : Below w0.heap.size w w5 := hB4.trans hBB5
 have hK5 : KeptC h w w5 := hK4.trans hKK5 hn4
 have hn5 : Newer h w.heap.size h5 := newer (h := h) (a := w.heap.size) hn4 hh5 (Nat.le_of_lt z4)
 have S5 := Lib.hid T5
 clear T5
 clear f4 g4
 obtain ⟨f5, -, z5⟩ := lie_cell q5; obtain ⟨g5, -, y5⟩ := lie_cell r5; rw [<- HNA.out] at g5
 go_wp2_with fail
 refine (cP1 w5 h5 (hw.trans hB5) S5.out).mono ?_; rintro e w6 ⟨rfl, T6, hBB6, hKK6⟩
 have q6 := hKK6.other S5.out q5 (by decide) (by decide) (by decide) (by decide)
 have r6 := hKK6.other S5.out r5 (by decide) (by decide) (by decide) (by decide)
 have hB6 : Below w0.heap.size w w6 := hB5.trans hBB6
 have hK6 : KeptC h w w6 := hK5.trans hKK6 hn5
 have hn6 : Newer h w.heap.size h5 := hn5
 have S6 := Lib.hid T6
 clear T6
 clear f5 g5
 obtain ⟨f6, -, z6⟩ := lie_cell q6; obtain ⟨g6, -, y6⟩ := lie_cell r6; rw [<- HNA.out] at g6
 go_upto_region 12 with (fail)
 have kc := gcell w6
 have hr1 := kid_range (hw.trans hB6) hbb hr01
 have hbw1 : bb < w6.heap.size := Nat.lt_of_lt_of_le hbb (hw.trans hB6).size
 refine region_below_tail 5 (by kernel_rfl) (by kernel_rfl) ?_
 simp only [List.take_succ_cons, List.take_zero, List.drop_succ_cons, List.drop_zero]
 iterate 4 (quiet_step (fail))
 refine wpQ_load 30 (.tmp 72) bb (o + 1 * 20) cs1 _ rfl rfl rfl hbw1 hr1 underlying30 rfl (by rw [hn01.len]; exact cellsNode) ?_
 refine wpQuiet_nil ?_
 intro w7 hb7
 clear kc hr1 hbw1
 have q7 := (hb7.block _ z6).trans q6
 have r7 := (hb7.block _ y6).trans r6
 have S7 := Lib.hid (S6.out.below hb7)
 have hB7 : Below w0.heap.size w w7 := hB6.trans (hb7.mono (hw.trans hB6).size)
 have hK7 : KeptC h w w7 := hK6.trans (KeptC.below hb7) hn6
 have hn7 : Newer h w.heap.size h5 := hn6
 clear f6 g6
 obtain ⟨f7, -, z7⟩ := lie_cell q7; obtain ⟨g7, -, y7⟩ := lie_cell r7; rw [<- HNA.out] at g7
 refine wpList_plain rfl (fun KK hKK => ?_)
 go_simp
 refine (cT1 w7 h5 (hw.trans hB7) S7.out (hk.kept hK7 hn7)).mono ?_; rintro e w8 ⟨rfl, h8, hh8, T8, hBB8, hKK8⟩
 refine hKK _ _ ?_
 clear hKK KK
 refine wpList_nil ?_
 have q8 := hKK8.other S7.out q7 (by decide) (by decide) (by decide) (by decide)
 have r8 := hKK8.other S7.out r7 (by decide) (by decide) (by decide) (by decide)
 have hB8 : Below w0.heap.size w w8 := hB7.trans hBB8
 have hK8 : KeptC h w w8 := hK7.trans hKK8 hn7
 have hn8 : Newer h w.heap.size h8 := newer (h := h) (a := w.heap.size) hn7 hh8 (Nat.le_of_lt z7)
 have S8 := Lib.hid T8
 clear T8
 clear f7 g7
 obtain ⟨f8, -, z8⟩ := lie_cell q8; obtain ⟨g8, -, y8⟩ := lie_cell r8; rw [<- HNA.out] at g8
 go_wp2_with fail
 refine (cP2 w8 h8 (hw.trans hB8) S8.out).mono ?_; rintro e w9 ⟨rfl, T9, hBB9, hKK9⟩
 have q9 := hKK9.other S8.out q8 (by decide) (by decide) (by decide) (by decide)
 have r9 := hKK9.other S8.out r8 (by decide) (by decide) (by decide) (by decide)
 have hB9 : Below w0.heap.size w w9 := hB8.trans hBB9
 have hK9 : KeptC h w w9 := hK8.trans hKK9 hn8
 have hn9 : Newer h w.heap.size h8 := hn8
 have S9 := Lib.hid T9
 clear T9
 clear f8 g8
 obtain ⟨f9, -, z9⟩ := lie_cell q9; obtain ⟨g9, -, y9⟩ := lie_cell r9; rw [<- HNA.out] at g9
 clear eL2 eL3 l0 l1 l2 l3
 obtain ⟨hD, hkids, s5, b4⟩ := HD.out
 rw [HL.out] at hD
 rcases hD with ⟨rfl, z, hz, e5⟩ | ⟨rfl, e5⟩
 rotate_left
 case' _ =>
  have cP3 := fun W h2 (hW : Below w0.heap.size w0 W) (hc : CodeAt W w0.heap.size p h2 c4) => putK (a := a) (kn := K.length) (kc := kc) { op := 3 } hW hc b4 s5 (by rw [<- e5]; exact LenLe.refl _)
  rw [<- e5, insV_o] at cP3
  unfold blkV at cP3
  clear hkids s5 e5 HD HL
  go_wp2_with fail
  refine (cP3 w9 h8 (hw.trans hB9) S9.out).mono ?_; rintro e w10 ⟨rfl, T10, hBB10, hKK10⟩
  have q10 := hKK10.other S9.out q9 (by decide) (by decide) (by decide) (by decide)
  have r10 := hKK10.other S9.out r9 (by decide) (by decide) (by decide) (by decide)
  have hB10 : Below w0.heap.size w w10 := hB9.trans hBB10
  have hK10 : KeptC h w w10 := hK9.trans hKK10 hn9
  have hn10 : Newer h w.heap.size h8 := hn9
  have S10 := Lib.hid T10
  clear T10
  clear f9 g9
  obtain ⟨f10, -, z10⟩ := lie_cell q10; obtain ⟨g10, -, y10⟩ := lie_cell r10; rw [<- HNA.out] at g10
  obtain ⟨h5, hh5⟩ : ∃ z, h8 = z := ⟨_, rfl⟩
  obtain ⟨w20, hw20⟩ : ∃ z, w10 = z := ⟨_, rfl⟩
  rw [hh5] at hn10 S10
  rw [hw20] at q10 r10 S10 hB10 hK10 f10 g10 z10 y10 ⊢
  have q20 := q10
  have r20 := r10
  have S20 := S10
  have hB20 := hB10
  have hK20 := hK10
  have hn20 := hn10
  have f20 := f10
  have g20 := g10
  have z20 := z10
  have y20 := y10
  clear q10 r10 S10 hB10 hK10 hn10 f10 g10 z10 y10 hw20 hh5
 rotate_left
 case' _ =>
  obtain ⟨cs2, hr02, hn02⟩ := hkids 2 _ hz
  have cT2 := fun W h2 hW hC hk => ihT p h2 b a kc K c4 z cs2 W hW hC b4 hk hn02 (by omega) (by rw [<- e5]; exact s5)
  rw [<- e5] at cT2
  unfold blkV at cT2
  clear hkids s5 e5 hz HD HL
  go_upto_region 15 with (fail)
  have kc := gcell w9
  have hr2 := kid_range (hw.trans hB9) hbb hr02
  have hbw2 : bb < w9.heap.size := Nat.lt_of_lt_of_le hbb (hw.trans hB9).size
  refine region_below_tail 5 (by kernel_rfl) (by kernel_rfl) ?_
  simp only [List.take_succ_cons, List.take_zero, List.drop_succ_cons, List.drop_zero]
  iterate 4 (quiet_step (fail))
  refine wpQ_load 30 (.tmp 85) bb (o + 2 * 20) cs2 _ rfl rfl rfl hbw2 hr2 underlying30 rfl (by rw [hn02.len]; exact cellsNode) ?_
  refine wpQuiet_nil ?_
  intro w10 hb10
  clear kc hr2 hbw2
  have q10 := (hb10.block _ z9).trans q9
  have r10 := (hb10.block _ y9).trans r9
  have S10 := Lib.hid (S9.out.below hb10)
  have hB10 : Below w0.heap.size w w10 := hB9.trans (hb10.mono (hw.trans hB9).size)
  have hK10 : KeptC h w w10 := hK9.trans (KeptC.below hb10) hn9
  have hn10 : Newer h w.heap.size h8 := hn9
  clear f9 g9
  obtain ⟨f10, -, z10⟩ := lie_cell q10; obtain ⟨g10, -, y10⟩ := lie_cell r10; rw [<- HNA.out] at g10
  refine wpList_plain rfl (fun KK hKK => ?_)
  go_simp
  refine (cT2 w10 h8 (hw.trans hB10) S10.out (hk.kept hK10 hn10)).mono ?_; rintro e w11 ⟨rfl, h11, hh11, T11, hBB11, hKK11⟩
  refine hKK _ _ ?_
  clear hKK KK
  refine wpList_nil ?_
  have q11 := hKK11.other S10.out q10 (by decide) (by decide) (by decide) (by decide)
  have r11 := hKK11.other S10.out r10 (by decide) (by decide) (by decide) (by decide)
  have hB11 : Below w0.heap.size w w11 := hB10.trans hBB11
  have hK11 : KeptC h w w11 := hK10.trans hKK11 hn10
  have hn11 : Newer h w.heap.size h11 := newer (h := h) (a := w.heap.size) hn10 hh11 (Nat.le_of_lt z10)
  have S11 := Lib.hid T11
  clear T11
  clear f10 g10
  obtain ⟨f11, -, z11⟩ := lie_cell q11; obtain ⟨g11, -, y11⟩ := lie_cell r11; rw [<- HNA.out] at g11
  obtain ⟨h5, hh5⟩ : ∃ z, h11 = z := ⟨_, rfl⟩
  obtain ⟨w20, hw20⟩ : ∃ z, w11 = z := ⟨_, rfl⟩
  rw [hh5] at hn11 S11
  rw [hw20] at q11 r11 S11 hB11 hK11 f11 g11 z11 y11 ⊢
  have q20 := q11
  have r20 := r11
  have S20 := S11
  have hB20 := hB11
  have hK20 := hK11
  have hn20 := hn11
  have f20 := f11
  have g20 := g11
  have z20 := z11
  have y20 := y11
  clear q11 r11 S11 hB11 hK11 hn11 f11 g11 z11 y11 hw20 hh5
 all_goals (
  obtain ⟨gb, cg, ch, vs, k20⟩ := S20.out
  obtain ⟨hl5, huo, hX, hY⟩ := HS.out.2.2.2
  obtain ⟨v, hv⟩ : ∃ v, vs[b]? = some v := ⟨_, List.getElem?_eq_getElem (by rw [k20.len]; exact b5)⟩
  have hvr := k20.each b v l hv hl5
  obtain ⟨q, cap, rfl⟩ : ∃ q cap, v = .slice (some ⟨q, 0, none⟩) l.length cap := by
   rcases hvr.2 with ⟨_, e⟩ | ⟨g, cap, cur, e, _⟩
   ·omega
   ·exact ⟨g, cap, e⟩
  obtain ⟨cu, hqB, _, hqh, hqc, hqs, hqt⟩ := own_lies hvr
  have ep := k20.cells.1
  obtain ⟨eg, -⟩ := own_cell k20.rows hv
  have zp := heap_in k20.box
  have zg := block_lt_of_cell eg
  dsimp only at zg
  have hbI : (b : Int) < (c5.blocks.length : Int) := by omega
  have huI : (u : Int) < (l.length : Int) := by omega
  have hoI : (o2 : Int) < (l.length : Int) := by omega
  have HQ := Lib.hid (And.intro hqt (And.intro hvr (And.intro hl5 (And.intro hX (And.intro hY (And.intro hv k20))))))
  have hqh' := Lib.hid hqh
  clear hqt hvr hl5 hX hY hv hqh k20
  go_upto_region 17 with (fail)
  have kc := gcell w20
  refine region_below (by kernel_rfl) (by kernel_rfl) ?_
  repeat (quiet_step (fail))
  refine wpQuiet_nil ?_
  intro w21 hb21
  clear kc ep eg
  have q21 := (hb21.block _ z20).trans q20
  have r21 := (hb21.block _ y20).trans r20
  have S21 := Lib.hid (S20.out.below hb21)
  have hB21 : Below w0.heap.size w w21 := hB20.trans (hb21.mono (hw.trans hB20).size)
  have hK21 : KeptC h w w21 := hK20.trans (KeptC.below hb21) hn20
  have hn21 : Newer h w.heap.size h5 := hn20
  clear f20 g20
  obtain ⟨f21, -, z21⟩ := lie_cell q21; obtain ⟨g21, -, y21⟩ := lie_cell r21; rw [<- HNA.out] at g21
  have hq21 := (hb21.block q (heap_in hqh'.out)).trans hqh'.out
  go_upto_region 18 with (fail)
  refine wp_region_lit ?_
  iterate 8 refine st ?_
  refine wpList_plain rfl (fun KK hKK => ?_)
  go_simp
  refine (cH w21 h5 c5 (hw.trans hB21) S21.out rfl).mono ?_; rintro e w22 ⟨rfl, hb22⟩
  have q22 := (hb22.block _ z21).trans q21
  have r22 := (hb22.block _ y21).trans r21
  have S22 := Lib.hid (S21.out.below hb22)
  have hB22 : Below w0.heap.size w w22 := hB21.trans (hb22.mono (hw.trans hB21).size)
  have hK22 : KeptC h w w22 := hK21.trans (KeptC.below hb22) hn21
  have hn22 : Newer h w.heap.size h5 := hn21
  clear f21 g21
  obtain ⟨f22, -, z22⟩ := lie_cell q22; obtain ⟨g22, -, y22⟩ := lie_cell r22; rw [<- HNA.out] at g22
  have hq22 := (hb22.block q (heap_in hq21)).trans hq21
  obtain ⟨fq, gq, zq⟩ := lie_cell hq22
  have hqn : l.length * 18 <= cu.size := by rw [hqs]; exact Nat.mul_le_mul_right 18 hqc
  obtain ⟨t1, ht1⟩ : ∃ t, cu[u * 18 + 1]? = some t := ⟨_, Array.getElem?_eq_getElem (by omega)⟩
  obtain ⟨t2, ht2⟩ : ∃ t, cu[u * 18 + 2]? = some t := ⟨_, Array.getElem?_eq_getElem (by omega)⟩
  have d1 := (fq (u * 18 + 1)).trans ht1
  have d2 := (fq (u * 18 + 2)).trans ht2
  have g1' := gq (u * 18 + 1)
  have g2' := gq (u * 18 + 2)
  have hH : (hereC c5 b : Int) = (l.length : Int) := by rw [here_at HQ.out.2.2.1]
  rw [hH]
  refine hKK _ _ ?_
  clear hKK KK fq gq hqn ht1 ht2 hH
  have ew1 : IntKind.i64.wrap ((o2 : Int) - (u : Int)) = (o2 : Int) - (u : Int) := by rw [IntWalk.i64_in _ (by omega)]
  have ew2 : IntKind.i64.wrap ((l.length : Int) - (u : Int)) = (l.length : Int) - (u : Int) := by rw [IntWalk.i64_in _ (by omega)]
  have ew3 : IntKind.i64.wrap ((l.length : Int) - (u : Int) - 1) = (l.length : Int) - (u : Int) - 1 := by rw [IntWalk.i64_in _ (by omega)]
  iterate 6 refine st ?_
  have d2' : (w22.setCell ⟨q, u * 18 + 1, none⟩ (.int .i64 ((o2 : Int) - (u : Int)))).cell? ⟨q, u * 18 + 2, none⟩ = some t2 := by simp [go_sem, d2]
  have g3' : (w22.setCell ⟨q, u * 18 + 1, none⟩ (.int .i64 ((o2 : Int) - (u : Int)))).frozen? ⟨q, u * 18 + 2, none⟩ = false := by simp [go_sem, g2']
  iterate 3 refine st ?_
  refine wpList_nil ?_
  obtain ⟨hqt, hvr, hl5, hX, hY, hv, k17⟩ := HQ.out
  have ka := (k17.below hb21).below hb22
  obtain ⟨l1, hl1⟩ : ∃ l1, l.set u { X with a := (o2 : Int) - u } = l1 := ⟨_, rfl⟩
  obtain ⟨l2, hl2⟩ : ∃ l2, l1.set u { X with a := (o2 : Int) - u, b := (l.length : Int) - u - 1 } = l2 := ⟨_, rfl⟩
  have n1 : l1.length = l.length := by rw [<- hl1]; simp
  have n2 : l2.length = l.length := by rw [<- hl2]; simp [n1]
  have hX1 : l1[u]? = some { X with a := (o2 : Int) - u } := by rw [<- hl1, List.getElem?_set_self hul]
  have hY2 : l2[o2]? = some Y := by rw [<- hl2, <- hl1, List.getElem?_set_ne (by omega), List.getElem?_set_ne (by omega)]; exact hY
  obtain ⟨kb, kb2, -⟩ := ka.poke (l' := l1) (i := u * 18 + 1) (u := .int .i64 ((o2 : Int) - (u : Int))) hv hl5 (by rw [<- hl1]; exact insL_set l u X _ 1 _ hX (by decide) rfl) n1 (by omega)
  obtain ⟨kc1, kc2, -⟩ := kb.poke (l' := l2) (i := u * 18 + 2) (u := .int .i64 ((l.length : Int) - (u : Int) - 1)) hv (List.getElem?_set_self b5) (by rw [<- hl2]; exact insL_set l1 u _ _ 2 _ hX1 (by decide) rfl) (by rw [n1, n2]) (by rw [n1]; omega)
  have kbc := kb2.trans kc2 (.inl rfl)
  have hBs := (hB22.setCell (p := ⟨q, u * 18 + 1, none⟩) hqB (.int .i64 ((o2 : Int) - (u : Int)))).setCell (p := ⟨q, u * 18 + 2, none⟩) hqB (.int .i64 ((l.length : Int) - (u : Int) - 1))
  generalize ((w22.setCell ⟨q, u * 18 + 1, none⟩ (.int .i64 ((o2 : Int) - (u : Int)))).setCell ⟨q, u * 18 + 2, none⟩ (.int .i64 ((l.length : Int) - (u : Int) - 1))) = w23 at *
  obtain ⟨cc, hcc⟩ : ∃ cc : CodeD, { c5 with blocks := (c5.blocks.set b l1).set b l2 } = cc := ⟨_, rfl⟩
  have kcc : CMem w23 w0.heap.size p h5 gb cg ch vs cc := by rw [<- hcc]; exact kc1
  have ncc : cc.blocks.length = c5.blocks.length := by rw [<- hcc]; simp
  have lcc : cc.blocks[b]? = some l2 := by rw [<- hcc]; exact List.getElem?_set_self (by simpa using b5)
  have q23 := kbc.other S22.out q22 (by decide) (by decide) (by decide) (by decide)
  have r23 := kbc.other S22.out r22 (by decide) (by decide) (by decide) (by decide)
  have S23 := Lib.hid (show CodeAt w23 w0.heap.size p h5 cc from ⟨_, _, _, _, kcc⟩)
  have hB23 : Below w0.heap.size w w23 := hBs
  have hK23 : KeptC h w w23 := hK22.trans kbc hn22
  have hn23 : Newer h w.heap.size h5 := hn22
  have HK := Lib.hid kcc
  have HH := Lib.hid (And.intro hcc (And.intro hl1 (And.intro hl2 (And.intro n1 (And.intro n2 (And.intro hX (And.intro hY (And.intro hY2 (And.intro lcc (And.intro hl5 hv))))))))))
  clear hqt hvr hX hY k17 ka hX1 hY2 kb kb2 kc1 kc2 hBs kcc n1 n2 lcc hl5 hv d1 d2 d2' g1' g2' g3' ew1 ew2 ew3 hcc hl1 hl2
  clear f22 g22
  obtain ⟨f23, -, z23⟩ := lie_cell q23; obtain ⟨g23, -, y23⟩ := lie_cell r23; rw [<- HNA.out] at g23
  go_upto_region 19 with (fail)
  refine wp_region_lit ?_
  iterate 3 refine st ?_
  refine wpList_plain rfl (fun KK hKK => ?_)
  go_simp
  refine (cH w23 h5 cc (hw.trans hB23) S23.out ncc).mono ?_; rintro e w24 ⟨rfl, hb24⟩
  have q24 := (hb24.block _ z23).trans q23
  have r24 := (hb24.block _ y23).trans r23
  have S24 := Lib.hid (S23.out.below hb24)
  have hB24 : Below w0.heap.size w w24 := hB23.trans (hb24.mono (hw.trans hB23).size)
  have hK24 : KeptC h w w24 := hK23.trans (KeptC.below hb24) hn23
  have hn24 : Newer h w.heap.size h5 := hn23
  clear f23 g23
  obtain ⟨f24, -, z24⟩ := lie_cell q24; obtain ⟨g24, -, y24⟩ := lie_cell r24; rw [<- HNA.out] at g24
  obtain ⟨hcc, hl1, hl2, n1, n2, hX, hY, hY2, lcc, hl5, hv⟩ := HH.out
  have hvr := HK.out.each b _ l2 hv lcc
  obtain ⟨cu2, -, -, hqh2, hqc2, hqs2, -⟩ := own_lies hvr
  have hqx := (hb24.block q (heap_in hqh2)).trans hqh2
  obtain ⟨fq, gq, zq2⟩ := lie_cell hqx
  have hqn : l2.length * 18 <= cu2.size := by rw [hqs2]; exact Nat.mul_le_mul_right 18 hqc2
  obtain ⟨t3, ht3⟩ : ∃ t, cu2[o2 * 18 + 1]? = some t := ⟨_, Array.getElem?_eq_getElem (by omega)⟩
  have d3 := (fq (o2 * 18 + 1)).trans ht3
  have g3 := gq (o2 * 18 + 1)
  have hH : (hereC cc b : Int) = (l.length : Int) := by rw [here_at lcc, n2]
  rw [hH]
  refine hKK _ _ ?_
  clear hKK KK fq gq hqn ht3 hH hcc hl1 hl2 n1 n2 hX hY hY2 lcc hl5 hv hvr hqh2 hqc2 hqs2 hqx
  have ew2 : IntKind.i64.wrap ((l.length : Int) - (o2 : Int)) = (l.length : Int) - (o2 : Int) := by rw [IntWalk.i64_in _ (by omega)]
  have ew3 : IntKind.i64.wrap ((l.length : Int) - (o2 : Int) - 1) = (l.length : Int) - (o2 : Int) - 1 := by rw [IntWalk.i64_in _ (by omega)]
  iterate 6 refine st ?_
  refine wpList_nil ?_
  obtain ⟨hcc, hl1, hl2, n1, n2, hX, hY, hY2, lcc, hl5, hv⟩ := HH.out
  obtain ⟨kd, kd2, -⟩ := (HK.out.below hb24).poke (l' := l2.set o2 { Y with a := (l.length : Int) - o2 - 1 }) (i := o2 * 18 + 1) (u := .int .i64 ((l.length : Int) - (o2 : Int) - 1)) hv lcc (insL_set l2 o2 Y _ 1 _ hY2 (by decide) rfl) (by simp) (by rw [n2]; omega)
  have hov : { cc with blocks := cc.blocks.set b (l2.set o2 { Y with a := (l.length : Int) - o2 - 1 }) } = overC c5 b u o2 := by rw [<- hcc, <- hl2, <- hl1]; exact over_set hl5 hX hY (by omega)
  rw [hov] at kd
  have HD := Lib.hid (show CodeAt _ w0.heap.size p h5 _ from ⟨_, _, _, _, kd⟩)
  have HE2 := Lib.hid ((hB24.setCell (p := ⟨q, o2 * 18 + 1, none⟩) hqB (.int .i64 ((l.length : Int) - (o2 : Int) - 1))))
  have HK2 := Lib.hid (hK24.trans kd2 hn24)
  clear kd kd2 hov hcc hl1 hl2 n1 n2 hX hY hY2 lcc hl5 hv d3 g3 ew2 ew3
  clear f24 g24
  go_wp2
  go_end0
  exact ⟨rfl, h5, hn24, HD.out, HE2.out, HK2.out⟩)
theorem call_if2 (w0 : World) (hg : Good w0) (f : Nat) (ihT : TreeK 23 w0 f) : CallK (fun U K n => findN K n.text = none /\ U = [73, 70] /\ n.kids.length = 2) w0 f := fun p h b a kc K c n cs w h1 h2 h3 h4 h5 h6 h7 h8 h9 => call_if w0 hg f ihT p h b a kc K c n cs w h1 h2 h3 h4 h5 h6 h7 h8 ⟨h9.1, h9.2.1, .inl h9.2.2⟩
theorem call_if3 (w0 : World) (hg : Good w0) (f : Nat) (ihT : TreeK 23 w0 f) : CallK (fun U K n => findN K n.text = none /\ U = [73, 70] /\ n.kids.length = 3) w0 f := fun p h b a kc K c n cs w h1 h2 h3 h4 h5 h6 h7 h8 h9 => call_if w0 hg f ihT p h b a kc K c n cs w h1 h2 h3 h4 h5 h6 h7 h8 ⟨h9.1, h9.2.1, .inr h9.2.2⟩
end Go.Proofs.YtlpgigdegnbkmaaGreatDoor
