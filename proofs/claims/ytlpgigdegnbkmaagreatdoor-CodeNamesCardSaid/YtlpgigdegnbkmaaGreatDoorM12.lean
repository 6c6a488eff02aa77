import Derived.Test.YtlpgigdegnbkmaaGreatDoorM11
set_option maxRecDepth 100000
set_option maxHeartbeats 4000000
namespace Go.Proofs.YtlpgigdegnbkmaaGreatDoor
open Go.RowKit Tab Tryz
def CallK (P : Bs -> List Bs -> NodeD -> Prop) (w0 : World) (f : Nat) : Prop :=
 ∀ (p h b : Nat) (a : Option Addr) (kc : Nat) (K : List Bs) (c : CodeD) (n : NodeD) (cs : List Value) (w : World), Below w0.heap.size w0 w -> CodeAt w w0.heap.size p h c -> b < c.blocks.length -> KnownAt w h a kc K ->
  NodeIs (f + 1) w0 cs n -> n.kind = 12 -> wtN K + 3000 * (f + 1) <= 100000 -> SmallC (comp (f + 1) c b K [] n) -> P (upperD n.text) K n ->
  Calls prog 43 #[blkV p b a K.length kc, .agg cs.toArray] w (Did w0.heap.size p h (comp (f + 1) c b K [] n) w)
theorem call_known (w0 : World) (hg : Good w0) (f : Nat) (ihE : EachK w0 f) (g : Bs) : CallK (fun _ K n => findN K n.text = some g) w0 f := by
 intro p h b a kc K c n cs w hw hc hb hk hn hkind hwt hsm hf
 obtain ⟨na, nc, rfl, hnc, hok, hkids⟩ := hn
 rw [comp_known f c b K [] n g hkind hf] at hsm ⊢
 clear hkind
 obtain ⟨c1, hc1e⟩ : ∃ D, putC c b { op := 18, s := g } = D := ⟨_, rfl⟩
 have hx1 : Ext c c1 := by rw [<- hc1e]; exact ext_put _ _ _
 have hb1' := Nat.lt_of_lt_of_le hb hx1.len
 obtain ⟨D, hD⟩ : ∃ D, n.kids.foldl (fun c k => comp f c b K [] k) c1 = D := ⟨_, rfl⟩
 have hx : Ext c1 D := by rw [<- hD]; exact each_ext f b K _ _ hb1'
 have hbD := Nat.lt_of_lt_of_le hb1' hx.len
 rw [hc1e, hD] at hsm ⊢
 have hsD : SmallC D := (ext_put D b _).le.small hsm
 have hkl := hok.kids
 have cF := fun W (hW : Below w0.heap.size w0 W) (hI : NamesAt W a kc K) => find_str (p := p) (b := b) hwt n.text hok.text _ hf W (hg.below hW) hI
 dsimp only [Option.getD, Option.isSome] at cF
 have cP1 := fun W h2 (hW : Below w0.heap.size w0 W) (hc : CodeAt W w0.heap.size p h2 c) => putK (a := a) (kn := K.length) (kc := kc) { op := 18, s := g } hW hc hb hsD (by rw [hc1e]; exact hx.le)
 have cE := fun W h2 hW hC hk => ihE p h2 b a kc K c1 n.kids na nc W hW hC hb1' hk hkids hkl (by omega) (by rw [hD]; exact hsD)
 rw [hD] at cE
 rw [hc1e] at cP1
 have cP := fun W h2 (hW : Below w0.heap.size w0 W) (hc : CodeAt W w0.heap.size p h2 D) => putK (a := a) (kn := K.length) (kc := kc) { op := 16, a := (n.kids.length : Int) } hW hc hbD hsm (LenLe.refl _)
 have HS := Lib.hid (And.intro hsm (And.intro hkids (And.intro hD (And.intro hsD hf))))
 clear hsm hkids hD hsD hx hf hc1e hx1
 rw [insV_a] at cP
 rw [insV_s] at cP1
 unfold blkV at cE cP cF cP1
 unfold blkV
 rw [nodeA_eq]
 have zB := hw.size
 have hgw := hg.below hw
 obtain ⟨NA, hNA⟩ : ∃ A, nodeA n (.slice na n.kids.length nc) = A := ⟨_, rfl⟩
 unfold nodeA at *
 have HNA := Lib.hid hNA
 clear hNA
 go_enter func43, ntmps43
 go_upto_region 1 with (fail)
 refine wp_abs2 (fun W => Below w.heap.size w W /\ W.heap[w.heap.size]? = some (.cells #[.pointer (some ⟨p, 0, none⟩), .int .i64 (b : Int), .slice a K.length kc] 65 (0, 0)) /\ W.heap[w.heap.size + 1]? = some (.cells NA 30 (0, 0))) ⟨belx, heap_alloc2_old _ _ _, by rw [<- HNA.out]; exact heap_alloc2_new _ _ _⟩ ?_
 rintro w1 ⟨hb1, q1, r1⟩
 obtain ⟨f1, -, z1⟩ := lie_cell q1; obtain ⟨g1, -, y1⟩ := lie_cell r1; rw [<- HNA.out] at g1
 go_wp2_with fail
 refine (cF w1 (hw.trans (hb1.mono zB)) (hk.1.below hb1)).mono ?_; rintro e w2 ⟨rfl, hb2⟩
 have q2 := (hb2.block _ z1).trans q1
 have r2 := (hb2.block _ y1).trans r1
 clear f1 g1
 obtain ⟨f2, -, z2⟩ := lie_cell q2; obtain ⟨g2, -, y2⟩ := lie_cell r2; rw [<- HNA.out] at g2
 have hb02 := after hb1 hb2
 have hc2 := hc.below hb02
 have hB2 := hb02.mono zB
 go_wp2_with fail
 refine (cP1 w2 h (hw.trans hB2) hc2).mono ?_; rintro e w3 ⟨rfl, S3, hB3, hK3⟩
 have q3 := hK3.other hc2 q2 (by decide) (by decide) (by decide) (by decide)
 have r3 := hK3.other hc2 r2 (by decide) (by decide) (by decide) (by decide)
 clear f2 g2
 obtain ⟨f3, -, z3⟩ := lie_cell q3; obtain ⟨g3, -, y3⟩ := lie_cell r3; rw [<- HNA.out] at g3
 have hB03 := hB2.trans hB3
 have hK03 : KeptC h w w3 := (KeptC.below hb02).trans hK3 (.inl rfl)
 go_wp2_with fail
 refine (cE w3 h (hw.trans hB03) S3 (hk.kept hK03 (.inl rfl))).mono ?_; rintro e w4 ⟨rfl, h4, hh4, S4, hB4, hK4⟩
 have q4 := hK4.other S3 q3 (by decide) (by decide) (by decide) (by decide)
 have r4 := hK4.other S3 r3 (by decide) (by decide) (by decide) (by decide)
 clear f3 g3
 obtain ⟨f4, -, z4⟩ := lie_cell q4; obtain ⟨g4, -, y4⟩ := lie_cell r4; rw [<- HNA.out] at g4
 have hB04 := hB03.trans hB4
 have hK04 : KeptC h w w4 := hK03.trans hK4 (.inl rfl)
 have hn4 := newer (h := h) (a := w.heap.size) (.inl rfl) hh4 (by have := hb02.size; omega)
 go_wp2_with fail
 refine (cP w4 h4 (hw.trans hB04) S4).mono ?_; rintro e w5 ⟨rfl, S5, hB5, hK5⟩
 have HS5 := Lib.hid (And.intro S5 (And.intro S4 (And.intro S3 hc2)))
 clear S5 S4 S3 hc2 f4 g4
 go_wp2
 go_end0
 exact ⟨rfl, h4, hn4, HS5.out.1, hB04.trans hB5, hK04.trans hK5 hn4⟩
theorem call_plain (w0 : World) (hg : Good w0) (f : Nat) (ihE : EachK w0 f) : CallK (fun U K n => findN K n.text = none /\ (¬ (U = [73, 70]) \/ n.kids.length < 2 \/ 3 < n.kids.length)) w0 f := by
 intro p h b a kc K c n cs w hw hc hb hk hn hkind hwt hsm hf
 obtain ⟨na, nc, rfl, hnc, hok, hkids⟩ := hn
 obtain ⟨hf, hU⟩ := hf
 rw [comp_call f c b K [] n hkind hf hU] at hsm ⊢
 clear hkind
 obtain ⟨D, hD⟩ : ∃ D, n.kids.foldl (fun c k => comp f c b K [] k) c = D := ⟨_, rfl⟩
 have hx : Ext c D := by rw [<- hD]; exact each_ext f b K _ _ hb
 have hbD := Nat.lt_of_lt_of_le hb hx.len
 rw [hD] at hsm ⊢
 have hsD : SmallC D := (ext_put D b _).le.small hsm
 have hkl := hok.kids
 have cF := fun W (hW : Below w0.heap.size w0 W) (hI : NamesAt W a kc K) => find_str (p := p) (b := b) hwt n.text hok.text _ hf W (hg.below hW) hI
 dsimp only [Option.getD, Option.isSome] at cF
 have cG : ∀ W, Below w0.heap.size w0 W -> Calls prog 85 #[.string ⟨n.text.toArray⟩] W (Ret (.string ⟨(upperD n.text).toArray⟩) W) := fun W hW => cgreat_any ⟨n.text.toArray⟩ W (hg.below hW) (Nat.le_trans (show n.text.length <= 1000 from hok.text) (by decide))
 obtain ⟨U, hUe⟩ : ∃ U, upperD n.text = U := ⟨_, rfl⟩
 rw [hUe] at cG hsm hU ⊢
 have cE := fun W h2 hW hC hk => ihE p h2 b a kc K c n.kids na nc W hW hC hb hk hkids hkl (by omega) (by rw [hD]; exact hsD)
 rw [hD] at cE
 have cP := fun W h2 (hW : Below w0.heap.size w0 W) (hc : CodeAt W w0.heap.size p h2 D) => putK (a := a) (kn := K.length) (kc := kc) { op := 11, s := U, a := (n.kids.length : Int) } hW hc hbD hsm (LenLe.refl _)
 have HS := Lib.hid (And.intro hsm (And.intro hkids (And.intro hD (And.intro hsD hf))))
 clear hsm hkids hD hsD hx hf hUe
 rw [insV_sa] at cP
 unfold blkV at cE cP cF
 have HC : ∃ e1 e2 e3, (U == [73, 70]) = e1 /\ decide ((n.kids.length : Int) < 2) = e2 /\ decide (3 < (n.kids.length : Int)) = e3 /\ (e1 = true -> e2 = false -> e3 = true) := ⟨_, _, _, rfl, rfl, rfl, fun h1 h2 => by
  rcases hU with h | h | h
  ·exact absurd (eq_of_beq h1) h
  ·exact absurd (decide_eq_true (show (n.kids.length : Int) < 2 by omega)) (by rw [h2]; decide)
  ·exact decide_eq_true (by omega)⟩
 clear hU
 obtain ⟨e1, e2, e3, h1, h2, h3, h4⟩ := HC
 unfold blkV
 rw [nodeA_eq]
 have zB := hw.size
 have hgw := hg.below hw
 obtain ⟨NA, hNA⟩ : ∃ A, nodeA n (.slice na n.kids.length nc) = A := ⟨_, rfl⟩
 unfold nodeA at *
 have HNA := Lib.hid hNA
 clear hNA
 go_enter func43, ntmps43
 go_upto_region 1 with (fail)
 refine wp_abs2 (fun W => Below w.heap.size w W /\ W.heap[w.heap.size]? = some (.cells #[.pointer (some ⟨p, 0, none⟩), .int .i64 (b : Int), .slice a K.length kc] 65 (0, 0)) /\ W.heap[w.heap.size + 1]? = some (.cells NA 30 (0, 0))) ⟨belx, heap_alloc2_old _ _ _, by rw [<- HNA.out]; exact heap_alloc2_new _ _ _⟩ ?_
 rintro w1 ⟨hb1, q1, r1⟩
 obtain ⟨f1, -, z1⟩ := lie_cell q1; obtain ⟨g1, -, y1⟩ := lie_cell r1; rw [<- HNA.out] at g1
 go_wp2_with fail
 refine (cF w1 (hw.trans (hb1.mono zB)) (hk.1.below hb1)).mono ?_; rintro e w2 ⟨rfl, hb2⟩
 have q2 := (hb2.block _ z1).trans q1
 have r2 := (hb2.block _ y1).trans r1
 clear f1 g1
 obtain ⟨f2, -, z2⟩ := lie_cell q2; obtain ⟨g2, -, y2⟩ := lie_cell r2; rw [<- HNA.out] at g2
 have hb02 := after hb1 hb2
 have hB2 := hb02.mono zB
 go_wp2_with fail
 refine (cG w2 (hw.trans hB2)).mono ?_; rintro e w3 ⟨rfl, hb3⟩
 have q3 := (hb3.block _ z2).trans q2
 have r3 := (hb3.block _ y2).trans r2
 clear f2 g2
 obtain ⟨f3, -, z3⟩ := lie_cell q3; obtain ⟨g3, -, y3⟩ := lie_cell r3; rw [<- HNA.out] at g3
 have hb03 := after hb02 hb3
 have hc3 := hc.below hb03
 have hB3 := hb03.mono zB
 have W3 : ∀ Q : Prop, (e1 = false -> Q) -> (e1 = true -> e2 = true -> Q) -> (e1 = true -> e2 = false -> e3 = true -> Q) -> Q := fun Q x y z => by
  cases e1
  ·exact x rfl
  ·cases e2
   ·exact z rfl rfl (h4 rfl rfl)
   ·exact y rfl rfl
 clear h4
 refine W3 _ (fun x1 => ?_) (fun x1 x2 => ?_) (fun x1 x2 x3 => ?_)
 all_goals (
  clear W3
  subst x1
  try subst x2
  try subst x3
  go_wp2_with fail
  refine (cE w3 h (hw.trans hB3) hc3 (hk.below hb03)).mono ?_; rintro e w4 ⟨rfl, h4, hh4, S4, hB4, hK4⟩
  have q4 := hK4.other hc3 q3 (by decide) (by decide) (by decide) (by decide)
  have r4 := hK4.other hc3 r3 (by decide) (by decide) (by decide) (by decide)
  clear f3 g3
  obtain ⟨f4, -, z4⟩ := lie_cell q4; obtain ⟨g4, -, y4⟩ := lie_cell r4; rw [<- HNA.out] at g4
  have hB04 := hB3.trans hB4
  have hK04 : KeptC h w w4 := (KeptC.below hb03).trans hK4 (.inl rfl)
  have hn4 := newer (h := h) (a := w.heap.size) (.inl rfl) hh4 hb03.size
  go_wp2_with fail
  refine (cP w4 h4 (hw.trans hB04) S4).mono ?_; rintro e w5 ⟨rfl, S5, hB5, hK5⟩
  have HS5 := Lib.hid (And.intro S5 (And.intro S4 hc3))
  clear S5 S4 hc3 f4 g4
  go_wp2
  go_end0
  exact ⟨rfl, h4, hn4, HS5.out.1, hB04.trans hB5, hK04.trans hK5 hn4⟩)
theorem own_set {w : World} {B n size q m cap i : Nat} {e : TypeId} {xs : List Value} {u : Value} (h : w.ownsRow B e size (.slice (some ⟨q, 0, none⟩) m cap) n xs) (_hi : i < n * size) : (w.setCell ⟨q, i, none⟩ u).ownsRow B e size (.slice (some ⟨q, 0, none⟩) m cap) n (xs.set i u) := by
 refine ⟨by rw [List.length_set]; exact h.1, ?_⟩
 rcases h.2 with ⟨h1, _⟩ | ⟨g, cap', cur, h1, h2, h3, h4, h5, h6, h7⟩
 ·cases h1
 ·have h1' := h1
  injection h1 with a b c'
  injection a with a
  injection a with a
  subst a
  exact .inr ⟨q, cap', _, h1', h2, heap_set_same h3, h4, h5, by simpa using h6, by rw [Array.toList_setIfInBounds, List.take_set, h7]⟩
variable {w : World} {B p h g cg ch : Nat} {vs : List Value} {c : CodeD}
theorem CMem.poke (k : CMem w B p h g cg ch vs c) {b q n cap i : Nat} {l l' : List InsD} {u : Value} (hv : vs[b]? = some (.slice (some ⟨q, 0, none⟩) n cap)) (hl : c.blocks[b]? = some l) (hL : insL l' = (insL l).set i u) (hlen : l'.length = l.length) (hi : i < l.length * 18) :
  CMem (w.setCell ⟨q, i, none⟩ u) B p h g cg ch vs { c with blocks := c.blocks.set b l' } /\ KeptC h w (w.setCell ⟨q, i, none⟩ u) /\ B <= q := by
 have hvr := k.each b _ l hv hl
 obtain ⟨cur, hqB, _, hqh, _⟩ := own_lies hvr
 have hbl : b < c.blocks.length := (List.getElem?_eq_some_iff.1 hl).1
 have ne : ∀ (j : Nat) (C : Array Value) (T : TypeId) (fr : Nat × Nat), w.heap[j]? = some (.cells C T fr) -> T ≠ 43 -> j ≠ q := fun j C T fr e1 e2 e3 => by
  rw [e3, hqh] at e1
  injection e1 with e1; injection e1 with _ e1 _; exact e2 e1.symm
 have own : ∀ {e : TypeId} {m size : Nat} {v : Value} {xs : List Value}, w.ownsRow B e size v m xs -> e ≠ 43 -> (w.setCell ⟨q, i, none⟩ u).ownsRow B e size v m xs := fun hr he => own_kept hr fun j hj => heap_set_other (by
  obtain ⟨_, cu, e4⟩ := own_type hr hj
  exact ne j _ _ _ e4 he)
 have hpl : (c.blocks.set b l').length = c.blocks.length := by simp
 refine ⟨⟨k.lep, by rw [hpl]; exact k.few, ?_, ?_, own k.pars (by decide), ?_, k.apart⟩, fun j C T fr h1 _ _ h4 _ => (heap_set_other (ne j C T fr h1 h4)).trans h1, hqB⟩
 ·rw [hpl]; exact (heap_set_other (ne p _ _ _ k.box (by decide))).trans k.box
 ·rw [hpl]; exact own k.rows (by decide)
 ·intro j v m h1 h2
  by_cases hj : j = b
  ·subst hj
   rw [List.getElem?_set_self hbl] at h2
   injection h2 with h2
   subst h2
   rw [hv] at h1
   injection h1 with h1
   subst h1
   rw [hlen, hL]
   exact own_set hvr hi
  ·rw [List.getElem?_set_ne (Ne.symm hj)] at h2
   have hr := k.each j v m h1 h2
   refine own_kept hr fun r hr' => heap_set_other fun e => ?_
   subst e
   exact hj (k.apart j b v _ r h1 hv hr' rfl)
theorem insL_set (l : List InsD) (i : Nat) (x y : InsD) (j : Nat) (u : Value) (hx : l[i]? = some x) (hj : j < 18) (hy : insC y = (insC x).set j u) : insL (l.set i y) = (insL l).set (i * 18 + j) u := by
 induction l generalizing i with
 | nil => simp at hx
 | cons z l ih =>
  cases i with
  | zero =>
   simp at hx; subst hx
   show insC y ++ insL l = (insC z ++ insL l).set (0 * 18 + j) u
   rw [hy, Nat.zero_mul, Nat.zero_add, List.set_append_left _ _ (by rw [insC_len]; exact hj)]
  | succ i =>
   show insC z ++ insL (l.set i y) = (insC z ++ insL l).set ((i + 1) * 18 + j) u
   rw [ih i (by simpa using hx), List.set_append_right _ _ (by rw [insC_len]; omega), insC_len]
   congr 2
   omega
theorem wpQ_load {P : Program} {ops : Array Oper} {w : World} {Q : Act -> Prop} {o : Oper} {rest : List Oper} {a : Act} (ty : TypeId) (x : Operand) (b off : Nat) (cs : List Value) (d : TypeDesc)
  (hw : Region.wanted o (yielded ops a.tmps) = true) (ho : o.op = .load ty x) (hx : a.eval x = .pointer (some ⟨b, off, none⟩)) (hb : b < w.heap.size) (hc : w.rangeAt b off cs)
  (hu : P.underlying ty = some d) (hd : d.isRow = true) (hi : (P.info? ty).map (·.size) = some cs.length) (h2 : wpQuiet P ops (fun w' => ∃ p : Regrown, w' = Sort.grow (redrawn w p.d) p.os) Q rest (a.put o.dst (.agg cs.toArray))) :
  wpQuiet P ops (fun w' => ∃ p : Regrown, w' = Sort.grow (redrawn w p.d) p.os) Q (o :: rest) a := by
 unfold wpQuiet
 rw [if_pos hw]
 refine ⟨.agg cs.toArray, ?_, h2⟩
 rintro W ⟨p, rfl⟩
 have hB := below_regrown w p.d p.os
 have hr : (Sort.grow (redrawn w p.d) p.os).rangeAt b off cs := fun j v hj => (hB.cell (p := ⟨b, off + j, none⟩) hb).trans (hc j v hj)
 unfold Oper.quietAt execOp
 simp only [ho, hx, Instr.loadAt, Instr.sureAddr, Sem.run_bind, Sem.run_pure, Result.andThen_ok, run_loadVar_mid _ b off ty cs d hr hu hd hi]
 exact ⟨rfl, rfl⟩
end Go.Proofs.YtlpgigdegnbkmaaGreatDoor
namespace Tab
open Go
theorem joinN_is : ∀ K : List Bs, joinN K = Lib.join K [44]
 | [] => rfl
 | [x] => by rw [joinN, Lib.join_one]
 | x :: y :: l => by
  rw [joinN, joinN_is (y :: l)]
  ·simp [Lib.join]
  ·simp
theorem joinN_len (K : List Bs) : (joinN K).length <= wtN K := by
 match K with
 | [] => exact Nat.le_refl _
 | [x] => simp [joinN, wtN]
 | x :: y :: l =>
  have ih := joinN_len (y :: l)
  rw [joinN]
  ·simp [wtN] at *; omega
  ·simp
theorem heldN_len (own : Bs) : ∀ K : List Bs, (heldN K own).length <= K.length
 | [] => Nat.le_refl _
 | x :: l => by
  have := heldN_len own l
  unfold heldN
  split <;> simp <;> omega
theorem heldN_wt (own : Bs) : ∀ K : List Bs, wtN (heldN K own) <= wtN K
 | [] => Nat.le_refl _
 | x :: l => by
  have := heldN_wt own l
  unfold heldN
  split
  ·simp [wtN] at *; omega
  ·simp [wtN] at *; omega
theorem heldN_step (K : List Bs) (own : Bs) (j : Nat) (h : j < K.length) : heldN (K.drop j) own = if (findN (K.drop (j + 1)) K[j]).isNone && (own == [] || !(lowerD K[j] == lowerD own)) then K[j] :: heldN (K.drop (j + 1)) own else heldN (K.drop (j + 1)) own := by
 rw [List.drop_eq_getElem_cons h, heldN]
end Tab
namespace Go.Proofs.YtlpgigdegnbkmaaGreatDoor
open Go.RowKit Tab Tryz
theorem NamesAt.drop {w : World} {bk ok kc : Nat} {K : List Bs} (k : NamesAt w (some ⟨bk, ok, none⟩) kc K) (i : Nat) (hi : i <= K.length) : NamesAt w (if kc = i then some ⟨bk, ok, none⟩ else some ⟨bk, ok + i, none⟩) (kc - i) (K.drop i) := by
 have hc := k.cap
 refine ⟨by rw [List.length_drop]; omega, ?_⟩
 by_cases h : kc = i
 ·exact .inl (List.drop_eq_nil_of_le (by omega))
 ·rcases k.lies with rfl | ⟨b, o, C, fr, e, h1, h2⟩
  ·exact .inl (by simp)
  ·injection e with e; injection e with e1 e2 e3
   subst e1 e2
   refine .inr ⟨bk, ok + i, C, fr, by rw [if_neg h], h1, fun j x hx => ?_⟩
   rw [Nat.add_assoc]
   exact h2 (i + j) x (by rw [List.getElem?_drop] at hx; exact hx)
abbrev strL (K : List Bs) : List Value := K.map fun x => Value.string ⟨x.toArray⟩
theorem own_names {w : World} {B c : Nat} {a : Option Addr} {K : List Bs} (h : w.ownsRow B 9 1 (.slice a K.length c) K.length (strL K)) : NamesAt w a c K := by
 rcases h.2 with ⟨e, h0⟩ | ⟨g, cap, cur, e, h2, h3, h4, h5, h6, h7⟩
 ·rw [List.length_eq_zero_iff.1 h0]; exact NamesAt.nil _ _ _
 ·injection e with e1 e2 e3
  subst e1 e3
  refine ⟨h4, .inr ⟨g, 0, cur, _, rfl, h3, fun i x hx => ?_⟩⟩
  have hi := (List.getElem?_eq_some_iff.1 hx).1
  have : (cur.toList.take (K.length * 1))[i]? = some (.string ⟨x.toArray⟩) := by rw [h7, List.getElem?_map, hx]; rfl
  rw [List.getElem?_take, if_pos (by omega)] at this
  rw [Nat.zero_add]; simpa using this
theorem join_any (a : Option Addr) (c : Nat) (K : List Bs) (w : World) (hI : NamesAt w a c K) (hw : wtN K <= 1000000) : Calls prog 72 #[.slice a K.length c, .string ⟨#[44]⟩] w (Ret (.string ⟨(joinN K).toArray⟩) w) := by
 rcases hI.lies with rfl | ⟨b, o, C, fr, rfl, h1, h2⟩
 ·exact (Tryz.strings_Join_none a c ⟨#[44]⟩ w).mono fun e W ⟨he, hW⟩ => ⟨he, hW ▸ Below.refl _ _⟩
 ·have hl := wtN_len K
  have e1 : (K.map fun x : Bs => (⟨x.toArray⟩ : ByteArray)).length = K.length := by simp
  have e2 : (K.map fun x : Bs => (⟨x.toArray⟩ : ByteArray)).map (·.data.toList) = K := by rw [List.map_map]; exact List.map_id'' (fun _ => rfl) K
  have := Tryz.strings_Join b o c (K.map fun x : Bs => (⟨x.toArray⟩ : ByteArray)) ⟨#[44]⟩ w (fun j x hx => by
   rw [List.getElem?_map] at hx
   obtain ⟨y, hy, rfl⟩ := Option.map_eq_some_iff.1 hx
   unfold World.cell?; rw [h1]; exact h2 j y hy) (heap_in h1) (by rw [e1]; omega) (by rw [e1]; exact hI.cap) (by rw [e2, <- joinN_is]; have := joinN_len K; omega)
  rw [e1, e2, show (⟨#[44]⟩ : ByteArray).data.toList = [44] from rfl, <- joinN_is] at this
  exact this
theorem clone_any (a : Option Addr) (c : Nat) (K : List Bs) (w : World) (hI : NamesAt w a c K) (hw : wtN K <= 1000000) : Calls prog 133 #[.slice a K.length c] w fun e W => ∃ v', e = .returned v' /\ W.ownsRow w.heap.size 9 1 v' K.length (strL K) /\ Below w.heap.size w W := by
 cases a with
 | none =>
  rcases hI.lies with rfl | ⟨b, o, C, fr, e, _⟩
  ·exact (Tryz.slices_Clone_string_nil 0 c w).mono fun e W ⟨he, hW⟩ => ⟨_, he, ⟨rfl, .inl ⟨rfl, rfl⟩⟩, hW ▸ Below.refl _ _⟩
  ·cases e
 | some ad =>
  rcases hI.lies with rfl | ⟨b, o, C, fr, e, h1, h2⟩
  ·exact (Tryz.slices_Clone_string_zero ad c w).mono fun e W ⟨v', he, ho, _, hb⟩ => ⟨v', he, ho, hb⟩
  ·injection e with e
   subst e
   have hl := wtN_len K
   have e1 : (K.map fun x : Bs => (⟨x.toArray⟩ : ByteArray)).length = K.length := by simp
   have := Tryz.slices_Clone_string b o K.length c (K.map fun x : Bs => (⟨x.toArray⟩ : ByteArray)) w (by rw [e1]; exact Nat.le_refl _) (by omega) (fun j hj => by
    rw [e1] at hj
    have hx := List.getElem?_eq_getElem hj
    unfold World.cell?; rw [h1]
    have := h2 j _ hx
    rw [List.getD_eq_getElem?_getD, List.getElem?_map, hx]; exact this)
   refine this.mono fun e W ⟨v', he, ho, _, hb⟩ => ⟨v', he, ?_, hb⟩
   have e3 : ((K.map fun x : Bs => (⟨x.toArray⟩ : ByteArray)).take K.length).map Value.string = strL K := by rw [List.take_of_length_le (by simp), List.map_map]; rfl
   rw [e3] at ho; exact ho
variable {w W : World} {B p h g cg ch : Nat} {vs : List Value} {c : CodeD}
theorem others {n size : Nat} {e : TypeId} {v : Value} {xs : List Value} (hv : w.ownsRow B e size v n xs) (hg : ∀ i, i < w.heap.size -> v.ownBlock ≠ some i -> W.heap[i]? = w.heap[i]?) {i : Nat} {C : Array Value} {T : TypeId} {fr : Nat × Nat} (h1 : w.heap[i]? = some (.cells C T fr)) (hT : T ≠ e) : W.heap[i]? = w.heap[i]? :=
 hg i (heap_in h1) fun e2 => by
  obtain ⟨_, cu, e4⟩ := own_type hv e2
  rw [h1] at e4
  injection e4 with e4; injection e4 with _ e4 _; exact hT e4
theorem CMem.grow (k : CMem w B p h g cg ch vs c) {g' cg' : Nat} (hg : ∀ i, i < w.heap.size -> (Value.slice (some ⟨g, 0, none⟩) c.blocks.length cg).ownBlock ≠ some i -> W.heap[i]? = w.heap[i]?)
  (hown : W.ownsRow B 41 1 (.slice (some ⟨g', 0, none⟩) (c.blocks.length + 1) cg') (c.blocks.length + 1) (vs ++ [.slice none 0 0])) :
  CMem (W.setCell ⟨p, 0, none⟩ (.slice (some ⟨g', 0, none⟩) (c.blocks.length + 1) cg')) B p h g' cg' ch (vs ++ [.slice none 0 0]) { c with blocks := c.blocks ++ [[]] } /\ KeptC h w (W.setCell ⟨p, 0, none⟩ (.slice (some ⟨g', 0, none⟩) (c.blocks.length + 1) cg')) := by
 have hW : W.heap[p]? = some (.cells #[.slice (some ⟨g, 0, none⟩) c.blocks.length cg, .slice (some ⟨h, 0, none⟩) c.params.length ch] 63 (0, 0)) := (others k.rows hg k.box (by decide)).trans k.box
 have np : ∀ {i : Nat} {C : Array Value} {T : TypeId} {fr : Nat × Nat}, w.heap[i]? = some (.cells C T fr) -> T ≠ 63 -> i ≠ p := fun h1 h2 e => by
  rw [e, k.box] at h1
  injection h1 with h1; injection h1 with _ h1 _; exact h2 h1.symm
 have np2 : ∀ {i : Nat} {C : Array Value} {T : TypeId} {fr : Nat × Nat}, W.heap[i]? = some (.cells C T fr) -> T ≠ 63 -> i ≠ p := fun h1 h2 e => by
  rw [e, hW] at h1
  injection h1 with h1; injection h1 with _ h1 _; exact h2 h1.symm
 have el : (c.blocks ++ [[]]).length = c.blocks.length + 1 := by simp
 refine ⟨⟨k.lep, by have := k.few; rw [el]; exact Nat.le_succ_of_le this, ?_, ?_, ?_, ?_, ?_⟩, ?_⟩
 ·rw [el]; exact heap_set_same hW
 ·rw [el]
  refine own_kept hown fun i hi => heap_set_other ?_
  obtain ⟨_, cu, e4⟩ := own_type hown hi
  exact np2 e4 (by decide)
 ·refine own_kept k.pars fun i hi => ?_
  obtain ⟨_, cu, e4⟩ := own_type k.pars hi
  exact (heap_set_other (np e4 (by decide))).trans (others k.rows hg e4 (by decide))
 ·intro i v l h1 h2
  by_cases hi : i < c.blocks.length
  ·rw [List.getElem?_append_left (by rw [k.len]; exact hi)] at h1
   rw [List.getElem?_append_left hi] at h2
   refine own_kept (k.each i v l h1 h2) fun j hj => ?_
   obtain ⟨_, cu, e4⟩ := own_type (k.each i v l h1 h2) hj
   exact (heap_set_other (np e4 (by decide))).trans (others k.rows hg e4 (by decide))
  ·have hl := (List.getElem?_eq_some_iff.1 h2).1
   simp at hl
   obtain rfl : i = c.blocks.length := by omega
   rw [List.getElem?_append_right (by rw [k.len]; exact Nat.le_refl _), k.len, Nat.sub_self] at h1
   rw [List.getElem?_append_right (Nat.le_refl _), Nat.sub_self] at h2
   simp at h1 h2
   subst h1 h2
   exact ⟨rfl, .inl ⟨rfl, rfl⟩⟩
 ·intro i j v u q h1 h2 h3 h4
  have old : ∀ (i : Nat) (v : Value) (q : Nat), (vs ++ [Value.slice none 0 0])[i]? = some v -> v.ownBlock = some q -> vs[i]? = some v := fun i v q e1 e2 => by
   by_cases hi : i < vs.length
   ·rwa [List.getElem?_append_left hi] at e1
   ·have hl := (List.getElem?_eq_some_iff.1 e1).1
    simp at hl
    obtain rfl : i = vs.length := by omega
    rw [List.getElem?_append_right (Nat.le_refl _), Nat.sub_self] at e1
    simp at e1
    subst e1
    cases e2
  exact k.apart i j v u q (old i v q h1 h3) (old j u q h2 h4) h3 h4
 ·intro i C T fr h1 h2 h3 _ _
  exact ((heap_set_other (np h1 h2)).trans (others k.rows hg h1 h3)).trans h1
theorem CMem.par (k : CMem w B p h g cg ch vs c) (hfew : c.params.length + 1 <= c.blocks.length) {h' ch' : Nat} {s : Bs} (hg : ∀ i, i < w.heap.size -> (Value.slice (some ⟨h, 0, none⟩) c.params.length ch).ownBlock ≠ some i -> W.heap[i]? = w.heap[i]?)
  (hown : W.ownsRow B 9 1 (.slice (some ⟨h', 0, none⟩) (c.params.length + 1) ch') (c.params.length + 1) (c.params.map strV ++ [strV s])) :
  CMem (W.setCell ⟨p, 1, none⟩ (.slice (some ⟨h', 0, none⟩) (c.params.length + 1) ch')) B p h' g cg ch' vs { c with params := c.params ++ [s] } /\ KeptC h w (W.setCell ⟨p, 1, none⟩ (.slice (some ⟨h', 0, none⟩) (c.params.length + 1) ch')) := by
 have hW : W.heap[p]? = some (.cells #[.slice (some ⟨g, 0, none⟩) c.blocks.length cg, .slice (some ⟨h, 0, none⟩) c.params.length ch] 63 (0, 0)) := (others k.pars hg k.box (by decide)).trans k.box
 have np : ∀ {i : Nat} {C : Array Value} {T : TypeId} {fr : Nat × Nat}, w.heap[i]? = some (.cells C T fr) -> T ≠ 63 -> i ≠ p := fun h1 h2 e => by
  rw [e, k.box] at h1
  injection h1 with h1; injection h1 with _ h1 _; exact h2 h1.symm
 have np2 : ∀ {i : Nat} {C : Array Value} {T : TypeId} {fr : Nat × Nat}, W.heap[i]? = some (.cells C T fr) -> T ≠ 63 -> i ≠ p := fun h1 h2 e => by
  rw [e, hW] at h1
  injection h1 with h1; injection h1 with _ h1 _; exact h2 h1.symm
 have el : (c.params ++ [s]).length = c.params.length + 1 := by simp
 refine ⟨⟨k.lep, by rw [el]; exact hfew, ?_, ?_, ?_, ?_, k.apart⟩, ?_⟩
 ·rw [el]; exact heap_set_same hW
 ·refine own_kept k.rows fun i hi => ?_
  obtain ⟨_, cu, e4⟩ := own_type k.rows hi
  exact (heap_set_other (np e4 (by decide))).trans (others k.pars hg e4 (by decide))
 ·rw [el, List.map_append]
  refine own_kept hown fun i hi => heap_set_other ?_
  obtain ⟨_, cu, e4⟩ := own_type hown hi
  exact np2 e4 (by decide)
 ·intro i v l h1 h2
  refine own_kept (k.each i v l h1 h2) fun j hj => ?_
  obtain ⟨_, cu, e4⟩ := own_type (k.each i v l h1 h2) hj
  exact (heap_set_other (np e4 (by decide))).trans (others k.pars hg e4 (by decide))
 ·intro i C T fr h1 h2 _ _ h5
  refine ((heap_set_other (np h1 h2)).trans (hg i (heap_in h1) fun e => ?_)).trans h1
  injection e with e
  exact h5 e.symm
theorem own_keptC {n : Nat} {v : Value} {xs : List Value} (hv : w.ownsRow B 9 1 v n xs) (hK : KeptC h w W) (hh : h < B) : W.ownsRow B 9 1 v n xs :=
 own_kept hv fun i hi => by
  obtain ⟨hB, cu, e4⟩ := own_type hv hi
  exact (hK i _ _ _ e4 (by decide) (by decide) (by decide) (by omega)).trans e4.symm
theorem step_append_own {P : Program} {w : World} {ops : Array Oper} {o : Oper} {a : Act} {K : Act -> World -> Prop} {Q : Exit -> Act -> World -> Prop} {E : Prop}
  (hgd : o.guard = none) (s x : Operand) (t : TypeId) (ho : o.op = .call { callee := .builtin .append, args := #[s, x], argTypes := #[t, t] })
  (base : Nat) (e : TypeId) (i : TypeInfo) (z : Value) (size bytes : Nat) (ht : P.underlying t = some (.slice e)) (hi : P.info? e = some i) (hz : i.zero = some z)
  (hsize : i.size = size) (hby : i.bytes = bytes) (hzs : z.cells.size = size) (hsz : 0 < size)
  (v : Value) (n : Nat) (xs : List Value) (hs : a.eval s = v) (hown : w.ownsRow base e size v n xs)
  (ad : Addr) (m c : Nat) (news : List Value) (hx : a.eval x = .slice (some ad) m c) (hl : news.length = m * size) (hnews : ∀ j u, news[j]? = some u -> w.cell? (ad.add j) = some u) (h1 : ∀ u ∈ news, u.oneCell' = true)
  (h63 : n + m <= maxLen) (hbytes : (n + m) * bytes <= 140737488355328) (hbase : base <= w.heap.size)
  (h : ∀ v' w', w'.ownsRow base e size v' (n + m) (xs ++ news) -> w.grownBy w' v.ownBlock -> (v'.ownBlock = v.ownBlock \/ v'.ownBlock = some w.heap.size) -> K (a.put o.dst v') w') :
  if Region.wanted o (yielded ops a.tmps) = true then Oper.wp P o a w K Q else E := by
 have hw : Region.wanted o (yielded ops a.tmps) = true := by simp [Region.wanted, hgd]
 rw [if_pos hw]
 obtain ⟨v', w', hr, h2, h3, h4, h5⟩ := run_append_own_at (P := P) w base t o.type e i z size bytes ht hi hz hsize hby hzs hsz v n xs hown ad m c news hl hnews h1 h63 hbytes hbase
 unfold Oper.wp execOp
 simp only [ho, resolve, invoke, builtin, Sem.run_bind, Sem.run_pure, Result.andThen_ok, List.map_toArray, List.map_cons, List.map_nil, hs, hx, hr]
 exact h v' w' h2 h3 h5
end Go.Proofs.YtlpgigdegnbkmaaGreatDoor
