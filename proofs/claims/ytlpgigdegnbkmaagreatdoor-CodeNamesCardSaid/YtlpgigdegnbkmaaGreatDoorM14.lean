import Derived.Test.YtlpgigdegnbkmaaGreatDoorM11
import Derived.MapKept
set_option maxRecDepth 100000
set_option maxHeartbeats 8000000
namespace Go.Proofs.YtlpgigdegnbkmaaGreatDoor
open Go.RowKit Tab Tryz
theorem run_insert_int {P : Program} {w : World} {T K E : TypeId} (hT : P.underlying T = some (.map K E)) (hK : P.underlying K = some (.int .i64)) (b : Nat) (es : List MapEntry) (cl : Nat) (hb : w.heap[b]? = some (.map es.toArray cl)) (k : Int) (x : Value)
  (hf : Instr.findNow (.int .i64) (.int .i64 k) es 0 = some none) : (Instr.mapUpdate T (.map (some b)) (.int .i64 k) x).run P w = .ok () ({ w with heap := w.heap.setIfInBounds b (.map (es ++ [({ key := .int .i64 k, val := x, born := cl } : MapEntry)]).toArray (cl + 1)) }) := by
 have u1 : ∀ w, (underlying T).run P w = .ok (.map K E) w := run_underlying hT
 have u2 : ∀ w, (underlying K).run P w = .ok (.int .i64) w := run_underlying hK
 unfold Instr.mapUpdate
 simp only [Sem.run_bind, u1, Result.andThen_ok, Go.MapKept.run_getObj_map hb, Go.MapKept.run_checkKey hK (show Go.MapKept.IsKey (.int .i64) (.int .i64 k) from rfl)]
 unfold Instr.findKey
 simp only [Sem.run_bind, u2, Result.andThen_ok, hf, Sem.run_pure]
 rw [Go.MapKept.run_setObj_map _ hb]
 simp
theorem run_lookup_int {P : Program} {w : World} {T K E : TypeId} (hT : P.underlying T = some (.map K E)) (hK : P.underlying K = some (.int .i64)) (z : Value) (hz : ∀ w, (zeroValue E).run P w = .ok z w) (b : Nat) (es : List MapEntry) (cl : Nat) (hb : w.heap[b]? = some (.map es.toArray cl)) (k : Int) (o : Option (Nat × Value))
  (hf : Instr.findNow (.int .i64) (.int .i64 k) es 0 = some o) : (Instr.lookup T (.map (some b)) (.int .i64 k) true).run P w = .ok (match o with | some (_, v) => .tuple #[v, .bool true] | none => .tuple #[z, .bool false]) w := by
 have u1 : ∀ w, (underlying T).run P w = .ok (.map K E) w := run_underlying hT
 have u2 : ∀ w, (underlying K).run P w = .ok (.int .i64) w := run_underlying hK
 unfold Instr.lookup
 simp only [Sem.run_bind, u1, Result.andThen_ok, Go.MapKept.run_getObj_map hb, Go.MapKept.run_checkKey hK (show Go.MapKept.IsKey (.int .i64) (.int .i64 k) from rfl), Sem.run_pure]
 unfold Instr.findKey
 simp only [Sem.run_bind, u2, Result.andThen_ok, hf, Sem.run_pure]
 cases o with
 | none => simp [hz]
 | some p => rfl
theorem zeroFn : ∀ w, (zeroValue 66).run prog w = .ok .nilFunc w := fun _ => by kernel_rfl
theorem wpList_insert {P : Program} {ops : Array Oper} {rest : List Oper} {o : Oper} {a : Act} {w : World} {Q : Exit -> Act -> World -> Prop} (hgd : o.guard = none) {T KT E : TypeId} (m x : Operand) (k : Int) (ho : o.op = .insert T m (.const (.int .i64 k)) x)
  (hT : P.underlying T = some (.map KT E)) (hK : P.underlying KT = some (.int .i64)) (b : Nat) (es : List MapEntry) (cl : Nat) (hm : a.eval m = .map (some b)) (xv : Value) (hx : a.eval x = xv) (hb : w.heap[b]? = some (.map es.toArray cl))
  (hf : Instr.findNow (.int .i64) (.int .i64 k) es 0 = some none) (h : ∀ W, Below b w W -> W.heap[b]? = some (.map (es ++ [({ key := .int .i64 k, val := xv, born := cl } : MapEntry)]).toArray (cl + 1)) -> wpList P ops Q rest (a.put o.dst undef) W) : wpList P ops Q (o :: rest) a w := by
 refine wpList_plain hgd fun K hK' => ?_
 unfold Oper.wp execOp
 simp only [ho]
 have hc : a.eval (.const (.int .i64 k)) = .int .i64 k := rfl
 simp only [hm, hx, hc, Sem.run_bind, run_insert_int hT hK b es cl hb k xv hf, Result.andThen_ok, Sem.run_pure]
 have hbl := (Array.getElem?_eq_some_iff.1 hb).1
 refine hK' _ _ (h _ ⟨rfl, rfl, rfl, by simp, fun i hi => ?_⟩ ?_)
 ·simp only [Array.getElem?_setIfInBounds]
  rw [if_neg (by omega)]
 ·simp only [Array.getElem?_setIfInBounds, if_true, hbl]
theorem wpList_lookup {P : Program} {ops : Array Oper} {rest : List Oper} {o : Oper} {a : Act} {w : World} {Q : Exit -> Act -> World -> Prop} (hgd : o.guard = none) {T KT E : TypeId} (m x : Operand) (ho : o.op = .lookup T m x true)
  (hT : P.underlying T = some (.map KT E)) (hK : P.underlying KT = some (.int .i64)) (z : Value) (hz : ∀ w, (zeroValue E).run P w = .ok z w) (b : Nat) (es : List MapEntry) (cl : Nat) (hm : a.eval m = .map (some b)) (k : Int) (hx : a.eval x = .int .i64 k) (hb : w.heap[b]? = some (.map es.toArray cl))
  (r : Option (Nat × Value)) (hf : Instr.findNow (.int .i64) (.int .i64 k) es 0 = some r) (h : wpList P ops Q rest (a.put o.dst (match r with | some (_, v) => .tuple #[v, .bool true] | none => .tuple #[z, .bool false])) w) : wpList P ops Q (o :: rest) a w := by
 refine wpList_plain hgd fun K hK' => ?_
 unfold Oper.wp execOp
 simp only [ho]
 simp only [hm, hx, Sem.run_bind, run_lookup_int hT hK z hz b es cl hb k r hf, Result.andThen_ok, Sem.run_pure]
 exact hK' _ _ h
theorem tree_fn (w0 : World) (f g i : Nat) (k : Int) (hgk : (k = 12 /\ g = 43 /\ i = 0) \/ (k = 16 /\ g = 44 /\ i = 1) \/ (k = 14 /\ g = 45 /\ i = 2) \/ (k = 15 /\ g = 46 /\ i = 3) \/ (k = 7 /\ g = 47 /\ i = 4)) (H : WriteK g k w0 f) : WriteK 23 k w0 f := by
 intro p h b a kc K c n cs w hw hc hb hk hn hkind hwt hsm
 have cX := fun W hW hC hk => H p h b a kc K c n cs W hW hC hb hk hn hkind hwt hsm
 obtain ⟨na, nc, rfl, hnc, hok, hkids⟩ := hn
 have HK := Lib.hid hkind
 have HG := Lib.hid hgk
 clear hkind hkids hsm hgk
 unfold blkV at cX ⊢
 rw [nodeA_eq] at cX ⊢
 have zB := hw.size
 obtain ⟨NA, hNA⟩ : ∃ A, nodeA n (.slice na n.kids.length nc) = A := ⟨_, rfl⟩
 unfold nodeA at *
 have HNA := Lib.hid hNA
 clear hNA
 have hsz : (prog.info? 30).map (·.size) = some NA.size := by rw [cellsNode, <- HNA.out]; rfl
 rw [HNA.out] at cX
 have HZ := Lib.hid hsz
 clear hsz
 go_enter func23, ntmps23
 go_upto_region 1 with (fail)
 refine wp_abs2 (fun W => Below w.heap.size w W /\ W.heap[w.heap.size]? = some (.cells #[.pointer (some ⟨p, 0, none⟩), .int .i64 (b : Int), .slice a K.length kc] 65 (0, 0)) /\ W.heap[w.heap.size + 1]? = some (.cells NA 30 (0, 0))) ⟨belx, heap_alloc2_old _ _ _, by rw [<- HNA.out]; exact heap_alloc2_new _ _ _⟩ ?_
 rintro w1 ⟨hb1, q1, r1⟩
 obtain ⟨f1, -, z1⟩ := lie_cell q1; obtain ⟨g1, -, y1⟩ := lie_cell r1; rw [<- HNA.out] at g1
 have hc1 := hc.below hb1
 have HQ := Lib.hid (And.intro q1 r1)
 clear q1 r1
 refine wp_region_lit ?_
 refine st ?_
 refine wpList_abs (fun W => Below w1.heap.size w1 W /\ W.heap[w1.heap.size]? = some (.map (([] : List MapEntry)).toArray 0)) ⟨(Below.refl _ _).alloc (Nat.le_refl _) _, heap_alloc_new _ _⟩ ?_
 rintro m0 ⟨hm0, k0⟩
 have u0 : m0.cell? ⟨w.heap.size, 0, none⟩ = some (.pointer (some ⟨p, 0, none⟩)) := (hm0.cell (p := ⟨w.heap.size, 0, none⟩) z1).trans (f1 0)
 have v0 : m0.cell? ⟨w.heap.size, 1, none⟩ = some (.int .i64 (b : Int)) := (hm0.cell (p := ⟨w.heap.size, 1, none⟩) z1).trans (f1 1)
 have x0 : m0.cell? ⟨w.heap.size, 2, none⟩ = some (.slice a K.length kc) := (hm0.cell (p := ⟨w.heap.size, 2, none⟩) z1).trans (f1 2)
 refine st ?_
 refine st ?_
 refine wpList_insert rfl (.tmp 8) (.tmp 10) 12 rfl underlying100 underlying3 w1.heap.size _ 0 rfl (.func (.func 43) #[.agg #[.pointer (some ⟨p, 0, none⟩), .int .i64 (b : Int), .slice a K.length kc]] #[]) rfl k0 rfl ?_
 intro m1 hmm1 k1
 have hm1 := hm0.trans hmm1
 clear u0 v0 x0
 have u1 : m1.cell? ⟨w.heap.size, 0, none⟩ = some (.pointer (some ⟨p, 0, none⟩)) := (hm1.cell (p := ⟨w.heap.size, 0, none⟩) z1).trans (f1 0)
 have v1 : m1.cell? ⟨w.heap.size, 1, none⟩ = some (.int .i64 (b : Int)) := (hm1.cell (p := ⟨w.heap.size, 1, none⟩) z1).trans (f1 1)
 have x1 : m1.cell? ⟨w.heap.size, 2, none⟩ = some (.slice a K.length kc) := (hm1.cell (p := ⟨w.heap.size, 2, none⟩) z1).trans (f1 2)
 refine st ?_
 refine st ?_
 refine wpList_insert rfl (.tmp 8) (.tmp 12) 16 rfl underlying100 underlying3 w1.heap.size _ 1 rfl (.func (.func 44) #[.agg #[.pointer (some ⟨p, 0, none⟩), .int .i64 (b : Int), .slice a K.length kc]] #[]) rfl k1 rfl ?_
 intro m2 hmm2 k2
 have hm2 := hm1.trans hmm2
 clear u1 v1 x1
 have u2 : m2.cell? ⟨w.heap.size, 0, none⟩ = some (.pointer (some ⟨p, 0, none⟩)) := (hm2.cell (p := ⟨w.heap.size, 0, none⟩) z1).trans (f1 0)
 have v2 : m2.cell? ⟨w.heap.size, 1, none⟩ = some (.int .i64 (b : Int)) := (hm2.cell (p := ⟨w.heap.size, 1, none⟩) z1).trans (f1 1)
 have x2 : m2.cell? ⟨w.heap.size, 2, none⟩ = some (.slice a K.length kc) := (hm2.cell (p := ⟨w.heap.size, 2, none⟩) z1).trans (f1 2)
 refine st ?_
 refine st ?_
 refine wpList_insert rfl (.tmp 8) (.tmp 14) 14 rfl underlying100 underlying3 w1.heap.size _ 2 rfl (.func (.func 45) #[.agg #[.pointer (some ⟨p, 0, none⟩), .int .i64 (b : Int), .slice a K.length kc]] #[]) rfl k2 rfl ?_
 intro m3 hmm3 k3
 have hm3 := hm2.trans hmm3
 clear u2 v2 x2
 have u3 : m3.cell? ⟨w.heap.size, 0, none⟩ = some (.pointer (some ⟨p, 0, none⟩)) := (hm3.cell (p := ⟨w.heap.size, 0, none⟩) z1).trans (f1 0)
 have v3 : m3.cell? ⟨w.heap.size, 1, none⟩ = some (.int .i64 (b : Int)) := (hm3.cell (p := ⟨w.heap.size, 1, none⟩) z1).trans (f1 1)
 have x3 : m3.cell? ⟨w.heap.size, 2, none⟩ = some (.slice a K.length kc) := (hm3.cell (p := ⟨w.heap.size, 2, none⟩) z1).trans (f1 2)
 refine st ?_
 refine st ?_
 refine wpList_insert rfl (.tmp 8) (.tmp 16) 15 rfl underlying100 underlying3 w1.heap.size _ 3 rfl (.func (.func 46) #[.agg #[.pointer (some ⟨p, 0, none⟩), .int .i64 (b : Int), .slice a K.length kc]] #[]) rfl k3 rfl ?_
 intro m4 hmm4 k4
 have hm4 := hm3.trans hmm4
 clear u3 v3 x3
 have u4 : m4.cell? ⟨w.heap.size, 0, none⟩ = some (.pointer (some ⟨p, 0, none⟩)) := (hm4.cell (p := ⟨w.heap.size, 0, none⟩) z1).trans (f1 0)
 have v4 : m4.cell? ⟨w.heap.size, 1, none⟩ = some (.int .i64 (b : Int)) := (hm4.cell (p := ⟨w.heap.size, 1, none⟩) z1).trans (f1 1)
 have x4 : m4.cell? ⟨w.heap.size, 2, none⟩ = some (.slice a K.length kc) := (hm4.cell (p := ⟨w.heap.size, 2, none⟩) z1).trans (f1 2)
 refine st ?_
 refine st ?_
 refine wpList_insert rfl (.tmp 8) (.tmp 18) 7 rfl underlying100 underlying3 w1.heap.size _ 4 rfl (.func (.func 47) #[.agg #[.pointer (some ⟨p, 0, none⟩), .int .i64 (b : Int), .slice a K.length kc]] #[]) rfl k4 rfl ?_
 intro m5 hmm5 k5
 have hm5 := hm4.trans hmm5
 clear u4 v4 x4
 refine st ?_
 refine st ?_
 refine wpList_nil ?_
 have q5 := (hm5.block _ z1).trans HQ.out.1
 have r5 := (hm5.block _ y1).trans HQ.out.2
 clear f1 g1 hm0 hm1 hm2 hm3 hm4 hmm1 hmm2 hmm3 hmm4 hmm5 k0 k1 k2 k3 k4 HQ
 obtain ⟨f5, -, z5⟩ := lie_cell q5; obtain ⟨g5, -, y5⟩ := lie_cell r5; rw [<- HNA.out] at g5
 have hb05 : Below w.heap.size w m5 := after hb1 hm5
 have K5 := Lib.hid k5
 clear k5
 go_upto_region 2 with (fail)
 refine wp_region_lit ?_
 iterate 3 refine st ?_
 refine wpList_lookup rfl (.tmp 21) (.tmp 23) rfl underlying100 underlying3 .nilFunc zeroFn w1.heap.size _ 5 rfl n.kind rfl K5.out (some (i, .func (.func g) #[.agg #[.pointer (some ⟨p, 0, none⟩), .int .i64 (b : Int), .slice a K.length kc]] #[])) (by rw [HK.out]; rcases HG.out with ⟨rfl, rfl, rfl⟩ | ⟨rfl, rfl, rfl⟩ | ⟨rfl, rfl, rfl⟩ | ⟨rfl, rfl, rfl⟩ | ⟨rfl, rfl, rfl⟩ <;> rfl) ?_
 dsimp only
 iterate 5 refine st ?_
 refine wpList_nil ?_
 rcases HG.out with ⟨rfl, rfl, rfl⟩ | ⟨rfl, rfl, rfl⟩ | ⟨rfl, rfl, rfl⟩ | ⟨rfl, rfl, rfl⟩ | ⟨rfl, rfl, rfl⟩
 all_goals (
  go_upto_region 4 with (fail)
  have r6 := Lib.hid r5
  clear r5 g5
  refine wp_region_lit ?_
  refine st ?_
  refine wpList_load_row rfl 30 (.tmp 3) rfl (w.heap.size + 1) rfl 30 NA (0, 0) _ r6.out underlying30 rfl HZ.out ?_
  refine wpList_plain rfl (fun KK hKK => ?_)
  go_simp
  refine (cX m5 (hw.trans (hb05.mono zB)) (hc.below hb05) (hk.below hb05)).mono ?_; rintro e w2 ⟨rfl, h2, hh2, S2, hB2, hK2⟩
  refine hKK _ _ ?_
  refine wpList_nil ?_
  have HS3 := Lib.hid S2
  clear S2 f5 hc1
  go_wp2
  go_end0
  exact ⟨rfl, h2, newer (.inl rfl) hh2 hb05.size, HS3.out, (hb05.mono zB).trans hB2, (KeptC.below hb05).trans hK2 (.inl rfl)⟩)
theorem tree_12 (w0 : World) (f : Nat) (H : WriteK 43 12 w0 f) : WriteK 23 12 w0 f := tree_fn w0 f 43 0 12 (by omega) H
theorem tree_16 (w0 : World) (f : Nat) (H : WriteK 44 16 w0 f) : WriteK 23 16 w0 f := tree_fn w0 f 44 1 16 (by omega) H
theorem tree_14 (w0 : World) (f : Nat) (H : WriteK 45 14 w0 f) : WriteK 23 14 w0 f := tree_fn w0 f 45 2 14 (by omega) H
theorem tree_15 (w0 : World) (f : Nat) (H : WriteK 46 15 w0 f) : WriteK 23 15 w0 f := tree_fn w0 f 46 3 15 (by omega) H
theorem tree_7 (w0 : World) (f : Nat) (H : WriteK 47 7 w0 f) : WriteK 23 7 w0 f := tree_fn w0 f 47 4 7 (by omega) H
theorem leaf_any (w0 : World) (f : Nat) (ihE : EachK w0 f) (k : Int) (hkk : k = 1 \/ k = 2 \/ k = 3 \/ k = 4 \/ k = 5 \/ k = 6 \/ k = 9 \/ k = 10 \/ k = 11 \/ k = 13 \/ k = 8) : WriteK 23 k w0 f := by
 intro p h b a kc K c n cs w hw hc hb hk hn hkind hwt hsm
 subst hkind
 obtain ⟨na, nc, rfl, hnc, hok, hkids⟩ := hn
 obtain ⟨X, hX⟩ : ∃ X : InsD, leafI n = X := ⟨_, rfl⟩
 rw [comp_other f c b K [] n (by omega) (by omega) (by omega) (by omega) (by omega), hX] at hsm ⊢
 obtain ⟨D, hD⟩ : ∃ D, n.kids.foldl (fun c k => comp f c b K [] k) c = D := ⟨_, rfl⟩
 have hx : Ext c D := by rw [<- hD]; exact each_ext f b K _ _ hb
 have hbD := Nat.lt_of_lt_of_le hb hx.len
 rw [hD] at hsm ⊢
 have hsD : SmallC D := (ext_put D b _).le.small hsm
 have hkl := hok.kids
 have cE := fun W hW hC hk => ihE p h b a kc K c n.kids na nc W hW hC hb hk hkids hkl (by omega) (by rw [hD]; exact hsD)
 rw [hD] at cE
 have cP := fun W h2 (hW : Below w0.heap.size w0 W) (hc : CodeAt W w0.heap.size p h2 D) => putK (a := a) (kn := K.length) (kc := kc) X hW hc hbD hsm (LenLe.refl _)
 have HS := Lib.hid (And.intro hsm (And.intro hkids (And.intro hD hsD)))
 have HK := Lib.hid hkk
 have N0 : ∀ j : Int, n.kind ≠ j -> (n.kind == j) = false := fun j h => beq_eq_false_iff_ne.2 h
 clear hsm hkids hD hsD hx hkk
 unfold blkV at cE cP
 obtain ⟨XA, hXA⟩ : ∃ XA : List Value, insC X = XA := ⟨_, rfl⟩
 have hXV : insV X = .agg XA.toArray := by rw [<- hXA]; rfl
 rw [hXV] at cP
 have hXl : XA.length = 18 := by rw [<- hXA]; rfl
 have hXo : XA.toArray.all (·.oneCell') = true := by rw [<- hXA]; exact all_oneCell_toArray (insC_one X)
 have HX := Lib.hid (show insC (leafI n) = XA by rw [hX]; exact hXA)
 clear hXA hXV hX
 unfold blkV
 rw [nodeA_eq]
 have zB := hw.size
 obtain ⟨NA, hNA⟩ : ∃ A, nodeA n (.slice na n.kids.length nc) = A := ⟨_, rfl⟩
 unfold nodeA at *
 have HNA := Lib.hid hNA
 clear hNA
 go_enter func23, ntmps23
 go_upto_region 1 with (fail)
 refine wp_abs2 (fun W => Below w.heap.size w W /\ W.heap[w.heap.size]? = some (.cells #[.pointer (some ⟨p, 0, none⟩), .int .i64 (b : Int), .slice a K.length kc] 65 (0, 0)) /\ W.heap[w.heap.size + 1]? = some (.cells NA 30 (0, 0))) ⟨belx, heap_alloc2_old _ _ _, by rw [<- HNA.out]; exact heap_alloc2_new _ _ _⟩ ?_
 rintro w1 ⟨hb1, q1, r1⟩
 obtain ⟨f1, -, z1⟩ := lie_cell q1; obtain ⟨g1, -, y1⟩ := lie_cell r1; rw [<- HNA.out] at g1
 have hc1 := hc.below hb1
 have HQ := Lib.hid (And.intro q1 r1)
 clear q1 r1
 refine wp_region_lit ?_
 refine st ?_
 refine wpList_abs (fun W => Below w1.heap.size w1 W /\ W.heap[w1.heap.size]? = some (.map (([] : List MapEntry)).toArray 0)) ⟨(Below.refl _ _).alloc (Nat.le_refl _) _, heap_alloc_new _ _⟩ ?_
 rintro m0 ⟨hm0, k0⟩
 have u0 : m0.cell? ⟨w.heap.size, 0, none⟩ = some (.pointer (some ⟨p, 0, none⟩)) := (hm0.cell (p := ⟨w.heap.size, 0, none⟩) z1).trans (f1 0)
 have v0 : m0.cell? ⟨w.heap.size, 1, none⟩ = some (.int .i64 (b : Int)) := (hm0.cell (p := ⟨w.heap.size, 1, none⟩) z1).trans (f1 1)
 have x0 : m0.cell? ⟨w.heap.size, 2, none⟩ = some (.slice a K.length kc) := (hm0.cell (p := ⟨w.heap.size, 2, none⟩) z1).trans (f1 2)
 refine st ?_
 refine st ?_
 refine wpList_insert rfl (.tmp 8) (.tmp 10) 12 rfl underlying100 underlying3 w1.heap.size _ 0 rfl (.func (.func 43) #[.agg #[.pointer (some ⟨p, 0, none⟩), .int .i64 (b : Int), .slice a K.length kc]] #[]) rfl k0 rfl ?_
 intro m1 hmm1 k1
 have hm1 := hm0.trans hmm1
 clear u0 v0 x0
 have u1 : m1.cell? ⟨w.heap.size, 0, none⟩ = some (.pointer (some ⟨p, 0, none⟩)) := (hm1.cell (p := ⟨w.heap.size, 0, none⟩) z1).trans (f1 0)
 have v1 : m1.cell? ⟨w.heap.size, 1, none⟩ = some (.int .i64 (b : Int)) := (hm1.cell (p := ⟨w.heap.size, 1, none⟩) z1).trans (f1 1)
 have x1 : m1.cell? ⟨w.heap.size, 2, none⟩ = some (.slice a K.length kc) := (hm1.cell (p := ⟨w.heap.size, 2, none⟩) z1).trans (f1 2)
 refine st ?_
 refine st ?_
 refine wpList_insert rfl (.tmp 8) (.tmp 12) 16 rfl underlying100 underlying3 w1.heap.size _ 1 rfl (.func (.func 44) #[.agg #[.pointer (some ⟨p, 0, none⟩), .int .i64 (b : Int), .slice a K.length kc]] #[]) rfl k1 rfl ?_
 intro m2 hmm2 k2
 have hm2 := hm1.trans hmm2
 clear u1 v1 x1
 have u2 : m2.cell? ⟨w.heap.size, 0, none⟩ = some (.pointer (some ⟨p, 0, none⟩)) := (hm2.cell (p := ⟨w.heap.size, 0, none⟩) z1).trans (f1 0)
 have v2 : m2.cell? ⟨w.heap.size, 1, none⟩ = some (.int .i64 (b : Int)) := (hm2.cell (p := ⟨w.heap.size, 1, none⟩) z1).trans (f1 1)
 have x2 : m2.cell? ⟨w.heap.size, 2, none⟩ = some (.slice a K.length kc) := (hm2.cell (p := ⟨w.heap.size, 2, none⟩) z1).trans (f1 2)
 refine st ?_
 refine st ?_
 refine wpList_insert rfl (.tmp 8) (.tmp 14) 14 rfl underlying100 underlying3 w1.heap.size _ 2 rfl (.func (.func 45) #[.agg #[.pointer (some ⟨p, 0, none⟩), .int .i64 (b : Int), .slice a K.length kc]] #[]) rfl k2 rfl ?_
 intro m3 hmm3 k3
 have hm3 := hm2.trans hmm3
 clear u2 v2 x2
 have u3 : m3.cell? ⟨w.heap.size, 0, none⟩ = some (.pointer (some ⟨p, 0, none⟩)) := (hm3.cell (p := ⟨w.heap.size, 0, none⟩) z1).trans (f1 0)
 have v3 : m3.cell? ⟨w.heap.size, 1, none⟩ = some (.int .i64 (b : Int)) := (hm3.cell (p := ⟨w.heap.size, 1, none⟩) z1).trans (f1 1)
 have x3 : m3.cell? ⟨w.heap.size, 2, none⟩ = some (.slice a K.length kc) := (hm3.cell (p := ⟨w.heap.size, 2, none⟩) z1).trans (f1 2)
 refine st ?_
 refine st ?_
 refine wpList_insert rfl (.tmp 8) (.tmp 16) 15 rfl underlying100 underlying3 w1.heap.size _ 3 rfl (.func (.func 46) #[.agg #[.pointer (some ⟨p, 0, none⟩), .int .i64 (b : Int), .slice a K.length kc]] #[]) rfl k3 rfl ?_
 intro m4 hmm4 k4
 have hm4 := hm3.trans hmm4
 clear u3 v3 x3
 have u4 : m4.cell? ⟨w.heap.size, 0, none⟩ = some (.pointer (some ⟨p, 0, none⟩)) := (hm4.cell (p := ⟨w.heap.size, 0, none⟩) z1).trans (f1 0)
 have v4 : m4.cell? ⟨w.heap.size, 1, none⟩ = some (.int .i64 (b : Int)) := (hm4.cell (p := ⟨w.heap.size, 1, none⟩) z1).trans (f1 1)
 have x4 : m4.cell? ⟨w.heap.size, 2, none⟩ = some (.slice a K.length kc) := (hm4.cell (p := ⟨w.heap.size, 2, none⟩) z1).trans (f1 2)
 refine st ?_
 refine st ?_
 refine wpList_insert rfl (.tmp 8) (.tmp 18) 7 rfl underlying100 underlying3 w1.heap.size _ 4 rfl (.func (.func 47) #[.agg #[.pointer (some ⟨p, 0, none⟩), .int .i64 (b : Int), .slice a K.length kc]] #[]) rfl k4 rfl ?_
 intro m5 hmm5 k5
 have hm5 := hm4.trans hmm5
 clear u4 v4 x4
 refine st ?_
 refine st ?_
 refine wpList_nil ?_
 have q5 := (hm5.block _ z1).trans HQ.out.1
 have r5 := (hm5.block _ y1).trans HQ.out.2
 clear f1 g1 hm0 hm1 hm2 hm3 hm4 hmm1 hmm2 hmm3 hmm4 hmm5 k0 k1 k2 k3 k4 HQ
 obtain ⟨f5, -, z5⟩ := lie_cell q5; obtain ⟨g5, -, y5⟩ := lie_cell r5; rw [<- HNA.out] at g5
 have hb05 : Below w.heap.size w m5 := after hb1 hm5
 have K5 := Lib.hid k5
 clear k5
 go_upto_region 2 with (fail)
 refine wp_region_lit ?_
 iterate 3 refine st ?_
 refine wpList_lookup rfl (.tmp 21) (.tmp 23) rfl underlying100 underlying3 .nilFunc zeroFn w1.heap.size _ 5 rfl n.kind rfl K5.out none (by rcases HK.out with e | e | e | e | e | e | e | e | e | e | e <;> (rw [e]; rfl)) ?_
 dsimp only
 iterate 5 refine st ?_
 refine wpList_nil ?_
 have hc5 := hc.below hb05
 go_wp2_with fail
 refine (cE m5 (hw.trans (hb05.mono zB)) hc5 (hk.below hb05)).mono ?_; rintro e w2 ⟨rfl, h2, hh2, S2, hB2, hK2⟩
 have q2 := hK2.other hc5 q5 (by decide) (by decide) (by decide) (by decide)
 have r2 := hK2.other hc5 r5 (by decide) (by decide) (by decide) (by decide)
 have hb02 : Below w0.heap.size w w2 := (hb05.mono zB).trans hB2
 have hK02 : KeptC h w w2 := (KeptC.below hb05).trans hK2 (.inl rfl)
 have hn2 := newer (h := h) (a := w.heap.size) (.inl rfl) hh2 hb05.size
 have HS2 := Lib.hid (And.intro S2 hc5)
 clear f5 g5 S2 hc5 q5 r5 cE
 obtain ⟨f2, -, z2⟩ := lie_cell q2; obtain ⟨g2, -, y2⟩ := lie_cell r2; rw [<- HNA.out] at g2
 go_upto_region 6 with (fail)
 rename_i K9 hK9
 refine wp_region_lit ?_
 iterate 2 refine st ?_
 refine wpList_store_mid rfl 43 (.tmp 7) (.tmp 35) rfl w2.heap.size 0 _ rfl rfl (whole_there (heap_alloc_new _ _) rfl) cellsIns (all_oneCell_toArray (cs := insC { op := 0 }) (insC_one _)) ?_
 refine wpList_abs (On1 43 w2 #[.int .i64 0, .int .i64 0, .int .i64 0, .string ⟨#[]⟩, .int .i64 0, .int .i64 0, .string ⟨#[]⟩, .int .i64 0, .int .i64 0, .bool false, .bool false, .bool false, .string ⟨#[]⟩, .int .i64 0, .int .i64 0, .bool false, .bool false, .bool false]) ⟨below_cells _ _ _ _ _ ((Below.refl _ _).alloc (Nat.le_refl _) _), box_whole (heap_alloc_new _ _) rfl⟩ ?_
 rintro w3 ⟨hb3, k3⟩
 refine wpList_nil ?_
 have q3 := (hb3.block _ z2).trans q2
 have r3 := (hb3.block _ y2).trans r2
 clear f2 g2
 obtain ⟨f3, -, z3⟩ := lie_cell q3; obtain ⟨g3, -, y3⟩ := lie_cell r3; rw [<- HNA.out] at g3
 refine hK9 _ _ ?_
 go_upto_region 7 with (fail)
 rename_i K8 hK8
 refine wp_region_lit ?_
 iterate 2 refine st ?_
 refine wpList_nil ?_
 refine hK8 _ _ ?_
 go_cut [] from 38 (fun wx => Below w2.heap.size w2 wx /\ wx.heap[w2.heap.size]? = some (.cells XA.toArray 43 (0, 0)))
 case first =>
  rcases HK.out with e | e | e | e | e | e | e | e | e | e | e
  ·skip
   have HX := Lib.hid (show insC { op := 1, m := n.m, e := n.e } = XA by rw [<- HX.out]; unfold leafI; simp only [e]; rfl)
   have e1 : (n.kind == 1) = true := beq_iff_eq.2 e
   clear e
   unfold insC at HX
   try unfold RefD.zero at HX
   go_upto_region 10 with (fail)
   refine wp_region_lit ?_
   iterate 3 refine st ?_
   refine wpList_store_mid rfl 43 (.tmp 7) (.tmp 43) rfl w2.heap.size 0 XA.toArray rfl (by rw [<- HX.out]; rfl) (whole_there k3 (by rw [List.size_toArray, hXl]; rfl)) (by rw [List.size_toArray, hXl]; exact cellsIns) hXo ?_
   refine wpList_abs (On1 43 w2 XA.toArray) ⟨below_cells _ _ _ _ _ hb3, by rw [List.toList_toArray]; exact box_whole k3 (by rw [hXl]; rfl)⟩ ?_
   rintro w4 ⟨hb4, k4⟩
   refine wpList_nil ?_
   clear f3 g3 k3
   go_wp2
   go_meet
   exact ⟨hb4, k4⟩
  ·skip
   have HX := Lib.hid (show insC { op := 2, s := n.text } = XA by rw [<- HX.out]; unfold leafI; simp only [e]; rfl)
   have n1 := N0 1 (by omega)
   have e2 : (n.kind == 2) = true := beq_iff_eq.2 e
   clear e
   unfold insC at HX
   try unfold RefD.zero at HX
   go_upto_region 12 with (fail)
   refine wp_region_lit ?_
   iterate 3 refine st ?_
   refine wpList_store_mid rfl 43 (.tmp 7) (.tmp 48) rfl w2.heap.size 0 XA.toArray rfl (by rw [<- HX.out]; rfl) (whole_there k3 (by rw [List.size_toArray, hXl]; rfl)) (by rw [List.size_toArray, hXl]; exact cellsIns) hXo ?_
   refine wpList_abs (On1 43 w2 XA.toArray) ⟨below_cells _ _ _ _ _ hb3, by rw [List.toList_toArray]; exact box_whole k3 (by rw [hXl]; rfl)⟩ ?_
   rintro w4 ⟨hb4, k4⟩
   refine wpList_nil ?_
   clear f3 g3 k3
   go_wp2
   go_meet
   exact ⟨hb4, k4⟩
  ·skip
   have HX := Lib.hid (show insC { op := 3, a := if n.b then 1 else 0 } = XA by rw [<- HX.out]; unfold leafI; simp only [e]; rfl)
   have n1 := N0 1 (by omega)
   have n2 := N0 2 (by omega)
   have e3 : (n.kind == 3) = true := beq_iff_eq.2 e
   clear e
   unfold insC at HX
   try unfold RefD.zero at HX
   go_upto_region 14 with (fail)
   obtain ⟨fz, gz, zz⟩ := lie_cell k3
   refine wp_region_lit ?_
   iterate 2 refine st ?_
   refine wpList_abs (On1 43 w2 #[.int .i64 3, .int .i64 0, .int .i64 0, .string ⟨#[]⟩, .int .i64 0, .int .i64 0, .string ⟨#[]⟩, .int .i64 0, .int .i64 0, .bool false, .bool false, .bool false, .string ⟨#[]⟩, .int .i64 0, .int .i64 0, .bool false, .bool false, .bool false]) ⟨setB hb3 (Nat.le_refl _), heap_set_same k3⟩ ?_
   rintro w3c ⟨hb3c, k3c⟩
   refine wpList_nil ?_
   have r3c := (hb3c.block _ y2).trans r2
   clear f3 g3 fz gz k3
   obtain ⟨g3c, -, y3c⟩ := lie_cell r3c; rw [<- HNA.out] at g3c
   obtain ⟨fz, gz, zz⟩ := lie_cell k3c
   rcases (Bool.eq_false_or_eq_true n.b).symm with hB | hB
   ·rw [hB] at HX g3c
    clear hB
    go_wp2
    go_meet
    exact ⟨hb3c, by rw [<- HX.out]; exact k3c⟩
   ·rw [hB] at HX g3c
    clear hB
    go_upto_region 16 with (fail)
    refine wp_region_lit ?_
    iterate 2 refine st ?_
    refine wpList_abs (On1 43 w2 XA.toArray) ⟨setB hb3c (Nat.le_refl _), by rw [<- HX.out]; exact heap_set_same k3c⟩ ?_
    rintro w4 ⟨hb4, k4⟩
    refine wpList_nil ?_
    clear g3c fz gz k3c
    go_wp2
    go_meet
    exact ⟨hb4, k4⟩
  ·skip
   have HX := Lib.hid (show insC { op := 4, a := n.err } = XA by rw [<- HX.out]; unfold leafI; simp only [e]; rfl)
   have n1 := N0 1 (by omega)
   have n2 := N0 2 (by omega)
   have n3 := N0 3 (by omega)
   have e4 : (n.kind == 4) = true := beq_iff_eq.2 e
   clear e
   unfold insC at HX
   try unfold RefD.zero at HX
   go_upto_region 18 with (fail)
   refine wp_region_lit ?_
   iterate 3 refine st ?_
   refine wpList_store_mid rfl 43 (.tmp 7) (.tmp 59) rfl w2.heap.size 0 XA.toArray rfl (by rw [<- HX.out]; rfl) (whole_there k3 (by rw [List.size_toArray, hXl]; rfl)) (by rw [List.size_toArray, hXl]; exact cellsIns) hXo ?_
   refine wpList_abs (On1 43 w2 XA.toArray) ⟨below_cells _ _ _ _ _ hb3, by rw [List.toList_toArray]; exact box_whole k3 (by rw [hXl]; rfl)⟩ ?_
   rintro w4 ⟨hb4, k4⟩
   refine wpList_nil ?_
   clear f3 g3 k3
   go_wp2
   go_meet
   exact ⟨hb4, k4⟩
  ·skip
   have HX := Lib.hid (show insC { op := 5, ref := n.ref } = XA by rw [<- HX.out]; unfold leafI; simp only [e]; rfl)
   have n1 := N0 1 (by omega)
   have n2 := N0 2 (by omega)
   have n3 := N0 3 (by omega)
   have n4 := N0 4 (by omega)
   have e5 : (n.kind == 5) = true := beq_iff_eq.2 e
   clear e
   unfold insC at HX
   try unfold RefD.zero at HX
   go_upto_region 20 with (fail)
   refine wp_region_lit ?_
   iterate 3 refine st ?_
   refine wpList_store_mid rfl 43 (.tmp 7) (.tmp 64) rfl w2.heap.size 0 XA.toArray rfl (by rw [<- HX.out]; rfl) (whole_there k3 (by rw [List.size_toArray, hXl]; rfl)) (by rw [List.size_toArray, hXl]; exact cellsIns) hXo ?_
   refine wpList_abs (On1 43 w2 XA.toArray) ⟨below_cells _ _ _ _ _ hb3, by rw [List.toList_toArray]; exact box_whole k3 (by rw [hXl]; rfl)⟩ ?_
   rintro w4 ⟨hb4, k4⟩
   refine wpList_nil ?_
   clear f3 g3 k3
   go_wp2
   go_meet
   exact ⟨hb4, k4⟩
  ·skip
   have HX := Lib.hid (show insC { op := 6, ref := n.ref, far := n.far } = XA by rw [<- HX.out]; unfold leafI; simp only [e]; rfl)
   have n1 := N0 1 (by omega)
   have n2 := N0 2 (by omega)
   have n3 := N0 3 (by omega)
   have n4 := N0 4 (by omega)
   have n5 := N0 5 (by omega)
   have e6 : (n.kind == 6) = true := beq_iff_eq.2 e
   clear e
   unfold insC at HX
   try unfold RefD.zero at HX
   go_upto_region 22 with (fail)
   refine wp_region_lit ?_
   iterate 5 refine st ?_
   refine wpList_store_mid rfl 43 (.tmp 7) (.tmp 71) rfl w2.heap.size 0 XA.toArray rfl (by rw [<- HX.out]; rfl) (whole_there k3 (by rw [List.size_toArray, hXl]; rfl)) (by rw [List.size_toArray, hXl]; exact cellsIns) hXo ?_
   refine wpList_abs (On1 43 w2 XA.toArray) ⟨below_cells _ _ _ _ _ hb3, by rw [List.toList_toArray]; exact box_whole k3 (by rw [hXl]; rfl)⟩ ?_
   rintro w4 ⟨hb4, k4⟩
   refine wpList_nil ?_
   clear f3 g3 k3
   go_wp2
   go_meet
   exact ⟨hb4, k4⟩
  ·skip
   have HX := Lib.hid (show insC { op := 8, s := n.text } = XA by rw [<- HX.out]; unfold leafI; simp only [e]; rfl)
   have n1 := N0 1 (by omega)
   have n2 := N0 2 (by omega)
   have n3 := N0 3 (by omega)
   have n4 := N0 4 (by omega)
   have n5 := N0 5 (by omega)
   have n6 := N0 6 (by omega)
   have e9 : (n.kind == 9) = true := beq_iff_eq.2 e
   clear e
   unfold insC at HX
   try unfold RefD.zero at HX
   go_upto_region 24 with (fail)
   refine wp_region_lit ?_
   iterate 3 refine st ?_
   refine wpList_store_mid rfl 43 (.tmp 7) (.tmp 76) rfl w2.heap.size 0 XA.toArray rfl (by rw [<- HX.out]; rfl) (whole_there k3 (by rw [List.size_toArray, hXl]; rfl)) (by rw [List.size_toArray, hXl]; exact cellsIns) hXo ?_
   refine wpList_abs (On1 43 w2 XA.toArray) ⟨below_cells _ _ _ _ _ hb3, by rw [List.toList_toArray]; exact box_whole k3 (by rw [hXl]; rfl)⟩ ?_
   rintro w4 ⟨hb4, k4⟩
   refine wpList_nil ?_
   clear f3 g3 k3
   go_wp2
   go_meet
   exact ⟨hb4, k4⟩
  ·skip
   have HX := Lib.hid (show insC { op := 9, s := n.text } = XA by rw [<- HX.out]; unfold leafI; simp only [e]; rfl)
   have n1 := N0 1 (by omega)
   have n2 := N0 2 (by omega)
   have n3 := N0 3 (by omega)
   have n4 := N0 4 (by omega)
   have n5 := N0 5 (by omega)
   have n6 := N0 6 (by omega)
   have n9 := N0 9 (by omega)
   have e10 : (n.kind == 10) = true := beq_iff_eq.2 e
   clear e
   unfold insC at HX
   try unfold RefD.zero at HX
   go_upto_region 26 with (fail)
   refine wp_region_lit ?_
   iterate 3 refine st ?_
   refine wpList_store_mid rfl 43 (.tmp 7) (.tmp 81) rfl w2.heap.size 0 XA.toArray rfl (by rw [<- HX.out]; rfl) (whole_there k3 (by rw [List.size_toArray, hXl]; rfl)) (by rw [List.size_toArray, hXl]; exact cellsIns) hXo ?_
   refine wpList_abs (On1 43 w2 XA.toArray) ⟨below_cells _ _ _ _ _ hb3, by rw [List.toList_toArray]; exact box_whole k3 (by rw [hXl]; rfl)⟩ ?_
   rintro w4 ⟨hb4, k4⟩
   refine wpList_nil ?_
   clear f3 g3 k3
   go_wp2
   go_meet
   exact ⟨hb4, k4⟩
  ·skip
   have HX := Lib.hid (show insC { op := 10, s := n.text } = XA by rw [<- HX.out]; unfold leafI; simp only [e]; rfl)
   have n1 := N0 1 (by omega)
   have n2 := N0 2 (by omega)
   have n3 := N0 3 (by omega)
   have n4 := N0 4 (by omega)
   have n5 := N0 5 (by omega)
   have n6 := N0 6 (by omega)
   have n9 := N0 9 (by omega)
   have n10 := N0 10 (by omega)
   have e11 : (n.kind == 11) = true := beq_iff_eq.2 e
   clear e
   unfold insC at HX
   try unfold RefD.zero at HX
   go_upto_region 28 with (fail)
   refine wp_region_lit ?_
   iterate 3 refine st ?_
   refine wpList_store_mid rfl 43 (.tmp 7) (.tmp 86) rfl w2.heap.size 0 XA.toArray rfl (by rw [<- HX.out]; rfl) (whole_there k3 (by rw [List.size_toArray, hXl]; rfl)) (by rw [List.size_toArray, hXl]; exact cellsIns) hXo ?_
   refine wpList_abs (On1 43 w2 XA.toArray) ⟨below_cells _ _ _ _ _ hb3, by rw [List.toList_toArray]; exact box_whole k3 (by rw [hXl]; rfl)⟩ ?_
   rintro w4 ⟨hb4, k4⟩
   refine wpList_nil ?_
   clear f3 g3 k3
   go_wp2
   go_meet
   exact ⟨hb4, k4⟩
  ·skip
   have HX := Lib.hid (show insC { op := 12, a := n.rows, b := (n.kids.length : Int) / n.rows } = XA by rw [<- HX.out]; unfold leafI; simp only [e]; rfl)
   obtain ⟨hro1, hro2⟩ := hok.rows e
   have n1 := N0 1 (by omega)
   have n2 := N0 2 (by omega)
   have n3 := N0 3 (by omega)
   have n4 := N0 4 (by omega)
   have n5 := N0 5 (by omega)
   have n6 := N0 6 (by omega)
   have n9 := N0 9 (by omega)
   have n10 := N0 10 (by omega)
   have n11 := N0 11 (by omega)
   have e13 : (n.kind == 13) = true := beq_iff_eq.2 e
   clear e
   unfold insC at HX
   try unfold RefD.zero at HX
   have hrz : (n.rows == 0) = false := beq_eq_false_iff_ne.2 (by omega)
   have hrn : ¬ n.rows = 0 := by omega
   have hq0 : (0 : Int) <= (n.kids.length : Int) / n.rows := Int.ediv_nonneg (by omega) (by omega)
   have hq1 : (n.kids.length : Int) / n.rows <= (n.kids.length : Int) := Int.ediv_le_self _ (by omega)
   have hqt : (n.kids.length : Int).tdiv n.rows = (n.kids.length : Int) / n.rows := Int.tdiv_eq_ediv_of_nonneg (by omega)
   have hqw : IntKind.i64.wrap ((n.kids.length : Int) / n.rows) = (n.kids.length : Int) / n.rows := by rw [IntWalk.i64_in _ (by omega)]
   generalize hqq : (n.kids.length : Int) / n.rows = QQ at *
   clear hqq
   go_upto_region 30 with (fail)
   have kcc := gcell w3
   refine region_below_tail 9 (by kernel_rfl) (by kernel_rfl) ?_
   simp only [List.take_succ_cons, List.take_zero, List.drop_succ_cons, List.drop_zero]
   repeat (quiet_step (fail))
   refine wpQuiet_nil ?_
   intro w3b hb3b
   replace k3 := kq hb3b k3
   replace hb3 := after hb3 hb3b
   clear kcc
   refine wpList_store_mid rfl 43 (.tmp 7) (.tmp 97) rfl w2.heap.size 0 XA.toArray rfl (by rw [<- HX.out]; rfl) (whole_there k3 (by rw [List.size_toArray, hXl]; rfl)) (by rw [List.size_toArray, hXl]; exact cellsIns) hXo ?_
   refine wpList_abs (On1 43 w2 XA.toArray) ⟨below_cells _ _ _ _ _ hb3, by rw [List.toList_toArray]; exact box_whole k3 (by rw [hXl]; rfl)⟩ ?_
   rintro w4 ⟨hb4, k4⟩
   refine wpList_nil ?_
   clear f3 g3 k3
   go_wp2
   go_meet
   exact ⟨hb4, k4⟩
  ·skip
   have HX := Lib.hid (show insC { op := 4, a := 5 } = XA by rw [<- HX.out]; unfold leafI; simp only [e]; rfl)
   have n1 := N0 1 (by omega)
   have n2 := N0 2 (by omega)
   have n3 := N0 3 (by omega)
   have n4 := N0 4 (by omega)
   have n5 := N0 5 (by omega)
   have n6 := N0 6 (by omega)
   have n9 := N0 9 (by omega)
   have n10 := N0 10 (by omega)
   have n11 := N0 11 (by omega)
   have n13 := N0 13 (by omega)
   clear e
   unfold insC at HX
   try unfold RefD.zero at HX
   go_upto_region 8 with (fail)
   refine wp_region_lit ?_
   iterate 1 refine st ?_
   refine wpList_store_mid rfl 43 (.tmp 7) (.tmp 38) rfl w2.heap.size 0 XA.toArray rfl (by rw [<- HX.out]; rfl) (whole_there k3 (by rw [List.size_toArray, hXl]; rfl)) (by rw [List.size_toArray, hXl]; exact cellsIns) hXo ?_
   refine wpList_abs (On1 43 w2 XA.toArray) ⟨below_cells _ _ _ _ _ hb3, by rw [List.toList_toArray]; exact box_whole k3 (by rw [hXl]; rfl)⟩ ?_
   rintro w4 ⟨hb4, k4⟩
   refine wpList_nil ?_
   clear f3 g3 k3
   go_wp2
   go_meet
   exact ⟨hb4, k4⟩
 case rest =>
  obtain ⟨hb4, k4⟩ := hcut
  have q4 := (hb4.block _ z2).trans q2
  clear f3 g3 k3 q3 r3
  obtain ⟨f4, -, z4⟩ := lie_cell q4
  have hb24 : Below w0.heap.size w wc := hb02.trans (hb4.mono (hw.trans hb02).size)
  go_upto_region 31 with (fail)
  refine wp_region_lit ?_
  refine st ?_
  refine wpList_load_row rfl 43 (.tmp 7) rfl w2.heap.size rfl 43 XA.toArray (0, 0) _ k4 underlying43 rfl (by rw [List.size_toArray, hXl]; exact cellsIns) ?_
  refine wpList_plain rfl (fun KK hKK => ?_)
  go_simp
  refine (cP wc h2 (hw.trans hb24) (HS2.out.1.below hb4)).mono ?_; rintro e w5 ⟨rfl, S5, hB5, hK5⟩
  refine hKK _ _ ?_
  refine wpList_nil ?_
  have HS5 := Lib.hid S5
  clear S5 f4 k4
  go_wp2
  go_end0
  exact ⟨rfl, h2, hn2, HS5.out, hb24.trans hB5, (hK02.trans (KeptC.below hb4) hn2).trans hK5 hn2⟩
theorem tree_1 (w0 : World) (f : Nat) (ihE : EachK w0 f) : WriteK 23 1 w0 f := leaf_any w0 f ihE 1 (by omega)
theorem tree_2 (w0 : World) (f : Nat) (ihE : EachK w0 f) : WriteK 23 2 w0 f := leaf_any w0 f ihE 2 (by omega)
theorem tree_4 (w0 : World) (f : Nat) (ihE : EachK w0 f) : WriteK 23 4 w0 f := leaf_any w0 f ihE 4 (by omega)
theorem tree_5 (w0 : World) (f : Nat) (ihE : EachK w0 f) : WriteK 23 5 w0 f := leaf_any w0 f ihE 5 (by omega)
theorem tree_6 (w0 : World) (f : Nat) (ihE : EachK w0 f) : WriteK 23 6 w0 f := leaf_any w0 f ihE 6 (by omega)
theorem tree_9 (w0 : World) (f : Nat) (ihE : EachK w0 f) : WriteK 23 9 w0 f := leaf_any w0 f ihE 9 (by omega)
theorem tree_10 (w0 : World) (f : Nat) (ihE : EachK w0 f) : WriteK 23 10 w0 f := leaf_any w0 f ihE 10 (by omega)
theorem tree_11 (w0 : World) (f : Nat) (ihE : EachK w0 f) : WriteK 23 11 w0 f := leaf_any w0 f ihE 11 (by omega)
theorem tree_8 (w0 : World) (f : Nat) (ihE : EachK w0 f) : WriteK 23 8 w0 f := leaf_any w0 f ihE 8 (by omega)
theorem tree_13 (w0 : World) (f : Nat) (ihE : EachK w0 f) : WriteK 23 13 w0 f := leaf_any w0 f ihE 13 (by omega)
theorem tree_3 (w0 : World) (f : Nat) (ihE : EachK w0 f) : WriteK 23 3 w0 f := leaf_any w0 f ihE 3 (by omega)
end Go.Proofs.YtlpgigdegnbkmaaGreatDoor
