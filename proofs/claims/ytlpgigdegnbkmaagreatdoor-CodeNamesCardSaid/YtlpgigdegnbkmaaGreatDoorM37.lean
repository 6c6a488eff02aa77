import Derived.Test.YtlpgigdegnbkmaaGreatDoorM36
set_option maxRecDepth 100000
set_option maxHeartbeats 8000000
namespace Tab
open Go
theorem joinB_is : ∀ K : List Bs, joinB 32 K = Lib.join K [32]
 | [] => rfl
 | [x] => by rw [joinB, Lib.join_one]
 | x :: y :: l => by
  rw [joinB, joinB_is (y :: l)]
  ·simp [Lib.join]
  ·simp
theorem joinB_len (K : List Bs) : (joinB 32 K).length <= wtN K := by
 match K with
 | [] => exact Nat.le_refl _
 | [x] => simp [joinB, wtN]
 | x :: y :: l =>
  have ih := joinB_len (y :: l)
  rw [joinB]
  ·simp [wtN] at *; omega
  ·simp
theorem span_len (D : Nat -> Int) (low : Nat) : ∀ n : Nat, (spanD D low n).length <= 2 * n
 | 0 => Nat.le_refl _
 | n + 1 => by
  have := span_len D low n
  rw [span_step]
  split
  ·rw [List.length_append, List.length_cons]
   have : (if n = 47 then [46] else ([] : Bs)).length <= 1 := by split <;> simp
   omega
  ·simp
theorem dectext_len (m e : Int) : (decTextD m e).length <= 300 := by
 unfold decTextD
 split
 ·have h1 := topF_le (layC m e) 96
  have h2 := span_len (layC m e) (lowF48 (layC m e) 48) ((max (topF (layC m e) 96) 48).toNat + 1)
  have h3 : (if m < 0 then [45] else ([] : Bs)).length <= 1 := by split <;> simp
  rw [List.length_append]; omega
 ·simp
theorem word_len (op : Int) (h : 1 <= op /\ op <= 19) : (wordI op).length <= 10 := by
 have := (show ∀ i : Fin 19, (wordI ((i.val : Int) + 1)).length <= 10 by decide +kernel) ⟨(op - 1).toNat, by omega⟩
 rw [show (((⟨(op - 1).toNat, by omega⟩ : Fin 19).val : Int) + 1) = op by simp; omega] at this
 exact this
theorem parts_wt (x : InsD) (h : x.s.length <= 900000) (ha : -9223372036854775808 <= x.a /\ x.a <= 9223372036854775807) (hb : -9223372036854775808 <= x.b /\ x.b <= 9223372036854775807) : wtN (partsI x) <= 950000 := by
 have h1 := dectext_len x.m x.e
 have h2 := text_len x.ref
 have h3 := text_len x.far
 have h4 := Lib.itoa_length_le x.a ha.1 ha.2
 have h5 := Lib.itoa_length_le x.b hb.1 hb.2
 unfold partsI
 repeat' split
 all_goals simp only [wtN, List.map_cons, List.map_nil, List.sum_cons, List.sum_nil]; omega
end Tab
namespace Go.Proofs.YtlpgigdegnbkmaaGreatDoor
open Go.RowKit Tab Tryz
structure LineOk (x : InsD) : Prop where
 dec : -9000000000000000000 <= x.m /\ x.m <= 9000000000000000000
 text : x.s.length <= 900000
 a : -9223372036854775808 <= x.a /\ x.a <= 9223372036854775807
 b : -9223372036854775808 <= x.b /\ x.b <= 9223372036854775807
 refs : x.ref.s.size <= 9223372036854775807 /\ x.far.s.size <= 9223372036854775807
theorem join32_any (a : Option Addr) (c : Nat) (K : List Bs) (w : World) (hI : NamesAt w a c K) (hw : wtN K <= 1000000) : Calls prog 72 #[.slice a K.length c, .string ⟨#[32]⟩] w (Ret (.string ⟨(joinB 32 K).toArray⟩) w) := by
 rcases hI.lies with rfl | ⟨b, o, C, fr, rfl, h1, h2⟩
 ·exact (Tryz.strings_Join_none a c ⟨#[32]⟩ w).mono fun e W ⟨he, hW⟩ => ⟨he, hW ▸ Below.refl _ _⟩
 ·have hl := wtN_len K
  have e1 : (K.map fun x : Bs => (⟨x.toArray⟩ : ByteArray)).length = K.length := by simp
  have e2 : (K.map fun x : Bs => (⟨x.toArray⟩ : ByteArray)).map (·.data.toList) = K := by rw [List.map_map]; exact List.map_id'' (fun _ => rfl) K
  have := Tryz.strings_Join b o c (K.map fun x : Bs => (⟨x.toArray⟩ : ByteArray)) ⟨#[32]⟩ w (fun j x hx => by
   rw [List.getElem?_map] at hx
   obtain ⟨y, hy, rfl⟩ := Option.map_eq_some_iff.1 hx
   unfold World.cell?; rw [h1]; exact h2 j y hy) (heap_in h1) (by rw [e1]; omega) (by rw [e1]; exact hI.cap) (by rw [e2, <- joinB_is]; have := joinB_len K; omega)
  rw [e1, e2, show (⟨#[32]⟩ : ByteArray).data.toList = [32] from rfl, <- joinB_is] at this
  exact this
theorem heap_alloc2_old' (w : World) (A B : Obj) (k : Nat) (h : k < w.heap.size) : ((w.alloc A).alloc B).heap[k]? = w.heap[k]? := by
 rw [heap_alloc_old _ _ (by simp; omega), heap_alloc_old _ _ h]
theorem own_off {w : World} {B b n size : Nat} {v u : Value} {xs : List Value} {C : Array Value} (h : w.ownsRow B 9 size v n xs) (hb : w.heap[b]? = some (.cells C 33 (0, 0))) : World.ownsRow (w.setCell ⟨b, 0, none⟩ u) B 9 size v n xs :=
 own_kept h fun k hk => heap_set_other fun e => by
  subst e
  obtain ⟨_, cur, h2⟩ := own_type h hk
  rw [hb] at h2
  injection h2 with h2; injection h2 with _ h2 _; exact absurd h2 (by decide)
theorem parts_new (w : World) (B : Nat) (hB : B <= w.heap.size) (s : Bs) : PartsAt ((w.alloc (.cells #[.string ⟨s.toArray⟩] 9)).alloc (.cells #[.slice (some ⟨w.heap.size, 0, none⟩) 1 1] 33)) B (w.heap.size + 1) [s] :=
 ⟨by omega, _, heap_alloc2_new w _ _, rfl, .inr ⟨w.heap.size, 1, #[.string ⟨s.toArray⟩], rfl, hB, heap_alloc2_old w _ _, Nat.le_refl 1, by decide, rfl, rfl⟩⟩
theorem parts_read {w : World} {B b : Nat} {xs : List Bs} (h : PartsAt w B b xs) : ∃ a c, w.heap[b]? = some (.cells #[.slice a xs.length c] 33 (0, 0)) /\ NamesAt w a c xs := by
 obtain ⟨_, v, h1, h2⟩ := h
 have h3 := h2
 rcases h3.2 with ⟨rfl, h0⟩ | ⟨g, cap, cur, rfl, _⟩
 ·have : xs = [] := List.length_eq_zero_iff.1 h0
  subst this
  exact ⟨none, 0, h1, NamesAt.nil _ _ _⟩
 ·exact ⟨_, _, h1, own_names h2⟩
theorem line_any (x : InsD) (h : LineOk x) (ho : 1 <= x.op /\ x.op <= 19) (w : World) (hg : Good w) : Calls prog 32 #[insV x] w (Ret (.string ⟨(lineC x).toArray⟩) w) := by
 obtain ⟨k0, hk0⟩ : ∃ k0 : Nat, x.op = (k0 : Int) + 1 := ⟨(x.op - 1).toNat, by omega⟩
 have cW : ∀ W, Calls prog 68 #[.int .i64 x.op] W (Ret (.string ⟨(wordI x.op).toArray⟩) W) := fun W => by rw [hk0]; exact word_any k0 (by omega) W
 have hL : lineC x = [32, 32] ++ (joinB 32 (wordI x.op :: partsI x) ++ [10]) := rfl
 rw [hL]
 have hWl := word_len x.op ho
 generalize wordI x.op = WD at *
 obtain ⟨h1, h2, h3, h4, h5⟩ := h
 obtain ⟨PS, hPS⟩ : ∃ PS, partsI x = PS := ⟨_, rfl⟩
 rw [hPS]
 have HPS := Lib.hid hPS
 have hwt := parts_wt x h2 h3 h4
 rw [hPS] at hwt
 have N0 : ∀ j : Int, x.op ≠ j -> (x.op == j) = false := fun j h => beq_eq_false_iff_ne.2 h
 unfold insV
 clear hL hPS hk0
 go_enter func32, ntmps32
 go_upto_region 1 with (fail)
 refine wp_abs2 (On1 43 w (insC x).toArray) ⟨belx, heap_alloc_new _ _⟩ ?_
 rintro w1 ⟨hb1, q1⟩
 obtain ⟨f1, -, z1⟩ := lie_cell q1
 have c0 : w1.cell? ⟨w.heap.size, 0, none⟩ = some (.int .i64 x.op) := f1 0
 clear f1
 go_wp2_with fail
 refine (cW _).mono ?_; rintro e w2 ⟨rfl, hb2⟩
 have q2 := (hb2.block _ z1).trans q1
 have hb02 := after hb1 hb2
 have z2 := heap_in q2
 clear c0 q1 cW hb1 hb2
 go_upto_region 2 with (fail)
 refine wp_abs2 (fun W => Below w.heap.size w W /\ W.heap[w.heap.size]? = some (.cells (insC x).toArray 43 (0, 0)) /\ PartsAt W (w.heap.size + 1) (w2.heap.size + 1) [WD]) ⟨allocB (allocB hb02), (heap_alloc2_old' w2 _ _ _ z2).trans q2, parts_new w2 (w.heap.size + 1) (by omega) WD⟩ ?_
 rintro w3 ⟨hb3, q3, k3⟩
 obtain ⟨B, hBe⟩ : ∃ B, w2.heap.size + 1 = B := ⟨_, rfl⟩
 rw [hBe] at k3 ⊢
 clear q2 hb02 z2 hBe
 obtain ⟨f3, -, z3⟩ := lie_cell q3
 have c0 : w3.cell? ⟨w.heap.size, 0, none⟩ = some (.int .i64 x.op) := f3 0
 clear f3
 go_upto_region 3 with (fail)
 rename_i K9 hK9
 refine wp_region_lit ?_
 iterate 2 refine st ?_
 refine wpList_nil ?_
 refine hK9 _ _ ?_
 go_cut [3] from 12 (fun v wx => v = .pointer (some ⟨B, 0, none⟩) /\ Below w.heap.size w wx /\ PartsAt wx (w.heap.size + 1) B (WD :: PS))
 case first =>
  have hE : x.op = 1 \/ x.op = 5 \/ x.op = 6 \/ x.op = 7 \/ x.op = 2 \/ x.op = 8 \/ x.op = 9 \/ x.op = 10 \/ x.op = 17 \/ x.op = 18 \/ x.op = 11 \/ x.op = 15 \/ x.op = 12 \/ x.op = 13 \/ (x.op = 3 \/ x.op = 4 \/ x.op = 14 \/ x.op = 16 \/ x.op = 19) := by omega
  rcases hE with e | e | e | e | e | e | e | e | e | e | e | e | e | e | e
  ·skip
   have hps : PS = [decTextD x.m x.e] := by rw [<- HPS.out]; unfold partsI; simp only [e]; rfl
   have e1 : (x.op == 1) = true := beq_iff_eq.2 e
   clear e
   have cD := fun W => decText_any x.m x.e h1 W
   unfold strV at cD
   obtain ⟨E1, hE1⟩ : ∃ E1 : Int, (if decOkD x.m x.e = true then 0 else 10) = E1 := ⟨_, rfl⟩
   rw [hE1] at cD
   clear hE1
   have rg : w3.rangeAt w.heap.size 4 [.int .i64 x.m, .int .i64 x.e] := range_of (lie_cell q3).1 rfl
   go_upto_region 6 with (fail)
   refine wp_region_lit ?_
   iterate 2 refine st ?_
   refine wpList_load_mid rfl 25 (.tmp 21) rfl w.heap.size 4 rfl [.int .i64 x.m, .int .i64 x.e] _ rg underlying25 rfl cellsDec ?_
   clear rg
   go_wp2_with fail
   refine (cD _).mono ?_; rintro e w5 ⟨rfl, hb5⟩
   have q5 := (hb5.block _ z3).trans q3
   have k5 := k3.below hb5
   have hb05 := after hb3 hb5
   clear q3 k3 hb3 hb5
   have hb5 := hb05
   clear hb05
   have z5 := heap_in q5
   go_wp2_with fail
   refine (linePut_any (w.heap.size + 1) B [WD] (decTextD x.m x.e) E1 w5 k5 (by omega) (by simp)).mono ?_
   rintro e w6 ⟨rfl, k6, hB6⟩
   have q6 := (hB6.block _ (by omega)).trans q5
   have hb6 := hb5.trans (hB6.mono (Nat.le_succ _))
   clear q5 k5 hb5 hB6
   have z6 := heap_in q6
   have hE := Lib.hid (And.intro hb6 k6)
   clear q6 k6 hb6
   go_wp2
   go_meet
   exact ⟨rfl, hE.out.1, by rw [hps]; exact hE.out.2⟩
  ·skip
   have hps : PS = [(textD x.ref).1] := by rw [<- HPS.out]; unfold partsI; simp only [e]; rfl
   have n1 := N0 1 (by omega)
   have e5 : (x.op == 5) = true := beq_iff_eq.2 e
   clear e
   have cD := fun W (hW : Below w.heap.size w W) => Text_any x.ref W (hg.below hW) h5.1
   unfold strV refV at cD
   have rg : w3.rangeAt w.heap.size 6 [.string x.ref.s, .int .i64 x.ref.row, .int .i64 x.ref.col, .bool x.ref.fr, .bool x.ref.fc, .bool x.ref.bad] := range_of (lie_cell q3).1 rfl
   go_upto_region 8 with (fail)
   refine wp_region_lit ?_
   iterate 2 refine st ?_
   refine wpList_load_mid rfl 27 (.tmp 30) rfl w.heap.size 6 rfl [.string x.ref.s, .int .i64 x.ref.row, .int .i64 x.ref.col, .bool x.ref.fr, .bool x.ref.fc, .bool x.ref.bad] _ rg underlying27 rfl cellsRef ?_
   clear rg
   go_wp2_with fail
   refine (cD _ hb3).mono ?_; rintro e w5 ⟨rfl, hb5⟩
   have q5 := (hb5.block _ z3).trans q3
   have k5 := k3.below hb5
   have hb05 := after hb3 hb5
   clear q3 k3 hb3 hb5
   have hb5 := hb05
   clear hb05
   have z5 := heap_in q5
   go_wp2_with fail
   refine (linePut_any (w.heap.size + 1) B [WD] ((textD x.ref).1) (textD x.ref).2 w5 k5 (by omega) (by simp)).mono ?_
   rintro e w6 ⟨rfl, k6, hB6⟩
   have q6 := (hB6.block _ (by omega)).trans q5
   have hb6 := hb5.trans (hB6.mono (Nat.le_succ _))
   clear q5 k5 hb5 hB6
   have z6 := heap_in q6
   have hE := Lib.hid (And.intro hb6 k6)
   clear q6 k6 hb6
   go_wp2
   go_meet
   exact ⟨rfl, hE.out.1, by rw [hps]; exact hE.out.2⟩
  ·skip
   have hps : PS = [(textD x.ref).1, (textD x.far).1] := by rw [<- HPS.out]; unfold partsI; simp only [e]; rfl
   have n1 := N0 1 (by omega)
   have n5 := N0 5 (by omega)
   have e6 : (x.op == 6) = true := beq_iff_eq.2 e
   clear e
   have cD := fun W (hW : Below w.heap.size w W) => Text_any x.ref W (hg.below hW) h5.1
   unfold strV refV at cD
   have rg : w3.rangeAt w.heap.size 6 [.string x.ref.s, .int .i64 x.ref.row, .int .i64 x.ref.col, .bool x.ref.fr, .bool x.ref.fc, .bool x.ref.bad] := range_of (lie_cell q3).1 rfl
   go_upto_region 10 with (fail)
   refine wp_region_lit ?_
   iterate 2 refine st ?_
   refine wpList_load_mid rfl 27 (.tmp 39) rfl w.heap.size 6 rfl [.string x.ref.s, .int .i64 x.ref.row, .int .i64 x.ref.col, .bool x.ref.fr, .bool x.ref.fc, .bool x.ref.bad] _ rg underlying27 rfl cellsRef ?_
   clear rg
   go_wp2_with fail
   refine (cD _ hb3).mono ?_; rintro e w5 ⟨rfl, hb5⟩
   have q5 := (hb5.block _ z3).trans q3
   have k5 := k3.below hb5
   have hb05 := after hb3 hb5
   clear q3 k3 hb3 hb5
   have hb5 := hb05
   clear hb05
   have z5 := heap_in q5
   go_wp2_with fail
   refine (linePut_any (w.heap.size + 1) B [WD] ((textD x.ref).1) (textD x.ref).2 w5 k5 (by omega) (by simp)).mono ?_
   rintro e w6 ⟨rfl, k6, hB6⟩
   have q6 := (hB6.block _ (by omega)).trans q5
   have hb6 := hb5.trans (hB6.mono (Nat.le_succ _))
   clear q5 k5 hb5 hB6
   have z6 := heap_in q6
   have cE := fun W (hW : Below w.heap.size w W) => Text_any x.far W (hg.below hW) h5.2
   unfold strV refV at cE
   have rg : w6.rangeAt w.heap.size 12 [.string x.far.s, .int .i64 x.far.row, .int .i64 x.far.col, .bool x.far.fr, .bool x.far.fc, .bool x.far.bad] := range_of (lie_cell q6).1 rfl
   go_upto_region 11 with (fail)
   refine wp_region_lit ?_
   iterate 2 refine st ?_
   refine wpList_load_mid rfl 27 (.tmp 46) rfl w.heap.size 12 rfl [.string x.far.s, .int .i64 x.far.row, .int .i64 x.far.col, .bool x.far.fr, .bool x.far.fc, .bool x.far.bad] _ rg underlying27 rfl cellsRef ?_
   clear rg
   go_wp2_with fail
   refine (cE _ hb6).mono ?_; rintro e w7 ⟨rfl, hb7⟩
   have q7 := (hb7.block _ z6).trans q6
   have k7 := k6.below hb7
   have hb07 := after hb6 hb7
   clear q6 k6 hb6 hb7
   have hb7 := hb07
   clear hb07
   have z7 := heap_in q7
   go_wp2_with fail
   refine (linePut_any (w.heap.size + 1) B [WD, (textD x.ref).1] ((textD x.far).1) (textD x.far).2 w7 k7 (by omega) (by simp)).mono ?_
   rintro e w8 ⟨rfl, k8, hB8⟩
   have q8 := (hB8.block _ (by omega)).trans q7
   have hb8 := hb7.trans (hB8.mono (Nat.le_succ _))
   clear q7 k7 hb7 hB8
   have z8 := heap_in q8
   have hE := Lib.hid (And.intro hb8 k8)
   clear q8 k8 hb8
   go_wp2
   go_meet
   exact ⟨rfl, hE.out.1, by rw [hps]; exact hE.out.2⟩
  ·skip
   have hps : PS = [] := by rw [<- HPS.out]; unfold partsI; simp only [e]; rfl
   have n1 := N0 1 (by omega)
   have n5 := N0 5 (by omega)
   have n6 := N0 6 (by omega)
   have e7 : (x.op == 7) = true := beq_iff_eq.2 e
   clear e
   have hE := Lib.hid (And.intro hb3 k3)
   clear q3 k3 hb3
   go_wp2
   go_meet
   exact ⟨rfl, hE.out.1, by rw [hps]; exact hE.out.2⟩
  ·skip
   have hps : PS = [x.s] := by rw [<- HPS.out]; unfold partsI; simp only [e]; rfl
   have n1 := N0 1 (by omega)
   have n5 := N0 5 (by omega)
   have n6 := N0 6 (by omega)
   have n7 := N0 7 (by omega)
   have e2 : (x.op == 2) = true := beq_iff_eq.2 e
   clear e
   have c3 : w3.cell? ⟨w.heap.size, 3, none⟩ = some (.string ⟨x.s.toArray⟩) := (lie_cell q3).1 3
   go_wp2_with fail
   refine (linePut_any (w.heap.size + 1) B [WD] (x.s) 0 w3 k3 (by omega) (by simp)).mono ?_
   rintro e w4 ⟨rfl, k4, hB4⟩
   have q4 := (hB4.block _ (by omega)).trans q3
   have hb4 := hb3.trans (hB4.mono (Nat.le_succ _))
   clear q3 k3 hb3 hB4
   have z4 := heap_in q4
   clear c3
   have hE := Lib.hid (And.intro hb4 k4)
   clear q4 k4 hb4
   go_wp2
   go_meet
   exact ⟨rfl, hE.out.1, by rw [hps]; exact hE.out.2⟩
  ·skip
   have hps : PS = [x.s] := by rw [<- HPS.out]; unfold partsI; simp only [e]; rfl
   have n1 := N0 1 (by omega)
   have n5 := N0 5 (by omega)
   have n6 := N0 6 (by omega)
   have n7 := N0 7 (by omega)
   have n2 := N0 2 (by omega)
   have e8 : (x.op == 8) = true := beq_iff_eq.2 e
   clear e
   have c3 : w3.cell? ⟨w.heap.size, 3, none⟩ = some (.string ⟨x.s.toArray⟩) := (lie_cell q3).1 3
   go_wp2_with fail
   refine (linePut_any (w.heap.size + 1) B [WD] (x.s) 0 w3 k3 (by omega) (by simp)).mono ?_
   rintro e w4 ⟨rfl, k4, hB4⟩
   have q4 := (hB4.block _ (by omega)).trans q3
   have hb4 := hb3.trans (hB4.mono (Nat.le_succ _))
   clear q3 k3 hb3 hB4
   have z4 := heap_in q4
   clear c3
   have hE := Lib.hid (And.intro hb4 k4)
   clear q4 k4 hb4
   go_wp2
   go_meet
   exact ⟨rfl, hE.out.1, by rw [hps]; exact hE.out.2⟩
  ·skip
   have hps : PS = [x.s] := by rw [<- HPS.out]; unfold partsI; simp only [e]; rfl
   have n1 := N0 1 (by omega)
   have n5 := N0 5 (by omega)
   have n6 := N0 6 (by omega)
   have n7 := N0 7 (by omega)
   have n2 := N0 2 (by omega)
   have n8 := N0 8 (by omega)
   have e9 : (x.op == 9) = true := beq_iff_eq.2 e
   clear e
   have c3 : w3.cell? ⟨w.heap.size, 3, none⟩ = some (.string ⟨x.s.toArray⟩) := (lie_cell q3).1 3
   go_wp2_with fail
   refine (linePut_any (w.heap.size + 1) B [WD] (x.s) 0 w3 k3 (by omega) (by simp)).mono ?_
   rintro e w4 ⟨rfl, k4, hB4⟩
   have q4 := (hB4.block _ (by omega)).trans q3
   have hb4 := hb3.trans (hB4.mono (Nat.le_succ _))
   clear q3 k3 hb3 hB4
   have z4 := heap_in q4
   clear c3
   have hE := Lib.hid (And.intro hb4 k4)
   clear q4 k4 hb4
   go_wp2
   go_meet
   exact ⟨rfl, hE.out.1, by rw [hps]; exact hE.out.2⟩
  ·skip
   have hps : PS = [x.s] := by rw [<- HPS.out]; unfold partsI; simp only [e]; rfl
   have n1 := N0 1 (by omega)
   have n5 := N0 5 (by omega)
   have n6 := N0 6 (by omega)
   have n7 := N0 7 (by omega)
   have n2 := N0 2 (by omega)
   have n8 := N0 8 (by omega)
   have n9 := N0 9 (by omega)
   have e10 : (x.op == 10) = true := beq_iff_eq.2 e
   clear e
   have c3 : w3.cell? ⟨w.heap.size, 3, none⟩ = some (.string ⟨x.s.toArray⟩) := (lie_cell q3).1 3
   go_wp2_with fail
   refine (linePut_any (w.heap.size + 1) B [WD] (x.s) 0 w3 k3 (by omega) (by simp)).mono ?_
   rintro e w4 ⟨rfl, k4, hB4⟩
   have q4 := (hB4.block _ (by omega)).trans q3
   have hb4 := hb3.trans (hB4.mono (Nat.le_succ _))
   clear q3 k3 hb3 hB4
   have z4 := heap_in q4
   clear c3
   have hE := Lib.hid (And.intro hb4 k4)
   clear q4 k4 hb4
   go_wp2
   go_meet
   exact ⟨rfl, hE.out.1, by rw [hps]; exact hE.out.2⟩
  ·skip
   have hps : PS = [x.s] := by rw [<- HPS.out]; unfold partsI; simp only [e]; rfl
   have n1 := N0 1 (by omega)
   have n5 := N0 5 (by omega)
   have n6 := N0 6 (by omega)
   have n7 := N0 7 (by omega)
   have n2 := N0 2 (by omega)
   have n8 := N0 8 (by omega)
   have n9 := N0 9 (by omega)
   have n10 := N0 10 (by omega)
   have e17 : (x.op == 17) = true := beq_iff_eq.2 e
   clear e
   have c3 : w3.cell? ⟨w.heap.size, 3, none⟩ = some (.string ⟨x.s.toArray⟩) := (lie_cell q3).1 3
   go_wp2_with fail
   refine (linePut_any (w.heap.size + 1) B [WD] (x.s) 0 w3 k3 (by omega) (by simp)).mono ?_
   rintro e w4 ⟨rfl, k4, hB4⟩
   have q4 := (hB4.block _ (by omega)).trans q3
   have hb4 := hb3.trans (hB4.mono (Nat.le_succ _))
   clear q3 k3 hb3 hB4
   have z4 := heap_in q4
   clear c3
   have hE := Lib.hid (And.intro hb4 k4)
   clear q4 k4 hb4
   go_wp2
   go_meet
   exact ⟨rfl, hE.out.1, by rw [hps]; exact hE.out.2⟩
  ·skip
   have hps : PS = [x.s] := by rw [<- HPS.out]; unfold partsI; simp only [e]; rfl
   have n1 := N0 1 (by omega)
   have n5 := N0 5 (by omega)
   have n6 := N0 6 (by omega)
   have n7 := N0 7 (by omega)
   have n2 := N0 2 (by omega)
   have n8 := N0 8 (by omega)
   have n9 := N0 9 (by omega)
   have n10 := N0 10 (by omega)
   have n17 := N0 17 (by omega)
   have e18 : (x.op == 18) = true := beq_iff_eq.2 e
   clear e
   have c3 : w3.cell? ⟨w.heap.size, 3, none⟩ = some (.string ⟨x.s.toArray⟩) := (lie_cell q3).1 3
   go_wp2_with fail
   refine (linePut_any (w.heap.size + 1) B [WD] (x.s) 0 w3 k3 (by omega) (by simp)).mono ?_
   rintro e w4 ⟨rfl, k4, hB4⟩
   have q4 := (hB4.block _ (by omega)).trans q3
   have hb4 := hb3.trans (hB4.mono (Nat.le_succ _))
   clear q3 k3 hb3 hB4
   have z4 := heap_in q4
   clear c3
   have hE := Lib.hid (And.intro hb4 k4)
   clear q4 k4 hb4
   go_wp2
   go_meet
   exact ⟨rfl, hE.out.1, by rw [hps]; exact hE.out.2⟩
  ·skip
   have hps : PS = [x.s, Lib.itoa x.a] := by rw [<- HPS.out]; unfold partsI; simp only [e]; rfl
   have n1 := N0 1 (by omega)
   have n5 := N0 5 (by omega)
   have n6 := N0 6 (by omega)
   have n7 := N0 7 (by omega)
   have n2 := N0 2 (by omega)
   have n8 := N0 8 (by omega)
   have n9 := N0 9 (by omega)
   have n10 := N0 10 (by omega)
   have n17 := N0 17 (by omega)
   have n18 := N0 18 (by omega)
   have e11 : (x.op == 11) = true := beq_iff_eq.2 e
   clear e
   have c1 : w3.cell? ⟨w.heap.size, 1, none⟩ = some (.int .i64 x.a) := (lie_cell q3).1 1
   have c3 : w3.cell? ⟨w.heap.size, 3, none⟩ = some (.string ⟨x.s.toArray⟩) := (lie_cell q3).1 3
   go_upto_region 21 with (fail)
   obtain ⟨hBB, v, hbk, hown⟩ := k3
   have fb0 : w3.cell? ⟨B, 0, none⟩ = some v := (lie_cell hbk).1 0
   have zb := heap_in hbk
   obtain ⟨iS, hi, hz0, hz1, hz2⟩ := info_parts infoStr
   have cA := fun W (hW : Below w.heap.size w W) => Itoa_ret x.a h3.1 h3.2 W (hg.below hW)

   have kc := gcell w3
   have hHI := Lib.hid (And.intro hi (And.intro hz0 (And.intro hz1 hz2)))
   have hHO := Lib.hid (And.intro hbk (And.intro hown q3))
   clear hi hz0 hz1 hz2 hbk hown q3
   refine region_made_tail 7 (by kernel_rfl) (by kernel_rfl) fun β => ?_
   simp only [List.take_succ_cons, List.take_zero, List.drop_succ_cons, List.drop_zero]
   iterate 6 (refine wpM_step (fun K hK => ?_); go_simp; first | (refine hK _ ?_; clear hK K) | (apply Exists.intro; refine ⟨fun _ => ⟨by kernel_rfl, ?_⟩, hK _ ?_⟩; (exact (cA _ (after hb3 (below_regrown _ _ _))).mono fun _ _ h => ⟨h.1, h.2⟩); clear hK K))
   refine wpM_make (fun b => .slice (some ⟨b, 0, none⟩) 2 2) (.cells (List.toArray [.string ⟨(x.s : Bs).toArray⟩, .string ⟨(Lib.itoa x.a : Bs).toArray⟩]) 9) rfl (fun W _ => by kernel_rfl) ?_
   refine wpM_nil ?_
   intro w5 ⟨hb5, hla, hap⟩
   obtain ⟨zb5, hl5⟩ := hla 6 _ _ rfl
   have q5 := (hb5.block _ z3).trans hHO.out.2.2
   have r5 := (hb5.block _ zb).trans hHO.out.1
   have o5 := own_below hHO.out.2.1 hb5
   have hb05 := after hb3 hb5
   have hz5 : w.heap.size + 1 <= w5.heap.size := heap_in q5
   clear kc cA  fb0 hHO hla hap hb3 hb5
   refine wpList_append_own_at _ rfl (.tmp 67) (.tmp 73) 33 rfl (w.heap.size + 1) 9 iS _ 1 16 underlying33 hHI.out.1 hHI.out.2.1 hHI.out.2.2.1 hHI.out.2.2.2 rfl (by decide) v 1 (strL [WD]) rfl o5 ⟨β 6, 0, none⟩ 2 2 [.string ⟨(x.s : Bs).toArray⟩, .string ⟨(Lib.itoa x.a : Bs).toArray⟩] rfl rfl ?_ (by intro u hu; simp only [List.mem_cons, List.not_mem_nil, or_false] at hu; rcases hu with rfl | rfl <;> rfl) (by unfold maxLen; omega) (by omega) hz5 ?_
   ·intro j u hj
    rw [Addr.add_mid, Nat.zero_add, (laid_cell hl5).1 j]; simpa using hj
   intro v' w7 hown7 hg7 _ hl7
   have q7 := grow_keeps o5 q5 (by decide) hg7
   have r7 := grow_keeps o5 r5 (by decide) hg7
   have hb7 : Below w.heap.size w w7 := hb05.trans (((Below.refl (w.heap.size + 1) w5).grown hg7 hz5 (fun k hk => (o5.lt k hk).1)).mono (Nat.le_succ _))
   obtain ⟨g7, c7, rfl⟩ := own_shape hown7
   obtain ⟨f7, d7, z7⟩ := lie_cell r7
   have hH7 := Lib.hid (And.intro r7 hown7)
   clear hl5 zb5 o5 q5 r5 hg7 hl7 q7 r7 hown7
   refine st ?_
   refine wpList_abs (fun W => Below w.heap.size w W /\ PartsAt W (w.heap.size + 1) B [WD, x.s, Lib.itoa x.a]) ⟨setB hb7 (by omega), hBB, _, heap_set_same hH7.out.1, own_off hH7.out.2 hH7.out.1⟩ ?_
   rintro w8 ⟨hb8, k8⟩
   refine wpList_nil ?_
   clear hH7 f7 d7 hb05 hb7 hHI
   have hE := Lib.hid (And.intro hb8 k8)
   clear k8 hb8
   go_wp2
   go_meet
   exact ⟨rfl, hE.out.1, by rw [hps]; exact hE.out.2⟩
  ·skip
   have hps : PS = [Lib.itoa x.a, x.s] := by rw [<- HPS.out]; unfold partsI; simp only [e]; rfl
   have n1 := N0 1 (by omega)
   have n5 := N0 5 (by omega)
   have n6 := N0 6 (by omega)
   have n7 := N0 7 (by omega)
   have n2 := N0 2 (by omega)
   have n8 := N0 8 (by omega)
   have n9 := N0 9 (by omega)
   have n10 := N0 10 (by omega)
   have n17 := N0 17 (by omega)
   have n18 := N0 18 (by omega)
   have n11 := N0 11 (by omega)
   have e15 : (x.op == 15) = true := beq_iff_eq.2 e
   clear e
   have c1 : w3.cell? ⟨w.heap.size, 1, none⟩ = some (.int .i64 x.a) := (lie_cell q3).1 1
   have c3 : w3.cell? ⟨w.heap.size, 3, none⟩ = some (.string ⟨x.s.toArray⟩) := (lie_cell q3).1 3
   go_upto_region 23 with (fail)
   obtain ⟨hBB, v, hbk, hown⟩ := k3
   have fb0 : w3.cell? ⟨B, 0, none⟩ = some v := (lie_cell hbk).1 0
   have zb := heap_in hbk
   obtain ⟨iS, hi, hz0, hz1, hz2⟩ := info_parts infoStr
   have cA := fun W (hW : Below w.heap.size w W) => Itoa_ret x.a h3.1 h3.2 W (hg.below hW)

   have kc := gcell w3
   have hHI := Lib.hid (And.intro hi (And.intro hz0 (And.intro hz1 hz2)))
   have hHO := Lib.hid (And.intro hbk (And.intro hown q3))
   clear hi hz0 hz1 hz2 hbk hown q3
   refine region_made_tail 7 (by kernel_rfl) (by kernel_rfl) fun β => ?_
   simp only [List.take_succ_cons, List.take_zero, List.drop_succ_cons, List.drop_zero]
   iterate 6 (refine wpM_step (fun K hK => ?_); go_simp; first | (refine hK _ ?_; clear hK K) | (apply Exists.intro; refine ⟨fun _ => ⟨by kernel_rfl, ?_⟩, hK _ ?_⟩; (exact (cA _ (after hb3 (below_regrown _ _ _))).mono fun _ _ h => ⟨h.1, h.2⟩); clear hK K))
   refine wpM_make (fun b => .slice (some ⟨b, 0, none⟩) 2 2) (.cells (List.toArray [.string ⟨(Lib.itoa x.a : Bs).toArray⟩, .string ⟨(x.s : Bs).toArray⟩]) 9) rfl (fun W _ => by kernel_rfl) ?_
   refine wpM_nil ?_
   intro w5 ⟨hb5, hla, hap⟩
   obtain ⟨zb5, hl5⟩ := hla 6 _ _ rfl
   have q5 := (hb5.block _ z3).trans hHO.out.2.2
   have r5 := (hb5.block _ zb).trans hHO.out.1
   have o5 := own_below hHO.out.2.1 hb5
   have hb05 := after hb3 hb5
   have hz5 : w.heap.size + 1 <= w5.heap.size := heap_in q5
   clear kc cA  fb0 hHO hla hap hb3 hb5
   refine wpList_append_own_at _ rfl (.tmp 77) (.tmp 83) 33 rfl (w.heap.size + 1) 9 iS _ 1 16 underlying33 hHI.out.1 hHI.out.2.1 hHI.out.2.2.1 hHI.out.2.2.2 rfl (by decide) v 1 (strL [WD]) rfl o5 ⟨β 6, 0, none⟩ 2 2 [.string ⟨(Lib.itoa x.a : Bs).toArray⟩, .string ⟨(x.s : Bs).toArray⟩] rfl rfl ?_ (by intro u hu; simp only [List.mem_cons, List.not_mem_nil, or_false] at hu; rcases hu with rfl | rfl <;> rfl) (by unfold maxLen; omega) (by omega) hz5 ?_
   ·intro j u hj
    rw [Addr.add_mid, Nat.zero_add, (laid_cell hl5).1 j]; simpa using hj
   intro v' w7 hown7 hg7 _ hl7
   have q7 := grow_keeps o5 q5 (by decide) hg7
   have r7 := grow_keeps o5 r5 (by decide) hg7
   have hb7 : Below w.heap.size w w7 := hb05.trans (((Below.refl (w.heap.size + 1) w5).grown hg7 hz5 (fun k hk => (o5.lt k hk).1)).mono (Nat.le_succ _))
   obtain ⟨g7, c7, rfl⟩ := own_shape hown7
   obtain ⟨f7, d7, z7⟩ := lie_cell r7
   have hH7 := Lib.hid (And.intro r7 hown7)
   clear hl5 zb5 o5 q5 r5 hg7 hl7 q7 r7 hown7
   refine st ?_
   refine wpList_abs (fun W => Below w.heap.size w W /\ PartsAt W (w.heap.size + 1) B [WD, Lib.itoa x.a, x.s]) ⟨setB hb7 (by omega), hBB, _, heap_set_same hH7.out.1, own_off hH7.out.2 hH7.out.1⟩ ?_
   rintro w8 ⟨hb8, k8⟩
   refine wpList_nil ?_
   clear hH7 f7 d7 hb05 hb7 hHI
   have hE := Lib.hid (And.intro hb8 k8)
   clear k8 hb8
   go_wp2
   go_meet
   exact ⟨rfl, hE.out.1, by rw [hps]; exact hE.out.2⟩
  ·skip
   have hps : PS = [Lib.itoa x.a, Lib.itoa x.b] := by rw [<- HPS.out]; unfold partsI; simp only [e]; rfl
   have n1 := N0 1 (by omega)
   have n5 := N0 5 (by omega)
   have n6 := N0 6 (by omega)
   have n7 := N0 7 (by omega)
   have n2 := N0 2 (by omega)
   have n8 := N0 8 (by omega)
   have n9 := N0 9 (by omega)
   have n10 := N0 10 (by omega)
   have n17 := N0 17 (by omega)
   have n18 := N0 18 (by omega)
   have n11 := N0 11 (by omega)
   have n15 := N0 15 (by omega)
   have e12 : (x.op == 12) = true := beq_iff_eq.2 e
   clear e
   have c1 : w3.cell? ⟨w.heap.size, 1, none⟩ = some (.int .i64 x.a) := (lie_cell q3).1 1
   have c2 : w3.cell? ⟨w.heap.size, 2, none⟩ = some (.int .i64 x.b) := (lie_cell q3).1 2
   go_upto_region 26 with (fail)
   obtain ⟨hBB, v, hbk, hown⟩ := k3
   have fb0 : w3.cell? ⟨B, 0, none⟩ = some v := (lie_cell hbk).1 0
   have zb := heap_in hbk
   obtain ⟨iS, hi, hz0, hz1, hz2⟩ := info_parts infoStr
   have cA := fun W (hW : Below w.heap.size w W) => Itoa_ret x.a h3.1 h3.2 W (hg.below hW)
   have cB := fun W (hW : Below w.heap.size w W) => Itoa_ret x.b h4.1 h4.2 W (hg.below hW)
   have kc := gcell w3
   have hHI := Lib.hid (And.intro hi (And.intro hz0 (And.intro hz1 hz2)))
   have hHO := Lib.hid (And.intro hbk (And.intro hown q3))
   clear hi hz0 hz1 hz2 hbk hown q3
   refine region_made_tail 8 (by kernel_rfl) (by kernel_rfl) fun β => ?_
   simp only [List.take_succ_cons, List.take_zero, List.drop_succ_cons, List.drop_zero]
   iterate 7 (refine wpM_step (fun K hK => ?_); go_simp; first | (refine hK _ ?_; clear hK K) | (apply Exists.intro; refine ⟨fun _ => ⟨by kernel_rfl, ?_⟩, hK _ ?_⟩; (first | exact (cA _ (after hb3 (below_regrown _ _ _))).mono fun _ _ h => ⟨h.1, h.2⟩ | exact (cB _ (after hb3 (below_regrown _ _ _))).mono fun _ _ h => ⟨h.1, h.2⟩); clear hK K))
   refine wpM_make (fun b => .slice (some ⟨b, 0, none⟩) 2 2) (.cells (List.toArray [.string ⟨(Lib.itoa x.a : Bs).toArray⟩, .string ⟨(Lib.itoa x.b : Bs).toArray⟩]) 9) rfl (fun W _ => by kernel_rfl) ?_
   refine wpM_nil ?_
   intro w5 ⟨hb5, hla, hap⟩
   obtain ⟨zb5, hl5⟩ := hla 7 _ _ rfl
   have q5 := (hb5.block _ z3).trans hHO.out.2.2
   have r5 := (hb5.block _ zb).trans hHO.out.1
   have o5 := own_below hHO.out.2.1 hb5
   have hb05 := after hb3 hb5
   have hz5 : w.heap.size + 1 <= w5.heap.size := heap_in q5
   clear kc cA cB fb0 hHO hla hap hb3 hb5
   refine wpList_append_own_at _ rfl (.tmp 88) (.tmp 95) 33 rfl (w.heap.size + 1) 9 iS _ 1 16 underlying33 hHI.out.1 hHI.out.2.1 hHI.out.2.2.1 hHI.out.2.2.2 rfl (by decide) v 1 (strL [WD]) rfl o5 ⟨β 7, 0, none⟩ 2 2 [.string ⟨(Lib.itoa x.a : Bs).toArray⟩, .string ⟨(Lib.itoa x.b : Bs).toArray⟩] rfl rfl ?_ (by intro u hu; simp only [List.mem_cons, List.not_mem_nil, or_false] at hu; rcases hu with rfl | rfl <;> rfl) (by unfold maxLen; omega) (by omega) hz5 ?_
   ·intro j u hj
    rw [Addr.add_mid, Nat.zero_add, (laid_cell hl5).1 j]; simpa using hj
   intro v' w7 hown7 hg7 _ hl7
   have q7 := grow_keeps o5 q5 (by decide) hg7
   have r7 := grow_keeps o5 r5 (by decide) hg7
   have hb7 : Below w.heap.size w w7 := hb05.trans (((Below.refl (w.heap.size + 1) w5).grown hg7 hz5 (fun k hk => (o5.lt k hk).1)).mono (Nat.le_succ _))
   obtain ⟨g7, c7, rfl⟩ := own_shape hown7
   obtain ⟨f7, d7, z7⟩ := lie_cell r7
   have hH7 := Lib.hid (And.intro r7 hown7)
   clear hl5 zb5 o5 q5 r5 hg7 hl7 q7 r7 hown7
   refine st ?_
   refine wpList_abs (fun W => Below w.heap.size w W /\ PartsAt W (w.heap.size + 1) B [WD, Lib.itoa x.a, Lib.itoa x.b]) ⟨setB hb7 (by omega), hBB, _, heap_set_same hH7.out.1, own_off hH7.out.2 hH7.out.1⟩ ?_
   rintro w8 ⟨hb8, k8⟩
   refine wpList_nil ?_
   clear hH7 f7 d7 hb05 hb7 hHI
   have hE := Lib.hid (And.intro hb8 k8)
   clear k8 hb8
   go_wp2
   go_meet
   exact ⟨rfl, hE.out.1, by rw [hps]; exact hE.out.2⟩
  ·skip
   have hps : PS = [Lib.itoa x.a, Lib.itoa x.b] := by rw [<- HPS.out]; unfold partsI; simp only [e]; rfl
   have n1 := N0 1 (by omega)
   have n5 := N0 5 (by omega)
   have n6 := N0 6 (by omega)
   have n7 := N0 7 (by omega)
   have n2 := N0 2 (by omega)
   have n8 := N0 8 (by omega)
   have n9 := N0 9 (by omega)
   have n10 := N0 10 (by omega)
   have n17 := N0 17 (by omega)
   have n18 := N0 18 (by omega)
   have n11 := N0 11 (by omega)
   have n15 := N0 15 (by omega)
   have n12 := N0 12 (by omega)
   have e13 : (x.op == 13) = true := beq_iff_eq.2 e
   clear e
   have c1 : w3.cell? ⟨w.heap.size, 1, none⟩ = some (.int .i64 x.a) := (lie_cell q3).1 1
   have c2 : w3.cell? ⟨w.heap.size, 2, none⟩ = some (.int .i64 x.b) := (lie_cell q3).1 2
   go_upto_region 26 with (fail)
   obtain ⟨hBB, v, hbk, hown⟩ := k3
   have fb0 : w3.cell? ⟨B, 0, none⟩ = some v := (lie_cell hbk).1 0
   have zb := heap_in hbk
   obtain ⟨iS, hi, hz0, hz1, hz2⟩ := info_parts infoStr
   have cA := fun W (hW : Below w.heap.size w W) => Itoa_ret x.a h3.1 h3.2 W (hg.below hW)
   have cB := fun W (hW : Below w.heap.size w W) => Itoa_ret x.b h4.1 h4.2 W (hg.below hW)
   have kc := gcell w3
   have hHI := Lib.hid (And.intro hi (And.intro hz0 (And.intro hz1 hz2)))
   have hHO := Lib.hid (And.intro hbk (And.intro hown q3))
   clear hi hz0 hz1 hz2 hbk hown q3
   refine region_made_tail 8 (by kernel_rfl) (by kernel_rfl) fun β => ?_
   simp only [List.take_succ_cons, List.take_zero, List.drop_succ_cons, List.drop_zero]
   iterate 7 (refine wpM_step (fun K hK => ?_); go_simp; first | (refine hK _ ?_; clear hK K) | (apply Exists.intro; refine ⟨fun _ => ⟨by kernel_rfl, ?_⟩, hK _ ?_⟩; (first | exact (cA _ (after hb3 (below_regrown _ _ _))).mono fun _ _ h => ⟨h.1, h.2⟩ | exact (cB _ (after hb3 (below_regrown _ _ _))).mono fun _ _ h => ⟨h.1, h.2⟩); clear hK K))
   refine wpM_make (fun b => .slice (some ⟨b, 0, none⟩) 2 2) (.cells (List.toArray [.string ⟨(Lib.itoa x.a : Bs).toArray⟩, .string ⟨(Lib.itoa x.b : Bs).toArray⟩]) 9) rfl (fun W _ => by kernel_rfl) ?_
   refine wpM_nil ?_
   intro w5 ⟨hb5, hla, hap⟩
   obtain ⟨zb5, hl5⟩ := hla 7 _ _ rfl
   have q5 := (hb5.block _ z3).trans hHO.out.2.2
   have r5 := (hb5.block _ zb).trans hHO.out.1
   have o5 := own_below hHO.out.2.1 hb5
   have hb05 := after hb3 hb5
   have hz5 : w.heap.size + 1 <= w5.heap.size := heap_in q5
   clear kc cA cB fb0 hHO hla hap hb3 hb5
   refine wpList_append_own_at _ rfl (.tmp 88) (.tmp 95) 33 rfl (w.heap.size + 1) 9 iS _ 1 16 underlying33 hHI.out.1 hHI.out.2.1 hHI.out.2.2.1 hHI.out.2.2.2 rfl (by decide) v 1 (strL [WD]) rfl o5 ⟨β 7, 0, none⟩ 2 2 [.string ⟨(Lib.itoa x.a : Bs).toArray⟩, .string ⟨(Lib.itoa x.b : Bs).toArray⟩] rfl rfl ?_ (by intro u hu; simp only [List.mem_cons, List.not_mem_nil, or_false] at hu; rcases hu with rfl | rfl <;> rfl) (by unfold maxLen; omega) (by omega) hz5 ?_
   ·intro j u hj
    rw [Addr.add_mid, Nat.zero_add, (laid_cell hl5).1 j]; simpa using hj
   intro v' w7 hown7 hg7 _ hl7
   have q7 := grow_keeps o5 q5 (by decide) hg7
   have r7 := grow_keeps o5 r5 (by decide) hg7
   have hb7 : Below w.heap.size w w7 := hb05.trans (((Below.refl (w.heap.size + 1) w5).grown hg7 hz5 (fun k hk => (o5.lt k hk).1)).mono (Nat.le_succ _))
   obtain ⟨g7, c7, rfl⟩ := own_shape hown7
   obtain ⟨f7, d7, z7⟩ := lie_cell r7
   have hH7 := Lib.hid (And.intro r7 hown7)
   clear hl5 zb5 o5 q5 r5 hg7 hl7 q7 r7 hown7
   refine st ?_
   refine wpList_abs (fun W => Below w.heap.size w W /\ PartsAt W (w.heap.size + 1) B [WD, Lib.itoa x.a, Lib.itoa x.b]) ⟨setB hb7 (by omega), hBB, _, heap_set_same hH7.out.1, own_off hH7.out.2 hH7.out.1⟩ ?_
   rintro w8 ⟨hb8, k8⟩
   refine wpList_nil ?_
   clear hH7 f7 d7 hb05 hb7 hHI
   have hE := Lib.hid (And.intro hb8 k8)
   clear k8 hb8
   go_wp2
   go_meet
   exact ⟨rfl, hE.out.1, by rw [hps]; exact hE.out.2⟩
  ·skip
   have hps : PS = [Lib.itoa x.a] := by rw [<- HPS.out]; unfold partsI; rw [if_neg (by omega), if_neg (by omega), if_neg (by omega), if_neg (by omega), if_neg (by omega), if_neg (by omega), if_neg (by omega), if_neg (by omega)]
   have n1 := N0 1 (by omega)
   have n5 := N0 5 (by omega)
   have n6 := N0 6 (by omega)
   have n7 := N0 7 (by omega)
   have n2 := N0 2 (by omega)
   have n8 := N0 8 (by omega)
   have n9 := N0 9 (by omega)
   have n10 := N0 10 (by omega)
   have n17 := N0 17 (by omega)
   have n18 := N0 18 (by omega)
   have n11 := N0 11 (by omega)
   have n15 := N0 15 (by omega)
   have n12 := N0 12 (by omega)
   have n13 := N0 13 (by omega)
   clear e
   have c1 : w3.cell? ⟨w.heap.size, 1, none⟩ = some (.int .i64 x.a) := (lie_cell q3).1 1
   go_upto_region 4 with (fail)
   obtain ⟨hBB, v, hbk, hown⟩ := k3
   have fb0 : w3.cell? ⟨B, 0, none⟩ = some v := (lie_cell hbk).1 0
   have zb := heap_in hbk
   obtain ⟨iS, hi, hz0, hz1, hz2⟩ := info_parts infoStr
   have cA := fun W (hW : Below w.heap.size w W) => Itoa_ret x.a h3.1 h3.2 W (hg.below hW)

   have kc := gcell w3
   have hHI := Lib.hid (And.intro hi (And.intro hz0 (And.intro hz1 hz2)))
   have hHO := Lib.hid (And.intro hbk (And.intro hown q3))
   clear hi hz0 hz1 hz2 hbk hown q3
   refine region_made_tail 5 (by kernel_rfl) (by kernel_rfl) fun β => ?_
   simp only [List.take_succ_cons, List.take_zero, List.drop_succ_cons, List.drop_zero]
   iterate 4 (refine wpM_step (fun K hK => ?_); go_simp; first | (refine hK _ ?_; clear hK K) | (apply Exists.intro; refine ⟨fun _ => ⟨by kernel_rfl, ?_⟩, hK _ ?_⟩; (exact (cA _ (after hb3 (below_regrown _ _ _))).mono fun _ _ h => ⟨h.1, h.2⟩); clear hK K))
   refine wpM_make (fun b => .slice (some ⟨b, 0, none⟩) 1 1) (.cells (List.toArray [.string ⟨(Lib.itoa x.a : Bs).toArray⟩]) 9) rfl (fun W _ => by kernel_rfl) ?_
   refine wpM_nil ?_
   intro w5 ⟨hb5, hla, hap⟩
   obtain ⟨zb5, hl5⟩ := hla 4 _ _ rfl
   have q5 := (hb5.block _ z3).trans hHO.out.2.2
   have r5 := (hb5.block _ zb).trans hHO.out.1
   have o5 := own_below hHO.out.2.1 hb5
   have hb05 := after hb3 hb5
   have hz5 : w.heap.size + 1 <= w5.heap.size := heap_in q5
   clear kc cA  fb0 hHO hla hap hb3 hb5
   refine wpList_append_own_at _ rfl (.tmp 12) (.tmp 16) 33 rfl (w.heap.size + 1) 9 iS _ 1 16 underlying33 hHI.out.1 hHI.out.2.1 hHI.out.2.2.1 hHI.out.2.2.2 rfl (by decide) v 1 (strL [WD]) rfl o5 ⟨β 4, 0, none⟩ 1 1 [.string ⟨(Lib.itoa x.a : Bs).toArray⟩] rfl rfl ?_ (by intro u hu; simp only [List.mem_cons, List.not_mem_nil, or_false] at hu; subst hu; rfl) (by unfold maxLen; omega) (by omega) hz5 ?_
   ·intro j u hj
    rw [Addr.add_mid, Nat.zero_add, (laid_cell hl5).1 j]; simpa using hj
   intro v' w7 hown7 hg7 _ hl7
   have q7 := grow_keeps o5 q5 (by decide) hg7
   have r7 := grow_keeps o5 r5 (by decide) hg7
   have hb7 : Below w.heap.size w w7 := hb05.trans (((Below.refl (w.heap.size + 1) w5).grown hg7 hz5 (fun k hk => (o5.lt k hk).1)).mono (Nat.le_succ _))
   obtain ⟨g7, c7, rfl⟩ := own_shape hown7
   obtain ⟨f7, d7, z7⟩ := lie_cell r7
   have hH7 := Lib.hid (And.intro r7 hown7)
   clear hl5 zb5 o5 q5 r5 hg7 hl7 q7 r7 hown7
   refine st ?_
   refine wpList_abs (fun W => Below w.heap.size w W /\ PartsAt W (w.heap.size + 1) B [WD, Lib.itoa x.a]) ⟨setB hb7 (by omega), hBB, _, heap_set_same hH7.out.1, own_off hH7.out.2 hH7.out.1⟩ ?_
   rintro w8 ⟨hb8, k8⟩
   refine wpList_nil ?_
   clear hH7 f7 d7 hb05 hb7 hHI
   have hE := Lib.hid (And.intro hb8 k8)
   clear k8 hb8
   go_wp2
   go_meet
   exact ⟨rfl, hE.out.1, by rw [hps]; exact hE.out.2⟩
 case rest =>
  obtain ⟨rfl, hb4, hP⟩ := hcut
  obtain ⟨J, hJ⟩ : ∃ J : List Bs, WD :: PS = J := ⟨_, rfl⟩
  have hw : wtN J <= 1000000 := by
   rw [<- hJ]; have e1 : wtN (WD :: PS) = WD.length + 1 + wtN PS := by simp [wtN]
   rw [e1]; omega
  rw [hJ] at hP
  obtain ⟨a, c, hbk, hI⟩ := parts_read hP
  have fb0 : wc.cell? ⟨B, 0, none⟩ = some (.slice a J.length c) := (lie_cell hbk).1 0
  have hHI := Lib.hid hI
  have hJh := Lib.hid hJ
  clear hP hbk hI hJ q3 k3
  go_wp2_with fail
  refine (join32_any a c J wc hHI.out hw).mono ?_; rintro e w9 ⟨rfl, hb9⟩
  have hSl := joinB_len J
  obtain ⟨S, hS⟩ : ∃ S, joinB 32 J = S := ⟨_, rfl⟩
  rw [hS] at hSl ⊢
  have hcat : ((⟨#[32, 32]⟩ : ByteArray) ++ ⟨S.toArray⟩) ++ ⟨#[10]⟩ = ⟨([32, 32] ++ (S ++ [10])).toArray⟩ := by rw [ba_cat [32, 32], ba_cat _ [10], List.append_assoc]
  have hJs : (⟨S.toArray⟩ : ByteArray).size <= 1000000 := Nat.le_trans (show S.length <= wtN J from hSl) hw
  have hTT := Lib.hid hcat
  have hS2 := Lib.hid hS
  clear hcat hS hSl fb0
  generalize hSA : (⟨S.toArray⟩ : ByteArray) = SA at *
  have hSAh := Lib.hid hSA
  clear hSA
  have hA1 : 2 + SA.size <= 9223372036854775807 := by omega
  have hA2 : 2 + SA.size + 1 <= 9223372036854775807 := by omega
  go_wp2
  go_ret; exact Ret.mk' (by rw [hTT.out, <- hS2.out, <- hJh.out]; rfl) (after hb4 hb9)
end Go.Proofs.YtlpgigdegnbkmaaGreatDoor
