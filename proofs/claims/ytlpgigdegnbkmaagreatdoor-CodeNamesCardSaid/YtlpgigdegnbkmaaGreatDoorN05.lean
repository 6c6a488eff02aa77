import Derived.Test.YtlpgigdegnbkmaaGreatDoorN04
import Derived.Test.YtlpgigdegnbkmaaGreatDoorN03
set_option maxRecDepth 100000
set_option maxHeartbeats 8000000
namespace Go.Proofs.YtlpgigdegnbkmaaGreatDoor
open Go.RowKit Tab Tryz
def RetDecS (w : World) (e : Ending) (w' : World) : Prop := ∃ M E c : Int, e = .returned (.tuple #[.agg #[.int .i64 M, .int .i64 E], .int .i64 c]) /\ Below w.heap.size w w' /\ -1000000000000000 <= M /\ M <= 1000000000000000
theorem of_any (N : Nat) (hN : N < 100000) (w : World) : Calls prog 37 #[.int .i64 (N : Int)] w (RetDecS w) := by
 have hNl : (dgN N).length <= 5 := dgN_len_bound (show N < 10 ^ 5 from hN)
 have e1 : dgN 1 = [1] := by rw [dgN_pos (by decide), dgN_zero]
 have cN := fun v u W (h : IntRow W v (dgN N)) (h2 : IntRow W u (dgN 1)) => near_any N 1 (by decide) (by omega) (by rw [e1]; decide) v u W h h2
 rw [e1] at cN
 obtain ⟨M, E, c, hO, hM, hE0, hE9, hc⟩ : ∃ (M : Nat) (E c : Int), nearW (nearN N 1 19 (-9)) = .tuple #[.agg #[.int .i64 (M : Int), .int .i64 E], .int .i64 c] /\ M <= 999999999999999 /\ -9 <= E /\ E <= 9 /\ (c = 0 \/ c = 10) := by
  have hrng := near_rng N 1 19 (-9)
  cases hO : nearN N 1 19 (-9) with
  | none => exact ⟨0, 0, 10, rfl, by decide, by decide, by decide, .inr rfl⟩
  | some p =>
   obtain ⟨P, E⟩ := p
   obtain ⟨M, hP, hM, hE0, hE9⟩ := hrng (P, E) (by decide) (by decide) hO
   dsimp only at hP hE0 hE9
   subst hP
   exact ⟨M, E, 0, rfl, hM, hE0, hE9, .inl rfl⟩
 rw [hO] at cN
 clear hO e1
 have eN : decide ((N : Int) < 0) = false := decide_eq_false (by omega)
 have cD := fun W => digits_any N (by omega) W
 go_enter func37, ntmps37
 go_upto_region 1 with fail
 refine wp_abs2 (fun W => Blk W w.heap.size #[.int .i64 0, .int .i64 0] /\ Below w.heap.size w W) ⟨blnx, belx⟩ ?_
 rintro W ⟨hK, hW⟩
 go_wp2_with fail
 refine (cD _).mono ?_; rintro e w1 ⟨v1, rfl, h1, hb⟩
 replace hW := after hW hb
 replace hK := hK.below hb
 clear hb
 go_wp2_with fail
 refine (cN _ _ _ (h1.below (allocB (Below.refl _ _))) (intRow_one _ 1 _)).mono ?_; rintro e w4 ⟨rfl, hb⟩
 replace hW := after hW (after (allocB (Below.refl _ _)) hb)
 replace hK := (hK.below (allocB (Below.refl _ _))).below hb
 clear hb h1 cN
 have cW := fun W => whole_any M (by omega) E hE0 hE9 W
 have hxw : w4.heap.size ≠ w.heap.size := by have := hK.facts.2.2; omega
 go_upto_region 2 with fail
 refine wp_abs2 (fun W => Keep w [(w4.heap.size, #[.int .i64 (M : Int), .int .i64 E]), (w.heap.size, #[.int .i64 0, .int .i64 0])] W) (Keep.add blnx (Keep.add blnx (Keep.nil belx))) ?_
 clear hK hW
 intro wa K
 generalize w4.heap.size = bx at *
 go_cut [32] from 33 (fun v wx => (∃ b : Bool, v = .bool b) /\ Keep w [(bx, #[.int .i64 (M : Int), .int .i64 E]), (w.heap.size, #[.int .i64 0, .int .i64 0])] wx)
 case first =>
  have hMl : (dgN M).length <= 20 := dgN_len_bound (Nat.lt_of_le_of_lt hM (by decide))
  have hWl := dgN_len_pow M (E + 9).toNat
  have hYl := dgN_len_pow N 9
  have cT := fun v W h => ten_any N (by omega) 9 9 rfl (by decide) (by decide) v W h
  generalize M * 10 ^ (E + 9).toNat = X at *
  generalize N * 10 ^ 9 = Y at *
  have cL1 := fun v u W h1 h2 => less_any X Y (by omega) (by omega) v u W h1 h2
  have cL2 := fun v u W h1 h2 => less_any Y X (by omega) (by omega) v u W h1 h2
  clear hWl hYl hMl hNl
  refine wp_region_held_drew (S := fun w' => ∀ i, w'.cell? ⟨bx, i, none⟩ = (List.toArray [.int .i64 (M : Int), .int .i64 E])[i]?) (by kernel_rfl) K.hd.facts.1 (fun hHeld => ?_)
  replace K := K.below (drewB (Below.refl _ _))
  rcases hc with rfl | rfl
  ·
   refine tk 0 hHeld ?_
   refine tk 1 hHeld ?_
   refine tk 2 hHeld ?_
   refine wpAnyH_take (i := 3) (oi := _) (v := .agg (List.toArray [.int .i64 (M : Int), .int .i64 E])) rfl (by kernel_rfl) (by kernel_rfl) (by kernel_rfl) (fun _ _ _ h => h) ?_ hHeld ?_
   ·exact yieldsIf_load_mid (by rfl) 25 (.tmp 4) rfl bx 0 rfl [.int .i64 (M : Int), .int .i64 E] _ (fun w' hSw => range_of hSw rfl) underlying25 rfl cellsDec
   simp only [List.getElem_toArray, List.getElem_cons_succ, List.getElem_cons_zero, Act.put, List.setIfInBounds_toArray, List.set_cons_zero, List.set_cons_succ]
   refine tk 5 hHeld ?_
   refine ar 4 fun K1 hK1 => ?_
   go_simp
   refine (cW _).mono ?_; rintro e w5 ⟨v5, rfl, h5, hb⟩
   dsimp only
   replace K := K.below hb
   refine hK1.out _ _ K.hd.facts.1 (fun hHeld => ?_)
   clear hK1 K1 hb
   refine ar 6 fun K1 hK1 => ?_
   go_simp
   refine (cD _).mono ?_; rintro e w6 ⟨v6, rfl, h6, hb⟩
   dsimp only
   replace K := K.below hb
   replace h5 := h5.below hb
   refine hK1.out _ _ K.hd.facts.1 (fun hHeld => ?_)
   clear hK1 K1 hb
   refine ar 7 fun K1 hK1 => ?_
   go_simp
   refine (cT _ _ h6).mono ?_; rintro e w7 ⟨v7, rfl, h7, hb⟩
   dsimp only
   replace K := K.below hb
   replace h5 := h5.below hb
   refine hK1.out _ _ K.hd.facts.1 (fun hHeld => ?_)
   clear hK1 K1 hb
   refine ar 8 fun K1 hK1 => ?_
   go_simp
   refine (cL1 _ _ _ h5 h7).mono ?_; rintro e w8 ⟨rfl, hb⟩
   dsimp only
   replace K := K.below hb
   refine hK1.out _ _ K.hd.facts.1 (fun hHeld => ?_)
   clear hK1 K1 hb
   clear h5 h6 h7
   generalize decide (X < Y) = b1 at *
   refine tk 9 hHeld ?_
   refine tk 10 hHeld ?_
   cases b1
   ·
    refine tk 11 hHeld ?_
    refine wpAnyH_take (i := 14) (oi := _) (v := .agg (List.toArray [.int .i64 (M : Int), .int .i64 E])) rfl (by kernel_rfl) (by kernel_rfl) (by kernel_rfl) (fun _ _ _ h => h) ?_ hHeld ?_
    ·exact yieldsIf_load_mid (by rfl) 25 (.tmp 4) rfl bx 0 rfl [.int .i64 (M : Int), .int .i64 E] _ (fun w' hSw => range_of hSw rfl) underlying25 rfl cellsDec
    simp only [List.getElem_toArray, List.getElem_cons_succ, List.getElem_cons_zero, Act.put, List.setIfInBounds_toArray, List.set_cons_zero, List.set_cons_succ]
    refine ar 12 fun K1 hK1 => ?_
    go_simp
    refine (cD _).mono ?_; rintro e w9 ⟨v9, rfl, h9, hb⟩
    dsimp only
    replace K := K.below hb
    refine hK1.out _ _ K.hd.facts.1 (fun hHeld => ?_)
    clear hK1 K1 hb
    refine ar 13 fun K1 hK1 => ?_
    go_simp
    refine (cT _ _ h9).mono ?_; rintro e w10 ⟨v10, rfl, h10, hb⟩
    dsimp only
    replace K := K.below hb
    refine hK1.out _ _ K.hd.facts.1 (fun hHeld => ?_)
    clear hK1 K1 hb
    refine ar 15 fun K1 hK1 => ?_
    go_simp
    refine (cW _).mono ?_; rintro e w11 ⟨v11, rfl, h11, hb⟩
    dsimp only
    replace K := K.below hb
    replace h10 := h10.below hb
    refine hK1.out _ _ K.hd.facts.1 (fun hHeld => ?_)
    clear hK1 K1 hb
    refine ar 16 fun K1 hK1 => ?_
    go_simp
    refine (cL2 _ _ _ h10 h11).mono ?_; rintro e w12 ⟨rfl, hb⟩
    dsimp only
    replace K := K.below hb
    refine hK1.out _ _ K.hd.facts.1 (fun hHeld => ?_)
    clear hK1 K1 hb
    refine tk 17 hHeld ?_
    refine wpAnyH_done (by kernel_rfl) ?_ _
    go_wp2
    go_meet
    exact ⟨⟨_, rfl⟩, K⟩
   ·
    refine tk 11 hHeld ?_
    refine tk 12 hHeld ?_
    refine tk 13 hHeld ?_
    refine tk 14 hHeld ?_
    refine tk 15 hHeld ?_
    refine tk 16 hHeld ?_
    refine tk 17 hHeld ?_
    refine wpAnyH_done (by kernel_rfl) ?_ _
    go_wp2
    go_meet
    exact ⟨⟨_, rfl⟩, K⟩
  ·
   refine tk 0 hHeld ?_
   refine tk 1 hHeld ?_
   refine tk 2 hHeld ?_
   refine tk 3 hHeld ?_
   refine tk 4 hHeld ?_
   refine tk 5 hHeld ?_
   refine tk 6 hHeld ?_
   refine tk 7 hHeld ?_
   refine tk 8 hHeld ?_
   refine tk 9 hHeld ?_
   refine tk 10 hHeld ?_
   refine tk 11 hHeld ?_
   refine tk 12 hHeld ?_
   refine tk 13 hHeld ?_
   refine tk 14 hHeld ?_
   refine tk 15 hHeld ?_
   refine tk 16 hHeld ?_
   refine tk 17 hHeld ?_
   refine wpAnyH_done (by kernel_rfl) ?_ _
   go_wp2
   go_meet
   exact ⟨⟨_, rfl⟩, K⟩
 case rest =>
  obtain ⟨⟨b, rfl⟩, K⟩ := hcut
  cases b
  ·
   obtain ⟨q0, q1, hb9⟩ := cell2_give K.tl.hd K.bel (M : Int) E
   obtain ⟨fr, gr, zr⟩ := K.tl.hd.facts
   have cr0 := fr 0
   have cr1 := fr 1
   clear fr
   obtain ⟨fx, gx, zx⟩ := K.hd.facts
   have cx0 := fx 0
   have cx1 := fx 1
   clear fx
   simp only [List.getElem?_toArray, List.getElem?_cons_zero, List.getElem?_cons_succ] at cr0 cr1 cx0 cx1
   have HB9 := Lib.hid hb9
   clear hb9 K
   go_wp2
   exact bodyPost_ret (v := .tuple #[.agg #[.int .i64 (M : Int), .int .i64 E], .int .i64 0]) (by simp [results, Tryz.results37, go_sem, *]) rfl ⟨(M : Int), E, 0, rfl, HB9.out, by omega⟩
  ·
   obtain ⟨q0, q1, hb9⟩ := cell2_give K.tl.hd K.bel 0 0
   obtain ⟨fr, gr, zr⟩ := K.tl.hd.facts
   have cr0 := fr 0
   have cr1 := fr 1
   clear fr
   obtain ⟨fx, gx, zx⟩ := K.hd.facts
   have cx0 := fx 0
   have cx1 := fx 1
   clear fx
   simp only [List.getElem?_toArray, List.getElem?_cons_zero, List.getElem?_cons_succ] at cr0 cr1 cx0 cx1
   have HB9 := Lib.hid hb9
   clear hb9 K
   go_wp2
   exact bodyPost_ret (v := .tuple #[.agg #[.int .i64 0, .int .i64 0], .int .i64 10]) (by simp [results, Tryz.results37, go_sem, *]) rfl ⟨0, 0, 10, rfl, HB9.out, by decide⟩
def fourN : List Bs := [[48, 46, 53], [49, 46, 50, 53], [49, 48, 48, 48, 48, 48], [48, 46, 48, 48, 48, 48, 48, 49]]
theorem four_num (k : Nat) (h : k < 4) : ∃ A B : Bs, fourN[k]? = some (numT A B) /\ A ≠ [] /\ (∀ b ∈ A, digR b.toNat = true) /\ (∀ b ∈ B, digR b.toNat = true) /\ (numT A B).length <= 20 := by
 match k, h with
 | 0, _ => exact ⟨[48], [53], rfl, by decide, by decide, by decide, by decide⟩
 | 1, _ => exact ⟨[49], [50, 53], rfl, by decide, by decide, by decide, by decide⟩
 | 2, _ => exact ⟨[49, 48, 48, 48, 48, 48], [], rfl, by decide, by decide, by decide, by decide⟩
 | 3, _ => exact ⟨[48], [48, 48, 48, 48, 48, 49], rfl, by decide, by decide, by decide, by decide⟩
theorem str_at2 {l : List Bs} {k : Nat} {x : Bs} (h : l[k]? = some x) : (l.map fun x => Value.string ⟨x.toArray⟩).toArray[k]? = some (.string ⟨x.toArray⟩) := by
 simp [h]
theorem treeNum_any (n : Int) (w : World) (hn : Int64 n) : Calls prog 21 #[.int .i64 n] w (fun e W => ∃ M E : Int, e = .returned (.agg #[.int .i64 M, .int .i64 E]) /\ Below w.heap.size w W /\ -1000000000000000 <= M /\ M <= 1000000000000000) := by
 obtain ⟨N, hNp, hN⟩ := pick_nat n 100000 (by decide)
 obtain ⟨k, hk, hk4⟩ := pick_nat n 4 (by decide)
 have cP := fun W => pick5_any n 100000 W hn (by omega) (by omega)
 have cQ := fun W => pick5_any n 4 W hn (by omega) (by omega)
 rw [show ((100000 : Nat) : Int) = 100000 from rfl] at hNp
 rw [show ((4 : Nat) : Int) = 4 from rfl] at hk
 rw [hNp] at cP
 rw [hk] at cQ
 have hk' : (k : Int) < 4 := by omega
 obtain ⟨A, B, hat, hA0, hA, hB, hl⟩ := four_num k hk4
 replace hat := str_at2 hat
 have cR := fun W => refRead_b ⟨(numT A B).toArray⟩ A B rfl hA0 hA hB (by show (numT A B).toArray.size <= 2000; rw [List.size_toArray]; omega) W
 generalize refC A B = rc at *
 generalize numT A B = V at *
 have cO := fun W => of_any N hN W
 clear hNp hk hA hB hA0 hl hn hN hk4
 go_enter func21, ntmps21
 go_upto_region 1 with fail
 refine wp_abs2 (fun W => Blk W w.heap.size #[.int .i64 0, .int .i64 0] /\ Below w.heap.size w W) ⟨blnx, belx⟩ ?_
 rintro W ⟨hK, hW⟩
 go_wp2_with fail
 refine (cP _).mono ?_; rintro e w1 ⟨rfl, rfl⟩
 go_wp2_with fail
 refine (cO _).mono ?_; rintro e w2 ⟨M, E, c, rfl, hb, hM⟩
 replace hW := after hW hb
 replace hK := hK.below hb
 clear hb cP cO
 have hxw : w2.heap.size ≠ w.heap.size := by have := hK.facts.2.2; omega
 have hxl : w.heap.size <= w2.heap.size := hW.size
 go_upto_region 2 with fail
 refine wp_abs2 (fun W => Keep w [(w2.heap.size, #[.int .i64 M, .int .i64 E]), (w.heap.size, #[.int .i64 0, .int .i64 0])] W) (Keep.add blnx (Keep.add blnx (Keep.nil belx))) ?_
 clear hK hW
 intro wa K
 generalize w2.heap.size = bx at *
 refine wp_region_lit ?_
 refine wr (.int .i64 n) wa ?_
 refine wr (.int .i64 (n.tmod 3)) wa ?_
 refine wr (.bool (n.tmod 3 == 1)) wa ?_
 refine wpList_nil ?_
 simp only [Act.put, List.setIfInBounds_toArray, List.set_cons_zero, List.set_cons_succ]
 generalize (n.tmod 3 == 1) = b3 at *
 go_upto_if 13 with (fail)
 go_cut [] from 14 to 22 (fun wx => ∃ M E : Int, (-1000000000000000 <= M /\ M <= 1000000000000000) /\ Keep w [(bx, #[.int .i64 M, .int .i64 E]), (w.heap.size, #[.int .i64 0, .int .i64 0])] wx)
 case first =>
  cases b3
  ·go_wp2
   go_meet
   exact ⟨M, E, hM, K⟩
  ·go_wp2_with fail
   have q4 := heap_alloc_new wa (.cells (fourN.map fun x => Value.string ⟨x.toArray⟩).toArray 9)
   refine calls_keep (fun W => Keep w [(bx, #[.int .i64 M, .int .i64 E]), (w.heap.size, #[.int .i64 0, .int .i64 0])] W /\ W.cell? ⟨wa.heap.size, k, none⟩ = some (.string ⟨V.toArray⟩)) ⟨K.below (allocB (Below.refl _ _)), ((lie_cell q4).1 k).trans hat⟩ ?_
   clear q4 K hat
   rintro wb ⟨K, hc⟩
   generalize wa.heap.size = bs at *
   refine (cQ wb).mono ?_; rintro e w3 ⟨rfl, rfl⟩
   go_wp2_with fail
   refine (cR _).mono ?_; rintro e w4 ⟨M2, E2, rfl, hb, hM2⟩
   replace K := K.below hb
   clear hb hc cR
   obtain ⟨fx, gx, zx⟩ := K.hd.facts
   have cx0 := fx 0
   have cx1 := fx 1
   clear fx
   simp only [List.getElem?_toArray, List.getElem?_cons_zero, List.getElem?_cons_succ] at cx0 cx1
   go_wp2
   go_meet
   have kb := K.hd
   have kr := K.tl.hd
   have kW := K.bel
   exact ⟨M2, E2, hM2, Keep.add kb.set.set (Keep.add blkx (Keep.nil belx))⟩
 case rest =>
  obtain ⟨M, E, hM, K⟩ := hcut
  obtain ⟨q0, q1, hb9⟩ := cell2_give K.tl.hd K.bel M E
  obtain ⟨fr, gr, zr⟩ := K.tl.hd.facts
  have cr0 := fr 0
  have cr1 := fr 1
  clear fr
  obtain ⟨fx, gx, zx⟩ := K.hd.facts
  have cx0 := fx 0
  have cx1 := fx 1
  clear fx
  simp only [List.getElem?_toArray, List.getElem?_cons_zero, List.getElem?_cons_succ] at cr0 cr1 cx0 cx1
  have HB9 := Lib.hid hb9
  clear hb9 K
  go_wp2
  exact bodyPost_ret (v := .agg #[.int .i64 M, .int .i64 E]) (by simp [results, Tryz.results21, go_sem, *]) rfl ⟨M, E, rfl, HB9.out, hM⟩
end Go.Proofs.YtlpgigdegnbkmaaGreatDoor
namespace Tab
structure RawD where
 kind : Int
 s : ByteArray
 n : Int
 ref : RefD
 far : RefD
 within : Int
end Tab
namespace Go.Proofs.YtlpgigdegnbkmaaGreatDoor
open Go.RowKit Tab Tryz
abbrev refL (r : RefD) : List Value := [.string r.s, .int .i64 r.row, .int .i64 r.col, .bool r.fr, .bool r.fc, .bool r.bad]
def rawC (x : RawD) : List Value := [.int .i64 x.kind, .string x.s, .int .i64 x.n, .string x.ref.s, .int .i64 x.ref.row, .int .i64 x.ref.col, .bool x.ref.fr, .bool x.ref.fc, .bool x.ref.bad, .string x.far.s, .int .i64 x.far.row, .int .i64 x.far.col, .bool x.far.fr, .bool x.far.fc, .bool x.far.bad, .int .i64 x.within]
structure RawOk (x : RawD) : Prop where
 kind : Int64 x.kind
 s : x.s.size <= 9223372036854775807
 n : Int64 x.n
 ref : Int64 x.ref.row /\ Int64 x.ref.col /\ x.ref.s.size <= 9223372036854775807
 far : Int64 x.far.row /\ Int64 x.far.col /\ x.far.s.size <= 9223372036854775807
 within : Int64 x.within
theorem refMade_size {row col : Int} {fr fc bad : Bool} {q : RefD} (h : RefMade row col fr fc bad q) : q.s.size <= 9223372036854775807 := by
 rcases h with ⟨_, rfl⟩ | ⟨t, ht, rfl⟩
 ·decide
 ·rcases ht with rfl | ht
  ·exact (by decide : (⟨#[]⟩ : ByteArray).size <= 9223372036854775807)
  ·show t.size <= _
   unfold nameB at ht
   simp only [Bool.and_eq_true, decide_eq_true_eq] at ht
   have := ht.2.1.2
   rw [ba_size] at this
   omega
theorem cellsRaw : (prog.info? 97).map (·.size) = some 16 := by kernel_rfl
theorem ba_mk2 (t : ByteArray) : ∃ l : Bs, t = ⟨l.toArray⟩ /\ l.length = t.size := ⟨t.data.toList, by cases t; rfl, ba_size t⟩
theorem int_at (l : List Int) (k : Nat) (h : k < l.length) : (List.toArray (l.map (Value.int .i64)))[k]? = some (.int .i64 (l[k]'h)) := by
 simp [h]
theorem zero_sz : (RefD.zero).s.size <= 9223372036854775807 := by decide
theorem leaf_smT {k m e err : Int} {s : Bs} {b : Bool} {r t : RefD} (hs : s.length <= 1000) (hm : -9000000000000000000 <= m /\ m <= 9000000000000000000) (hr : r.s.size <= 9223372036854775807) (ht : t.s.size <= 9223372036854775807) : NodeSm (.mk k s m e b err r t 0 []) := ⟨hm, hs, Nat.zero_le _, (by decide : (0 : Int) <= 9223372036854775807), hr, ht⟩
theorem leaf_nice {k m e err : Int} {s : Bs} {b : Bool} {r t : RefD} (h : k ≠ 7 /\ k ≠ 12 /\ k ≠ 14 /\ k ≠ 16) : Nice 1 (.mk k s m e b err r t 0 []) := nice_leaf (fun e => by
 rcases e with e | e | e | e
 ·exact absurd e h.1
 ·exact absurd e h.2.1
 ·exact absurd e h.2.2.1
 ·exact absurd e h.2.2.2) rfl
theorem treeLeaf_any (x : RawD) (w : World) (hx : RawOk x) : Calls prog 42 #[.agg (rawC x).toArray] w (fun e W => ∃ n : NodeD, n.kids = [] /\ NodeSm n /\ Nice 1 n /\ e = .returned (.agg (nodeC n (.slice none 0 0)).toArray) /\ Below w.heap.size w W) := by
 have cA := fun W => RefOf_any x.ref W hx.ref.1 hx.ref.2.1 hx.ref.2.2
 have cB := fun W => RefOf_any x.far W hx.far.1 hx.far.2.1 hx.far.2.2
 have cP := fun W => pick5_any x.kind 8 W hx.kind (by omega) (by omega)
 have hP : pickI x.kind 8 = 0 \/ pickI x.kind 8 = 1 \/ pickI x.kind 8 = 2 \/ pickI x.kind 8 = 3 \/ pickI x.kind 8 = 4 \/ pickI x.kind 8 = 5 \/ pickI x.kind 8 = 6 \/ pickI x.kind 8 = 7 := by
  have := pickI_range x.kind 8 (by omega); omega
 generalize pickI x.kind 8 = K at *
 have cT := fun W => treeText_any x.s W hx.s
 have cN := fun W => treeName_any x.n W hx.n
 have cM := fun W => treeNum_any x.n W hx.n
 have cI := fun (m : Int) W h1 h2 => pick5_any x.n m W hx.n h1 h2
 clear hx
 go_enter func42, ntmps42
 go_upto_region 1 with (fail)
 refine wp_abs2 (fun W => Below w.heap.size w W /\ W.heap[w.heap.size]? = some (.cells (rawC x).toArray 97 (0, 0)) /\ W.heap[w.heap.size + 1]? = some (.cells zeroN 30 (0, 0))) ⟨belx, heap_alloc2_old _ _ _, heap_alloc2_new _ _ _⟩ ?_
 rintro w1 ⟨hb, q, r⟩
 obtain ⟨f, -, z⟩ := lie_cell q
 refine wp_region_lit ?_
 iterate 1 refine st ?_
 refine wpList_load_mid rfl 27 (.tmp 5) rfl w.heap.size 3 rfl (refL x.ref) _ (range_of f rfl) underlying27 rfl cellsRef ?_
 clear f z
 refine wpList_enter 81 #[refV x.ref] (by kernel_rfl) (by kernel_rfl) _ (cA _) ?_
 rintro e w2 ⟨ra, hra, rfl, hx⟩
 refine ⟨_, rfl, ?_⟩
 replace q := kq hx q
 replace r := kq hx r
 replace hb := after hb hx
 clear hx
 obtain ⟨bra, hbra⟩ : ∃ bra, w2.heap.size = bra := ⟨_, rfl⟩
 have zra : w.heap.size + 2 <= bra := by rw [<- hbra]; exact heap_in r
 refine mbx 27 (.tmp 3) (.tmp 7) #[.string ⟨#[]⟩, .int .i64 0, .int .i64 0, .bool false, .bool false, .bool false] ((refL ra).toArray) cellsRef (oneRef _) ?_
 rintro w3 ⟨hx, sra⟩
 replace q := kq hx q
 replace r := kq hx r
 replace hb := after hb hx
 clear hx
 rw [hbra] at sra ⊢
 clear hbra
 refine wpList_nil ?_
 go_upto_region 2 with (fail)
 obtain ⟨f, -, z⟩ := lie_cell q
 refine wp_region_lit ?_
 iterate 1 refine st ?_
 refine wpList_load_mid rfl 27 (.tmp 8) rfl w.heap.size 9 rfl (refL x.far) _ (range_of f rfl) underlying27 rfl cellsRef ?_
 clear f z
 refine wpList_enter 81 #[refV x.far] (by kernel_rfl) (by kernel_rfl) _ (cB _) ?_
 rintro e w4 ⟨rb, hrb, rfl, hx⟩
 refine ⟨_, rfl, ?_⟩
 replace q := kq hx q
 replace r := kq hx r
 replace sra := kq hx sra
 replace hb := after hb hx
 clear hx
 obtain ⟨brb, hbrb⟩ : ∃ brb, w4.heap.size = brb := ⟨_, rfl⟩
 have zrb : w.heap.size + 2 <= brb := by rw [<- hbrb]; exact heap_in r
 have zrab : bra < brb := by rw [<- hbrb]; exact heap_in sra
 refine mbx 27 (.tmp 4) (.tmp 10) #[.string ⟨#[]⟩, .int .i64 0, .int .i64 0, .bool false, .bool false, .bool false] ((refL rb).toArray) cellsRef (oneRef _) ?_
 rintro w5 ⟨hx, srb⟩
 replace q := kq hx q
 replace r := kq hx r
 replace sra := kq hx sra
 replace hb := after hb hx
 clear hx
 rw [hbrb] at srb ⊢
 clear hbrb
 refine wpList_nil ?_
 obtain ⟨f4, d4, z4⟩ := lie_cell srb
 have c40 := f4 0
 clear f4
 go_upto_region 4 with (fail)
 refine wp_abs2 (fun W => Below w.heap.size w W /\ W.heap[w.heap.size]? = some (.cells (rawC x).toArray 97 (0, 0)) /\ W.heap[w.heap.size + 1]? = some (.cells zeroN 30 (0, 0)) /\ W.heap[bra]? = some (.cells (refL ra).toArray 27 (0, 0)) /\ W.heap[brb]? = some (.cells (refL { rb with s := ⟨#[]⟩ }).toArray 27 (0, 0))) ⟨setB hb (by omega), (heap_set_other (by omega)).trans q, (heap_set_other (by omega)).trans r, (heap_set_other (by omega)).trans sra, heap_set_same srb⟩ ?_
 clear hb q r sra srb c40 d4 z4
 rintro w6 ⟨hb, q, r, sra, srb⟩
 obtain ⟨rb', hrb', hrs⟩ : ∃ rb' : RefD, { rb with s := ⟨#[]⟩ } = rb' /\ rb'.s.size <= 9223372036854775807 := ⟨_, rfl, (by decide : (⟨#[]⟩ : ByteArray).size <= 9223372036854775807)⟩
 rw [hrb'] at srb
 clear hrb'
 obtain ⟨f, -, z⟩ := lie_cell q
 have c0 : w6.cell? ⟨w.heap.size, 0, none⟩ = some (.int .i64 x.kind) := f 0
 have c1 : w6.cell? ⟨w.heap.size, 1, none⟩ = some (.string x.s) := f 1
 have c2 : w6.cell? ⟨w.heap.size, 2, none⟩ = some (.int .i64 x.n) := f 2
 clear f q
 go_wp2_with fail
 refine (cP _).mono ?_; rintro e w7 ⟨rfl, rfl⟩
 clear cP cA cB c0
 rcases hP with rfl | rfl | rfl | rfl | rfl | rfl | rfl | rfl
 ·
  go_upto_region 6 with (fail)
  refine wp_region_lit ?_
  iterate 2 refine st ?_
  refine wpList_enter 82 #[.string x.s] (by kernel_rfl) (by kernel_rfl) _ (cT w6) ?_
  rintro e W ⟨t, ht, rfl, rfl⟩
  refine ⟨_, rfl, ?_⟩
  obtain ⟨l, rfl, hl⟩ := ba_mk2 t
  refine wr (.agg (nodeC (.mk 2 l 0 0 false 0 RefD.zero RefD.zero 0 []) (.slice none 0 0)).toArray) W ?_
  refine wpList_store_mid rfl 30 (.tmp 2) (.tmp 20) rfl (w.heap.size + 1) 0 (nodeC (.mk 2 l 0 0 false 0 RefD.zero RefD.zero 0 []) (.slice none 0 0)).toArray rfl rfl (whole_there r rfl) cellsNode (nodeC_one _ _ _ _) ?_
  refine wpList_abs (fun W => Below w.heap.size w W /\ W.heap[w.heap.size + 1]? = some (.cells (nodeC (.mk 2 l 0 0 false 0 RefD.zero RefD.zero 0 []) (.slice none 0 0)).toArray 30 (0, 0))) ⟨below_cells2 (Nat.le_succ _) _ _ _ hb, box_whole r rfl⟩ ?_
  rintro wE ⟨hbE, rE⟩
  refine wpList_nil ?_
  have HT := Lib.hid (And.intro hbE rE)
  clear hb r hbE rE
  go_wp2
  exact bodyPost_ret (results_cell_row rfl _ _ (w.heap.size + 1) 30 (nodeC (.mk 2 l 0 0 false 0 RefD.zero RefD.zero 0 []) (.slice none 0 0)).toArray (0, 0) _ rfl HT.out.2 underlying30 rfl cellsNode) rfl ⟨(.mk 2 l 0 0 false 0 RefD.zero RefD.zero 0 []), rfl, leaf_smT (by omega) (by decide) zero_sz zero_sz, leaf_nice (by decide), rfl, HT.out.1⟩
 ·
  go_upto_region 8 with (fail)
  refine wp_region_lit ?_
  iterate 2 refine st ?_
  refine wr (.int .i64 (x.n.tmod 2)) w6 ?_
  refine wn (.bool (x.n.tmod 2 == 0)) w6 ?_
  generalize (x.n.tmod 2 == 0) = B
  refine wr (.agg (nodeC (.mk 3 [] 0 0 B 0 RefD.zero RefD.zero 0 []) (.slice none 0 0)).toArray) w6 ?_
  refine wpList_store_mid rfl 30 (.tmp 2) (.tmp 27) rfl (w.heap.size + 1) 0 (nodeC (.mk 3 [] 0 0 B 0 RefD.zero RefD.zero 0 []) (.slice none 0 0)).toArray rfl rfl (whole_there r rfl) cellsNode (nodeC_one _ _ _ _) ?_
  refine wpList_abs (fun W => Below w.heap.size w W /\ W.heap[w.heap.size + 1]? = some (.cells (nodeC (.mk 3 [] 0 0 B 0 RefD.zero RefD.zero 0 []) (.slice none 0 0)).toArray 30 (0, 0))) ⟨below_cells2 (Nat.le_succ _) _ _ _ hb, box_whole r rfl⟩ ?_
  rintro wE ⟨hbE, rE⟩
  refine wpList_nil ?_
  have HT := Lib.hid (And.intro hbE rE)
  clear hb r hbE rE
  go_wp2
  exact bodyPost_ret (results_cell_row rfl _ _ (w.heap.size + 1) 30 (nodeC (.mk 3 [] 0 0 B 0 RefD.zero RefD.zero 0 []) (.slice none 0 0)).toArray (0, 0) _ rfl HT.out.2 underlying30 rfl cellsNode) rfl ⟨(.mk 3 [] 0 0 B 0 RefD.zero RefD.zero 0 []), rfl, leaf_smT (by decide) (by decide) zero_sz zero_sz, leaf_nice (by decide), rfl, HT.out.1⟩
 ·
  go_upto_region 10 with (fail)
  refine wp_region_lit ?_
  have hV : ∀ k : Nat, k < 8 -> ∃ V : Int, (List.toArray (([1, 2, 3, 5, 6, 7, 8, 9] : List Int).map (Value.int .i64)))[k]? = some (.int .i64 V) := fun k h => ⟨_, int_at [1, 2, 3, 5, 6, 7, 8, 9] k h⟩
  obtain ⟨k, hk, hk'⟩ := pick_nat x.n 8 (by decide)
  rw [show ((8 : Nat) : Int) = 8 from rfl] at hk
  have hkI : (k : Int) < 8 := by omega
  have cQ := fun W => cI 8 W (by omega) (by omega)
  rw [hk] at cQ
  obtain ⟨V, hV⟩ := hV k hk'
  refine mrw 8 3 (List.toArray (([1, 2, 3, 5, 6, 7, 8, 9] : List Int).map (Value.int .i64))) ?_
  rintro w8 ⟨hx, qt⟩
  replace c2 := (hx.cell (p := ⟨w.heap.size, 2, none⟩) z).trans c2
  replace z := Nat.lt_of_lt_of_le z hx.size
  replace r := kq hx r
  replace hb := after hb hx
  obtain ⟨ft, -, zt⟩ := lie_cell qt
  have hc := (ft k).trans hV
  clear ft qt hx
  iterate 2 refine st ?_
  refine wpList_enter 38 #[.int .i64 x.n, .int .i64 8] (by kernel_rfl) (by kernel_rfl) _ (cQ w8) ?_
  rintro e W ⟨rfl, rfl⟩
  refine ⟨_, rfl, ?_⟩
  iterate 2 refine st ?_
  refine wr (.agg (nodeC (.mk 4 [] 0 0 false V RefD.zero RefD.zero 0 []) (.slice none 0 0)).toArray) w8 ?_
  refine wpList_store_mid rfl 30 (.tmp 2) (.tmp 36) rfl (w.heap.size + 1) 0 (nodeC (.mk 4 [] 0 0 false V RefD.zero RefD.zero 0 []) (.slice none 0 0)).toArray rfl rfl (whole_there r rfl) cellsNode (nodeC_one _ _ _ _) ?_
  refine wpList_abs (fun W => Below w.heap.size w W /\ W.heap[w.heap.size + 1]? = some (.cells (nodeC (.mk 4 [] 0 0 false V RefD.zero RefD.zero 0 []) (.slice none 0 0)).toArray 30 (0, 0))) ⟨below_cells2 (Nat.le_succ _) _ _ _ hb, box_whole r rfl⟩ ?_
  rintro wE ⟨hbE, rE⟩
  refine wpList_nil ?_
  have HT := Lib.hid (And.intro hbE rE)
  clear hb r hbE rE
  go_wp2
  exact bodyPost_ret (results_cell_row rfl _ _ (w.heap.size + 1) 30 (nodeC (.mk 4 [] 0 0 false V RefD.zero RefD.zero 0 []) (.slice none 0 0)).toArray (0, 0) _ rfl HT.out.2 underlying30 rfl cellsNode) rfl ⟨(.mk 4 [] 0 0 false V RefD.zero RefD.zero 0 []), rfl, leaf_smT (by decide) (by decide) zero_sz zero_sz, leaf_nice (by decide), rfl, HT.out.1⟩
 ·
  go_upto_region 12 with (fail)
  refine wp_region_lit ?_
  refine ldr (.tmp 3) sra underlying27 cellsRef ?_
  refine wr (.agg (nodeC (.mk 5 [] 0 0 false 0 ra RefD.zero 0 []) (.slice none 0 0)).toArray) w6 ?_
  refine wpList_store_mid rfl 30 (.tmp 2) (.tmp 40) rfl (w.heap.size + 1) 0 (nodeC (.mk 5 [] 0 0 false 0 ra RefD.zero 0 []) (.slice none 0 0)).toArray rfl rfl (whole_there r rfl) cellsNode (nodeC_one _ _ _ _) ?_
  refine wpList_abs (fun W => Below w.heap.size w W /\ W.heap[w.heap.size + 1]? = some (.cells (nodeC (.mk 5 [] 0 0 false 0 ra RefD.zero 0 []) (.slice none 0 0)).toArray 30 (0, 0))) ⟨below_cells2 (Nat.le_succ _) _ _ _ hb, box_whole r rfl⟩ ?_
  rintro wE ⟨hbE, rE⟩
  refine wpList_nil ?_
  have HT := Lib.hid (And.intro hbE rE)
  clear hb r hbE rE
  go_wp2
  exact bodyPost_ret (results_cell_row rfl _ _ (w.heap.size + 1) 30 (nodeC (.mk 5 [] 0 0 false 0 ra RefD.zero 0 []) (.slice none 0 0)).toArray (0, 0) _ rfl HT.out.2 underlying30 rfl cellsNode) rfl ⟨(.mk 5 [] 0 0 false 0 ra RefD.zero 0 []), rfl, leaf_smT (by decide) (by decide) (refMade_size hra) zero_sz, leaf_nice (by decide), rfl, HT.out.1⟩
 ·
  obtain ⟨f3, -, z3⟩ := lie_cell sra
  have c35 : w6.cell? ⟨bra, 5, none⟩ = some (.bool ra.bad) := f3 5
  obtain ⟨f4, -, z4⟩ := lie_cell srb
  have c45 : w6.cell? ⟨brb, 5, none⟩ = some (.bool rb'.bad) := f4 5
  clear f3 f4
  generalize ra.bad = B1 at c35
  generalize rb'.bad = B2 at c45
  cases B1
  ·cases B2
   ·
    go_upto_region 15 with (fail)
    refine wp_region_lit ?_
    refine ldr (.tmp 3) sra underlying27 cellsRef ?_
    refine ldr (.tmp 4) srb underlying27 cellsRef ?_
    refine wr (.agg (nodeC (.mk 6 [] 0 0 false 0 ra rb' 0 []) (.slice none 0 0)).toArray) w6 ?_
    refine wpList_store_mid rfl 30 (.tmp 2) (.tmp 53) rfl (w.heap.size + 1) 0 (nodeC (.mk 6 [] 0 0 false 0 ra rb' 0 []) (.slice none 0 0)).toArray rfl rfl (whole_there r rfl) cellsNode (nodeC_one _ _ _ _) ?_
    refine wpList_abs (fun W => Below w.heap.size w W /\ W.heap[w.heap.size + 1]? = some (.cells (nodeC (.mk 6 [] 0 0 false 0 ra rb' 0 []) (.slice none 0 0)).toArray 30 (0, 0))) ⟨below_cells2 (Nat.le_succ _) _ _ _ hb, box_whole r rfl⟩ ?_
    rintro wE ⟨hbE, rE⟩
    refine wpList_nil ?_
    have HT := Lib.hid (And.intro hbE rE)
    clear hb r hbE rE
    go_wp2
    exact bodyPost_ret (results_cell_row rfl _ _ (w.heap.size + 1) 30 (nodeC (.mk 6 [] 0 0 false 0 ra rb' 0 []) (.slice none 0 0)).toArray (0, 0) _ rfl HT.out.2 underlying30 rfl cellsNode) rfl ⟨(.mk 6 [] 0 0 false 0 ra rb' 0 []), rfl, leaf_smT (by decide) (by decide) (refMade_size hra) hrs, leaf_nice (by decide), rfl, HT.out.1⟩
   ·
    go_upto_region 16 with (fail)
    refine wp_region_lit ?_
    refine ldr (.tmp 3) sra underlying27 cellsRef ?_
    refine wr (.agg (nodeC (.mk 5 [] 0 0 false 0 ra RefD.zero 0 []) (.slice none 0 0)).toArray) w6 ?_
    refine wpList_store_mid rfl 30 (.tmp 2) (.tmp 55) rfl (w.heap.size + 1) 0 (nodeC (.mk 5 [] 0 0 false 0 ra RefD.zero 0 []) (.slice none 0 0)).toArray rfl rfl (whole_there r rfl) cellsNode (nodeC_one _ _ _ _) ?_
    refine wpList_abs (fun W => Below w.heap.size w W /\ W.heap[w.heap.size + 1]? = some (.cells (nodeC (.mk 5 [] 0 0 false 0 ra RefD.zero 0 []) (.slice none 0 0)).toArray 30 (0, 0))) ⟨below_cells2 (Nat.le_succ _) _ _ _ hb, box_whole r rfl⟩ ?_
    rintro wE ⟨hbE, rE⟩
    refine wpList_nil ?_
    have HT := Lib.hid (And.intro hbE rE)
    clear hb r hbE rE
    go_wp2
    exact bodyPost_ret (results_cell_row rfl _ _ (w.heap.size + 1) 30 (nodeC (.mk 5 [] 0 0 false 0 ra RefD.zero 0 []) (.slice none 0 0)).toArray (0, 0) _ rfl HT.out.2 underlying30 rfl cellsNode) rfl ⟨(.mk 5 [] 0 0 false 0 ra RefD.zero 0 []), rfl, leaf_smT (by decide) (by decide) (refMade_size hra) zero_sz, leaf_nice (by decide), rfl, HT.out.1⟩
  ·
   go_upto_region 16 with (fail)
   refine wp_region_lit ?_
   refine ldr (.tmp 3) sra underlying27 cellsRef ?_
   refine wr (.agg (nodeC (.mk 5 [] 0 0 false 0 ra RefD.zero 0 []) (.slice none 0 0)).toArray) w6 ?_
   refine wpList_store_mid rfl 30 (.tmp 2) (.tmp 55) rfl (w.heap.size + 1) 0 (nodeC (.mk 5 [] 0 0 false 0 ra RefD.zero 0 []) (.slice none 0 0)).toArray rfl rfl (whole_there r rfl) cellsNode (nodeC_one _ _ _ _) ?_
   refine wpList_abs (fun W => Below w.heap.size w W /\ W.heap[w.heap.size + 1]? = some (.cells (nodeC (.mk 5 [] 0 0 false 0 ra RefD.zero 0 []) (.slice none 0 0)).toArray 30 (0, 0))) ⟨below_cells2 (Nat.le_succ _) _ _ _ hb, box_whole r rfl⟩ ?_
   rintro wE ⟨hbE, rE⟩
   refine wpList_nil ?_
   have HT := Lib.hid (And.intro hbE rE)
   clear hb r hbE rE
   go_wp2
   exact bodyPost_ret (results_cell_row rfl _ _ (w.heap.size + 1) 30 (nodeC (.mk 5 [] 0 0 false 0 ra RefD.zero 0 []) (.slice none 0 0)).toArray (0, 0) _ rfl HT.out.2 underlying30 rfl cellsNode) rfl ⟨(.mk 5 [] 0 0 false 0 ra RefD.zero 0 []), rfl, leaf_smT (by decide) (by decide) (refMade_size hra) zero_sz, leaf_nice (by decide), rfl, HT.out.1⟩
 ·
  go_upto_region 18 with (fail)
  refine wp_region_lit ?_
  iterate 2 refine st ?_
  refine wpList_enter 83 #[.int .i64 x.n] (by kernel_rfl) (by kernel_rfl) _ (cN w6) ?_
  rintro e W ⟨l, hlT, hl, rfl, hx⟩
  refine ⟨_, rfl, ?_⟩
  replace r := kq hx r
  replace hb := after hb hx
  refine wr (.agg (nodeC (.mk 7 l 0 0 false 0 RefD.zero RefD.zero 0 []) (.slice none 0 0)).toArray) W ?_
  refine wpList_store_mid rfl 30 (.tmp 2) (.tmp 61) rfl (w.heap.size + 1) 0 (nodeC (.mk 7 l 0 0 false 0 RefD.zero RefD.zero 0 []) (.slice none 0 0)).toArray rfl rfl (whole_there r rfl) cellsNode (nodeC_one _ _ _ _) ?_
  refine wpList_abs (fun W => Below w.heap.size w W /\ W.heap[w.heap.size + 1]? = some (.cells (nodeC (.mk 7 l 0 0 false 0 RefD.zero RefD.zero 0 []) (.slice none 0 0)).toArray 30 (0, 0))) ⟨below_cells2 (Nat.le_succ _) _ _ _ hb, box_whole r rfl⟩ ?_
  rintro wE ⟨hbE, rE⟩
  refine wpList_nil ?_
  have HT := Lib.hid (And.intro hbE rE)
  clear hb r hbE rE
  go_wp2
  exact bodyPost_ret (results_cell_row rfl _ _ (w.heap.size + 1) 30 (nodeC (.mk 7 l 0 0 false 0 RefD.zero RefD.zero 0 []) (.slice none 0 0)).toArray (0, 0) _ rfl HT.out.2 underlying30 rfl cellsNode) rfl ⟨(.mk 7 l 0 0 false 0 RefD.zero RefD.zero 0 []), rfl, leaf_smT (by omega) (by decide) zero_sz zero_sz, nice_leaf (fun _ => hlT) rfl, rfl, HT.out.1⟩
 ·
  go_upto_region 20 with (fail)
  refine wp_region_lit ?_
  have hV : ∀ k : Nat, k < 3 -> ∃ V : Bs, ([[83, 97, 108, 101, 115, 91, 78, 101, 116, 93], [84, 91, 77, 121, 32, 67, 111, 108, 93], [83, 97, 108, 101, 115, 91, 97, 45, 98, 93]] : List Bs)[k]? = some V /\ V.length <= 10 := fun k h => ⟨([[83, 97, 108, 101, 115, 91, 78, 101, 116, 93], [84, 91, 77, 121, 32, 67, 111, 108, 93], [83, 97, 108, 101, 115, 91, 97, 45, 98, 93]] : List Bs)[k]'h, by simp [h], (by decide : ∀ x ∈ ([[83, 97, 108, 101, 115, 91, 78, 101, 116, 93], [84, 91, 77, 121, 32, 67, 111, 108, 93], [83, 97, 108, 101, 115, 91, 97, 45, 98, 93]] : List Bs), x.length <= 10) _ (List.getElem_mem _)⟩
  obtain ⟨k, hk, hk'⟩ := pick_nat x.n 3 (by decide)
  rw [show ((3 : Nat) : Int) = 3 from rfl] at hk
  have hkI : (k : Int) < 3 := by omega
  have cQ := fun W => cI 3 W (by omega) (by omega)
  rw [hk] at cQ
  obtain ⟨V, hV⟩ := hV k hk'
  refine mrw 3 9 ((([[83, 97, 108, 101, 115, 91, 78, 101, 116, 93], [84, 91, 77, 121, 32, 67, 111, 108, 93], [83, 97, 108, 101, 115, 91, 97, 45, 98, 93]] : List Bs).map fun x => Value.string ⟨x.toArray⟩).toArray) ?_
  rintro w8 ⟨hx, qt⟩
  replace c2 := (hx.cell (p := ⟨w.heap.size, 2, none⟩) z).trans c2
  replace z := Nat.lt_of_lt_of_le z hx.size
  replace r := kq hx r
  replace hb := after hb hx
  obtain ⟨ft, -, zt⟩ := lie_cell qt
  have hc := (ft k).trans (str_at2 hV.1)
  clear ft qt hx
  iterate 2 refine st ?_
  refine wpList_enter 38 #[.int .i64 x.n, .int .i64 3] (by kernel_rfl) (by kernel_rfl) _ (cQ w8) ?_
  rintro e W ⟨rfl, rfl⟩
  refine ⟨_, rfl, ?_⟩
  iterate 2 refine st ?_
  have hVl := hV.2
  refine wr (.agg (nodeC (.mk 8 V 0 0 false 0 RefD.zero RefD.zero 0 []) (.slice none 0 0)).toArray) w8 ?_
  refine wpList_store_mid rfl 30 (.tmp 2) (.tmp 70) rfl (w.heap.size + 1) 0 (nodeC (.mk 8 V 0 0 false 0 RefD.zero RefD.zero 0 []) (.slice none 0 0)).toArray rfl rfl (whole_there r rfl) cellsNode (nodeC_one _ _ _ _) ?_
  refine wpList_abs (fun W => Below w.heap.size w W /\ W.heap[w.heap.size + 1]? = some (.cells (nodeC (.mk 8 V 0 0 false 0 RefD.zero RefD.zero 0 []) (.slice none 0 0)).toArray 30 (0, 0))) ⟨below_cells2 (Nat.le_succ _) _ _ _ hb, box_whole r rfl⟩ ?_
  rintro wE ⟨hbE, rE⟩
  refine wpList_nil ?_
  have HT := Lib.hid (And.intro hbE rE)
  clear hb r hbE rE
  go_wp2
  exact bodyPost_ret (results_cell_row rfl _ _ (w.heap.size + 1) 30 (nodeC (.mk 8 V 0 0 false 0 RefD.zero RefD.zero 0 []) (.slice none 0 0)).toArray (0, 0) _ rfl HT.out.2 underlying30 rfl cellsNode) rfl ⟨(.mk 8 V 0 0 false 0 RefD.zero RefD.zero 0 []), rfl, leaf_smT (by omega) (by decide) zero_sz zero_sz, leaf_nice (by decide), rfl, HT.out.1⟩
 ·
  go_upto_region 21 with (fail)
  refine wp_region_lit ?_
  iterate 2 refine st ?_
  refine wpList_enter 21 #[.int .i64 x.n] (by kernel_rfl) (by kernel_rfl) _ (cM w6) ?_
  rintro e W ⟨M, E, rfl, hx, hM0, hM1⟩
  refine ⟨_, rfl, ?_⟩
  replace r := kq hx r
  replace hb := after hb hx
  refine wr (.agg (nodeC (.mk 1 [] M E false 0 RefD.zero RefD.zero 0 []) (.slice none 0 0)).toArray) W ?_
  refine wpList_store_mid rfl 30 (.tmp 2) (.tmp 74) rfl (w.heap.size + 1) 0 (nodeC (.mk 1 [] M E false 0 RefD.zero RefD.zero 0 []) (.slice none 0 0)).toArray rfl rfl (whole_there r rfl) cellsNode (nodeC_one _ _ _ _) ?_
  refine wpList_abs (fun W => Below w.heap.size w W /\ W.heap[w.heap.size + 1]? = some (.cells (nodeC (.mk 1 [] M E false 0 RefD.zero RefD.zero 0 []) (.slice none 0 0)).toArray 30 (0, 0))) ⟨below_cells2 (Nat.le_succ _) _ _ _ hb, box_whole r rfl⟩ ?_
  rintro wE ⟨hbE, rE⟩
  refine wpList_nil ?_
  have HT := Lib.hid (And.intro hbE rE)
  clear hb r hbE rE
  go_wp2
  exact bodyPost_ret (results_cell_row rfl _ _ (w.heap.size + 1) 30 (nodeC (.mk 1 [] M E false 0 RefD.zero RefD.zero 0 []) (.slice none 0 0)).toArray (0, 0) _ rfl HT.out.2 underlying30 rfl cellsNode) rfl ⟨(.mk 1 [] M E false 0 RefD.zero RefD.zero 0 []), rfl, leaf_smT (by decide) (by omega) zero_sz zero_sz, leaf_nice (by decide), rfl, HT.out.1⟩
end Go.Proofs.YtlpgigdegnbkmaaGreatDoor
