import Derived.Test.YtlpgigdegnbkmaaGreatDoorN02
set_option maxRecDepth 100000
set_option maxHeartbeats 16000000
namespace Tab
theorem low_bound {n k : Nat} (h : (dgN n).length <= k) : n < 10 ^ k := by
 have h1 := vals_lt (dgN_low n)
 rw [vals_dgN] at h1
 exact Nat.lt_of_lt_of_le h1 (Nat.pow_le_pow_right (by decide) h)
theorem dgN_head (n : Nat) : (dgN n).getD 0 0 = n % 10 := by
 by_cases h : n = 0
 ·subst h; rw [dgN_zero]; rfl
 ·rw [dgN_pos h]; rfl
end Tab
namespace Go.Proofs.YtlpgigdegnbkmaaGreatDoor
open Go.RowKit Tab Tryz
def nearW : Option (Int × Int) -> Value
 | none => .tuple #[decV (0, 0), .int .i64 10]
 | some p => .tuple #[decV p, .int .i64 0]
theorem near_any (N D : Nat) (hD0 : 0 < D) (hN : (dgN N).length <= 100) (hD : (dgN D).length <= 100) (v u : Value) (w : World) (hL : IntRow w v (dgN N)) (hM : IntRow w u (dgN D)) : Calls prog 73 #[.bool false, v, u] w (Ret (nearW (nearN N D 19 (-9))) w) := by
 obtain ⟨V, hV⟩ : ∃ V, nearN N D 19 (-9) = V := ⟨_, rfl⟩
 rw [hV]
 have HV := Lib.hid hV
 clear hV
 have cTN := fun (m : Int) (n : Nat) (h1 : m.toNat = n) (h2 : n <= 9) (h3 : -1000 <= m) W (hb : Below w.heap.size w W) => ten_any N (by omega) m n h1 (by omega) h3 v W (hL.below hb)
 have cTD := fun (m : Int) (n : Nat) (h1 : m.toNat = n) (h2 : n <= 9) (h3 : -1000 <= m) W (hb : Below w.heap.size w W) => ten_any D (by omega) m n h1 (by omega) h3 u W (hM.below hb)
 have lN := fun n => dgN_len_pow N n
 have lD := fun n => dgN_len_pow D n
 clear hL hM
 go_enter func73, ntmps73
 go_upto_region 1 with fail
 refine wp_abs2 (fun W => Blk W w.heap.size #[.int .i64 0, .int .i64 0] /\ Below w.heap.size w W) ⟨blnx, belx⟩ ?_
 rintro W ⟨hB, hW⟩
 go_wp2_with fail
 go_loopw [8] (fun i w' => ∃ (f : Nat) (e : Int), i = .int .i64 e /\ e + (f : Int) = 10 /\ -9 <= e /\ nearN N D f e = V /\ Blk w' w.heap.size #[.int .i64 0, .int .i64 0] /\ Below w.heap.size w w') (fun i _ => (10 - intOf i).toNat)
 case atStart => exact ⟨19, -9, rfl, by decide, by decide, HV.out, hB, hW⟩
 case round =>
  clear HV hB hW
  obtain ⟨f, e, rfl, hf, he, hI, hB, hW⟩ := hrel
  have HI := Lib.hid hI
  clear hI
  cases f with
  | zero =>
   have hv : V = none := HI.out.symm
   subst hv
   have e1 : decide (e <= 9) = false := decide_eq_false (by omega)
   obtain ⟨q0, q1, hb9⟩ := cell2_give hB hW 0 0
   obtain ⟨fr, gr, zr⟩ := hB.facts
   have cr0 := fr 0
   have cr1 := fr 1
   clear fr
   simp only [List.getElem?_toArray, List.getElem?_cons_zero, List.getElem?_cons_succ] at cr0 cr1
   have HB9 := Lib.hid hb9
   clear hb9 cTN cTD HI
   go_wp2
   exact bodyPost_ret (v := .tuple #[decV (0, 0), .int .i64 10]) (by simp [results, Tryz.results73, go_sem, decV, *]) rfl ⟨rfl, HB9.out⟩
  | succ f =>
   have e1 : decide (e <= 9) = true := decide_eq_true (by omega)
   have ewn : IntKind.i64.wrap (-e) = -e := IntWalk.i64_in _ (by omega)
   have ewe : IntKind.i64.wrap (e + 1) = e + 1 := IntWalk.i64_in _ (by omega)
   have cTN := cTN (-e) (-e).toNat rfl (by omega) (by omega)
   have cTD := cTD e e.toNat rfl (by omega) (by omega)
   have lN := lN (-e).toNat
   have lD := lD e.toNat
   have hst : (if 999999999999999 < rndN (N * 10 ^ (-e).toNat) (D * 10 ^ e.toNat) then nearN N D f (e + 1) else some (lowD (rndN (N * 10 ^ (-e).toNat) (D * 10 ^ e.toNat)) e)) = V := HI.out
   have hB0 : 0 < D * 10 ^ e.toNat := Nat.mul_pos hD0 (Nat.pow_pos (by decide))
   obtain ⟨A, hA⟩ : ∃ A, N * 10 ^ (-e).toNat = A := ⟨_, rfl⟩
   obtain ⟨B, hBe⟩ : ∃ B, D * 10 ^ e.toNat = B := ⟨_, rfl⟩
   rw [hA, hBe] at hst
   rw [hA] at cTN lN
   rw [hBe] at cTD lD hB0
   have lA : (dgN A).length <= 109 := by omega
   have lB : (dgN B).length <= 109 := by omega
   unfold rndN at hst
   obtain ⟨Q, hQ⟩ : ∃ Q, A / B = Q := ⟨_, rfl⟩
   obtain ⟨R, hR⟩ : ∃ R, A % B = R := ⟨_, rfl⟩
   rw [hQ, hR] at hst
   have hQA : Q <= A := by rw [<- hQ]; exact Nat.div_le_self _ _
   have hRB : R < B := by rw [<- hR]; exact Nat.mod_lt _ hB0
   have lQ : (dgN Q).length <= 109 := by have := dgN_len_le hQA; omega
   have lR : (dgN R).length <= 109 := by have := dgN_len_le (Nat.le_of_lt hRB); omega
   have l2R : (dgN (R + R)).length <= 110 := by
    have h1 := dgN_len_le (show R + R <= B * 10 ^ 1 by omega)
    have h2 := dgN_len_pow B 1
    omega
   have lQ1 : (dgN (Q + 1)).length <= 110 := dgN_len_bound (by
    have h1 := low_bound lQ
    have h2 : (10 : Nat) ^ 109 < 10 ^ 110 := Nat.pow_lt_pow_right (by decide) (by decide)
    omega)
   have HS := Lib.hid hst
   have HLQ := Lib.hid lQ
   have HL1 := Lib.hid lQ1
   have cB := fun v u W h1 h2 => by_any A B hB0 (by omega) (by omega) v u W h1 h2
   rw [hQ, hR] at cB
   clear hst lN lD hA hBe hQ hR HI lQ1 hQA lQ
   go_wp2_with fail
   refine (cTD _ hW).mono ?_; rintro e4 w4 ⟨v4, rfl, h4, hb⟩
   replace hW := after hW hb
   replace hB := hB.below hb
   clear hb cTD
   go_wp2_with fail
   refine (cTN _ hW).mono ?_; rintro e5 w5 ⟨v5, rfl, h5, hb⟩
   replace hW := after hW hb
   replace hB := hB.below hb
   replace h4 := h4.below hb
   clear hb cTN
   go_wp2_with fail
   refine (cB _ _ _ h5 h4).mono ?_; rintro e6 w6 ⟨q6, r6, rfl, hq, hr, hb⟩
   replace hW := after hW hb
   replace hB := hB.below hb
   replace h4 := h4.below hb
   clear hb cB h5
   have cP := plus_any R R (by omega) (by omega) r6 r6 w6 hr hr
   go_wp2_with fail
   refine cP.mono ?_; rintro e7 w7 ⟨t7, rfl, ht, hb⟩
   replace hW := after hW hb
   replace hB := hB.below hb
   replace h4 := h4.below hb
   replace hq := hq.below hb
   clear hb cP hr
   have cL1 := less_any B (R + R) (by omega) (by omega) v4 t7 w7 h4 ht
   by_cases h1 : B < R + R
   ·rw [decide_eq_true h1] at cL1
    have hst := HS.out
    rw [show (if B < 2 * R \/ (¬ 2 * R < B /\ Q % 2 = 1) then Q + 1 else Q) = Q + 1 from if_pos (.inl (by omega))] at hst
    have HS := Lib.hid hst
    clear hst
    go_wp2_with fail
    refine cL1.mono ?_; rintro e8 w8 ⟨rfl, hb⟩
    replace hW := after hW hb
    replace hB := hB.below hb
    replace hq := hq.below hb
    clear hb cL1 h4 ht h1
    have cP := plus_any Q 1 (by have := HLQ.out; omega) (by rw [dgN_pos (by decide), dgN_zero]; decide) q6 (.slice (some ⟨w8.heap.size, 0, none⟩) 1 1) (w8.alloc (.cells #[.int .i64 ((1 : Nat) : Int)] 3 (0, 0))) (hq.below (allocB (Below.refl _ _))) (by rw [dgN_pos (show 1 ≠ 0 by decide), dgN_zero]; exact intRow_one _ 1 _)
    go_wp2_with fail
    refine cP.mono ?_; rintro ep wp ⟨qp, rfl, hqp, hb⟩
    have hb' := after (allocB (Below.refl w8.heap.size w8)) hb
    replace hW := after hW hb'
    replace hB := hB.below hb'
    clear hb hb' cP hq
    have hx : (dgN (Q + 1)).length <= 110 := HL1.out
    generalize Q + 1 = X at *
    clear HL1 HLQ
    have cD := fun W => digits_any 999999999999999 (by decide) W
    have lm : (dgN 999999999999999).length <= 110 := dgN_len_bound (Nat.lt_of_lt_of_le (show 999999999999999 < 10 ^ 15 by decide) (Nat.pow_le_pow_right (by decide) (by decide)))
    go_wp2_with fail
    refine (cD _).mono ?_; rintro ed wd ⟨vd, rfl, hvd, hb⟩
    replace hW := after hW hb
    replace hB := hB.below hb
    replace hqp := hqp.below hb
    clear hb cD
    have cL3 := less_any 999999999999999 X (by omega) (by omega) _ _ wd hvd hqp
    by_cases hbig : 999999999999999 < X
    ·rw [decide_eq_true hbig] at cL3
     have hst := HS.out
     rw [if_pos hbig] at hst
     have HS := Lib.hid hst
     clear hst hvd hbig
     go_wp2_with fail
     refine cL3.mono ?_; rintro e9 w9 ⟨rfl, hb⟩
     replace hW := after hW hb
     replace hB := hB.below hb
     clear hb cL3 hqp
     go_wp2
     go_roundw
     case rel => exact ⟨f, e + 1, rfl, by omega, by omega, HS.out, hB, hW⟩
     case measure => simp [intOf]; omega
    ·rw [decide_eq_false hbig] at cL3
     have hst := HS.out
     rw [if_neg hbig] at hst
     subst hst
     clear hvd HS
     go_wp2_with fail
     refine cL3.mono ?_; rintro e9 w9 ⟨rfl, hb⟩
     replace hW := after hW hb
     replace hB := hB.below hb
     replace hqp := hqp.below hb
     clear hb cL3
     have cV := value_any X (by omega) _ w9 hqp
     have cO := fun W => lowest_any X (by omega) e (by omega) (by omega) W
     obtain ⟨⟨P, E⟩, hp⟩ : ∃ p, lowD X e = p := ⟨_, rfl⟩
     rw [hp] at cO
     have HP := Lib.hid hp
     clear hp hqp
     unfold decV at cO
     dsimp only at cO
     go_wp2_with fail
     refine cV.mono ?_; rintro ev wv ⟨rfl, rfl⟩
     go_wp2_with fail
     refine (cO _).mono ?_; rintro eo wo ⟨rfl, hb⟩
     replace hW := after hW hb
     replace hB := hB.below hb
     clear hb cV cO
     obtain ⟨q0, q1, hb9⟩ := cell2_give hB hW P E
     obtain ⟨fr, gr, zr⟩ := hB.facts
     have cr0 := fr 0
     have cr1 := fr 1
     clear fr
     simp only [List.getElem?_toArray, List.getElem?_cons_zero, List.getElem?_cons_succ] at cr0 cr1
     have HB9 := Lib.hid (allocB (o := .cells #[.int .i64 P, .int .i64 E] 25) hb9)
     clear hb9
     go_wp2
     exact bodyPost_ret (v := .tuple #[decV (P, E), .int .i64 0]) (by simp [results, Tryz.results73, go_sem, decV, *]) rfl ⟨by rw [HP.out]; rfl, HB9.out⟩
   ·rw [decide_eq_false h1] at cL1
    have cL2 := fun W hb => less_any (R + R) B (by omega) (by omega) t7 v4 W (ht.below hb) (h4.below hb)
    by_cases h2 : R + R < B
    ·have e2 := decide_eq_true h2
     rw [e2] at cL2
     have hst := HS.out
     rw [show (if B < 2 * R \/ (¬ 2 * R < B /\ Q % 2 = 1) then Q + 1 else Q) = Q from if_neg (by omega)] at hst
     have HS := Lib.hid hst
     clear hst
     go_wp2_with fail
     refine cL1.mono ?_; rintro e8 w8 ⟨rfl, hb⟩
     replace cL2 := cL2 w8 hb
     replace hW := after hW hb
     replace hB := hB.below hb
     replace hq := hq.below hb
     clear hb cL1 h4 ht
     go_wp2_with fail
     refine cL2.mono ?_; rintro e8 w8b ⟨rfl, hb⟩
     replace hW := after hW hb
     replace hB := hB.below hb
     replace hq := hq.below hb
     clear hb cL2 h1 h2 e2
     have hqp := hq
     have hx : (dgN Q).length <= 110 := Nat.le_trans HLQ.out (by decide)
     clear hq
     generalize Q = X at *
     clear HL1 HLQ
     have cD := fun W => digits_any 999999999999999 (by decide) W
     have lm : (dgN 999999999999999).length <= 110 := dgN_len_bound (Nat.lt_of_lt_of_le (show 999999999999999 < 10 ^ 15 by decide) (Nat.pow_le_pow_right (by decide) (by decide)))
     go_wp2_with fail
     refine (cD _).mono ?_; rintro ed wd ⟨vd, rfl, hvd, hb⟩
     replace hW := after hW hb
     replace hB := hB.below hb
     replace hqp := hqp.below hb
     clear hb cD
     have cL3 := less_any 999999999999999 X (by omega) (by omega) _ _ wd hvd hqp
     by_cases hbig : 999999999999999 < X
     ·rw [decide_eq_true hbig] at cL3
      have hst := HS.out
      rw [if_pos hbig] at hst
      have HS := Lib.hid hst
      clear hst hvd hbig
      go_wp2_with fail
      refine cL3.mono ?_; rintro e9 w9 ⟨rfl, hb⟩
      replace hW := after hW hb
      replace hB := hB.below hb
      clear hb cL3 hqp
      go_wp2
      go_roundw
      case rel => exact ⟨f, e + 1, rfl, by omega, by omega, HS.out, hB, hW⟩
      case measure => simp [intOf]; omega
     ·rw [decide_eq_false hbig] at cL3
      have hst := HS.out
      rw [if_neg hbig] at hst
      subst hst
      clear hvd HS
      go_wp2_with fail
      refine cL3.mono ?_; rintro e9 w9 ⟨rfl, hb⟩
      replace hW := after hW hb
      replace hB := hB.below hb
      replace hqp := hqp.below hb
      clear hb cL3
      have cV := value_any X (by omega) _ w9 hqp
      have cO := fun W => lowest_any X (by omega) e (by omega) (by omega) W
      obtain ⟨⟨P, E⟩, hp⟩ : ∃ p, lowD X e = p := ⟨_, rfl⟩
      rw [hp] at cO
      have HP := Lib.hid hp
      clear hp hqp
      unfold decV at cO
      dsimp only at cO
      go_wp2_with fail
      refine cV.mono ?_; rintro ev wv ⟨rfl, rfl⟩
      go_wp2_with fail
      refine (cO _).mono ?_; rintro eo wo ⟨rfl, hb⟩
      replace hW := after hW hb
      replace hB := hB.below hb
      clear hb cV cO
      obtain ⟨q0, q1, hb9⟩ := cell2_give hB hW P E
      obtain ⟨fr, gr, zr⟩ := hB.facts
      have cr0 := fr 0
      have cr1 := fr 1
      clear fr
      simp only [List.getElem?_toArray, List.getElem?_cons_zero, List.getElem?_cons_succ] at cr0 cr1
      have HB9 := Lib.hid (allocB (o := .cells #[.int .i64 P, .int .i64 E] 25) hb9)
      clear hb9
      go_wp2
      exact bodyPost_ret (v := .tuple #[decV (P, E), .int .i64 0]) (by simp [results, Tryz.results73, go_sem, decV, *]) rfl ⟨by rw [HP.out]; rfl, HB9.out⟩
    ·have e2 := decide_eq_false h2
     rw [e2] at cL2
     have cA := fun W hb => intAt_any (dgN Q) (by have := HLQ.out; omega) 0 (by decide) q6 W (hq.below hb)
     rw [dgN_head] at cA
     have e4 : ((Q % 10 : Nat) : Int).tmod 2 = ((Q % 2 : Nat) : Int) := by rw [Int.tmod_eq_emod_of_nonneg (by omega)]; omega
     by_cases h3 : Q % 2 = 1
     ·have e5 : (((Q % 2 : Nat) : Int) == 1) = true := by rw [beq_iff_eq]; omega
      have hst := HS.out
      rw [show (if B < 2 * R \/ (¬ 2 * R < B /\ Q % 2 = 1) then Q + 1 else Q) = Q + 1 from if_pos (.inr ⟨by omega, h3⟩)] at hst
      have HS := Lib.hid hst
      clear hst
      go_wp2_with fail
      refine cL1.mono ?_; rintro e8 w8 ⟨rfl, hb⟩
      replace cL2 := cL2 w8 hb
      replace cA := cA w8 hb
      replace hW := after hW hb
      replace hB := hB.below hb
      replace hq := hq.below hb
      clear hb cL1 h4 ht
      have cA := fun W hb => intAt_any (dgN Q) (by have := HLQ.out; omega) 0 (by decide) q6 W (hq.below hb)
      rw [dgN_head] at cA
      go_wp2_with fail
      refine cL2.mono ?_; rintro e8 w8b ⟨rfl, hb⟩
      replace cA := cA w8b hb
      replace hW := after hW hb
      replace hB := hB.below hb
      replace hq := hq.below hb
      clear hb cL2 h1 h2 e2
      go_wp2_with fail
      refine cA.mono ?_; rintro e8 w8c ⟨rfl, rfl⟩
      clear cA h3
      have cP := plus_any Q 1 (by have := HLQ.out; omega) (by rw [dgN_pos (by decide), dgN_zero]; decide) q6 (.slice (some ⟨w8b.heap.size, 0, none⟩) 1 1) (w8b.alloc (.cells #[.int .i64 ((1 : Nat) : Int)] 3 (0, 0))) (hq.below (allocB (Below.refl _ _))) (by rw [dgN_pos (show 1 ≠ 0 by decide), dgN_zero]; exact intRow_one _ 1 _)
      go_wp2_with fail
      refine cP.mono ?_; rintro ep wp ⟨qp, rfl, hqp, hb⟩
      have hb' := after (allocB (Below.refl w8b.heap.size w8b)) hb
      replace hW := after hW hb'
      replace hB := hB.below hb'
      clear hb hb' cP hq
      have hx : (dgN (Q + 1)).length <= 110 := HL1.out
      generalize Q + 1 = X at *
      clear HL1 HLQ
      have cD := fun W => digits_any 999999999999999 (by decide) W
      have lm : (dgN 999999999999999).length <= 110 := dgN_len_bound (Nat.lt_of_lt_of_le (show 999999999999999 < 10 ^ 15 by decide) (Nat.pow_le_pow_right (by decide) (by decide)))
      go_wp2_with fail
      refine (cD _).mono ?_; rintro ed wd ⟨vd, rfl, hvd, hb⟩
      replace hW := after hW hb
      replace hB := hB.below hb
      replace hqp := hqp.below hb
      clear hb cD
      have cL3 := less_any 999999999999999 X (by omega) (by omega) _ _ wd hvd hqp
      by_cases hbig : 999999999999999 < X
      ·rw [decide_eq_true hbig] at cL3
       have hst := HS.out
       rw [if_pos hbig] at hst
       have HS := Lib.hid hst
       clear hst hvd hbig
       go_wp2_with fail
       refine cL3.mono ?_; rintro e9 w9 ⟨rfl, hb⟩
       replace hW := after hW hb
       replace hB := hB.below hb
       clear hb cL3 hqp
       go_wp2
       go_roundw
       case rel => exact ⟨f, e + 1, rfl, by omega, by omega, HS.out, hB, hW⟩
       case measure => simp [intOf]; omega
      ·rw [decide_eq_false hbig] at cL3
       have hst := HS.out
       rw [if_neg hbig] at hst
       subst hst
       clear hvd HS
       go_wp2_with fail
       refine cL3.mono ?_; rintro e9 w9 ⟨rfl, hb⟩
       replace hW := after hW hb
       replace hB := hB.below hb
       replace hqp := hqp.below hb
       clear hb cL3
       have cV := value_any X (by omega) _ w9 hqp
       have cO := fun W => lowest_any X (by omega) e (by omega) (by omega) W
       obtain ⟨⟨P, E⟩, hp⟩ : ∃ p, lowD X e = p := ⟨_, rfl⟩
       rw [hp] at cO
       have HP := Lib.hid hp
       clear hp hqp
       unfold decV at cO
       dsimp only at cO
       go_wp2_with fail
       refine cV.mono ?_; rintro ev wv ⟨rfl, rfl⟩
       go_wp2_with fail
       refine (cO _).mono ?_; rintro eo wo ⟨rfl, hb⟩
       replace hW := after hW hb
       replace hB := hB.below hb
       clear hb cV cO
       obtain ⟨q0, q1, hb9⟩ := cell2_give hB hW P E
       obtain ⟨fr, gr, zr⟩ := hB.facts
       have cr0 := fr 0
       have cr1 := fr 1
       clear fr
       simp only [List.getElem?_toArray, List.getElem?_cons_zero, List.getElem?_cons_succ] at cr0 cr1
       have HB9 := Lib.hid (allocB (o := .cells #[.int .i64 P, .int .i64 E] 25) hb9)
       clear hb9
       go_wp2
       exact bodyPost_ret (v := .tuple #[decV (P, E), .int .i64 0]) (by simp [results, Tryz.results73, go_sem, decV, *]) rfl ⟨by rw [HP.out]; rfl, HB9.out⟩
     ·have e5 : (((Q % 2 : Nat) : Int) == 1) = false := by rw [beq_eq_false_iff_ne]; omega
      have hst := HS.out
      rw [show (if B < 2 * R \/ (¬ 2 * R < B /\ Q % 2 = 1) then Q + 1 else Q) = Q from if_neg (by omega)] at hst
      have HS := Lib.hid hst
      clear hst
      go_wp2_with fail
      refine cL1.mono ?_; rintro e8 w8 ⟨rfl, hb⟩
      replace cL2 := cL2 w8 hb
      replace cA := cA w8 hb
      replace hW := after hW hb
      replace hB := hB.below hb
      replace hq := hq.below hb
      clear hb cL1 h4 ht
      have cA := fun W hb => intAt_any (dgN Q) (by have := HLQ.out; omega) 0 (by decide) q6 W (hq.below hb)
      rw [dgN_head] at cA
      go_wp2_with fail
      refine cL2.mono ?_; rintro e8 w8b ⟨rfl, hb⟩
      replace cA := cA w8b hb
      replace hW := after hW hb
      replace hB := hB.below hb
      replace hq := hq.below hb
      clear hb cL2 h1 h2 e2
      go_wp2_with fail
      refine cA.mono ?_; rintro e8 w8c ⟨rfl, rfl⟩
      clear cA h3
      have hqp := hq
      have hx : (dgN Q).length <= 110 := Nat.le_trans HLQ.out (by decide)
      clear hq
      generalize Q = X at *
      clear HL1 HLQ
      have cD := fun W => digits_any 999999999999999 (by decide) W
      have lm : (dgN 999999999999999).length <= 110 := dgN_len_bound (Nat.lt_of_lt_of_le (show 999999999999999 < 10 ^ 15 by decide) (Nat.pow_le_pow_right (by decide) (by decide)))
      go_wp2_with fail
      refine (cD _).mono ?_; rintro ed wd ⟨vd, rfl, hvd, hb⟩
      replace hW := after hW hb
      replace hB := hB.below hb
      replace hqp := hqp.below hb
      clear hb cD
      have cL3 := less_any 999999999999999 X (by omega) (by omega) _ _ wd hvd hqp
      by_cases hbig : 999999999999999 < X
      ·rw [decide_eq_true hbig] at cL3
       have hst := HS.out
       rw [if_pos hbig] at hst
       have HS := Lib.hid hst
       clear hst hvd hbig
       go_wp2_with fail
       refine cL3.mono ?_; rintro e9 w9 ⟨rfl, hb⟩
       replace hW := after hW hb
       replace hB := hB.below hb
       clear hb cL3 hqp
       go_wp2
       go_roundw
       case rel => exact ⟨f, e + 1, rfl, by omega, by omega, HS.out, hB, hW⟩
       case measure => simp [intOf]; omega
      ·rw [decide_eq_false hbig] at cL3
       have hst := HS.out
       rw [if_neg hbig] at hst
       subst hst
       clear hvd HS
       go_wp2_with fail
       refine cL3.mono ?_; rintro e9 w9 ⟨rfl, hb⟩
       replace hW := after hW hb
       replace hB := hB.below hb
       replace hqp := hqp.below hb
       clear hb cL3
       have cV := value_any X (by omega) _ w9 hqp
       have cO := fun W => lowest_any X (by omega) e (by omega) (by omega) W
       obtain ⟨⟨P, E⟩, hp⟩ : ∃ p, lowD X e = p := ⟨_, rfl⟩
       rw [hp] at cO
       have HP := Lib.hid hp
       clear hp hqp
       unfold decV at cO
       dsimp only at cO
       go_wp2_with fail
       refine cV.mono ?_; rintro ev wv ⟨rfl, rfl⟩
       go_wp2_with fail
       refine (cO _).mono ?_; rintro eo wo ⟨rfl, hb⟩
       replace hW := after hW hb
       replace hB := hB.below hb
       clear hb cV cO
       obtain ⟨q0, q1, hb9⟩ := cell2_give hB hW P E
       obtain ⟨fr, gr, zr⟩ := hB.facts
       have cr0 := fr 0
       have cr1 := fr 1
       clear fr
       simp only [List.getElem?_toArray, List.getElem?_cons_zero, List.getElem?_cons_succ] at cr0 cr1
       have HB9 := Lib.hid (allocB (o := .cells #[.int .i64 P, .int .i64 E] 25) hb9)
       clear hb9
       go_wp2
       exact bodyPost_ret (v := .tuple #[decV (P, E), .int .i64 0]) (by simp [results, Tryz.results73, go_sem, decV, *]) rfl ⟨by rw [HP.out]; rfl, HB9.out⟩
end Go.Proofs.YtlpgigdegnbkmaaGreatDoor
namespace Tab
theorem while_step (P : Nat -> Bool) (l : Bs) (j : Nat) (h : j < l.length) : whileD P (l.drop j) = if P l[j].toNat = true then l[j] :: whileD P (l.drop (j + 1)) else [] := by
 rw [List.drop_eq_getElem_cons h]
 unfold whileD
 rw [List.takeWhile_cons]
theorem while_end (P : Nat -> Bool) (l : Bs) (j : Nat) (h : l.length <= j) : whileD P (l.drop j) = [] := by
 rw [List.drop_eq_nil_of_le h]; rfl
end Tab
namespace Go.Proofs.YtlpgigdegnbkmaaGreatDoor
open Go.RowKit Tab Tryz
theorem figs_any (s : ByteArray) (a : Nat) (ha : a <= s.size) (hs : s.size <= 1000000) (w : World) : Calls prog 78 #[.string s, .int .i64 (a : Int)] w (Still (.int .i64 ((whileD digR (s.data.toList.drop a)).length : Nat)) w) := by
 obtain ⟨V, hV⟩ : ∃ V, (whileD digR (s.data.toList.drop a)).length = V := ⟨_, rfl⟩
 rw [hV]
 have HV := Lib.hid hV
 clear hV
 go_enter func78, ntmps78
 go_wp2
 go_loop [5] (fun n => ∃ j : Nat, n = .int .i64 (j : Int) /\ a + j <= s.size /\ j + (whileD digR (s.data.toList.drop (a + j))).length = V) (fun n => s.size - (intOf n).toNat)
 case atStart => exact ⟨0, rfl, ha, by rw [Nat.zero_add]; exact HV.out⟩
 case round =>
  clear HV
  obtain ⟨j, rfl, hj, hI⟩ := hrel
  have HI := Lib.hid hI
  clear hI
  have ew1 : IntKind.i64.wrap ((a : Int) + (j : Int)) = ((a + j : Nat) : Int) := by rw [IntWalk.i64_in _ (by omega)]; omega
  have ew2 : IntKind.i64.wrap ((j : Int) + 1) = ((j + 1 : Nat) : Int) := by rw [IntWalk.i64_in _ (by omega)]; omega
  by_cases hlt : a + j < s.size
  ·have e1 : decide (((a + j : Nat) : Int) < (s.size : Int)) = true := decide_eq_true (by omega)
   have hst := while_step digR s.data.toList (a + j) (by rw [ba_size]; exact hlt)
   have hg : s.data.toList[a + j]'(by rw [ba_size]; exact hlt) = s[a + j] := rfl
   rw [hg] at hst
   have hI := HI.out
   rw [hst] at hI
   clear hst hg HI
   by_cases h1 : 48 <= s[a + j].toNat
   ·have d1 : decide (48 <= (s[a + j].toNat : Int)) = true := decide_eq_true (by omega)
    by_cases h2 : s[a + j].toNat <= 57
    ·have d2 : decide ((s[a + j].toNat : Int) <= 57) = true := decide_eq_true (by omega)
     rw [if_pos (show digR s[a + j].toNat = true from decide_eq_true ⟨h1, h2⟩), List.length_cons] at hI
     have HI := Lib.hid hI
     clear hI h1 h2
     go_wp2
     go_round
     case rel => exact ⟨j + 1, rfl, by omega, by have := HI.out; rw [<- Nat.add_assoc]; omega⟩
     case measure => simp [intOf]; omega
    ·have d2 : decide ((s[a + j].toNat : Int) <= 57) = false := decide_eq_false (by omega)
     rw [if_neg (by rw [show digR s[a + j].toNat = false from decide_eq_false (by omega)]; exact Bool.false_ne_true)] at hI
     have hI2 : j = V := hI
     subst hI2
     clear hI h1 h2
     go_wp2
     go_ret; exact Still.mk' rfl
   ·have d1 : decide (48 <= (s[a + j].toNat : Int)) = false := decide_eq_false (by omega)
    rw [if_neg (by rw [show digR s[a + j].toNat = false from decide_eq_false (by omega)]; exact Bool.false_ne_true)] at hI
    have hI2 : j = V := hI
    subst hI2
    clear hI h1
    go_wp2
    go_ret; exact Still.mk' rfl
  ·have e1 : decide (((a + j : Nat) : Int) < (s.size : Int)) = false := decide_eq_false (by omega)
   have hI := HI.out
   rw [while_end digR _ _ (by rw [ba_size]; omega)] at hI
   have hI2 : j = V := hI
   subst hI2
   clear hI HI
   go_wp2
   go_ret; exact Still.mk' rfl
end Go.Proofs.YtlpgigdegnbkmaaGreatDoor
namespace Tab
theorem tw_same (p : UInt8 -> Bool) : ∀ l : Bs, (∀ b ∈ l, p b = true) -> l.takeWhile p = l
 | [], _ => rfl
 | b :: l, h => by
  rw [List.takeWhile_cons, if_pos (h b (by simp)), tw_same p l (fun x hx => h x (by simp [hx]))]
theorem while_front (A B : Bs) (hA : ∀ b ∈ A, digR b.toNat = true) : whileD digR (numT A B) = A := by
 unfold numT whileD
 split
 ·rename_i h
  exact tw_same _ A hA
 ·rw [List.takeWhile_append_of_pos hA]
  rw [List.takeWhile_cons, if_neg (by decide), List.append_nil]
theorem while_back (A B : Bs) (h0 : B ≠ []) (hB : ∀ b ∈ B, digR b.toNat = true) : whileD digR ((numT A B).drop (A.length + 1)) = B := by
 unfold numT
 rw [if_neg h0, show A ++ 46 :: B = (A ++ [46]) ++ B by simp, List.drop_left' (by simp)]
 unfold whileD
 exact tw_same _ B hB
theorem digR_rng {b : UInt8} (h : digR b.toNat = true) : 48 <= b.toNat /\ b.toNat <= 57 := by
 unfold digR at h
 simpa using h
theorem dig_46 {b : UInt8} (h : digR b.toNat = true) : b ≠ 46 := by
 rintro rfl; exact absurd h (by decide)
theorem numT_S (A B : Bs) (hA : ∀ b ∈ A, digR b.toNat = true) (hB : ∀ b ∈ B, digR b.toNat = true) : dgS (numT A B) = dgL (A ++ B) := by
 have h1 : ∀ b ∈ A, b ≠ 46 := fun b hb => dig_46 (hA b hb)
 have h2 : ∀ b ∈ B, b ≠ 46 := fun b hb => dig_46 (hB b hb)
 unfold numT
 split
 ·rename_i h
  rw [h, List.append_nil]; exact dgS_none A h1
 ·exact dgS_point A B h1 h2
theorem numT_mem (A B : Bs) (hA : ∀ b ∈ A, digR b.toNat = true) (hB : ∀ b ∈ B, digR b.toNat = true) : ∀ b ∈ numT A B, b ≠ 46 -> 48 <= b.toNat /\ b.toNat <= 57 := by
 intro b hb h46
 unfold numT at hb
 split at hb
 ·exact digR_rng (hA b hb)
 ·rcases List.mem_append.1 hb with h | h
  ·exact digR_rng (hA b h)
  ·rcases List.mem_cons.1 h with h | h
   ·exact absurd h h46
   ·exact digR_rng (hB b h)
theorem dgS_len (l : Bs) : (dgS l).length <= l.length := by
 unfold dgS
 rw [dgL_len]
 exact List.length_filter_le _ _
def refC (A B : Bs) : Int := if A.length <= 40 /\ B.length <= 40 then readN (vals (dgL (A ++ B))) B.length else 12
end Tab
namespace Go.Proofs.YtlpgigdegnbkmaaGreatDoor
open Go.RowKit Tab Tryz
def RetDecB (c : Int) (w : World) (e : Ending) (w' : World) : Prop := ∃ M E : Int, e = .returned (.tuple #[.agg #[.int .i64 M, .int .i64 E], .int .i64 c]) /\ Below w.heap.size w w' /\ -1000000000000000 <= M /\ M <= 1000000000000000
theorem refRead_b (s : ByteArray) (A B : Bs) (hs : s.data.toList = numT A B) (h0 : A ≠ []) (hA : ∀ b ∈ A, digR b.toNat = true) (hB : ∀ b ∈ B, digR b.toNat = true) (hsz : s.size <= 2000) (w : World) : Calls prog 39 #[.string s] w (RetDecB (refC A B) w) := by
 have hwA := while_front A B hA
 have hS := numT_S A B hA hB
 have hmem := numT_mem A B hA hB
 have hAl : 1 <= A.length := by
  cases A with
  | nil => exact absurd rfl h0
  | cons => simp
 have hz : s.size = (numT A B).length := by rw [<- ba_size, hs]
 have f1 := fun W => figs_any s 0 (by omega) (by omega) W
 rw [List.drop_zero, hs, hwA] at f1
 have hAs : A.length <= s.size := by rw [hz]; unfold numT; split <;> simp
 have hs1 : 0 < s.size := by omega
 have h00 : (s[0]'hs1).toNat ≠ 45 := by
  have h1 : s.data.toList[0]'(by rw [ba_size]; omega) = s[0]'hs1 := rfl
  have h2 : (numT A B)[0]? = A[0]? := by
   unfold numT
   split
   ·rfl
   ·rw [List.getElem?_append_left (by omega)]
  have h3 : s.data.toList[0]? = some (s[0]'hs1) := by rw [List.getElem?_eq_getElem (by rw [ba_size]; omega)]; rfl
  rw [hs, h2, List.getElem?_eq_getElem (by omega)] at h3
  injection h3 with h3
  rw [<- h3]
  have := digR_rng (hA A[0] (List.getElem_mem _))
  omega
 have e45 : (((s[0]'hs1).toNat : Int) == 45) = false := by rw [beq_eq_false_iff_ne]; omega
 have e0 : decide (0 < (s.size : Int)) = true := decide_eq_true (by omega)
 have hmem2 : ∀ (i : Nat) (h : i < s.size), s[i] ≠ 46 -> 48 <= s[i].toNat /\ s[i].toNat <= 57 := fun i h => by
  have h1 : s.data.toList[i]'(by rw [ba_size]; exact h) = s[i] := rfl
  rw [<- h1]
  exact hmem _ (by rw [<- hs]; exact List.getElem_mem _)
 have hlow : Low (dgS s.data.toList) := by
  rw [hs, hS]
  exact dgL_low _ (fun b hb => by
   rcases List.mem_append.1 hb with h | h
   ·exact digR_rng (hA b h)
   ·exact digR_rng (hB b h))
 have hN : (dgL (A ++ B)).length = A.length + B.length := by rw [dgL_len, List.length_append]
 obtain ⟨V, hV⟩ : ∃ V, refC A B = V := ⟨_, rfl⟩
 rw [hV]
 have HS := Lib.hid (show dgS s.data.toList = dgL (A ++ B) by rw [hs]; exact hS)
 have HM := Lib.hid hmem2
 have HL := Lib.hid hlow
 have HV := Lib.hid hV
 have HN := Lib.hid hN
 clear hV hS hmem hmem2 hlow hwA h00 hN
 by_cases hB0 : B = []
 ·have hz2 : s.size = A.length := by rw [hz]; unfold numT; rw [if_pos hB0]
  have hBl : B.length = 0 := by rw [hB0]; rfl
  have e1 : decide ((A.length : Int) < (s.size : Int)) = false := decide_eq_false (by omega)
  have ewA : IntKind.i64.wrap (0 + (A.length : Int)) = (s.size : Int) := by rw [IntWalk.i64_in _ (by omega)]; omega
  have ewA' : IntKind.i64.wrap (A.length : Int) = (s.size : Int) := by rw [IntWalk.i64_in _ (by omega)]; omega
  have eAs : (A.length : Int) = (s.size : Int) := by omega
  have hBI : ((B.length : Nat) : Int) = 0 := by omega
  clear hB0 hz hs hA hB h0 hz2 hBl
  go_enter func39, ntmps39
  go_upto_region 1 with fail
  refine wp_abs2 (fun W => Blk W w.heap.size #[.int .i64 0, .int .i64 0] /\ Below w.heap.size w W) ⟨blnx, belx⟩ ?_
  rintro W ⟨hK, hW⟩
  go_wp2_with fail
  refine (f1 _).mono ?_; rintro e w1 ⟨rfl, rfl⟩
  clear f1
  have eA1 : decide ((A.length : Int) < 1) = false := decide_eq_false (by omega)
  by_cases la : A.length <= 40
  rotate_left
  ·have eA2 : decide (40 < (A.length : Int)) = true := decide_eq_true (by omega)
   have hv : V = 12 := by rw [<- HV.out]; unfold refC; rw [if_neg (by omega)]
   subst hv
   obtain ⟨q0, q1, hb9⟩ := cell2_give hK hW 0 0
   obtain ⟨fr, gr, zr⟩ := hK.facts
   have cr0 := fr 0
   have cr1 := fr 1
   clear fr
   simp only [List.getElem?_toArray, List.getElem?_cons_zero, List.getElem?_cons_succ] at cr0 cr1
   have HB9 := Lib.hid hb9
   clear hb9 HV HN HS HM HL
   go_wp2
   exact bodyPost_ret (v := .tuple #[.agg #[.int .i64 0, .int .i64 0], .int .i64 12]) (by simp [results, Tryz.results39, go_sem, *]) rfl ⟨0, 0, rfl, HB9.out, by decide⟩
  ·have eA2 : decide (40 < (A.length : Int)) = false := decide_eq_false (by omega)
   have hB40 : B.length <= 40 := by omega
   have hm0 : ((B.length : Nat) : Int).toNat = B.length := rfl
   go_wp2_with fail
   go_loopw [9, 10] (fun d k w' => ∃ (j : Nat) (xs : List Nat), k = .int .i64 ((j : Int) - 1) /\ j <= s.size /\ dgS (s.data.toList.drop j) = xs /\ w'.ownsRow (w.heap.size + 1) 3 1 d xs.length (intsV xs) /\ Blk w' w.heap.size #[.int .i64 0, .int .i64 0] /\ Below w.heap.size w w') (fun _ k _ => (intOf k + 1).toNat)
   case atStart => exact ⟨s.size, [], by go_num, Nat.le_refl _, by rw [List.drop_eq_nil_of_le (by rw [ba_size]; omega)]; rfl, ⟨rfl, .inl ⟨rfl, rfl⟩⟩, hK, hW⟩
   case round =>
    clear hK hW
    obtain ⟨j, xs, rfl, hj, hx, hown, hK, hW⟩ := hrel
    have hxl : xs.length <= s.size - j := by
     rw [<- hx]
     have := dgS_len (s.data.toList.drop j)
     rw [List.length_drop, ba_size] at this; exact this
    have HX := Lib.hid hx
    clear hx
    have hz1 := hK.facts.2.2
    by_cases hj0 : j = 0
    rotate_left
    ·obtain ⟨i, rfl⟩ : ∃ i, j = i + 1 := ⟨j - 1, by omega⟩
     have hil : i < s.size := by omega
     have e1 : (((i + 1 : Nat) : Int) - 1) = (i : Int) := by omega
     rw [e1]
     have ek : decide ((0 : Int) <= (i : Int)) = true := decide_eq_true (by omega)
     have ew3 : IntKind.i64.wrap ((i : Int) - 1) = (i : Int) - 1 := IntWalk.i64_in _ (by omega)
     have hc := dgS_cons s[i] (s.data.toList.drop (i + 1))
     rw [<- drop_at s i hil, HX.out] at hc
     by_cases h46 : s[i] = 46
     ·have e5 : ((s[i].toNat : Int) != 46) = false := by rw [h46]; rfl
      rw [if_pos h46, List.append_nil] at hc
      have HC := Lib.hid hc
      clear hc h46 HX hj0 e45 HS HL HV HN HM
      go_wp2
      go_roundw
      case rel => exact ⟨i, xs, rfl, by omega, HC.out, hown, hK, hW⟩
      case measure => simp [intOf]
     ·have e5 : ((s[i].toNat : Int) != 46) = true := by
       have h := byte_bne s[i] 46
       rw [beq_eq_false_iff_ne.2 h46] at h
       exact h
      have hr := HM.out i hil h46
      rw [if_neg h46] at hc
      obtain ⟨z, hz⟩ : ∃ z, dgB s[i] = z := ⟨_, rfl⟩
      have hzv : (s[i].toNat : Int) = (z : Int) + 48 := by rw [<- hz]; unfold dgB; omega
      have hz10 : z < 10 := by omega
      rw [hz] at hc
      have ez : ((s[i].toNat : Int) - 48) % 256 = (z : Int) := by omega
      have ez2 : IntKind.i64.wrap (z : Int) = (z : Int) := IntWalk.i64_in _ (by omega)
      have HC := Lib.hid hc
      have HR := Lib.hid hr
      have HZ := Lib.hid hzv
      clear hc h46 HX hj0 hr hz hzv e45 HS HL HV HN HM
      go_wp2_with (at_builtin; refine held ?_)
      unfold Held
      refine wpList_want (by rfl) ?_
      intro KK hKK
      refine int_append _ _ rfl (w.heap.size + 1) _ _ xs [z] rfl rfl (hown.alloc _) (intRow_one _ _ _) (by simp; omega) (by simp; omega) ?_
      intro v5 w5 own5 hg5
      have hb5 : Below w.heap.size w w5 := (allocB hW).grown hg5 (by have := hW.size; simp; omega) (fun k hk => by have := own_row hown k hk; omega)
      have hK5 := (hK.below (allocB (o := .cells #[.int .i64 (z : Int)] 3 (0, 0)) (Below.refl _ _))).grown hg5 (fun h => by have := own_row hown _ h; omega)
      refine hKK _ _ ?_
      clear hKK hg5
      go_wp2
      go_roundw
      case rel => exact ⟨i, xs ++ [z], rfl, by omega, HC.out, own5, hK5, hb5⟩
      case measure => simp [intOf]
    ·subst hj0
     have ek : decide ((0 : Int) <= ((0 : Nat) : Int) - 1) = false := decide_eq_false (by omega)
     have hx : xs = dgL (A ++ B) := by rw [<- HX.out, List.drop_zero]; exact HS.out
     have hlow : Low xs := by rw [<- HX.out, List.drop_zero]; exact HL.out
     have hxl2 : xs.length = A.length + B.length := by rw [hx]; exact HN.out
     have hv : readN (vals xs) B.length = V := by rw [<- HV.out]; unfold refC; rw [if_pos ⟨by omega, hB40⟩, hx]
     have cT := trim_any xs (by omega) _ _ (intRow_of_own hown)
     rw [trim_all xs hlow] at cT
     have hvl := vals_lt hlow
     generalize vals xs = N at *
     have hNl : (dgN N).length <= 80 := Nat.le_trans (dgN_len_bound hvl) (by omega)
     have h10l : (dgN (10 ^ B.length)).length <= 60 := by
      have := dgN_len_pow 1 B.length
      rw [Nat.one_mul, dgN_pos (show 1 ≠ 0 by decide), dgN_zero] at this
      simp only [List.length_cons, List.length_nil] at this; omega
     have HV := Lib.hid hv
     clear hx hlow hv hvl HX HS HL HN HM e45 hown
     go_wp2_with fail
     refine cT.mono ?_; rintro e w2 ⟨v2, rfl, h2, hb⟩
     replace hW := after hW hb
     replace hK := hK.below hb
     clear hb cT
     have cU := fun W => unit_any B.length (by omega) W
     rw [hBI] at cU
     go_wp2_with fail
     refine (cU _).mono ?_; rintro e w3 ⟨v3, rfl, h3, hb⟩
     replace hW := after hW hb
     replace hK := hK.below hb
     replace h2 := h2.below hb
     clear hb cU
     have cE := near_any N (10 ^ B.length) (Nat.pow_pos (by decide)) (by omega) (by omega) _ _ w3 h2 h3
     clear h3
     have hrng := near_rng N (10 ^ B.length) 19 (-9)
     have hv := HV.out
     unfold readN at hv
     generalize nearN N (10 ^ B.length) 19 (-9) = O at *
     go_wp2_with fail
     refine cE.mono ?_
     clear cE
     cases O with
     | none =>
      replace hv : V = 10 := hv.symm
      subst hv
      rintro e w4 ⟨rfl, hb⟩
      replace hW := after hW hb
      replace hK := hK.below hb
      obtain ⟨q0, q1, hb9⟩ := cell2_give hK hW 0 0
      obtain ⟨fr, gr, zr⟩ := hK.facts
      have cr0 := fr 0
      have cr1 := fr 1
      clear fr
      simp only [List.getElem?_toArray, List.getElem?_cons_zero, List.getElem?_cons_succ] at cr0 cr1
      have HB9 := Lib.hid (allocB (o := .cells #[.int .i64 0, .int .i64 0] 25) hb9)
      clear hb9 hb hrng HV h2
      unfold nearW decV
      go_wp2
      exact bodyPost_ret (v := .tuple #[.agg #[.int .i64 0, .int .i64 0], .int .i64 10]) (by simp [results, Tryz.results39, go_sem, *]) rfl ⟨0, 0, rfl, HB9.out, by decide⟩
     | some p =>
      obtain ⟨P, E⟩ := p
      obtain ⟨M, hP, hM, hE0, hE9⟩ := hrng (P, E) (by decide) (by decide) rfl
      dsimp only at hP hE0 hE9
      subst hP
      rintro e w4 ⟨rfl, hb⟩
      replace hW := after hW hb
      replace hK := hK.below hb
      replace h2 := h2.below hb
      clear hb hrng
      have hv2 : (if M * 10 ^ (E + 9).toNat * 10 ^ B.length = N * 10 ^ 9 then 0 else 10) = V := hv
      have HV := Lib.hid hv2
      clear hv hv2
      have cW := fun W => whole_any M (by omega) E hE0 hE9 W
      have hMl : (dgN M).length <= 20 := dgN_len_bound (Nat.lt_of_le_of_lt hM (by decide))
      have hWl := dgN_len_pow M (E + 9).toNat
      unfold nearW decV at *
      go_wp2_with fail
      refine calls_keep (fun W => Keep w [(w4.heap.size, #[.int .i64 (M : Int), .int .i64 E]), (w.heap.size, #[.int .i64 0, .int .i64 0])] W /\ IntRow W v2 (dgN N)) ⟨Keep.add blnx (Keep.add blnx (Keep.nil belx)), h2.below (allocB (Below.refl _ _))⟩ ?_
      clear h2
      have hxw : w4.heap.size ≠ w.heap.size := by have := hK.facts.2.2; omega
      clear hK hW
      rintro wa ⟨K, h2⟩
      generalize w4.heap.size = bx at *
      refine (cW wa).mono ?_; rintro e w5 ⟨v5, rfl, h5, hb⟩
      replace K := K.below hb
      replace h2 := h2.below hb
      clear hb cW
      have cT5 := ten_any (M * 10 ^ (E + 9).toNat) (by omega) (B.length : Int) B.length (by omega) (by omega) (by omega) _ w5 h5
      rw [hBI] at cT5
      have hXl := dgN_len_pow (M * 10 ^ (E + 9).toNat) B.length
      have hYl := dgN_len_pow N 9
      generalize M * 10 ^ (E + 9).toNat = X0 at *
      generalize X0 * 10 ^ B.length = X at *
      go_wp2_with fail
      refine cT5.mono ?_; rintro e w6 ⟨v6, rfl, h6, hb⟩
      replace K := K.below hb
      replace h2 := h2.below hb
      clear hb cT5 h5
      have cT6 := ten_any N (by omega) 9 9 rfl (by decide) (by decide) v2 w6 h2
      clear h2
      generalize N * 10 ^ 9 = Y at *
      go_wp2_with fail
      refine cT6.mono ?_; rintro e w7 ⟨v7, rfl, h7, hb⟩
      replace K := K.below hb
      replace h6 := h6.below hb
      clear hb cT6
      have cL1 := less_any X Y (by omega) (by omega) v6 v7 w7 h6 h7
      have cL2 := fun W hb => less_any Y X (by omega) (by omega) v7 v6 W (h7.below hb) (h6.below hb)
      clear h6 h7 hXl hYl hWl
      by_cases h1 : X < Y
      ·rw [decide_eq_true h1] at cL1
       have hv := HV.out
       rw [if_neg (by omega)] at hv
       subst hv
       clear cL2 HV
       go_wp2_with fail
       refine cL1.mono ?_; rintro e w8 ⟨rfl, hb⟩
       replace K := K.below hb
       clear hb cL1 h1
       obtain ⟨q0, q1, hb9⟩ := cell2_give K.tl.hd K.bel 0 0
       obtain ⟨fr, gr, zr⟩ := K.tl.hd.facts
       have cr0 := fr 0
       have cr1 := fr 1
       clear fr
       simp only [List.getElem?_toArray, List.getElem?_cons_zero, List.getElem?_cons_succ] at cr0 cr1
       have HB9 := Lib.hid hb9
       clear hb9 K
       go_wp2
       exact bodyPost_ret (v := .tuple #[.agg #[.int .i64 0, .int .i64 0], .int .i64 10]) (by simp [results, Tryz.results39, go_sem, *]) rfl ⟨0, 0, rfl, HB9.out, by decide⟩
      ·rw [decide_eq_false h1] at cL1
       by_cases h2 : Y < X
       ·have e2 := decide_eq_true h2
        rw [e2] at cL2
        have hv := HV.out
        rw [if_neg (by omega)] at hv
        subst hv
        clear HV
        go_wp2_with fail
        refine cL1.mono ?_; rintro e w8 ⟨rfl, hb⟩
        replace K := K.below hb
        replace cL2 := cL2 w8 hb
        clear hb cL1 h1 h2 e2
        go_wp2_with fail
        refine cL2.mono ?_; rintro e w9 ⟨rfl, hb⟩
        replace K := K.below hb
        clear hb cL2
        obtain ⟨q0, q1, hb9⟩ := cell2_give K.tl.hd K.bel 0 0
        obtain ⟨fr, gr, zr⟩ := K.tl.hd.facts
        have cr0 := fr 0
        have cr1 := fr 1
        clear fr
        simp only [List.getElem?_toArray, List.getElem?_cons_zero, List.getElem?_cons_succ] at cr0 cr1
        have HB9 := Lib.hid hb9
        clear hb9 K
        go_wp2
        exact bodyPost_ret (v := .tuple #[.agg #[.int .i64 0, .int .i64 0], .int .i64 10]) (by simp [results, Tryz.results39, go_sem, *]) rfl ⟨0, 0, rfl, HB9.out, by decide⟩
       ·have e2 := decide_eq_false h2
        rw [e2] at cL2
        have hv := HV.out
        rw [if_pos (by omega)] at hv
        subst hv
        clear HV
        go_wp2_with fail
        refine cL1.mono ?_; rintro e w8 ⟨rfl, hb⟩
        replace K := K.below hb
        replace cL2 := cL2 w8 hb
        clear hb cL1 h1 h2 e2
        go_wp2_with fail
        refine cL2.mono ?_; rintro e w9 ⟨rfl, hb⟩
        replace K := K.below hb
        clear hb cL2
        obtain ⟨q0, q1, hb9⟩ := cell2_give K.tl.hd K.bel (M : Int) E
        obtain ⟨fr, gr, zr⟩ := K.tl.hd.facts
        have cr0 := fr 0
        have cr1 := fr 1
        clear fr
        obtain ⟨fx, gx, zx⟩ := K.hd.facts
        have cx0 := fx 0
        have cx1 := fx 1
        clear fx
        simp only [List.getElem?_toArray, List.getElem?_cons_zero, List.getElem?_cons_succ] at cr0 cr1 cx0 cx1
        have HB9 := Lib.hid hb9
        clear hb9 K
        go_wp2
        exact bodyPost_ret (v := .tuple #[.agg #[.int .i64 (M : Int), .int .i64 E], .int .i64 0]) (by simp [results, Tryz.results39, go_sem, *]) rfl ⟨(M : Int), E, rfl, HB9.out, by omega⟩
 ·have hz2 : s.size = A.length + 1 + B.length := by rw [hz]; unfold numT; rw [if_neg hB0]; simp; omega
  have hBl : 1 <= B.length := by
   cases B with
   | nil => exact absurd rfl hB0
   | cons => simp
  have f2 := fun W => figs_any s (A.length + 1) (by omega) (by omega) W
  rw [hs, while_back A B hB0 hB] at f2
  have hil : A.length < s.size := by omega
  have hp : s[A.length]'hil = 46 := by
   have h1 : s.data.toList[A.length]? = some (s[A.length]'hil) := by rw [List.getElem?_eq_getElem (by rw [ba_size]; exact hil)]; rfl
   rw [hs] at h1
   unfold numT at h1
   rw [if_neg hB0, List.getElem?_append_right (Nat.le_refl _), Nat.sub_self] at h1
   injection h1 with h1
   exact h1.symm
  have e46 : (((s[A.length]'hil).toNat : Int) == 46) = true := by rw [hp]; rfl
  have e1 : decide ((A.length : Int) < (s.size : Int)) = true := decide_eq_true (by omega)
  have ewA : IntKind.i64.wrap (A.length : Int) = (A.length : Int) := IntWalk.i64_in _ (by omega)
  have ewA1 : IntKind.i64.wrap ((A.length : Int) + 1) = ((A.length + 1 : Nat) : Int) := by rw [IntWalk.i64_in _ (by omega)]; omega
  have ewS : IntKind.i64.wrap (((A.length + 1 : Nat) : Int) + (B.length : Int)) = (s.size : Int) := by rw [IntWalk.i64_in _ (by omega)]; omega
  have ewS2 : IntKind.i64.wrap ((A.length : Int) + 1 + (B.length : Int)) = (s.size : Int) := by rw [IntWalk.i64_in _ (by omega)]; omega
  have eSz : (A.length : Int) + 1 + (B.length : Int) = (s.size : Int) := by omega
  have eB0 : ((B.length : Int) == 0) = false := by rw [beq_eq_false_iff_ne]; omega
  clear hB0 hz hs hA hB h0 hz2 hp
  go_enter func39, ntmps39
  go_upto_region 1 with fail
  refine wp_abs2 (fun W => Blk W w.heap.size #[.int .i64 0, .int .i64 0] /\ Below w.heap.size w W) ⟨blnx, belx⟩ ?_
  rintro W ⟨hK, hW⟩
  go_wp2_with fail
  refine (f1 _).mono ?_; rintro e w1 ⟨rfl, rfl⟩
  clear f1
  go_wp2_with fail
  refine (f2 _).mono ?_; rintro e w1 ⟨rfl, rfl⟩
  clear f2
  have eA1 : decide ((A.length : Int) < 1) = false := decide_eq_false (by omega)
  by_cases la : A.length <= 40
  rotate_left
  ·have eA2 : decide (40 < (A.length : Int)) = true := decide_eq_true (by omega)
   have hv : V = 12 := by rw [<- HV.out]; unfold refC; rw [if_neg (by omega)]
   subst hv
   obtain ⟨q0, q1, hb9⟩ := cell2_give hK hW 0 0
   obtain ⟨fr, gr, zr⟩ := hK.facts
   have cr0 := fr 0
   have cr1 := fr 1
   clear fr
   simp only [List.getElem?_toArray, List.getElem?_cons_zero, List.getElem?_cons_succ] at cr0 cr1
   have HB9 := Lib.hid hb9
   clear hb9 HV HN HS HM HL
   go_wp2
   exact bodyPost_ret (v := .tuple #[.agg #[.int .i64 0, .int .i64 0], .int .i64 12]) (by simp [results, Tryz.results39, go_sem, *]) rfl ⟨0, 0, rfl, HB9.out, by decide⟩
  ·have eA2 : decide (40 < (A.length : Int)) = false := decide_eq_false (by omega)
   by_cases lb : B.length <= 40
   rotate_left
   ·have eB2 : decide (40 < (B.length : Int)) = true := decide_eq_true (by omega)
    have hv : V = 12 := by rw [<- HV.out]; unfold refC; rw [if_neg (by omega)]
    subst hv
    obtain ⟨q0, q1, hb9⟩ := cell2_give hK hW 0 0
    obtain ⟨fr, gr, zr⟩ := hK.facts
    have cr0 := fr 0
    have cr1 := fr 1
    clear fr
    simp only [List.getElem?_toArray, List.getElem?_cons_zero, List.getElem?_cons_succ] at cr0 cr1
    have HB9 := Lib.hid hb9
    clear hb9 HV HN HS HM HL
    go_wp2
    exact bodyPost_ret (v := .tuple #[.agg #[.int .i64 0, .int .i64 0], .int .i64 12]) (by simp [results, Tryz.results39, go_sem, *]) rfl ⟨0, 0, rfl, HB9.out, by decide⟩
   have eB2 : decide (40 < (B.length : Int)) = false := decide_eq_false (by omega)
   have hB40 : B.length <= 40 := by omega
   have hm0 : ((B.length : Nat) : Int).toNat = B.length := rfl
   go_wp2_with fail
   go_loopw [9, 10] (fun d k w' => ∃ (j : Nat) (xs : List Nat), k = .int .i64 ((j : Int) - 1) /\ j <= s.size /\ dgS (s.data.toList.drop j) = xs /\ w'.ownsRow (w.heap.size + 1) 3 1 d xs.length (intsV xs) /\ Blk w' w.heap.size #[.int .i64 0, .int .i64 0] /\ Below w.heap.size w w') (fun _ k _ => (intOf k + 1).toNat)
   case atStart => exact ⟨s.size, [], by go_num, Nat.le_refl _, by rw [List.drop_eq_nil_of_le (by rw [ba_size]; omega)]; rfl, ⟨rfl, .inl ⟨rfl, rfl⟩⟩, hK, hW⟩
   case round =>
    clear hK hW
    obtain ⟨j, xs, rfl, hj, hx, hown, hK, hW⟩ := hrel
    have hxl : xs.length <= s.size - j := by
     rw [<- hx]
     have := dgS_len (s.data.toList.drop j)
     rw [List.length_drop, ba_size] at this; exact this
    have HX := Lib.hid hx
    clear hx
    have hz1 := hK.facts.2.2
    by_cases hj0 : j = 0
    rotate_left
    ·obtain ⟨i, rfl⟩ : ∃ i, j = i + 1 := ⟨j - 1, by omega⟩
     have hil : i < s.size := by omega
     have e1 : (((i + 1 : Nat) : Int) - 1) = (i : Int) := by omega
     rw [e1]
     have ek : decide ((0 : Int) <= (i : Int)) = true := decide_eq_true (by omega)
     have ew3 : IntKind.i64.wrap ((i : Int) - 1) = (i : Int) - 1 := IntWalk.i64_in _ (by omega)
     have hc := dgS_cons s[i] (s.data.toList.drop (i + 1))
     rw [<- drop_at s i hil, HX.out] at hc
     by_cases h46 : s[i] = 46
     ·have e5 : ((s[i].toNat : Int) != 46) = false := by rw [h46]; rfl
      rw [if_pos h46, List.append_nil] at hc
      have HC := Lib.hid hc
      clear hc h46 HX hj0 e45 HS HL HV HN HM
      go_wp2
      go_roundw
      case rel => exact ⟨i, xs, rfl, by omega, HC.out, hown, hK, hW⟩
      case measure => simp [intOf]
     ·have e5 : ((s[i].toNat : Int) != 46) = true := by
       have h := byte_bne s[i] 46
       rw [beq_eq_false_iff_ne.2 h46] at h
       exact h
      have hr := HM.out i hil h46
      rw [if_neg h46] at hc
      obtain ⟨z, hz⟩ : ∃ z, dgB s[i] = z := ⟨_, rfl⟩
      have hzv : (s[i].toNat : Int) = (z : Int) + 48 := by rw [<- hz]; unfold dgB; omega
      have hz10 : z < 10 := by omega
      rw [hz] at hc
      have ez : ((s[i].toNat : Int) - 48) % 256 = (z : Int) := by omega
      have ez2 : IntKind.i64.wrap (z : Int) = (z : Int) := IntWalk.i64_in _ (by omega)
      have HC := Lib.hid hc
      have HR := Lib.hid hr
      have HZ := Lib.hid hzv
      clear hc h46 HX hj0 hr hz hzv e45 HS HL HV HN HM
      go_wp2_with (at_builtin; refine held ?_)
      unfold Held
      refine wpList_want (by rfl) ?_
      intro KK hKK
      refine int_append _ _ rfl (w.heap.size + 1) _ _ xs [z] rfl rfl (hown.alloc _) (intRow_one _ _ _) (by simp; omega) (by simp; omega) ?_
      intro v5 w5 own5 hg5
      have hb5 : Below w.heap.size w w5 := (allocB hW).grown hg5 (by have := hW.size; simp; omega) (fun k hk => by have := own_row hown k hk; omega)
      have hK5 := (hK.below (allocB (o := .cells #[.int .i64 (z : Int)] 3 (0, 0)) (Below.refl _ _))).grown hg5 (fun h => by have := own_row hown _ h; omega)
      refine hKK _ _ ?_
      clear hKK hg5
      go_wp2
      go_roundw
      case rel => exact ⟨i, xs ++ [z], rfl, by omega, HC.out, own5, hK5, hb5⟩
      case measure => simp [intOf]
    ·subst hj0
     have ek : decide ((0 : Int) <= ((0 : Nat) : Int) - 1) = false := decide_eq_false (by omega)
     have hx : xs = dgL (A ++ B) := by rw [<- HX.out, List.drop_zero]; exact HS.out
     have hlow : Low xs := by rw [<- HX.out, List.drop_zero]; exact HL.out
     have hxl2 : xs.length = A.length + B.length := by rw [hx]; exact HN.out
     have hv : readN (vals xs) B.length = V := by rw [<- HV.out]; unfold refC; rw [if_pos ⟨by omega, hB40⟩, hx]
     have cT := trim_any xs (by omega) _ _ (intRow_of_own hown)
     rw [trim_all xs hlow] at cT
     have hvl := vals_lt hlow
     generalize vals xs = N at *
     have hNl : (dgN N).length <= 80 := Nat.le_trans (dgN_len_bound hvl) (by omega)
     have h10l : (dgN (10 ^ B.length)).length <= 60 := by
      have := dgN_len_pow 1 B.length
      rw [Nat.one_mul, dgN_pos (show 1 ≠ 0 by decide), dgN_zero] at this
      simp only [List.length_cons, List.length_nil] at this; omega
     have HV := Lib.hid hv
     clear hx hlow hv hvl HX HS HL HN HM e45 hown
     go_wp2_with fail
     refine cT.mono ?_; rintro e w2 ⟨v2, rfl, h2, hb⟩
     replace hW := after hW hb
     replace hK := hK.below hb
     clear hb cT
     have cU := fun W => unit_any B.length (by omega) W
     go_wp2_with fail
     refine (cU _).mono ?_; rintro e w3 ⟨v3, rfl, h3, hb⟩
     replace hW := after hW hb
     replace hK := hK.below hb
     replace h2 := h2.below hb
     clear hb cU
     have cE := near_any N (10 ^ B.length) (Nat.pow_pos (by decide)) (by omega) (by omega) _ _ w3 h2 h3
     clear h3
     have hrng := near_rng N (10 ^ B.length) 19 (-9)
     have hv := HV.out
     unfold readN at hv
     generalize nearN N (10 ^ B.length) 19 (-9) = O at *
     go_wp2_with fail
     refine cE.mono ?_
     clear cE
     cases O with
     | none =>
      replace hv : V = 10 := hv.symm
      subst hv
      rintro e w4 ⟨rfl, hb⟩
      replace hW := after hW hb
      replace hK := hK.below hb
      obtain ⟨q0, q1, hb9⟩ := cell2_give hK hW 0 0
      obtain ⟨fr, gr, zr⟩ := hK.facts
      have cr0 := fr 0
      have cr1 := fr 1
      clear fr
      simp only [List.getElem?_toArray, List.getElem?_cons_zero, List.getElem?_cons_succ] at cr0 cr1
      have HB9 := Lib.hid (allocB (o := .cells #[.int .i64 0, .int .i64 0] 25) hb9)
      clear hb9 hb hrng HV h2
      unfold nearW decV
      go_wp2
      exact bodyPost_ret (v := .tuple #[.agg #[.int .i64 0, .int .i64 0], .int .i64 10]) (by simp [results, Tryz.results39, go_sem, *]) rfl ⟨0, 0, rfl, HB9.out, by decide⟩
     | some p =>
      obtain ⟨P, E⟩ := p
      obtain ⟨M, hP, hM, hE0, hE9⟩ := hrng (P, E) (by decide) (by decide) rfl
      dsimp only at hP hE0 hE9
      subst hP
      rintro e w4 ⟨rfl, hb⟩
      replace hW := after hW hb
      replace hK := hK.below hb
      replace h2 := h2.below hb
      clear hb hrng
      have hv2 : (if M * 10 ^ (E + 9).toNat * 10 ^ B.length = N * 10 ^ 9 then 0 else 10) = V := hv
      have HV := Lib.hid hv2
      clear hv hv2
      have cW := fun W => whole_any M (by omega) E hE0 hE9 W
      have hMl : (dgN M).length <= 20 := dgN_len_bound (Nat.lt_of_le_of_lt hM (by decide))
      have hWl := dgN_len_pow M (E + 9).toNat
      unfold nearW decV at *
      go_wp2_with fail
      refine calls_keep (fun W => Keep w [(w4.heap.size, #[.int .i64 (M : Int), .int .i64 E]), (w.heap.size, #[.int .i64 0, .int .i64 0])] W /\ IntRow W v2 (dgN N)) ⟨Keep.add blnx (Keep.add blnx (Keep.nil belx)), h2.below (allocB (Below.refl _ _))⟩ ?_
      clear h2
      have hxw : w4.heap.size ≠ w.heap.size := by have := hK.facts.2.2; omega
      clear hK hW
      rintro wa ⟨K, h2⟩
      generalize w4.heap.size = bx at *
      refine (cW wa).mono ?_; rintro e w5 ⟨v5, rfl, h5, hb⟩
      replace K := K.below hb
      replace h2 := h2.below hb
      clear hb cW
      have cT5 := ten_any (M * 10 ^ (E + 9).toNat) (by omega) (B.length : Int) B.length (by omega) (by omega) (by omega) _ w5 h5
      have hXl := dgN_len_pow (M * 10 ^ (E + 9).toNat) B.length
      have hYl := dgN_len_pow N 9
      generalize M * 10 ^ (E + 9).toNat = X0 at *
      generalize X0 * 10 ^ B.length = X at *
      go_wp2_with fail
      refine cT5.mono ?_; rintro e w6 ⟨v6, rfl, h6, hb⟩
      replace K := K.below hb
      replace h2 := h2.below hb
      clear hb cT5 h5
      have cT6 := ten_any N (by omega) 9 9 rfl (by decide) (by decide) v2 w6 h2
      clear h2
      generalize N * 10 ^ 9 = Y at *
      go_wp2_with fail
      refine cT6.mono ?_; rintro e w7 ⟨v7, rfl, h7, hb⟩
      replace K := K.below hb
      replace h6 := h6.below hb
      clear hb cT6
      have cL1 := less_any X Y (by omega) (by omega) v6 v7 w7 h6 h7
      have cL2 := fun W hb => less_any Y X (by omega) (by omega) v7 v6 W (h7.below hb) (h6.below hb)
      clear h6 h7 hXl hYl hWl
      by_cases h1 : X < Y
      ·rw [decide_eq_true h1] at cL1
       have hv := HV.out
       rw [if_neg (by omega)] at hv
       subst hv
       clear cL2 HV
       go_wp2_with fail
       refine cL1.mono ?_; rintro e w8 ⟨rfl, hb⟩
       replace K := K.below hb
       clear hb cL1 h1
       obtain ⟨q0, q1, hb9⟩ := cell2_give K.tl.hd K.bel 0 0
       obtain ⟨fr, gr, zr⟩ := K.tl.hd.facts
       have cr0 := fr 0
       have cr1 := fr 1
       clear fr
       simp only [List.getElem?_toArray, List.getElem?_cons_zero, List.getElem?_cons_succ] at cr0 cr1
       have HB9 := Lib.hid hb9
       clear hb9 K
       go_wp2
       exact bodyPost_ret (v := .tuple #[.agg #[.int .i64 0, .int .i64 0], .int .i64 10]) (by simp [results, Tryz.results39, go_sem, *]) rfl ⟨0, 0, rfl, HB9.out, by decide⟩
      ·rw [decide_eq_false h1] at cL1
       by_cases h2 : Y < X
       ·have e2 := decide_eq_true h2
        rw [e2] at cL2
        have hv := HV.out
        rw [if_neg (by omega)] at hv
        subst hv
        clear HV
        go_wp2_with fail
        refine cL1.mono ?_; rintro e w8 ⟨rfl, hb⟩
        replace K := K.below hb
        replace cL2 := cL2 w8 hb
        clear hb cL1 h1 h2 e2
        go_wp2_with fail
        refine cL2.mono ?_; rintro e w9 ⟨rfl, hb⟩
        replace K := K.below hb
        clear hb cL2
        obtain ⟨q0, q1, hb9⟩ := cell2_give K.tl.hd K.bel 0 0
        obtain ⟨fr, gr, zr⟩ := K.tl.hd.facts
        have cr0 := fr 0
        have cr1 := fr 1
        clear fr
        simp only [List.getElem?_toArray, List.getElem?_cons_zero, List.getElem?_cons_succ] at cr0 cr1
        have HB9 := Lib.hid hb9
        clear hb9 K
        go_wp2
        exact bodyPost_ret (v := .tuple #[.agg #[.int .i64 0, .int .i64 0], .int .i64 10]) (by simp [results, Tryz.results39, go_sem, *]) rfl ⟨0, 0, rfl, HB9.out, by decide⟩
       ·have e2 := decide_eq_false h2
        rw [e2] at cL2
        have hv := HV.out
        rw [if_pos (by omega)] at hv
        subst hv
        clear HV
        go_wp2_with fail
        refine cL1.mono ?_; rintro e w8 ⟨rfl, hb⟩
        replace K := K.below hb
        replace cL2 := cL2 w8 hb
        clear hb cL1 h1 h2 e2
        go_wp2_with fail
        refine cL2.mono ?_; rintro e w9 ⟨rfl, hb⟩
        replace K := K.below hb
        clear hb cL2
        obtain ⟨q0, q1, hb9⟩ := cell2_give K.tl.hd K.bel (M : Int) E
        obtain ⟨fr, gr, zr⟩ := K.tl.hd.facts
        have cr0 := fr 0
        have cr1 := fr 1
        clear fr
        obtain ⟨fx, gx, zx⟩ := K.hd.facts
        have cx0 := fx 0
        have cx1 := fx 1
        clear fx
        simp only [List.getElem?_toArray, List.getElem?_cons_zero, List.getElem?_cons_succ] at cr0 cr1 cx0 cx1
        have HB9 := Lib.hid hb9
        clear hb9 K
        go_wp2
        exact bodyPost_ret (v := .tuple #[.agg #[.int .i64 (M : Int), .int .i64 E], .int .i64 0]) (by simp [results, Tryz.results39, go_sem, *]) rfl ⟨(M : Int), E, rfl, HB9.out, by omega⟩
end Go.Proofs.YtlpgigdegnbkmaaGreatDoor
