/- The walk of the reference's Text. -/
import Derived.Test.YtmeiboajpbflcaaGreatDoorTells4
import Derived.Test.YtmeiboajpbflcaaGreatDoorTells3
import Derived.Test.YtmeiboajpbflcaaGreatDoorQuote
namespace Go.Proofs.YtmeiboajpbflcaaGreatDoor
open Go.RowKit Tab

theorem right_small {r : RefD} (h : r.right = true) : r.s.size ≤ 30 := by
  obtain ⟨s, row, col, fr, fc, bad⟩ := r
  unfold RefD.right rightB at h
  cases bad
  · rw [if_neg Bool.false_ne_true, Bool.and_eq_true, Bool.or_eq_true] at h
    rcases h.1 with h | h
    · have : s.data.toList.length = 0 := by rw [List.isEmpty_iff.1 h]; rfl
      rw [ba_size] at this; dsimp only; omega
    · simp only [nameB, Bool.and_eq_true, decide_eq_true_eq] at h; rw [ba_size] at h; dsimp only; omega
  · rw [if_pos rfl] at h
    simp only [Bool.and_eq_true] at h
    have : s.data.toList.length = 0 := by rw [List.isEmpty_iff.1 h.1.1.1.1]; rfl
    rw [ba_size] at this; dsimp only; omega

set_option maxRecDepth 100000 in
set_option maxHeartbeats 8000000 in
theorem TText_any (r : RefD) (w : World) (l1 : r.s.size ≤ 9223372036854775807) : Calls Tryz.prog 5 #[refV r] w (Ret (.tuple #[strV (textD r).1, .int .i64 (textD r).2]) w) := by
  obtain ⟨V, e, hV⟩ : ∃ V e, textD r = (V, e) := ⟨_, _, rfl⟩
  rw [hV]
  obtain ⟨t, R, C, x, y, z⟩ := r
  dsimp only at l1
  unfold refV
  dsimp only
  cases hr : RefD.right ⟨t, R, C, x, y, z⟩
  · rw [textD_no hr] at hV
    simp only [Prod.mk.injEq] at hV
    obtain ⟨rfl, rfl⟩ := hV
    have c1 := fun W => TRight_is l1 hr W
    clear hr
    go_enter Tryz.func5, Tryz.ntmps5
    go_wp2_with fail
    refine calls_abs (fun W => Blk W (w.heap.size) #[.string t, .int .i64 R, .int .i64 C, .bool x, .bool y, .bool z] ∧ Below w.heap.size w W) ⟨(by apply Blk.eq; (repeat' (first | with_reducible assumption | with_reducible apply Blk.set | with_reducible apply Blk.other | (with_reducible refine Blk.new ?_; simp; done) | with_reducible apply Blk.alloc | omega)); rfl), (by repeat' (first | with_reducible assumption | with_reducible exact Below.refl _ _ | with_reducible refine allocB ?_ | with_reducible refine setB ?_ ?_ | with_reducible refine drewB ?_ | with_reducible refine after ?_ (by assumption) | (simp; omega) | omega))⟩ ?_
    rintro wa ⟨k1, hb0⟩
    obtain ⟨f1, g1, z1⟩ := k1.facts
    refine (c1 wa).mono ?_; rintro e w1 ⟨rfl, hb1⟩
    replace k1 := k1.below hb1
    replace hb0 : Below w.heap.size w w1 := after hb0 hb1
    clear f1 g1 z1
    clear hb1
    obtain ⟨f1, g1, z1⟩ := k1.facts
    go_wp2
    go_ret2
    exact Ret.mk2 (strV_eq rfl) rfl (by repeat' (first | with_reducible assumption | with_reducible exact Below.refl _ _ | with_reducible refine allocB ?_ | with_reducible refine setB ?_ ?_ | with_reducible refine drewB ?_ | with_reducible refine after ?_ (by assumption) | (simp; omega) | omega))
  · cases z
    · rw [textD_yes hr rfl] at hV
      simp only [Prod.mk.injEq] at hV
      obtain ⟨rfl, rfl⟩ := hV
      obtain ⟨hs, rR1, rR2, rC1, rC2⟩ := right_parts hr rfl
      dsimp only at hs rR1 rR2 rC1 rC2
      have c1 := fun W => TRight_is l1 hr W
      have cC := fun W => TColumn_any C W (by omega) (by omega)
      rw [colE_in C rC1 rC2] at cC
      have cD : ∀ W, Calls Tryz.prog 28 #[.int .i64 (R + 1)] W (Still (.string ⟨(Lib.itoa (R + 1)).toArray⟩) W) := fun W => by
        have := Digits_any (R + 1).toNat W (by omega)
        rw [show (((R + 1).toNat : Nat) : Int) = R + 1 by omega] at this
        exact this
      have hl : Hid (longD ⟨t, R, C, x, y, false⟩ = (if t.data.toList.isEmpty then [] else if plainB t.data.toList then t.data.toList ++ [33] else 39 :: dbl t.data.toList ++ [39] ++ [33]) ++ (fixD y ++ colL C ++ fixD x ++ Lib.itoa (R + 1))) := by
        show _ = _
        unfold longD shortD
        rw [repl_dbl]
        split
        · simp
        · split <;> simp
      have hD := col_len2 C
      have hG := Lib.itoa_length_le (R + 1) (by omega) (by omega)
      have hts := right_small hr
      dsimp only at hts
      generalize longD ⟨t, R, C, x, y, false⟩ = LL at *
      generalize colL C = D at *
      generalize Lib.itoa (R + 1) = I at *
      unfold strV at *
      clear hr
      by_cases he : t.data.toList.isEmpty = true
      · obtain rfl : t = ⟨#[]⟩ := by rw [← ba_eta t, List.isEmpty_iff.1 he]
        have HL : Hid (LL = fixD y ++ D ++ fixD x ++ I) := by show _ = _; rw [hl.out]; rfl
        clear hl hs he
        have u1b : ¬ 9223372036854775807 < D.length := by omega
        have u2b : ¬ 9223372036854775807 < 1 + D.length := by omega
        have u3b : ¬ 9223372036854775807 < D.length + 1 := by omega
        have u4b : ¬ 9223372036854775807 < 1 + D.length + 1 := by omega
        have u5b : ¬ 9223372036854775807 < D.length + I.length := by omega
        have u6b : ¬ 9223372036854775807 < 1 + D.length + I.length := by omega
        have u7b : ¬ 9223372036854775807 < D.length + 1 + I.length := by omega
        have u8b : ¬ 9223372036854775807 < 1 + D.length + 1 + I.length := by omega
        go_enter Tryz.func5, Tryz.ntmps5
        go_wp2_with fail
        refine calls_abs (fun W => Blk W (w.heap.size) #[.string ⟨#[]⟩, .int .i64 R, .int .i64 C, .bool x, .bool y, .bool false] ∧ Below w.heap.size w W) ⟨(by apply Blk.eq; (repeat' (first | with_reducible assumption | with_reducible apply Blk.set | with_reducible apply Blk.other | (with_reducible refine Blk.new ?_; simp; done) | with_reducible apply Blk.alloc | omega)); rfl), (by repeat' (first | with_reducible assumption | with_reducible exact Below.refl _ _ | with_reducible refine allocB ?_ | with_reducible refine setB ?_ ?_ | with_reducible refine drewB ?_ | with_reducible refine after ?_ (by assumption) | (simp; omega) | omega))⟩ ?_
        rintro wa ⟨k1, hb0⟩
        obtain ⟨f1, g1, z1⟩ := k1.facts
        refine (c1 wa).mono ?_; rintro e w1 ⟨rfl, hb1⟩
        replace k1 := k1.below hb1
        replace hb0 : Below w.heap.size w w1 := after hb0 hb1
        clear f1 g1 z1
        clear hb1
        obtain ⟨f1, g1, z1⟩ := k1.facts
        clear c1
        cases y <;> cases x
        · go_wp2_with fail
          refine (cC w1).mono ?_; rintro e w2 ⟨rfl, rfl⟩
          go_wp2_with fail
          refine (cD w1).mono ?_; rintro e w3 ⟨rfl, rfl⟩
          go_wp2
          go_ret2
          exact Ret.mk2 (strV_eq (by rw [HL.out]; simp [fixD, ByteArray.data_append])) rfl (by repeat' (first | with_reducible assumption | with_reducible exact Below.refl _ _ | with_reducible refine allocB ?_ | with_reducible refine setB ?_ ?_ | with_reducible refine drewB ?_ | with_reducible refine after ?_ (by assumption) | (simp; omega) | omega))
        · go_wp2_with fail
          refine (cC w1).mono ?_; rintro e w2 ⟨rfl, rfl⟩
          go_wp2_with fail
          refine (cD w1).mono ?_; rintro e w3 ⟨rfl, rfl⟩
          go_wp2
          go_ret2
          exact Ret.mk2 (strV_eq (by rw [HL.out]; simp [fixD, ByteArray.data_append])) rfl (by repeat' (first | with_reducible assumption | with_reducible exact Below.refl _ _ | with_reducible refine allocB ?_ | with_reducible refine setB ?_ ?_ | with_reducible refine drewB ?_ | with_reducible refine after ?_ (by assumption) | (simp; omega) | omega))
        · go_wp2_with fail
          refine (cC w1).mono ?_; rintro e w2 ⟨rfl, rfl⟩
          go_wp2_with fail
          refine (cD w1).mono ?_; rintro e w3 ⟨rfl, rfl⟩
          go_wp2
          go_ret2
          exact Ret.mk2 (strV_eq (by rw [HL.out]; simp [fixD, ByteArray.data_append])) rfl (by repeat' (first | with_reducible assumption | with_reducible exact Below.refl _ _ | with_reducible refine allocB ?_ | with_reducible refine setB ?_ ?_ | with_reducible refine drewB ?_ | with_reducible refine after ?_ (by assumption) | (simp; omega) | omega))
        · go_wp2_with fail
          refine (cC w1).mono ?_; rintro e w2 ⟨rfl, rfl⟩
          go_wp2_with fail
          refine (cD w1).mono ?_; rintro e w3 ⟨rfl, rfl⟩
          go_wp2
          go_ret2
          exact Ret.mk2 (strV_eq (by rw [HL.out]; simp [fixD, ByteArray.data_append])) rfl (by repeat' (first | with_reducible assumption | with_reducible exact Below.refl _ _ | with_reducible refine allocB ?_ | with_reducible refine setB ?_ ?_ | with_reducible refine drewB ?_ | with_reducible refine after ?_ (by assumption) | (simp; omega) | omega))
      · by_cases hp : plainB t.data.toList = true
        · have he' : t.toList.isEmpty = false := by rw [ByteArray.toList_eq]; simpa using he
          have HL : Hid (LL = t.data.toList ++ [33] ++ (fixD y ++ D ++ fixD x ++ I)) := by show _ = _; rw [hl.out, if_neg he, if_pos hp]
          have cP := fun W => Plain_any t W l1
          rw [hp] at cP
          clear hl hs he hp
          have ub : ¬ 9223372036854775807 < t.size + 1 := by omega
          have u0 : ¬ 9223372036854775807 < t.size + 1 + 1 := by omega
          have u1 : ¬ 9223372036854775807 < t.size + 1 + D.length := by omega
          have u2 : ¬ 9223372036854775807 < t.size + 1 + 1 + D.length := by omega
          have u3 : ¬ 9223372036854775807 < t.size + 1 + D.length + 1 := by omega
          have u4 : ¬ 9223372036854775807 < t.size + 1 + 1 + D.length + 1 := by omega
          have u5 : ¬ 9223372036854775807 < t.size + 1 + D.length + I.length := by omega
          have u6 : ¬ 9223372036854775807 < t.size + 1 + 1 + D.length + I.length := by omega
          have u7 : ¬ 9223372036854775807 < t.size + 1 + D.length + 1 + I.length := by omega
          have u8 : ¬ 9223372036854775807 < t.size + 1 + 1 + D.length + 1 + I.length := by omega
          go_enter Tryz.func5, Tryz.ntmps5
          go_wp2_with fail
          refine calls_abs (fun W => Blk W (w.heap.size) #[.string t, .int .i64 R, .int .i64 C, .bool x, .bool y, .bool false] ∧ Below w.heap.size w W) ⟨(by apply Blk.eq; (repeat' (first | with_reducible assumption | with_reducible apply Blk.set | with_reducible apply Blk.other | (with_reducible refine Blk.new ?_; simp; done) | with_reducible apply Blk.alloc | omega)); rfl), (by repeat' (first | with_reducible assumption | with_reducible exact Below.refl _ _ | with_reducible refine allocB ?_ | with_reducible refine setB ?_ ?_ | with_reducible refine drewB ?_ | with_reducible refine after ?_ (by assumption) | (simp; omega) | omega))⟩ ?_
          rintro wa ⟨k1, hb0⟩
          obtain ⟨f1, g1, z1⟩ := k1.facts
          refine (c1 wa).mono ?_; rintro e w1 ⟨rfl, hb1⟩
          replace k1 := k1.below hb1
          replace hb0 : Below w.heap.size w w1 := after hb0 hb1
          clear f1 g1 z1
          clear hb1
          obtain ⟨f1, g1, z1⟩ := k1.facts
          go_wp2_with fail
          refine (cP w1).mono ?_; rintro e w2 ⟨rfl, rfl⟩
          clear c1
          cases y <;> cases x
          · go_wp2_with fail
            refine (cC w1).mono ?_; rintro e w3 ⟨rfl, rfl⟩
            go_wp2_with fail
            refine (cD w1).mono ?_; rintro e w4 ⟨rfl, rfl⟩
            go_wp2
            go_ret2
            exact Ret.mk2 (strV_eq (by rw [HL.out]; simp [fixD, ByteArray.data_append])) rfl (by repeat' (first | with_reducible assumption | with_reducible exact Below.refl _ _ | with_reducible refine allocB ?_ | with_reducible refine setB ?_ ?_ | with_reducible refine drewB ?_ | with_reducible refine after ?_ (by assumption) | (simp; omega) | omega))
          · go_wp2_with fail
            refine (cC w1).mono ?_; rintro e w3 ⟨rfl, rfl⟩
            go_wp2_with fail
            refine (cD w1).mono ?_; rintro e w4 ⟨rfl, rfl⟩
            go_wp2
            go_ret2
            exact Ret.mk2 (strV_eq (by rw [HL.out]; simp [fixD, ByteArray.data_append])) rfl (by repeat' (first | with_reducible assumption | with_reducible exact Below.refl _ _ | with_reducible refine allocB ?_ | with_reducible refine setB ?_ ?_ | with_reducible refine drewB ?_ | with_reducible refine after ?_ (by assumption) | (simp; omega) | omega))
          · go_wp2_with fail
            refine (cC w1).mono ?_; rintro e w3 ⟨rfl, rfl⟩
            go_wp2_with fail
            refine (cD w1).mono ?_; rintro e w4 ⟨rfl, rfl⟩
            go_wp2
            go_ret2
            exact Ret.mk2 (strV_eq (by rw [HL.out]; simp [fixD, ByteArray.data_append])) rfl (by repeat' (first | with_reducible assumption | with_reducible exact Below.refl _ _ | with_reducible refine allocB ?_ | with_reducible refine setB ?_ ?_ | with_reducible refine drewB ?_ | with_reducible refine after ?_ (by assumption) | (simp; omega) | omega))
          · go_wp2_with fail
            refine (cC w1).mono ?_; rintro e w3 ⟨rfl, rfl⟩
            go_wp2_with fail
            refine (cD w1).mono ?_; rintro e w4 ⟨rfl, rfl⟩
            go_wp2
            go_ret2
            exact Ret.mk2 (strV_eq (by rw [HL.out]; simp [fixD, ByteArray.data_append])) rfl (by repeat' (first | with_reducible assumption | with_reducible exact Below.refl _ _ | with_reducible refine allocB ?_ | with_reducible refine setB ?_ ?_ | with_reducible refine drewB ?_ | with_reducible refine after ?_ (by assumption) | (simp; omega) | omega))
        · have he' : t.toList.isEmpty = false := by rw [ByteArray.toList_eq]; simpa using he
          have HL : Hid (LL = (39 :: dbl t.data.toList ++ [39]) ++ [33] ++ (fixD y ++ D ++ fixD x ++ I)) := by show _ = _; rw [hl.out, if_neg he, if_neg hp]
          have cP := fun W => Plain_any t W l1
          rw [Bool.not_eq_true] at hp
          rw [hp] at cP
          have cQ := fun W => Quoted_any t W (by omega)
          have hd := dbl_len t.data.toList
          rw [ba_size] at hd
          have hE : (39 :: dbl t.data.toList ++ [39]).length ≤ 62 := by simp; omega
          unfold strV at cQ
          generalize 39 :: dbl t.data.toList ++ [39] = E at *
          clear hl hs he hp hd
          have ub : ¬ 9223372036854775807 < E.length + 1 := by omega
          have u0 : ¬ 9223372036854775807 < E.length + 1 + 1 := by omega
          have u1 : ¬ 9223372036854775807 < E.length + 1 + D.length := by omega
          have u2 : ¬ 9223372036854775807 < E.length + 1 + 1 + D.length := by omega
          have u3 : ¬ 9223372036854775807 < E.length + 1 + D.length + 1 := by omega
          have u4 : ¬ 9223372036854775807 < E.length + 1 + 1 + D.length + 1 := by omega
          have u5 : ¬ 9223372036854775807 < E.length + 1 + D.length + I.length := by omega
          have u6 : ¬ 9223372036854775807 < E.length + 1 + 1 + D.length + I.length := by omega
          have u7 : ¬ 9223372036854775807 < E.length + 1 + D.length + 1 + I.length := by omega
          have u8 : ¬ 9223372036854775807 < E.length + 1 + 1 + D.length + 1 + I.length := by omega
          go_enter Tryz.func5, Tryz.ntmps5
          go_wp2_with fail
          refine calls_abs (fun W => Blk W (w.heap.size) #[.string t, .int .i64 R, .int .i64 C, .bool x, .bool y, .bool false] ∧ Below w.heap.size w W) ⟨(by apply Blk.eq; (repeat' (first | with_reducible assumption | with_reducible apply Blk.set | with_reducible apply Blk.other | (with_reducible refine Blk.new ?_; simp; done) | with_reducible apply Blk.alloc | omega)); rfl), (by repeat' (first | with_reducible assumption | with_reducible exact Below.refl _ _ | with_reducible refine allocB ?_ | with_reducible refine setB ?_ ?_ | with_reducible refine drewB ?_ | with_reducible refine after ?_ (by assumption) | (simp; omega) | omega))⟩ ?_
          rintro wa ⟨k1, hb0⟩
          obtain ⟨f1, g1, z1⟩ := k1.facts
          refine (c1 wa).mono ?_; rintro e w1 ⟨rfl, hb1⟩
          replace k1 := k1.below hb1
          replace hb0 : Below w.heap.size w w1 := after hb0 hb1
          clear f1 g1 z1
          clear hb1
          obtain ⟨f1, g1, z1⟩ := k1.facts
          go_wp2_with fail
          refine (cP w1).mono ?_; rintro e w2 ⟨rfl, rfl⟩
          go_wp2_with fail
          refine (cQ w1).mono ?_; rintro e w3 ⟨rfl, rfl⟩
          clear c1
          cases y <;> cases x
          · go_wp2_with fail
            refine (cC w1).mono ?_; rintro e w4 ⟨rfl, rfl⟩
            go_wp2_with fail
            refine (cD w1).mono ?_; rintro e w5 ⟨rfl, rfl⟩
            go_wp2
            go_ret2
            exact Ret.mk2 (strV_eq (by rw [HL.out]; simp [fixD, ByteArray.data_append])) rfl (by repeat' (first | with_reducible assumption | with_reducible exact Below.refl _ _ | with_reducible refine allocB ?_ | with_reducible refine setB ?_ ?_ | with_reducible refine drewB ?_ | with_reducible refine after ?_ (by assumption) | (simp; omega) | omega))
          · go_wp2_with fail
            refine (cC w1).mono ?_; rintro e w4 ⟨rfl, rfl⟩
            go_wp2_with fail
            refine (cD w1).mono ?_; rintro e w5 ⟨rfl, rfl⟩
            go_wp2
            go_ret2
            exact Ret.mk2 (strV_eq (by rw [HL.out]; simp [fixD, ByteArray.data_append])) rfl (by repeat' (first | with_reducible assumption | with_reducible exact Below.refl _ _ | with_reducible refine allocB ?_ | with_reducible refine setB ?_ ?_ | with_reducible refine drewB ?_ | with_reducible refine after ?_ (by assumption) | (simp; omega) | omega))
          · go_wp2_with fail
            refine (cC w1).mono ?_; rintro e w4 ⟨rfl, rfl⟩
            go_wp2_with fail
            refine (cD w1).mono ?_; rintro e w5 ⟨rfl, rfl⟩
            go_wp2
            go_ret2
            exact Ret.mk2 (strV_eq (by rw [HL.out]; simp [fixD, ByteArray.data_append])) rfl (by repeat' (first | with_reducible assumption | with_reducible exact Below.refl _ _ | with_reducible refine allocB ?_ | with_reducible refine setB ?_ ?_ | with_reducible refine drewB ?_ | with_reducible refine after ?_ (by assumption) | (simp; omega) | omega))
          · go_wp2_with fail
            refine (cC w1).mono ?_; rintro e w4 ⟨rfl, rfl⟩
            go_wp2_with fail
            refine (cD w1).mono ?_; rintro e w5 ⟨rfl, rfl⟩
            go_wp2
            go_ret2
            exact Ret.mk2 (strV_eq (by rw [HL.out]; simp [fixD, ByteArray.data_append])) rfl (by repeat' (first | with_reducible assumption | with_reducible exact Below.refl _ _ | with_reducible refine allocB ?_ | with_reducible refine setB ?_ ?_ | with_reducible refine drewB ?_ | with_reducible refine after ?_ (by assumption) | (simp; omega) | omega))
    · rw [textD_gone hr rfl] at hV
      simp only [Prod.mk.injEq] at hV
      obtain ⟨rfl, rfl⟩ := hV
      have c1 := fun W => TRight_is l1 hr W
      clear hr
      go_enter Tryz.func5, Tryz.ntmps5
      go_wp2_with fail
      refine calls_abs (fun W => Blk W (w.heap.size) #[.string t, .int .i64 R, .int .i64 C, .bool x, .bool y, .bool true] ∧ Below w.heap.size w W) ⟨(by apply Blk.eq; (repeat' (first | with_reducible assumption | with_reducible apply Blk.set | with_reducible apply Blk.other | (with_reducible refine Blk.new ?_; simp; done) | with_reducible apply Blk.alloc | omega)); rfl), (by repeat' (first | with_reducible assumption | with_reducible exact Below.refl _ _ | with_reducible refine allocB ?_ | with_reducible refine setB ?_ ?_ | with_reducible refine drewB ?_ | with_reducible refine after ?_ (by assumption) | (simp; omega) | omega))⟩ ?_
      rintro wa ⟨k1, hb0⟩
      obtain ⟨f1, g1, z1⟩ := k1.facts
      refine (c1 wa).mono ?_; rintro e w1 ⟨rfl, hb1⟩
      replace k1 := k1.below hb1
      replace hb0 : Below w.heap.size w w1 := after hb0 hb1
      clear f1 g1 z1
      clear hb1
      obtain ⟨f1, g1, z1⟩ := k1.facts
      go_wp2
      go_ret2
      exact Ret.mk2 (strV_eq rfl) rfl (by repeat' (first | with_reducible assumption | with_reducible exact Below.refl _ _ | with_reducible refine allocB ?_ | with_reducible refine setB ?_ ?_ | with_reducible refine drewB ?_ | with_reducible refine after ?_ (by assumption) | (simp; omega) | omega))
end Go.Proofs.YtmeiboajpbflcaaGreatDoor
