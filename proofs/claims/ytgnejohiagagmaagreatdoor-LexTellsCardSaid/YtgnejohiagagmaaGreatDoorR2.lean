/- The walk of tabularef04.number. The walks of tabularef04.text, far. The walk of tabularef04.column. -/
import Derived.Test.YtgnejohiagagmaaGreatDoorR1
import Derived.Test.YtgnejohiagagmaaGreatDoorI3
import Derived.Test.YtgnejohiagagmaaGreatDoorN2
namespace Tab
open Go Go.Lib
theorem ref_num (l : Bs) (h : digR (l.getD 0 0).toNat = true) : refC (whileD digR l) (fracD l) = 0 ↔ decED (numD l) = 0 := by
  rw [num_is l h]
  unfold refC
  by_cases hl : (whileD digR l).length ≤ 40 ∧ (fracD l).length ≤ 40
  · rw [if_pos hl, read_rep]
    exact ⟨fun h => ⟨hl.1, hl.2, h⟩, fun h => h.2.2⟩
  · rw [if_neg hl]
    exact ⟨fun h => absurd h (by decide), fun h => absurd ⟨h.1, h.2.1⟩ hl⟩
theorem while_take (P : Nat → Bool) (l : Bs) : l.take (whileD P l).length = whileD P l := (List.prefix_iff_eq_take.1 (List.takeWhile_prefix _)).symm
theorem pre_one (l : Bs) (c : UInt8) (h : hasPrefix l [c] = true) : l = c :: l.drop 1 := by
  cases l with
  | nil => cases h
  | cons b t =>
    unfold hasPrefix at h
    simp [List.isPrefixOf] at h
    rw [h]; rfl
theorem trim_one (l : Bs) (c : UInt8) (h : hasPrefix l [c] = true) : trimPrefix l [c] = l.drop 1 := by
  unfold trimPrefix
  rw [if_pos h]; rfl
theorem take_mid (l : Bs) (n m : Nat) (c : UInt8) (h : hasPrefix (l.drop n) [c] = true) (hn : n ≤ l.length) : l.take (n + 1 + m) = l.take n ++ c :: (l.drop (n + 1)).take m := by
  have h1 := pre_one _ c h
  rw [List.drop_drop] at h1
  conv => lhs; rw [← List.take_append_drop n l]
  rw [Nat.add_assoc, List.take_append, List.length_take, Nat.min_eq_left hn, Nat.add_sub_cancel_left, List.take_of_length_le (by rw [List.length_take]; omega), h1, Nat.add_comm 1 m, List.take_succ_cons]
end Tab
namespace Go.Proofs.YtgnejohiagagmaaGreatDoor
open Go.RowKit Tab

/-- what a function of the reference does that reads a piece. -/
def RPiece (a : Nat) (o : PieceD) (w : World) (e : Ending) (w' : World) : Prop := (match o with
  | none => e = .returned (.tuple #[.agg #[.int .i64 0, .string ⟨#[]⟩, .int .i64 0], .int .i64 0])
  | some x => e = .returned (.tuple #[.agg #[.int .i64 x.1, .string ⟨x.2.1.toArray⟩, .int .i64 (a : Int)], .int .i64 ((a + x.2.2 : Nat) : Int)])) ∧ Below w.heap.size w w'
def zeroTok : Array Value := #[.int .i64 0, .string ⟨#[]⟩, .int .i64 0]
theorem cell3_give {w w' : World} (h : Blk w' w.heap.size #[.int .i64 0, .string ⟨#[]⟩, .int .i64 0]) (hb : Below w.heap.size w w') (u v x : Value) :
    (((w'.setCell ⟨w.heap.size, 0, none⟩ u).setCell ⟨w.heap.size, 1, none⟩ v).setCell ⟨w.heap.size, 2, none⟩ x).cell? ⟨w.heap.size, 0, none⟩ = some u ∧
    (((w'.setCell ⟨w.heap.size, 0, none⟩ u).setCell ⟨w.heap.size, 1, none⟩ v).setCell ⟨w.heap.size, 2, none⟩ x).cell? ⟨w.heap.size, 1, none⟩ = some v ∧
    (((w'.setCell ⟨w.heap.size, 0, none⟩ u).setCell ⟨w.heap.size, 1, none⟩ v).setCell ⟨w.heap.size, 2, none⟩ x).cell? ⟨w.heap.size, 2, none⟩ = some x ∧
    Below w.heap.size w (((w'.setCell ⟨w.heap.size, 0, none⟩ u).setCell ⟨w.heap.size, 1, none⟩ v).setCell ⟨w.heap.size, 2, none⟩ x) ∧
    w'.cell? ⟨w.heap.size, 0, none⟩ = some (.int .i64 0) ∧ w'.cell? ⟨w.heap.size, 1, none⟩ = some (.string ⟨#[]⟩) ∧ w'.cell? ⟨w.heap.size, 2, none⟩ = some (.int .i64 0) ∧
    (∀ o, w'.frozen? ⟨w.heap.size, o, none⟩ = false) ∧ w.heap.size < w'.heap.size := by
  have k9 : Blk (((w'.setCell ⟨w.heap.size, 0, none⟩ u).setCell ⟨w.heap.size, 1, none⟩ v).setCell ⟨w.heap.size, 2, none⟩ x) w.heap.size _ := h.set.set.set
  have q0 := k9.facts.1 0
  have q1 := k9.facts.1 1
  have q2 := k9.facts.1 2
  obtain ⟨f, g, z⟩ := h.facts
  simp only [List.setIfInBounds_toArray, List.set_cons_zero, List.set_cons_succ, List.getElem?_toArray, List.getElem?_cons_zero, List.getElem?_cons_succ] at q0 q1 q2
  exact ⟨q0, q1, q2, ((hb.setCell (Nat.le_refl _) _).setCell (Nat.le_refl _) _).setCell (Nat.le_refl _) _, f 0, f 1, f 2, g, z⟩

set_option maxRecDepth 100000 in
set_option maxHeartbeats 8000000 in
theorem refNumber_any (s : ByteArray) (a : Nat) (ha : a < s.size) (hs : s.size ≤ 1000) (hdig : digR s[a].toNat = true) (w : World) : Calls Tryz.prog 95 #[.string s, .int .i64 (a : Int)] w (RPiece a (numberPD decED (s.data.toList.drop a)) w) := by
  have hl0 : digR ((s.data.toList.drop a).getD 0 0).toNat = true := by rw [drop_at s a ha]; exact hdig
  have hrn := ref_num (s.data.toList.drop a) hl0
  have hll : (s.data.toList.drop a).length = s.size - a := by rw [List.length_drop, ba_size]
  have c0 := fun W => runDigits_any s a (by omega) (by omega) W
  have hwl : (whileD digR (s.data.toList.drop a)).length ≤ s.size - a := by rw [← hll]; exact tw_len _ _
  have hwt := while_take digR (s.data.toList.drop a)
  have hA0 : whileD digR (s.data.toList.drop a) ≠ [] := by
    rw [drop_at s a ha]; unfold whileD; rw [List.takeWhile_cons, if_pos hdig]; simp
  have hAd : ∀ b ∈ whileD digR (s.data.toList.drop a), digR b.toNat = true := while_all digR _
  have hnf := numD_form (s.data.toList.drop a)
  have hBd : ∀ b ∈ fracD (s.data.toList.drop a), digR b.toNat = true := by
    unfold fracD
    split
    · exact while_all digR _
    · intro b hb; cases hb
  have hfr : fracD (s.data.toList.drop a) = if Lib.hasPrefix ((s.data.toList.drop a).drop (whileD digR (s.data.toList.drop a)).length) [46] = true then whileD digR (Lib.trimPrefix ((s.data.toList.drop a).drop (whileD digR (s.data.toList.drop a)).length) [46]) else [] := rfl
  have hex : ∀ n, a + n ≤ s.size → (s.extract a (a + n)).data.toList = (s.data.toList.drop a).take n := fun n hn => by
    rw [ba_extract, List.drop_take, Nat.add_sub_cancel_left]
  have hdd : ∀ n, (s.data.toList.drop a).drop n = s.data.toList.drop (a + n) := fun n => by rw [List.drop_drop]
  have htm : ∀ n m, Lib.hasPrefix ((s.data.toList.drop a).drop n) [46] = true → n ≤ s.size - a → (s.data.toList.drop a).take (n + 1 + m) = (s.data.toList.drop a).take n ++ 46 :: ((s.data.toList.drop a).drop (n + 1)).take m := fun n m h1 h2 => take_mid _ n m 46 h1 (by omega)
  unfold numberPD
  generalize s.data.toList.drop a = l at *
  generalize whileD digR l = A at *
  generalize fracD l = B at *
  generalize numD l = N at *
  have hA1 : 1 ≤ A.length := by
    cases A with
    | nil => exact absurd rfl hA0
    | cons => simp
  have cP := fun W => refAt_any s (a + A.length) (by omega) (by omega) ⟨#[46]⟩ (by decide) W
  have e46 : (⟨#[46]⟩ : ByteArray).data.toList = [46] := rfl
  rw [e46, ← hdd] at cP
  have ew0 : IntKind.i64.wrap ((a : Int) + (A.length : Int)) = ((a + A.length : Nat) : Int) := by rw [IntWalk.i64_in _ (by omega)]; omega
  have ew1 : IntKind.i64.wrap (((a + A.length : Nat) : Int) + 1) = ((a + A.length + 1 : Nat) : Int) := by rw [IntWalk.i64_in _ (by omega)]; omega
  obtain ⟨T, hT⟩ : ∃ T, a + A.length = T := ⟨_, rfl⟩
  cases hp : Lib.hasPrefix (l.drop A.length) [46]
  · have hB : B = [] := by rw [hfr, hp, if_neg Bool.false_ne_true]
    have hN : N = A := by rw [hnf]; unfold numT; rw [if_pos hB]
    have hx : (s.extract a T).data.toList = N := by rw [← hT, hex A.length (by omega), hN]; exact hwt
    have hTo : T = a + N.length := by rw [hN, hT]
    rw [hp] at cP
    rw [hT] at cP ew0 ew1
    clear hfr hp hB hN
    have cRd := fun W => refRead_any (s.extract a T) A B (by rw [hx, hnf]) hA0 hAd hBd (by rw [ByteArray.size_extract]; omega) W
    have hxs : s.extract a T = ⟨N.toArray⟩ := by rw [← hx, ba_eta]
    have hN1 : N.length ≠ 0 := by omega
    have HTO := Lib.hid hTo
    have hTs : T ≤ s.size := by omega
    have haT : a ≤ T := by omega
    rw [hxs] at cRd
    unfold mkD
    rw [if_neg hN1]
    clear hx hnf hA0 hAd hBd hex hdd htm hN1 hTo hwl hwt hll
    obtain ⟨C, hC⟩ : ∃ C, refC A B = C := ⟨_, rfl⟩
    rw [hC] at cRd hrn
    clear hC
    by_cases h0 : C = 0
    · rw [if_pos (hrn.1 h0)]
      subst h0
      clear hrn
      go_enter Tryz.func95, Tryz.ntmps95
      go_upto_region 1 with fail
      refine wp_abs2 (fun W => Blk W w.heap.size #[.int .i64 0, .string ⟨#[]⟩, .int .i64 0] ∧ Below w.heap.size w W) ⟨(by apply Blk.eq; (repeat' (first | with_reducible assumption | with_reducible apply Blk.set | with_reducible apply Blk.other | (with_reducible refine Blk.new ?_; simp; done) | with_reducible apply Blk.alloc | omega)); rfl), (by repeat' (first | with_reducible assumption | with_reducible exact Below.refl _ _ | with_reducible refine allocB ?_ | with_reducible refine setB ?_ ?_ | with_reducible refine drewB ?_ | with_reducible refine after ?_ (by assumption) | (simp; omega) | omega))⟩ ?_
      rintro W ⟨hK, hW⟩
      go_wp2_with fail
      refine (c0 _).mono ?_; rintro e w1 ⟨rfl, rfl⟩
      go_wp2_with fail
      refine (cP _).mono ?_; rintro e w1 ⟨rfl, rfl⟩
      clear c0 cP
      go_wp2_with fail
      refine (cRd _).mono ?_; rintro e w2 ⟨M, E, rfl, hb⟩
      clear cRd
      obtain ⟨q0, q1, q2, hb9, cr0, cr1, cr2, gr, zr⟩ := cell3_give (hK.below hb) (after hW hb) (.int .i64 1) (.string ⟨N.toArray⟩) (.int .i64 (a : Int))
      have HB9 := Lib.hid (allocB (o := .cells #[.int .i64 M, .int .i64 E] 40) hb9)
      clear hb9 hK hW hb
      go_wp2
      exact bodyPost_ret (v := .tuple #[.agg #[.int .i64 1, .string ⟨N.toArray⟩, .int .i64 (a : Int)], .int .i64 (T : Int)]) (by simp [results, Tryz.results95, go_sem, *]) rfl ⟨by rw [HTO.out], HB9.out⟩
    · rw [if_neg (fun h => h0 (hrn.2 h))]
      have e0 : (C != 0) = true := by rw [bne_iff_ne]; exact h0
      clear hrn h0
      go_enter Tryz.func95, Tryz.ntmps95
      go_upto_region 1 with fail
      refine wp_abs2 (fun W => Blk W w.heap.size #[.int .i64 0, .string ⟨#[]⟩, .int .i64 0] ∧ Below w.heap.size w W) ⟨(by apply Blk.eq; (repeat' (first | with_reducible assumption | with_reducible apply Blk.set | with_reducible apply Blk.other | (with_reducible refine Blk.new ?_; simp; done) | with_reducible apply Blk.alloc | omega)); rfl), (by repeat' (first | with_reducible assumption | with_reducible exact Below.refl _ _ | with_reducible refine allocB ?_ | with_reducible refine setB ?_ ?_ | with_reducible refine drewB ?_ | with_reducible refine after ?_ (by assumption) | (simp; omega) | omega))⟩ ?_
      rintro W ⟨hK, hW⟩
      go_wp2_with fail
      refine (c0 _).mono ?_; rintro e w1 ⟨rfl, rfl⟩
      go_wp2_with fail
      refine (cP _).mono ?_; rintro e w1 ⟨rfl, rfl⟩
      clear c0 cP
      go_wp2_with fail
      refine (cRd _).mono ?_; rintro e w2 ⟨M, E, rfl, hb⟩
      clear cRd
      obtain ⟨q0, q1, q2, hb9, cr0, cr1, cr2, gr, zr⟩ := cell3_give (hK.below hb) (after hW hb) (.int .i64 0) (.string ⟨#[]⟩) (.int .i64 0)
      have HB9 := Lib.hid (allocB (o := .cells #[.int .i64 M, .int .i64 E] 40) hb9)
      clear hb9 hK hW hb
      go_wp2
      exact bodyPost_ret (v := .tuple #[.agg #[.int .i64 0, .string ⟨#[]⟩, .int .i64 0], .int .i64 0]) (by simp [results, Tryz.results95, go_sem, *]) rfl ⟨rfl, HB9.out⟩
  · rw [hp, if_pos rfl, trim_one _ _ hp, List.drop_drop] at hfr
    have hle : a + A.length + 1 ≤ s.size := by
      have := pre_len _ _ hp
      rw [hdd, List.length_drop, ba_size] at this
      simp only [List.length_cons, List.length_nil] at this; omega
    have c1 := fun W => runDigits_any s (a + A.length + 1) hle (by omega) W
    rw [show a + A.length + 1 = a + (A.length + 1) by omega, ← hdd, ← hfr] at c1
    have hwt2 : (l.drop (A.length + 1)).take B.length = B := by rw [hfr]; exact while_take digR _
    have hBl : a + A.length + 1 + B.length ≤ s.size := by
      have h1 : B.length ≤ (l.drop (A.length + 1)).length := by rw [hfr]; exact tw_len _ _
      rw [List.length_drop] at h1; omega
    rw [show a + (A.length + 1) = T + 1 by omega] at c1
    rw [show a + A.length + 1 = T + 1 by omega] at ew1 hle hBl
    rw [hp] at cP
    rw [hT] at cP ew0 ew1
    have ewB : IntKind.i64.wrap ((T : Int) + 1) = ((T + 1 : Nat) : Int) := ew1
    by_cases hB : B = []
    · have hN : N = A := by rw [hnf]; unfold numT; rw [if_pos hB]
      have hx : (s.extract a T).data.toList = N := by rw [← hT, hex A.length (by omega), hN]; exact hwt
      have hTo : T = a + N.length := by rw [hN, hT]
      have hB0 : B.length = 0 := by rw [hB]; rfl
      rw [hB0] at c1
      have HBL := Lib.hid hBl
      clear hfr hp hN hwt2 hBl hB0
      have cRd := fun W => refRead_any (s.extract a T) A B (by rw [hx, hnf]) hA0 hAd hBd (by rw [ByteArray.size_extract]; omega) W
      have hxs : s.extract a T = ⟨N.toArray⟩ := by rw [← hx, ba_eta]
      have hN1 : N.length ≠ 0 := by omega
      have HTO := Lib.hid hTo
      have hTs : T ≤ s.size := by omega
      have haT : a ≤ T := by omega
      rw [hxs] at cRd
      unfold mkD
      rw [if_neg hN1]
      clear hB hx hnf hA0 hAd hBd hex hdd htm hN1 hTo hwl hwt hll
      obtain ⟨C, hC⟩ : ∃ C, refC A B = C := ⟨_, rfl⟩
      rw [hC] at cRd hrn
      clear hC
      by_cases h0 : C = 0
      · rw [if_pos (hrn.1 h0)]
        subst h0
        clear hrn
        go_enter Tryz.func95, Tryz.ntmps95
        go_upto_region 1 with fail
        refine wp_abs2 (fun W => Blk W w.heap.size #[.int .i64 0, .string ⟨#[]⟩, .int .i64 0] ∧ Below w.heap.size w W) ⟨(by apply Blk.eq; (repeat' (first | with_reducible assumption | with_reducible apply Blk.set | with_reducible apply Blk.other | (with_reducible refine Blk.new ?_; simp; done) | with_reducible apply Blk.alloc | omega)); rfl), (by repeat' (first | with_reducible assumption | with_reducible exact Below.refl _ _ | with_reducible refine allocB ?_ | with_reducible refine setB ?_ ?_ | with_reducible refine drewB ?_ | with_reducible refine after ?_ (by assumption) | (simp; omega) | omega))⟩ ?_
        rintro W ⟨hK, hW⟩
        go_wp2_with fail
        refine (c0 _).mono ?_; rintro e w1 ⟨rfl, rfl⟩
        go_wp2_with fail
        refine (cP _).mono ?_; rintro e w1 ⟨rfl, rfl⟩
        go_wp2_with fail
        refine (c1 _).mono ?_; rintro e w1 ⟨rfl, rfl⟩
        clear c0 c1 cP
        go_wp2_with fail
        refine (cRd _).mono ?_; rintro e w2 ⟨M, E, rfl, hb⟩
        clear cRd
        obtain ⟨q0, q1, q2, hb9, cr0, cr1, cr2, gr, zr⟩ := cell3_give (hK.below hb) (after hW hb) (.int .i64 1) (.string ⟨N.toArray⟩) (.int .i64 (a : Int))
        have HB9 := Lib.hid (allocB (o := .cells #[.int .i64 M, .int .i64 E] 40) hb9)
        clear hb9 hK hW hb
        go_wp2
        exact bodyPost_ret (v := .tuple #[.agg #[.int .i64 1, .string ⟨N.toArray⟩, .int .i64 (a : Int)], .int .i64 (T : Int)]) (by simp [results, Tryz.results95, go_sem, *]) rfl ⟨by rw [HTO.out], HB9.out⟩
      · rw [if_neg (fun h => h0 (hrn.2 h))]
        have e0 : (C != 0) = true := by rw [bne_iff_ne]; exact h0
        clear hrn h0
        go_enter Tryz.func95, Tryz.ntmps95
        go_upto_region 1 with fail
        refine wp_abs2 (fun W => Blk W w.heap.size #[.int .i64 0, .string ⟨#[]⟩, .int .i64 0] ∧ Below w.heap.size w W) ⟨(by apply Blk.eq; (repeat' (first | with_reducible assumption | with_reducible apply Blk.set | with_reducible apply Blk.other | (with_reducible refine Blk.new ?_; simp; done) | with_reducible apply Blk.alloc | omega)); rfl), (by repeat' (first | with_reducible assumption | with_reducible exact Below.refl _ _ | with_reducible refine allocB ?_ | with_reducible refine setB ?_ ?_ | with_reducible refine drewB ?_ | with_reducible refine after ?_ (by assumption) | (simp; omega) | omega))⟩ ?_
        rintro W ⟨hK, hW⟩
        go_wp2_with fail
        refine (c0 _).mono ?_; rintro e w1 ⟨rfl, rfl⟩
        go_wp2_with fail
        refine (cP _).mono ?_; rintro e w1 ⟨rfl, rfl⟩
        go_wp2_with fail
        refine (c1 _).mono ?_; rintro e w1 ⟨rfl, rfl⟩
        clear c0 c1 cP
        go_wp2_with fail
        refine (cRd _).mono ?_; rintro e w2 ⟨M, E, rfl, hb⟩
        clear cRd
        obtain ⟨q0, q1, q2, hb9, cr0, cr1, cr2, gr, zr⟩ := cell3_give (hK.below hb) (after hW hb) (.int .i64 0) (.string ⟨#[]⟩) (.int .i64 0)
        have HB9 := Lib.hid (allocB (o := .cells #[.int .i64 M, .int .i64 E] 40) hb9)
        clear hb9 hK hW hb
        go_wp2
        exact bodyPost_ret (v := .tuple #[.agg #[.int .i64 0, .string ⟨#[]⟩, .int .i64 0], .int .i64 0]) (by simp [results, Tryz.results95, go_sem, *]) rfl ⟨rfl, HB9.out⟩
    · have hN : N = A ++ 46 :: B := by rw [hnf]; unfold numT; rw [if_neg hB]
      obtain ⟨T2, hT2⟩ : ∃ T2, T + 1 + B.length = T2 := ⟨_, rfl⟩
      have hx : (s.extract a T2).data.toList = N := by
        rw [← hT2, ← hT, show a + A.length + 1 + B.length = a + (A.length + 1 + B.length) by omega, hex _ (by omega), htm _ _ hp (by omega), hwt, hwt2, hN]
      have hTo : T2 = a + N.length := by rw [hN, ← hT2, ← hT]; simp; omega
      have hB1 : 1 ≤ B.length := by
        cases B with
        | nil => exact absurd rfl hB
        | cons => simp
      have eB : decide (0 < (B.length : Int)) = true := decide_eq_true (by omega)
      have ew2 : IntKind.i64.wrap (((T + 1 : Nat) : Int) + (B.length : Int)) = (T2 : Int) := by rw [IntWalk.i64_in _ (by omega)]; omega
      have ew3 : IntKind.i64.wrap ((T : Int) + 1 + (B.length : Int)) = (T2 : Int) := by rw [IntWalk.i64_in _ (by omega)]; omega
      have hT2s : T2 ≤ s.size := by omega
      have eT2 : (T : Int) + 1 + (B.length : Int) = (T2 : Int) := by omega
      clear hfr hp hN hwt2 hBl hB
      have cRd := fun W => refRead_any (s.extract a T2) A B (by rw [hx, hnf]) hA0 hAd hBd (by rw [ByteArray.size_extract]; omega) W
      have hxs : s.extract a T2 = ⟨N.toArray⟩ := by rw [← hx, ba_eta]
      have hN1 : N.length ≠ 0 := by omega
      have HTO := Lib.hid hTo
      have hTs : T2 ≤ s.size := by omega
      have haT : a ≤ T2 := by omega
      rw [hxs] at cRd
      unfold mkD
      rw [if_neg hN1]
      clear hT2 hx hnf hA0 hAd hBd hex hdd htm hN1 hTo hwl hwt hll
      obtain ⟨C, hC⟩ : ∃ C, refC A B = C := ⟨_, rfl⟩
      rw [hC] at cRd hrn
      clear hC
      by_cases h0 : C = 0
      · rw [if_pos (hrn.1 h0)]
        subst h0
        clear hrn
        go_enter Tryz.func95, Tryz.ntmps95
        go_upto_region 1 with fail
        refine wp_abs2 (fun W => Blk W w.heap.size #[.int .i64 0, .string ⟨#[]⟩, .int .i64 0] ∧ Below w.heap.size w W) ⟨(by apply Blk.eq; (repeat' (first | with_reducible assumption | with_reducible apply Blk.set | with_reducible apply Blk.other | (with_reducible refine Blk.new ?_; simp; done) | with_reducible apply Blk.alloc | omega)); rfl), (by repeat' (first | with_reducible assumption | with_reducible exact Below.refl _ _ | with_reducible refine allocB ?_ | with_reducible refine setB ?_ ?_ | with_reducible refine drewB ?_ | with_reducible refine after ?_ (by assumption) | (simp; omega) | omega))⟩ ?_
        rintro W ⟨hK, hW⟩
        go_wp2_with fail
        refine (c0 _).mono ?_; rintro e w1 ⟨rfl, rfl⟩
        go_wp2_with fail
        refine (cP _).mono ?_; rintro e w1 ⟨rfl, rfl⟩
        go_wp2_with fail
        refine (c1 _).mono ?_; rintro e w1 ⟨rfl, rfl⟩
        go_wp2_with fail
        refine (c1 _).mono ?_; rintro e w1 ⟨rfl, rfl⟩
        clear c0 c1 cP
        go_wp2_with fail
        refine (cRd _).mono ?_; rintro e w2 ⟨M, E, rfl, hb⟩
        clear cRd
        obtain ⟨q0, q1, q2, hb9, cr0, cr1, cr2, gr, zr⟩ := cell3_give (hK.below hb) (after hW hb) (.int .i64 1) (.string ⟨N.toArray⟩) (.int .i64 (a : Int))
        have HB9 := Lib.hid (allocB (o := .cells #[.int .i64 M, .int .i64 E] 40) hb9)
        clear hb9 hK hW hb
        go_wp2
        exact bodyPost_ret (v := .tuple #[.agg #[.int .i64 1, .string ⟨N.toArray⟩, .int .i64 (a : Int)], .int .i64 (T2 : Int)]) (by simp [results, Tryz.results95, go_sem, *]) rfl ⟨by rw [HTO.out], HB9.out⟩
      · rw [if_neg (fun h => h0 (hrn.2 h))]
        have e0 : (C != 0) = true := by rw [bne_iff_ne]; exact h0
        clear hrn h0
        go_enter Tryz.func95, Tryz.ntmps95
        go_upto_region 1 with fail
        refine wp_abs2 (fun W => Blk W w.heap.size #[.int .i64 0, .string ⟨#[]⟩, .int .i64 0] ∧ Below w.heap.size w W) ⟨(by apply Blk.eq; (repeat' (first | with_reducible assumption | with_reducible apply Blk.set | with_reducible apply Blk.other | (with_reducible refine Blk.new ?_; simp; done) | with_reducible apply Blk.alloc | omega)); rfl), (by repeat' (first | with_reducible assumption | with_reducible exact Below.refl _ _ | with_reducible refine allocB ?_ | with_reducible refine setB ?_ ?_ | with_reducible refine drewB ?_ | with_reducible refine after ?_ (by assumption) | (simp; omega) | omega))⟩ ?_
        rintro W ⟨hK, hW⟩
        go_wp2_with fail
        refine (c0 _).mono ?_; rintro e w1 ⟨rfl, rfl⟩
        go_wp2_with fail
        refine (cP _).mono ?_; rintro e w1 ⟨rfl, rfl⟩
        go_wp2_with fail
        refine (c1 _).mono ?_; rintro e w1 ⟨rfl, rfl⟩
        go_wp2_with fail
        refine (c1 _).mono ?_; rintro e w1 ⟨rfl, rfl⟩
        clear c0 c1 cP
        go_wp2_with fail
        refine (cRd _).mono ?_; rintro e w2 ⟨M, E, rfl, hb⟩
        clear cRd
        obtain ⟨q0, q1, q2, hb9, cr0, cr1, cr2, gr, zr⟩ := cell3_give (hK.below hb) (after hW hb) (.int .i64 0) (.string ⟨#[]⟩) (.int .i64 0)
        have HB9 := Lib.hid (allocB (o := .cells #[.int .i64 M, .int .i64 E] 40) hb9)
        clear hb9 hK hW hb
        go_wp2
        exact bodyPost_ret (v := .tuple #[.agg #[.int .i64 0, .string ⟨#[]⟩, .int .i64 0], .int .i64 0]) (by simp [results, Tryz.results95, go_sem, *]) rfl ⟨rfl, HB9.out⟩
end Go.Proofs.YtgnejohiagagmaaGreatDoor

namespace Go.Proofs.YtgnejohiagagmaaGreatDoor
open Go.RowKit Tab

set_option maxRecDepth 100000 in
set_option maxHeartbeats 4000000 in
theorem refText_any (s : ByteArray) (a : Nat) (ha : a < s.size) (hs : s.size ≤ 1000) (w : World) : Calls Tryz.prog 96 #[.string s, .int .i64 (a : Int)] w (RPiece a (textPD (s.data.toList.drop a)) w) := by
  have cQ := fun W => refQuoted_any s a ha (by omega) W
  have hq := quoted_range (s.data.toList.drop a)
  have hll : (s.data.toList.drop a).length = s.size - a := by rw [List.length_drop, ba_size]
  unfold textPD
  generalize s.data.toList.drop a = l at *
  obtain ⟨V, n, hV⟩ : ∃ V n, quotedD l = (V, n) := ⟨_, _, rfl⟩
  rw [hV] at cQ hq ⊢
  dsimp only at cQ hq ⊢
  have cI := fun W => IsText_any ⟨V.toArray⟩ W (by show V.toArray.size ≤ _; simp; omega)
  rw [show (⟨V.toArray⟩ : ByteArray).data.toList = V from rfl] at cI
  have hT : endQ a n ≤ s.size := by unfold endQ; split <;> omega
  have hT0 : n = 0 → endQ a n = 0 := fun h => by unfold endQ; rw [if_pos h]
  have hT1 : n ≠ 0 → endQ a n = a + n := fun h => by unfold endQ; rw [if_neg h]
  generalize endQ a n = T at *
  unfold strV at cQ
  clear hV hq hll
  by_cases hn : n = 0
  · have ht := hT0 hn
    subst ht
    have ho : (if textB V = true then mkD 2 V n else none) = none := by unfold mkD; rw [if_pos hn]; split <;> rfl
    rw [ho]
    clear ho cI hT0 hT1
    go_enter Tryz.func96, Tryz.ntmps96
    go_upto_region 1 with fail
    refine wp_abs2 (fun W => Blk W w.heap.size #[.int .i64 0, .string ⟨#[]⟩, .int .i64 0] ∧ Below w.heap.size w W) ⟨(by apply Blk.eq; (repeat' (first | with_reducible assumption | with_reducible apply Blk.set | with_reducible apply Blk.other | (with_reducible refine Blk.new ?_; simp; done) | with_reducible apply Blk.alloc | omega)); rfl), (by repeat' (first | with_reducible assumption | with_reducible exact Below.refl _ _ | with_reducible refine allocB ?_ | with_reducible refine setB ?_ ?_ | with_reducible refine drewB ?_ | with_reducible refine after ?_ (by assumption) | (simp; omega) | omega))⟩ ?_
    rintro W ⟨hK, hW⟩
    go_wp2_with fail
    refine (cQ _).mono ?_; rintro e w1 ⟨rfl, hb⟩
    obtain ⟨q0, q1, q2, hb9, cr0, cr1, cr2, gr, zr⟩ := cell3_give (hK.below hb) (after hW hb) (.int .i64 0) (.string ⟨#[]⟩) (.int .i64 0)
    have HB9 := Lib.hid hb9
    clear hb9 hK hW hb cQ
    go_wp2
    exact bodyPost_ret (v := .tuple #[.agg #[.int .i64 0, .string ⟨#[]⟩, .int .i64 0], .int .i64 0]) (by simp [results, Tryz.results96, go_sem, *]) rfl ⟨rfl, HB9.out⟩
  · have ht := hT1 hn
    have et : ((T : Int) == 0) = false := by rw [beq_eq_false_iff_ne]; omega
    have HT := Lib.hid ht
    clear hT0 hT1 ht
    cases hB : textB V
    · rw [if_neg Bool.false_ne_true]
      rw [hB] at cI
      clear hB
      go_enter Tryz.func96, Tryz.ntmps96
      go_upto_region 1 with fail
      refine wp_abs2 (fun W => Blk W w.heap.size #[.int .i64 0, .string ⟨#[]⟩, .int .i64 0] ∧ Below w.heap.size w W) ⟨(by apply Blk.eq; (repeat' (first | with_reducible assumption | with_reducible apply Blk.set | with_reducible apply Blk.other | (with_reducible refine Blk.new ?_; simp; done) | with_reducible apply Blk.alloc | omega)); rfl), (by repeat' (first | with_reducible assumption | with_reducible exact Below.refl _ _ | with_reducible refine allocB ?_ | with_reducible refine setB ?_ ?_ | with_reducible refine drewB ?_ | with_reducible refine after ?_ (by assumption) | (simp; omega) | omega))⟩ ?_
      rintro W ⟨hK, hW⟩
      go_wp2_with fail
      refine (cQ _).mono ?_; rintro e w1 ⟨rfl, hb⟩
      go_wp2_with fail
      refine (cI _).mono ?_; rintro e w2 ⟨rfl, rfl⟩
      obtain ⟨q0, q1, q2, hb9, cr0, cr1, cr2, gr, zr⟩ := cell3_give (hK.below hb) (after hW hb) (.int .i64 0) (.string ⟨#[]⟩) (.int .i64 0)
      have HB9 := Lib.hid hb9
      clear hb9 hK hW hb cQ cI
      go_wp2
      exact bodyPost_ret (v := .tuple #[.agg #[.int .i64 0, .string ⟨#[]⟩, .int .i64 0], .int .i64 0]) (by simp [results, Tryz.results96, go_sem, *]) rfl ⟨rfl, HB9.out⟩
    · rw [if_pos rfl]
      unfold mkD
      rw [if_neg hn]
      rw [hB] at cI
      clear hB
      go_enter Tryz.func96, Tryz.ntmps96
      go_upto_region 1 with fail
      refine wp_abs2 (fun W => Blk W w.heap.size #[.int .i64 0, .string ⟨#[]⟩, .int .i64 0] ∧ Below w.heap.size w W) ⟨(by apply Blk.eq; (repeat' (first | with_reducible assumption | with_reducible apply Blk.set | with_reducible apply Blk.other | (with_reducible refine Blk.new ?_; simp; done) | with_reducible apply Blk.alloc | omega)); rfl), (by repeat' (first | with_reducible assumption | with_reducible exact Below.refl _ _ | with_reducible refine allocB ?_ | with_reducible refine setB ?_ ?_ | with_reducible refine drewB ?_ | with_reducible refine after ?_ (by assumption) | (simp; omega) | omega))⟩ ?_
      rintro W ⟨hK, hW⟩
      go_wp2_with fail
      refine (cQ _).mono ?_; rintro e w1 ⟨rfl, hb⟩
      go_wp2_with fail
      refine (cI _).mono ?_; rintro e w2 ⟨rfl, rfl⟩
      obtain ⟨q0, q1, q2, hb9, cr0, cr1, cr2, gr, zr⟩ := cell3_give (hK.below hb) (after hW hb) (.int .i64 2) (.string ⟨V.toArray⟩) (.int .i64 (a : Int))
      have HB9 := Lib.hid hb9
      clear hb9 hK hW hb cQ cI
      go_wp2
      exact bodyPost_ret (v := .tuple #[.agg #[.int .i64 2, .string ⟨V.toArray⟩, .int .i64 (a : Int)], .int .i64 (T : Int)]) (by simp [results, Tryz.results96, go_sem, *]) rfl ⟨by rw [HT.out], HB9.out⟩

set_option maxRecDepth 100000 in
set_option maxHeartbeats 4000000 in
theorem refFar_any (s : ByteArray) (a : Nat) (ha : a < s.size) (hs : s.size ≤ 1000) (n : Nat) (hn : a + n ≤ s.size) (w : World) : Calls Tryz.prog 99 #[.string s, .int .i64 (a : Int), .int .i64 ((endQ a n : Nat) : Int)] w (RPiece a (farD (s.data.toList.drop a) n) w) := by
  have hll : (s.data.toList.drop a).length = s.size - a := by rw [List.length_drop, ba_size]
  have hdd : ∀ n, (s.data.toList.drop a).drop n = s.data.toList.drop (a + n) := fun n => by rw [List.drop_drop]
  have hex : ∀ n, a + n ≤ s.size → (s.extract a (a + n)).data.toList = (s.data.toList.drop a).take n := fun n hn => by
    rw [ba_extract, List.drop_take, Nat.add_sub_cancel_left]
  have htm : ∀ m, Lib.hasPrefix ((s.data.toList.drop a).drop n) [33] = true → (s.data.toList.drop a).take (n + 1 + m) = (s.data.toList.drop a).take n ++ 33 :: ((s.data.toList.drop a).drop (n + 1)).take m := fun m h1 => take_mid _ n m 33 h1 (by omega)
  unfold farD
  by_cases h0 : n = 0
  · rw [if_neg (fun h => h.2 h0)]
    have hT : endQ a n = 0 := by unfold endQ; rw [if_pos h0]
    rw [hT]
    clear hll hdd hex htm hT
    go_enter Tryz.func99, Tryz.ntmps99
    go_upto_region 1 with fail
    refine wp_abs2 (fun W => Blk W w.heap.size #[.int .i64 0, .string ⟨#[]⟩, .int .i64 0] ∧ Below w.heap.size w W) ⟨(by apply Blk.eq; (repeat' (first | with_reducible assumption | with_reducible apply Blk.set | with_reducible apply Blk.other | (with_reducible refine Blk.new ?_; simp; done) | with_reducible apply Blk.alloc | omega)); rfl), (by repeat' (first | with_reducible assumption | with_reducible exact Below.refl _ _ | with_reducible refine allocB ?_ | with_reducible refine setB ?_ ?_ | with_reducible refine drewB ?_ | with_reducible refine after ?_ (by assumption) | (simp; omega) | omega))⟩ ?_
    rintro W ⟨hK, hW⟩
    obtain ⟨q0, q1, q2, hb9, cr0, cr1, cr2, gr, zr⟩ := cell3_give hK hW (.int .i64 0) (.string ⟨#[]⟩) (.int .i64 0)
    have HB9 := Lib.hid hb9
    clear hb9 hK hW
    go_wp2
    exact bodyPost_ret (v := .tuple #[.agg #[.int .i64 0, .string ⟨#[]⟩, .int .i64 0], .int .i64 0]) (by simp [results, Tryz.results99, go_sem, *]) rfl ⟨rfl, HB9.out⟩
  have hT : endQ a n = a + n := by unfold endQ; rw [if_neg h0]
  rw [hT]
  have cP := fun W => refAt_any s (a + n) hn (by omega) ⟨#[33]⟩ (by decide) W
  rw [show (⟨#[33]⟩ : ByteArray).data.toList = [33] from rfl, ← hdd] at cP
  have et : (((a + n : Nat) : Int) == 0) = false := by rw [beq_eq_false_iff_ne]; omega
  obtain ⟨T, hTe⟩ : ∃ T, a + n = T := ⟨_, rfl⟩
  cases hp : Lib.hasPrefix ((s.data.toList.drop a).drop n) [33]
  · rw [if_neg (fun h => Bool.false_ne_true h.1)]
    rw [hp] at cP
    rw [hTe] at cP et ⊢
    clear hll hdd hex htm hT hp hTe
    go_enter Tryz.func99, Tryz.ntmps99
    go_upto_region 1 with fail
    refine wp_abs2 (fun W => Blk W w.heap.size #[.int .i64 0, .string ⟨#[]⟩, .int .i64 0] ∧ Below w.heap.size w W) ⟨(by apply Blk.eq; (repeat' (first | with_reducible assumption | with_reducible apply Blk.set | with_reducible apply Blk.other | (with_reducible refine Blk.new ?_; simp; done) | with_reducible apply Blk.alloc | omega)); rfl), (by repeat' (first | with_reducible assumption | with_reducible exact Below.refl _ _ | with_reducible refine allocB ?_ | with_reducible refine setB ?_ ?_ | with_reducible refine drewB ?_ | with_reducible refine after ?_ (by assumption) | (simp; omega) | omega))⟩ ?_
    rintro W ⟨hK, hW⟩
    go_wp2_with fail
    refine (cP _).mono ?_; rintro e w1 ⟨rfl, rfl⟩
    obtain ⟨q0, q1, q2, hb9, cr0, cr1, cr2, gr, zr⟩ := cell3_give hK hW (.int .i64 0) (.string ⟨#[]⟩) (.int .i64 0)
    have HB9 := Lib.hid hb9
    clear hb9 hK hW cP
    go_wp2
    exact bodyPost_ret (v := .tuple #[.agg #[.int .i64 0, .string ⟨#[]⟩, .int .i64 0], .int .i64 0]) (by simp [results, Tryz.results99, go_sem, *]) rfl ⟨rfl, HB9.out⟩
  · rw [if_pos ⟨rfl, h0⟩, trim_one _ _ hp, List.drop_drop]
    have hle : a + n + 1 ≤ s.size := by
      have := pre_len _ _ hp
      rw [hdd, List.length_drop, ba_size] at this
      simp only [List.length_cons, List.length_nil] at this; omega
    have c1 := fun W => runCells_any s (a + n + 1) hle (by omega) W
    rw [show a + n + 1 = a + (n + 1) by omega, ← hdd] at c1
    have hwt := while_take cellR ((s.data.toList.drop a).drop (n + 1))
    have hwl : (whileD cellR ((s.data.toList.drop a).drop (n + 1))).length ≤ ((s.data.toList.drop a).drop (n + 1)).length := tw_len _ _
    rw [List.length_drop, hll] at hwl
    have ht1 := htm 0 hp
    rw [List.take_zero, Nat.add_zero] at ht1
    have ht2 := htm (whileD cellR ((s.data.toList.drop a).drop (n + 1))).length hp
    rw [hwt] at ht2
    rw [ht1]
    generalize whileD cellR ((s.data.toList.drop a).drop (n + 1)) = B at *
    obtain ⟨S, hS⟩ : ∃ S, (s.data.toList.drop a).take n ++ [33] ++ B = S := ⟨_, rfl⟩
    have hS2 : (s.data.toList.drop a).take n ++ 33 :: B = S := by rw [← hS]; simp
    rw [hS]
    rw [hS2] at ht2
    obtain ⟨T2, hT2⟩ : ∃ T2, T + 1 + B.length = T2 := ⟨_, rfl⟩
    have hxS : (s.extract a T2).data.toList = S := by rw [← hT2, ← hTe, show a + n + 1 + B.length = a + (n + 1 + B.length) by omega, hex _ (by omega), ht2]
    have hxs : s.extract a T2 = ⟨S.toArray⟩ := by rw [← hxS, ba_eta]
    have hSl : S.length = n + 1 + B.length := by rw [← hS2, List.length_append, List.length_take, Nat.min_eq_left (by omega), List.length_cons]; omega
    have hTo : T2 = a + S.length := by omega
    have cI := fun W => refIsRef_any ⟨S.toArray⟩ (by show S.toArray.size ≤ _; simp; omega) W
    rw [show (⟨S.toArray⟩ : ByteArray).data.toList = S from rfl] at cI
    have haT : a ≤ T2 := by omega
    have hTs : T2 ≤ s.size := by omega
    have ew1 : IntKind.i64.wrap ((T : Int) + 1) = ((T + 1 : Nat) : Int) := by rw [IntWalk.i64_in _ (by omega)]; omega
    have ew2 : IntKind.i64.wrap (((T + 1 : Nat) : Int) + (B.length : Int)) = (T2 : Int) := by rw [IntWalk.i64_in _ (by omega)]; omega
    have ew3 : IntKind.i64.wrap ((T : Int) + 1 + (B.length : Int)) = (T2 : Int) := by rw [IntWalk.i64_in _ (by omega)]; omega
    have eT2 : (T : Int) + 1 + (B.length : Int) = (T2 : Int) := by omega
    unfold mkD
    rw [if_neg (show ¬ S.length = 0 by omega)]
    rw [hp] at cP
    rw [show a + (n + 1) = T + 1 by omega] at c1
    rw [hTe] at cP et ⊢
    have HTO := Lib.hid hTo
    clear hll hdd hex htm hT hp ht1 ht2 hwt hwl hS hS2 hxS hSl hTe hT2 hTo hle
    cases hr : isRefD S
    · rw [if_neg Bool.false_ne_true]
      rw [hr] at cI
      clear hr
      go_enter Tryz.func99, Tryz.ntmps99
      go_upto_region 1 with fail
      refine wp_abs2 (fun W => Blk W w.heap.size #[.int .i64 0, .string ⟨#[]⟩, .int .i64 0] ∧ Below w.heap.size w W) ⟨(by apply Blk.eq; (repeat' (first | with_reducible assumption | with_reducible apply Blk.set | with_reducible apply Blk.other | (with_reducible refine Blk.new ?_; simp; done) | with_reducible apply Blk.alloc | omega)); rfl), (by repeat' (first | with_reducible assumption | with_reducible exact Below.refl _ _ | with_reducible refine allocB ?_ | with_reducible refine setB ?_ ?_ | with_reducible refine drewB ?_ | with_reducible refine after ?_ (by assumption) | (simp; omega) | omega))⟩ ?_
      rintro W ⟨hK, hW⟩
      go_wp2_with fail
      refine (cP _).mono ?_; rintro e w1 ⟨rfl, rfl⟩
      go_wp2_with fail
      refine (c1 _).mono ?_; rintro e w1 ⟨rfl, rfl⟩
      go_wp2_with fail
      refine (cI _).mono ?_; rintro e w1 ⟨rfl, hb⟩
      obtain ⟨q0, q1, q2, hb9, cr0, cr1, cr2, gr, zr⟩ := cell3_give (hK.below hb) (after hW hb) (.int .i64 0) (.string ⟨#[]⟩) (.int .i64 0)
      have HB9 := Lib.hid hb9
      clear hb9 hK hW cP c1 cI hb
      go_wp2
      exact bodyPost_ret (v := .tuple #[.agg #[.int .i64 0, .string ⟨#[]⟩, .int .i64 0], .int .i64 0]) (by simp [results, Tryz.results99, go_sem, *]) rfl ⟨rfl, HB9.out⟩
    · rw [if_pos rfl]
      rw [hr] at cI
      clear hr
      go_enter Tryz.func99, Tryz.ntmps99
      go_upto_region 1 with fail
      refine wp_abs2 (fun W => Blk W w.heap.size #[.int .i64 0, .string ⟨#[]⟩, .int .i64 0] ∧ Below w.heap.size w W) ⟨(by apply Blk.eq; (repeat' (first | with_reducible assumption | with_reducible apply Blk.set | with_reducible apply Blk.other | (with_reducible refine Blk.new ?_; simp; done) | with_reducible apply Blk.alloc | omega)); rfl), (by repeat' (first | with_reducible assumption | with_reducible exact Below.refl _ _ | with_reducible refine allocB ?_ | with_reducible refine setB ?_ ?_ | with_reducible refine drewB ?_ | with_reducible refine after ?_ (by assumption) | (simp; omega) | omega))⟩ ?_
      rintro W ⟨hK, hW⟩
      go_wp2_with fail
      refine (cP _).mono ?_; rintro e w1 ⟨rfl, rfl⟩
      go_wp2_with fail
      refine (c1 _).mono ?_; rintro e w1 ⟨rfl, rfl⟩
      go_wp2_with fail
      refine (cI _).mono ?_; rintro e w1 ⟨rfl, hb⟩
      obtain ⟨q0, q1, q2, hb9, cr0, cr1, cr2, gr, zr⟩ := cell3_give (hK.below hb) (after hW hb) (.int .i64 5) (.string ⟨S.toArray⟩) (.int .i64 (a : Int))
      have HB9 := Lib.hid hb9
      clear hb9 hK hW cP c1 cI hb
      go_wp2
      exact bodyPost_ret (v := .tuple #[.agg #[.int .i64 5, .string ⟨S.toArray⟩, .int .i64 (a : Int)], .int .i64 (T2 : Int)]) (by simp [results, Tryz.results99, go_sem, *]) rfl ⟨by rw [HTO.out], HB9.out⟩
end Go.Proofs.YtgnejohiagagmaaGreatDoor

namespace Tab
open Go Go.Lib
theorem cut_tw (d : UInt8) (r : Bs) : cut r [d] = if (r.takeWhile (· != d)).length < r.length then (r.takeWhile (· != d), r.drop ((r.takeWhile (· != d)).length + 1), true) else (r, [], false) := by
  by_cases h : d ∈ r
  · obtain ⟨A, B, rfl, hA⟩ := List.eq_append_cons_of_mem h
    have hA : ∀ b ∈ A, b ≠ d := fun b hb e => hA (e ▸ hb)
    have ht : (A ++ d :: B).takeWhile (· != d) = A := by
      rw [List.takeWhile_append_of_pos (by intro b hb; simpa using hA b hb), List.takeWhile_cons, if_neg (by simp), List.append_nil]
    rw [cut_at d A B hA, ht, if_pos (by simp)]
    congr 2
    rw [show A ++ d :: B = (A ++ [d]) ++ B by simp, List.drop_left' (by simp)]
  · have hA : ∀ b ∈ r, b ≠ d := fun b hb e => h (e ▸ hb)
    have ht : r.takeWhile (· != d) = r := tw_same _ r (by intro b hb; simpa using hA b hb)
    rw [cut_off d r hA, ht, if_neg (by omega)]
theorem column_open (l t A B : Bs) (h : l.drop (t.length + 1) = A ++ 91 :: B) (hA : ∀ b ∈ A, b ≠ 93 ∧ b ≠ 91) : columnD l t = none := by
  unfold columnD
  rw [h, cut_tw]
  have ht : (A ++ 91 :: B).takeWhile (· != 93) = A ++ 91 :: B.takeWhile (· != 93) := by
    rw [List.takeWhile_append_of_pos (by intro b hb; simpa using (hA b hb).1), List.takeWhile_cons, if_pos (by decide)]
  rw [ht]
  split
  · rw [if_neg]
    intro h2
    have h3 := h2.2.2.2.1
    dsimp only at h3
    unfold contains at h3
    rw [idx_at 91 _ A (fun b hb => (hA b hb).2)] at h3
    simp at h3
  · rw [if_neg (fun h2 => Bool.false_ne_true h2.1)]
theorem column_never (l t : Bs) (h : ∀ b ∈ l.drop (t.length + 1), b ≠ 93) : columnD l t = none := by
  unfold columnD
  rw [cut_off 93 _ h, if_neg (fun h2 => Bool.false_ne_true h2.1)]
theorem no_has (d : UInt8) (A : Bs) (h : ∀ b ∈ A, b ≠ d) : contains A [d] = false := by
  unfold contains
  rw [idx_no d A h]; rfl
theorem column_at (l t A B : Bs) (h : l.drop (t.length + 1) = A ++ 93 :: B) (hA : ∀ b ∈ A, b ≠ 93 ∧ b ≠ 91) : columnD l t = if 1 ≤ A.length ∧ A.length ≤ 30 ∧ textB A = true then some (9, t ++ [91] ++ A ++ [93], (t ++ [91] ++ A ++ [93]).length) else none := by
  unfold columnD
  rw [h, cut_at 93 A B (fun b hb => (hA b hb).1)]
  dsimp only
  rw [no_has 91 A (fun b hb => (hA b hb).2)]
  by_cases hc : 1 ≤ A.length ∧ A.length ≤ 30 ∧ textB A = true
  · rw [if_pos ⟨rfl, hc.1, hc.2.1, rfl, hc.2.2⟩, if_pos hc]
    unfold mkD
    rw [if_neg (by simp)]
  · rw [if_neg (fun h2 => hc ⟨h2.2.1, h2.2.2.1, h2.2.2.2.2⟩), if_neg hc]
end Tab
namespace Go.Proofs.YtgnejohiagagmaaGreatDoor
open Go.RowKit Tab

set_option maxRecDepth 100000 in
set_option maxHeartbeats 8000000 in
theorem refColumn_any (s : ByteArray) (a : Nat) (_ha : a < s.size) (hs : s.size ≤ 1000) (t : Bs) (ht : (s.data.toList.drop a).take t.length = t) (htl : t.length ≤ s.size - a) (hp : Lib.hasPrefix ((s.data.toList.drop a).drop t.length) [91] = true) (w : World) : Calls Tryz.prog 152 #[.string s, .int .i64 (a : Int), .int .i64 ((a + t.length : Nat) : Int)] w (RPiece a (columnD (s.data.toList.drop a) t) w) := by
  have hll : (s.data.toList.drop a).length = s.size - a := by rw [List.length_drop, ba_size]
  have hdd : ∀ n, (s.data.toList.drop a).drop n = s.data.toList.drop (a + n) := fun n => by rw [List.drop_drop]
  have hex : ∀ n, a + n ≤ s.size → (s.extract a (a + n)).data.toList = (s.data.toList.drop a).take n := fun n hn => by
    rw [ba_extract, List.drop_take, Nat.add_sub_cancel_left]
  have hle : a + t.length + 1 ≤ s.size := by
    have := pre_len _ _ hp
    rw [hdd, List.length_drop, ba_size] at this
    simp only [List.length_cons, List.length_nil] at this; omega
  have htm := fun m => take_mid _ t.length m 91 hp (by omega)
  rw [ht] at htm
  obtain ⟨E, hE⟩ : ∃ E, a + t.length = E := ⟨_, rfl⟩
  rw [hE] at hle ⊢
  have hrest : (s.data.toList.drop a).drop (t.length + 1) = s.data.toList.drop (E + 1) := by rw [hdd]; congr 1; omega
  obtain ⟨O, hO⟩ : ∃ O, columnD (s.data.toList.drop a) t = O := ⟨_, rfl⟩
  rw [hO]
  have c1 := fun A B h1 h2 => (column_open (s.data.toList.drop a) t A B h1 h2).symm.trans hO
  have c2 := fun h => (column_never (s.data.toList.drop a) t h).symm.trans hO
  have c3 := fun A B h1 h2 => (column_at (s.data.toList.drop a) t A B h1 h2).symm.trans hO
  rw [hrest] at c1 c2 c3
  have hxS : ∀ k, E + 1 + k + 1 ≤ s.size → (s.extract a (E + 1 + k + 1)).data.toList = t ++ 91 :: (s.data.toList.drop (E + 1)).take (k + 1) := fun k hk => by
    rw [show E + 1 + k + 1 = a + (t.length + 1 + (k + 1)) by omega, hex _ (by omega), htm, hrest]
  have HX := Lib.hid hxS
  have HE := Lib.hid hE
  have C1 := Lib.hid c1
  have C2 := Lib.hid c2
  have C3 := Lib.hid c3
  clear hll hdd hex htm hrest hO c1 c2 c3 hxS ht htl hp hE
  have ewE : IntKind.i64.wrap ((E : Int) + 1) = ((E + 1 : Nat) : Int) := by rw [IntWalk.i64_in _ (by omega)]; omega
  go_enter Tryz.func152, Tryz.ntmps152
  go_upto_region 1 with fail
  refine wp_abs2 (fun W => Blk W w.heap.size #[.int .i64 0, .string ⟨#[]⟩, .int .i64 0] ∧ Below w.heap.size w W) ⟨(by apply Blk.eq; (repeat' (first | with_reducible assumption | with_reducible apply Blk.set | with_reducible apply Blk.other | (with_reducible refine Blk.new ?_; simp; done) | with_reducible apply Blk.alloc | omega)); rfl), (by repeat' (first | with_reducible assumption | with_reducible exact Below.refl _ _ | with_reducible refine allocB ?_ | with_reducible refine setB ?_ ?_ | with_reducible refine drewB ?_ | with_reducible refine after ?_ (by assumption) | (simp; omega) | omega))⟩ ?_
  rintro W ⟨hK, hW⟩
  go_wp2
  go_loop [8] (fun i => ∃ c k : Nat, i = .int .i64 (c : Int) ∧ c = E + 1 + k ∧ c ≤ s.size ∧ ∀ b ∈ (s.data.toList.drop (E + 1)).take k, b ≠ 93 ∧ b ≠ 91) (fun i => s.size - (intOf i).toNat)
  case atStart => exact ⟨E + 1, 0, rfl, rfl, hle, by simp⟩
  case round =>
    obtain ⟨c, k, rfl, hck, hc, hI⟩ := hrel
    have HI := Lib.hid hI
    have HC := Lib.hid hck
    clear hI hck
    by_cases hlt : c < s.size
    · have hci : decide ((c : Int) < (s.size : Int)) = true := decide_eq_true (by omega)
      have hd := drop_at s c hlt
      have hsp : s.data.toList.drop (E + 1) = (s.data.toList.drop (E + 1)).take k ++ s[c] :: s.data.toList.drop (c + 1) := by
        rw [← hd]
        have h1 := (List.take_append_drop k (s.data.toList.drop (E + 1))).symm
        rw [List.drop_drop, ← HC.out] at h1
        exact h1
      have hkl : ((s.data.toList.drop (E + 1)).take k).length = k := by rw [List.length_take, List.length_drop, ba_size]; have := HC.out; omega
      have htk : (s.data.toList.drop (E + 1)).take (k + 1) = (s.data.toList.drop (E + 1)).take k ++ [s[c]] := by
        conv => lhs; rw [hsp]
        rw [show ∀ (X : Bs) (b : UInt8) (Y : Bs), X ++ b :: Y = (X ++ [b]) ++ Y from fun X b Y => by simp]
        exact List.take_left' (by simp [hkl])
      have ew : IntKind.i64.wrap ((c : Int) + 1) = ((c + 1 : Nat) : Int) := by rw [IntWalk.i64_in _ (by omega)]; omega
      by_cases h93 : s[c] = 93
      · have e93 : ((s[c].toNat : Int) != 93) = false := by rw [h93]; rfl
        have c3 := C3.out _ _ (by rw [← h93]; exact hsp) HI.out
        have hx := HX.out k (by have := HC.out; omega)
        rw [htk, h93] at hx
        have hxA : (s.extract (E + 1) c).data.toList = (s.data.toList.drop (E + 1)).take k := by
          rw [ba_extract, List.drop_take, HC.out, Nat.add_sub_cancel_left]
        rw [show E + 1 + k + 1 = c + 1 by have := HC.out; omega] at hx
        generalize (s.data.toList.drop (E + 1)).take k = A at *
        have hxs : s.extract (E + 1) c = ⟨A.toArray⟩ := by rw [← hxA, ba_eta]
        have cI := fun W => IsText_any ⟨A.toArray⟩ W (by show A.toArray.size ≤ _; simp; have := HC.out; omega)
        rw [show (⟨A.toArray⟩ : ByteArray).data.toList = A from rfl] at cI
        have eE : ((c : Int) == (s.size : Int)) = false := by rw [beq_eq_false_iff_ne]; omega
        have ewk : IntKind.i64.wrap ((c : Int) - (E : Int)) = ((k + 1 : Nat) : Int) := by rw [IntWalk.i64_in _ (by omega)]; have := HC.out; omega
        have ewk2 : IntKind.i64.wrap (((k + 1 : Nat) : Int) - 1) = (k : Int) := by rw [IntWalk.i64_in _ (by have := HC.out; omega)]; omega
        have ewk3 : IntKind.i64.wrap ((c : Int) - (E : Int) - 1) = (k : Int) := by rw [IntWalk.i64_in _ (by omega)]; have := HC.out; omega
        have ewk4 : (c : Int) - (E : Int) = ((k + 1 : Nat) : Int) := by have := HC.out; omega
        have haT : E + 1 ≤ c := by have := HC.out; omega
        obtain ⟨S, hS⟩ : ∃ S, t ++ 91 :: (A ++ [93]) = S := ⟨_, rfl⟩
        have hS2 : t ++ [91] ++ A ++ [93] = S := by rw [← hS]; simp
        rw [hS] at hx
        rw [hS2] at c3
        have hxs2 : s.extract a (c + 1) = ⟨S.toArray⟩ := by rw [← hx, ba_eta]
        have hSl : c + 1 = a + S.length := by
          have h1 : (s.extract a (c + 1)).size = S.length := by rw [hxs2]; show S.toArray.size = _; simp
          rw [ByteArray.size_extract] at h1
          have := HC.out
          have := HE.out
          omega
        have HSL := Lib.hid hSl
        have haE : a ≤ c + 1 := by omega
        have HK := Lib.hid hkl
        clear hsp htk hd hx hxA hS hS2 hSl h93 HX HI C1 C2 C3 hkl
        by_cases k1 : 1 ≤ k
        rotate_left
        · have hO : O = none := by rw [← c3, if_neg (by rw [HK.out]; omega)]
          subst hO
          have d1 : decide ((k : Int) < 1) = true := decide_eq_true (by omega)
          clear c3 cI
          obtain ⟨q0, q1, q2, hb9, cr0, cr1, cr2, gr, zr⟩ := cell3_give hK hW (.int .i64 0) (.string ⟨#[]⟩) (.int .i64 0)
          have HB9 := Lib.hid hb9
          clear hb9 hK hW
          go_wp2
          exact bodyPost_ret (v := .tuple #[.agg #[.int .i64 0, .string ⟨#[]⟩, .int .i64 0], .int .i64 0]) (by simp [results, Tryz.results152, go_sem, *]) rfl ⟨rfl, HB9.out⟩
        have d1 : decide ((k : Int) < 1) = false := decide_eq_false (by omega)
        by_cases k2 : k ≤ 30
        rotate_left
        · have hO : O = none := by rw [← c3, if_neg (by rw [HK.out]; omega)]
          subst hO
          have d2 : decide (30 < (k : Int)) = true := decide_eq_true (by omega)
          clear c3 cI
          obtain ⟨q0, q1, q2, hb9, cr0, cr1, cr2, gr, zr⟩ := cell3_give hK hW (.int .i64 0) (.string ⟨#[]⟩) (.int .i64 0)
          have HB9 := Lib.hid hb9
          clear hb9 hK hW
          go_wp2
          exact bodyPost_ret (v := .tuple #[.agg #[.int .i64 0, .string ⟨#[]⟩, .int .i64 0], .int .i64 0]) (by simp [results, Tryz.results152, go_sem, *]) rfl ⟨rfl, HB9.out⟩
        have d2 : decide (30 < (k : Int)) = false := decide_eq_false (by omega)
        cases hB : textB A
        · have hO : O = none := by rw [← c3, if_neg (by rw [hB]; simp)]
          subst hO
          rw [hB] at cI
          clear c3 hB
          obtain ⟨q0, q1, q2, hb9, cr0, cr1, cr2, gr, zr⟩ := cell3_give hK hW (.int .i64 0) (.string ⟨#[]⟩) (.int .i64 0)
          have HB9 := Lib.hid hb9
          clear hb9 hK hW
          go_wp2_with fail
          refine (cI _).mono ?_; rintro e w1 ⟨rfl, rfl⟩
          clear cI
          go_wp2
          exact bodyPost_ret (v := .tuple #[.agg #[.int .i64 0, .string ⟨#[]⟩, .int .i64 0], .int .i64 0]) (by simp [results, Tryz.results152, go_sem, *]) rfl ⟨rfl, HB9.out⟩
        · have hO : O = some (9, S, S.length) := by rw [← c3, if_pos ⟨by rw [HK.out]; exact k1, by rw [HK.out]; exact k2, hB⟩]
          subst hO
          rw [hB] at cI
          clear c3 hB
          obtain ⟨q0, q1, q2, hb9, cr0, cr1, cr2, gr, zr⟩ := cell3_give hK hW (.int .i64 9) (.string ⟨S.toArray⟩) (.int .i64 (a : Int))
          have HB9 := Lib.hid hb9
          clear hb9 hK hW
          go_wp2_with fail
          refine (cI _).mono ?_; rintro e w1 ⟨rfl, rfl⟩
          clear cI
          go_wp2
          exact bodyPost_ret (v := .tuple #[.agg #[.int .i64 9, .string ⟨S.toArray⟩, .int .i64 (a : Int)], .int .i64 ((c : Int) + 1)]) (by simp [results, Tryz.results152, go_sem, *]) rfl ⟨by dsimp only; rw [← HSL.out]; rfl, HB9.out⟩
      · have e93 : ((s[c].toNat : Int) != 93) = true := by
          have h := byte_bne s[c] 93
          rw [beq_eq_false_iff_ne.2 h93] at h
          exact h
        by_cases h91 : s[c] = 91
        · have e91 : ((s[c].toNat : Int) == 91) = true := by rw [h91]; rfl
          have hO : O = none := (C1.out _ _ (by rw [← h91]; exact hsp) HI.out).symm
          subst hO
          clear hsp htk hd h93 h91 HX HI C1 C2 C3 hkl
          obtain ⟨q0, q1, q2, hb9, cr0, cr1, cr2, gr, zr⟩ := cell3_give hK hW (.int .i64 0) (.string ⟨#[]⟩) (.int .i64 0)
          have HB9 := Lib.hid hb9
          clear hb9 hK hW
          go_wp2
          exact bodyPost_ret (v := .tuple #[.agg #[.int .i64 0, .string ⟨#[]⟩, .int .i64 0], .int .i64 0]) (by simp [results, Tryz.results152, go_sem, *]) rfl ⟨rfl, HB9.out⟩
        · have e91 : ((s[c].toNat : Int) == 91) = false := by
            have h := byte_beq s[c] 91
            rw [beq_eq_false_iff_ne.2 h91] at h
            exact h
          have HI2 : Hid (∀ b ∈ (s.data.toList.drop (E + 1)).take (k + 1), b ≠ 93 ∧ b ≠ 91) := Lib.hid (by
            rw [htk]
            intro b hb
            rcases List.mem_append.1 hb with hb | hb
            · exact HI.out b hb
            · rw [List.mem_singleton] at hb; subst hb; exact ⟨h93, h91⟩)
          clear hsp htk hd h93 h91 HX HI C1 C2 C3 hkl
          go_wp2
          go_round
          case rel => exact ⟨c + 1, k + 1, rfl, by have := HC.out; omega, hlt, HI2.out⟩
          case measure => simp [intOf]; omega
    · have hci : decide ((c : Int) < (s.size : Int)) = false := decide_eq_false (by omega)
      have eE : ((c : Int) == (s.size : Int)) = true := by rw [beq_iff_eq]; omega
      have hO : O = none := (C2.out (fun b hb => by
        refine (HI.out b ?_).1
        rw [List.take_of_length_le (by rw [List.length_drop, ba_size]; have := HC.out; omega)]
        exact hb)).symm
      subst hO
      clear HX HI C1 C2 C3
      obtain ⟨q0, q1, q2, hb9, cr0, cr1, cr2, gr, zr⟩ := cell3_give hK hW (.int .i64 0) (.string ⟨#[]⟩) (.int .i64 0)
      have HB9 := Lib.hid hb9
      clear hb9 hK hW
      go_wp2
      exact bodyPost_ret (v := .tuple #[.agg #[.int .i64 0, .string ⟨#[]⟩, .int .i64 0], .int .i64 0]) (by simp [results, Tryz.results152, go_sem, *]) rfl ⟨rfl, HB9.out⟩
end Go.Proofs.YtgnejohiagagmaaGreatDoor
