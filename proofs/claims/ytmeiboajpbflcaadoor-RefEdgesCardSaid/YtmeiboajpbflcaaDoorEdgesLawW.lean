/- The law RefEdges: its walk. -/
import Derived.Test.YtmeiboajpbflcaaDoorUses
namespace Go.Proofs.YtmeiboajpbflcaaDoor
open Go.RowKit Tab

theorem meet_self_wide (m1 m2 m3 m4 m5 n4 n5 : Int) (h1 : 0 ≤ m1 ∧ m1 < 8) (h2 : 0 ≤ m2 ∧ m2 < 200) (h3 : 0 ≤ m3 ∧ m3 < 52) (h4 : 1 ≤ m4 ∧ m4 ≤ 200 - m2) (h5 : 1 ≤ m5 ∧ m5 ≤ 52 - m3) (k4 : m4 ≤ n4 ∧ n4 ≤ 200 - m2) (k5 : m5 ≤ n5 ∧ n5 ≤ 52 - m3) :
    meetB ⟨m1, m2, m3, m4, m5⟩ ⟨m1, m2, m3, n4, n5⟩ = true ∧ meetA ⟨m1, m2, m3, m4, m5⟩ ⟨m1, m2, m3, n4, n5⟩ = ⟨m1, m2, m3, m4, m5⟩ := by
  have e : meetB ⟨m1, m2, m3, m4, m5⟩ ⟨m1, m2, m3, n4, n5⟩ = true := by
    rw [meetB_iff]
    refine ⟨⟨?_, ?_, ?_, ?_, ?_, ?_, ?_, ?_, ?_, ?_⟩, ⟨?_, ?_, ?_, ?_, ?_, ?_, ?_, ?_, ?_, ?_⟩, rfl, ?_, ?_⟩ <;> dsimp only <;> omega
  refine ⟨e, ?_⟩
  rw [meetA_yes e]
  simp only [meetRaw, AreaD.mk.injEq, true_and]
  omega
theorem meet_off_wide (a b : AreaD) (h : ¬ a.Ok ∨ ¬ b.Ok) : meetB a b = false := by
  rw [Bool.eq_false_iff]; intro e
  obtain ⟨h1, h2, _⟩ := (meetB_iff _ _).1 e
  rcases h with h | h
  · exact h h1
  · exact h h2
theorem not_ok_wide (m1 m2 m3 m4 m5 : Int) (h : 52 - m3 < m5 ∨ 200 - m2 < m4) : ¬ AreaD.Ok ⟨m1, m2, m3, m4, m5⟩ := by
  rintro ⟨_, _, _, _, _, _, _, h8, _, h10⟩
  dsimp only at h8 h10
  omega

set_option maxRecDepth 100000 in
set_option maxHeartbeats 8000000 in
theorem law_RefEdges (a : RefD) (x : AreaD) (w : World) (hg : Good w) (ha : RefIn a) (hx : AreaIn x) : Calls Tryd.prog 9 #[refV a, areaV x] w (Ret (.bool true) w) := by
  have cR : ∀ W, Below w.heap.size w W → _ := fun W (_ : Below w.heap.size w W) => RefOf_any ⟨a.s, a.row, a.col, false, false, false⟩ W ha.2.1 ha.2.2 ha.1
  have okm := (ok_iff _).1 (mkArea_ok x).1
  have cX : ∀ W, Calls Tryd.prog 20 #[areaV x] W (Ret (areaV (mkArea x)) W) := fun W => RefArea_any _ _ _ _ _ W hx.1 hx.2.1 hx.2.2.1 hx.2.2.2.1 hx.2.2.2.2
  generalize mkArea x = M at *
  obtain ⟨m1, m2, m3, m4, m5⟩ := M
  obtain ⟨b1, b2, b3, b4, b5, b6, b7, b8, b9, b10⟩ := okm
  dsimp only at b1 b2 b3 b4 b5 b6 b7 b8 b9 b10
  obtain ⟨F1, E1⟩ := meet_self_wide m1 m2 m3 m4 m5 m4 (52 - m3) ⟨b1, b2⟩ ⟨b3, b4⟩ ⟨b5, b6⟩ ⟨b7, b8⟩ ⟨b9, b10⟩ (by omega) (by omega)
  obtain ⟨F2, E2⟩ := meet_self_wide m1 m2 m3 m4 m5 (200 - m2) m5 ⟨b1, b2⟩ ⟨b3, b4⟩ ⟨b5, b6⟩ ⟨b7, b8⟩ ⟨b9, b10⟩ (by omega) (by omega)
  have F3 : meetB ⟨m1, m2, m3, m4, m5⟩ ⟨m1, m2, m3, m4, 52 - m3 + 1⟩ = false := meet_off_wide _ _ (.inr (not_ok_wide _ _ _ _ _ (by omega)))
  have F4 : meetB ⟨m1, m2, m3, 200 - m2 + 1, m5⟩ ⟨m1, m2, m3, m4, m5⟩ = false := meet_off_wide _ _ (.inl (not_ok_wide _ _ _ _ _ (by omega)))
  have H1 : hasB ⟨m1, m2, m3, 200 - m2 + 1, m5⟩ m1 m2 m3 = false := meet_off_wide _ _ (.inl (not_ok_wide _ _ _ _ _ (by omega)))
  have c1 := fun W => Meet_is E1 F1 W
  have c2 := fun W => Meet_is E2 F2 W
  have c3 := fun W => Meet_is (c1 := 0) (c2 := 0) (c3 := 0) (c4 := 0) (c5 := 0) (meetA_no F3) F3 W
  have c4 := fun W => Meet_is (c1 := 0) (c2 := 0) (c3 := 0) (c4 := 0) (c5 := 0) (meetA_no F4) F4 W
  have h1 := fun W => Has_is H1 W
  clear E1 E2 F1 F2 F3 F4 H1 ha hx
  obtain ⟨a0, a1, a2, a3, a4, a5⟩ := a
  obtain ⟨x1, x2, x3, x4, x5⟩ := x
  unfold refV areaV at *
  dsimp only at *
  go_enter Tryd.func9, Tryd.ntmps9
  go_wp2_with fail
  refine calls_abs (fun W => Blk W (w.heap.size) #[.string a0, .int .i64 a1, .int .i64 a2, .bool a3, .bool a4, .bool a5] ∧ Blk W (w.heap.size + 1) #[.int .i64 x1, .int .i64 x2, .int .i64 x3, .int .i64 x4, .int .i64 x5] ∧ Below w.heap.size w W) ⟨(by apply Blk.eq; (repeat' (first | with_reducible assumption | with_reducible apply Blk.set | with_reducible apply Blk.other | (with_reducible refine Blk.new ?_; simp; done) | with_reducible apply Blk.alloc | omega)); rfl), (by apply Blk.eq; (repeat' (first | with_reducible assumption | with_reducible apply Blk.set | with_reducible apply Blk.other | (with_reducible refine Blk.new ?_; simp; done) | with_reducible apply Blk.alloc | omega)); rfl), (by repeat' (first | with_reducible assumption | with_reducible exact Below.refl _ _ | with_reducible refine allocB ?_ | with_reducible refine setB ?_ ?_ | with_reducible refine drewB ?_ | with_reducible refine after ?_ (by assumption) | (simp; omega) | omega))⟩ ?_
  rintro wa ⟨k2, k3, hb0⟩
  obtain ⟨f2, g2, z2⟩ := k2.facts
  obtain ⟨f3, g3, z3⟩ := k3.facts
  refine (awake_any wa (hg.below hb0)).mono ?_; rintro e w1 ⟨rfl, hb1⟩
  replace k2 := k2.below hb1
  replace k3 := k3.below hb1
  replace hb0 : Below w.heap.size w w1 := after hb0 hb1
  clear f2 g2 z2
  clear f3 g3 z3
  clear hb1
  obtain ⟨f2, g2, z2⟩ := k2.facts
  obtain ⟨f3, g3, z3⟩ := k3.facts
  go_wp2_with fail
  refine (cR w1 hb0).mono ?_; rintro e w2 ⟨q, hq, rfl, hb2⟩
  replace k2 := k2.below hb2
  replace k3 := k3.below hb2
  replace hb0 : Below w.heap.size w w2 := after hb0 hb2
  clear f2 g2 z2
  clear f3 g3 z3
  clear hb2
  obtain ⟨f2, g2, z2⟩ := k2.facts
  obtain ⟨f3, g3, z3⟩ := k3.facts
  clear k2 f2 g2 z2
  obtain ⟨_, rq, tq⟩ := made_in hq
  rcases hq with ⟨hz, _⟩ | ⟨t, ht, rfl⟩
  · exact absurd hz (by decide)
  obtain ⟨rR1, rR2, rC1, rC2⟩ := right_range rq
  have ht' : (t.data.toList.isEmpty || nameB t.data.toList) = true := by rcases ht with rfl | h; exact rfl; rw [h, Bool.or_true]
  dsimp only at rR1 rR2 rC1 rC2 tq
  try dsimp only
  generalize pickI a1 200 = R at *
  generalize pickI a2 52 = C at *
  have hts : t.size ≤ 9223372036854775807 := by omega
  have iR : Int64 R := by unfold Int64; omega
  have iC : Int64 C := by unfold Int64; omega
  have M1 := moved_at t R C false false ht' ⟨rR1, rR2⟩ ⟨rC1, rC2⟩ (-R) (-C) (by omega) (by omega) (0) (0) (show R + (-R) = 0 by omega) (show C + (-C) = 0 by omega)
  rw [if_pos (by omega)] at M1
  have d1 := fun W hb => Moved_is hg hts iR iC M1 W hb
  have M2 := moved_at t R C false false ht' ⟨rR1, rR2⟩ ⟨rC1, rC2⟩ (199 - R) (51 - C) (by omega) (by omega) (199) (51) (show R + (199 - R) = 199 by omega) (show C + (51 - C) = 51 by omega)
  rw [if_pos (by omega)] at M2
  have d2 := fun W hb => Moved_is hg hts iR iC M2 W hb
  have M3 := moved_at t R C false false ht' ⟨rR1, rR2⟩ ⟨rC1, rC2⟩ (-R - 1) (0) (by omega) (by omega) (-1) (C) (show R + (-R - 1) = -1 by omega) (show C + (0) = C by omega)
  rw [if_neg (by omega)] at M3
  have d3 := fun W hb => Moved_is (t' := ⟨#[]⟩) (R' := 0) (C' := 0) (fr' := false) (fc' := false) (bad' := false) hg hts iR iC M3 W hb
  have M4 := moved_at t R C false false ht' ⟨rR1, rR2⟩ ⟨rC1, rC2⟩ (0) (52 - C) (by omega) (by omega) (R) (52) (show R + (0) = R by omega) (show C + (52 - C) = 52 by omega)
  rw [if_neg (by omega)] at M4
  have d4 := fun W hb => Moved_is (t' := ⟨#[]⟩) (R' := 0) (C' := 0) (fr' := false) (fc' := false) (bad' := false) hg hts iR iC M4 W hb
  have M5 := moved_at t R C false false ht' ⟨rR1, rR2⟩ ⟨rC1, rC2⟩ (200 - R) (0) (by omega) (by omega) (200) (C) (show R + (200 - R) = 200 by omega) (show C + (0) = C by omega)
  rw [if_neg (by omega)] at M5
  have d5 := fun W hb => Moved_is (t' := ⟨#[]⟩) (R' := 0) (C' := 0) (fr' := false) (fc' := false) (bad' := false) hg hts iR iC M5 W hb
  have M6 := moved_at t R C false false ht' ⟨rR1, rR2⟩ ⟨rC1, rC2⟩ (0) (-C - 1) (by omega) (by omega) (R) (-1) (show R + (0) = R by omega) (show C + (-C - 1) = -1 by omega)
  rw [if_neg (by omega)] at M6
  have d6 := fun W hb => Moved_is (t' := ⟨#[]⟩) (R' := 0) (C' := 0) (fr' := false) (fc' := false) (bad' := false) hg hts iR iC M6 W hb
  clear M1 M2 M3 M4 M5 M6 ht ht' tq rq hts iR iC cR
  go_wp2_with fail
  have l6 := hb0.size
  have y3_6 := z3
  refine calls_abs (fun W => Blk W (w.heap.size + 1) #[.int .i64 x1, .int .i64 x2, .int .i64 x3, .int .i64 x4, .int .i64 x5] ∧ Blk W (w2.heap.size) #[.string t, .int .i64 R, .int .i64 C, .bool false, .bool false, .bool false] ∧ Below w.heap.size w W) ⟨(by apply Blk.eq; (repeat' (first | with_reducible assumption | with_reducible apply Blk.set | with_reducible apply Blk.other | (with_reducible refine Blk.new ?_; simp; done) | with_reducible apply Blk.alloc | omega)); rfl), (by apply Blk.eq; (repeat' (first | with_reducible assumption | with_reducible apply Blk.set | with_reducible apply Blk.other | (with_reducible refine Blk.new ?_; simp; done) | with_reducible apply Blk.alloc | omega)); rfl), (by repeat' (first | with_reducible assumption | with_reducible exact Below.refl _ _ | with_reducible refine allocB ?_ | with_reducible refine setB ?_ ?_ | with_reducible refine drewB ?_ | with_reducible refine after ?_ (by assumption) | (simp; omega) | omega))⟩ ?_
  clear f3 g3 z3
  clear k3 hb0
  rintro w2a ⟨k3, k6, hb0⟩
  generalize w2.heap.size = b6 at *
  obtain ⟨f3, g3, z3⟩ := k3.facts
  obtain ⟨f6, g6, z6⟩ := k6.facts
  refine (d1 w2a hb0).mono ?_; rintro e w3 ⟨rfl, hb3⟩
  replace k3 := k3.below hb3
  replace k6 := k6.below hb3
  replace hb0 : Below w.heap.size w w3 := after hb0 hb3
  clear f3 g3 z3
  clear f6 g6 z6
  clear hb3
  obtain ⟨f3, g3, z3⟩ := k3.facts
  obtain ⟨f6, g6, z6⟩ := k6.facts
  go_wp2_with fail
  have l7 := hb0.size
  have y3_7 := z3
  have y6_7 := z6
  refine calls_abs (fun W => Blk W (w.heap.size + 1) #[.int .i64 x1, .int .i64 x2, .int .i64 x3, .int .i64 x4, .int .i64 x5] ∧ Blk W (b6) #[.string t, .int .i64 R, .int .i64 C, .bool false, .bool false, .bool false] ∧ Blk W (w3.heap.size) #[.string t, .int .i64 0, .int .i64 0, .bool false, .bool false, .bool false] ∧ Below w.heap.size w W) ⟨(by apply Blk.eq; (repeat' (first | with_reducible assumption | with_reducible apply Blk.set | with_reducible apply Blk.other | (with_reducible refine Blk.new ?_; simp; done) | with_reducible apply Blk.alloc | omega)); rfl), (by apply Blk.eq; (repeat' (first | with_reducible assumption | with_reducible apply Blk.set | with_reducible apply Blk.other | (with_reducible refine Blk.new ?_; simp; done) | with_reducible apply Blk.alloc | omega)); rfl), (by apply Blk.eq; (repeat' (first | with_reducible assumption | with_reducible apply Blk.set | with_reducible apply Blk.other | (with_reducible refine Blk.new ?_; simp; done) | with_reducible apply Blk.alloc | omega)); rfl), (by repeat' (first | with_reducible assumption | with_reducible exact Below.refl _ _ | with_reducible refine allocB ?_ | with_reducible refine setB ?_ ?_ | with_reducible refine drewB ?_ | with_reducible refine after ?_ (by assumption) | (simp; omega) | omega))⟩ ?_
  clear f3 g3 z3
  clear f6 g6 z6
  clear k3 k6 hb0
  rintro w3a ⟨k3, k6, k7, hb0⟩
  generalize w3.heap.size = b7 at *
  obtain ⟨f3, g3, z3⟩ := k3.facts
  obtain ⟨f6, g6, z6⟩ := k6.facts
  obtain ⟨f7, g7, z7⟩ := k7.facts
  refine (d2 w3a hb0).mono ?_; rintro e w4 ⟨rfl, hb4⟩
  replace k3 := k3.below hb4
  replace k6 := k6.below hb4
  replace k7 := k7.below hb4
  replace hb0 : Below w.heap.size w w4 := after hb0 hb4
  clear f3 g3 z3
  clear f6 g6 z6
  clear f7 g7 z7
  clear hb4
  obtain ⟨f3, g3, z3⟩ := k3.facts
  obtain ⟨f6, g6, z6⟩ := k6.facts
  obtain ⟨f7, g7, z7⟩ := k7.facts
  go_wp2_with fail
  have l9 := hb0.size
  have y3_9 := z3
  have y6_9 := z6
  have y7_9 := z7
  refine calls_abs (fun W => Blk W (w.heap.size + 1) #[.int .i64 x1, .int .i64 x2, .int .i64 x3, .int .i64 x4, .int .i64 x5] ∧ Blk W (b6) #[.string t, .int .i64 R, .int .i64 C, .bool false, .bool false, .bool false] ∧ Blk W (b7) #[.string t, .int .i64 0, .int .i64 0, .bool false, .bool false, .bool false] ∧ Blk W (w4.heap.size) #[.string t, .int .i64 199, .int .i64 51, .bool false, .bool false, .bool false] ∧ Below w.heap.size w W) ⟨(by apply Blk.eq; (repeat' (first | with_reducible assumption | with_reducible apply Blk.set | with_reducible apply Blk.other | (with_reducible refine Blk.new ?_; simp; done) | with_reducible apply Blk.alloc | omega)); rfl), (by apply Blk.eq; (repeat' (first | with_reducible assumption | with_reducible apply Blk.set | with_reducible apply Blk.other | (with_reducible refine Blk.new ?_; simp; done) | with_reducible apply Blk.alloc | omega)); rfl), (by apply Blk.eq; (repeat' (first | with_reducible assumption | with_reducible apply Blk.set | with_reducible apply Blk.other | (with_reducible refine Blk.new ?_; simp; done) | with_reducible apply Blk.alloc | omega)); rfl), (by apply Blk.eq; (repeat' (first | with_reducible assumption | with_reducible apply Blk.set | with_reducible apply Blk.other | (with_reducible refine Blk.new ?_; simp; done) | with_reducible apply Blk.alloc | omega)); rfl), (by repeat' (first | with_reducible assumption | with_reducible exact Below.refl _ _ | with_reducible refine allocB ?_ | with_reducible refine setB ?_ ?_ | with_reducible refine drewB ?_ | with_reducible refine after ?_ (by assumption) | (simp; omega) | omega))⟩ ?_
  clear f3 g3 z3
  clear f6 g6 z6
  clear f7 g7 z7
  clear k3 k6 k7 hb0
  rintro w4a ⟨k3, k6, k7, k9, hb0⟩
  generalize w4.heap.size = b9 at *
  obtain ⟨f3, g3, z3⟩ := k3.facts
  obtain ⟨f6, g6, z6⟩ := k6.facts
  obtain ⟨f7, g7, z7⟩ := k7.facts
  obtain ⟨f9, g9, z9⟩ := k9.facts
  refine (d3 w4a hb0).mono ?_; rintro e w5 ⟨rfl, hb5⟩
  replace k3 := k3.below hb5
  replace k6 := k6.below hb5
  replace k7 := k7.below hb5
  replace k9 := k9.below hb5
  replace hb0 : Below w.heap.size w w5 := after hb0 hb5
  clear f3 g3 z3
  clear f6 g6 z6
  clear f7 g7 z7
  clear f9 g9 z9
  clear hb5
  obtain ⟨f3, g3, z3⟩ := k3.facts
  obtain ⟨f6, g6, z6⟩ := k6.facts
  obtain ⟨f7, g7, z7⟩ := k7.facts
  obtain ⟨f9, g9, z9⟩ := k9.facts
  go_wp2_with fail
  refine calls_abs (fun W => Blk W (w.heap.size + 1) #[.int .i64 x1, .int .i64 x2, .int .i64 x3, .int .i64 x4, .int .i64 x5] ∧ Blk W (b6) #[.string t, .int .i64 R, .int .i64 C, .bool false, .bool false, .bool false] ∧ Blk W (b7) #[.string t, .int .i64 0, .int .i64 0, .bool false, .bool false, .bool false] ∧ Blk W (b9) #[.string t, .int .i64 199, .int .i64 51, .bool false, .bool false, .bool false] ∧ Below w.heap.size w W) ⟨(by apply Blk.eq; (repeat' (first | with_reducible assumption | with_reducible apply Blk.set | with_reducible apply Blk.other | (with_reducible refine Blk.new ?_; simp; done) | with_reducible apply Blk.alloc | omega)); rfl), (by apply Blk.eq; (repeat' (first | with_reducible assumption | with_reducible apply Blk.set | with_reducible apply Blk.other | (with_reducible refine Blk.new ?_; simp; done) | with_reducible apply Blk.alloc | omega)); rfl), (by apply Blk.eq; (repeat' (first | with_reducible assumption | with_reducible apply Blk.set | with_reducible apply Blk.other | (with_reducible refine Blk.new ?_; simp; done) | with_reducible apply Blk.alloc | omega)); rfl), (by apply Blk.eq; (repeat' (first | with_reducible assumption | with_reducible apply Blk.set | with_reducible apply Blk.other | (with_reducible refine Blk.new ?_; simp; done) | with_reducible apply Blk.alloc | omega)); rfl), (by repeat' (first | with_reducible assumption | with_reducible exact Below.refl _ _ | with_reducible refine allocB ?_ | with_reducible refine setB ?_ ?_ | with_reducible refine drewB ?_ | with_reducible refine after ?_ (by assumption) | (simp; omega) | omega))⟩ ?_
  clear f3 g3 z3
  clear f6 g6 z6
  clear f7 g7 z7
  clear f9 g9 z9
  clear k3 k6 k7 k9 hb0
  rintro w5a ⟨k3, k6, k7, k9, hb0⟩
  obtain ⟨f3, g3, z3⟩ := k3.facts
  obtain ⟨f6, g6, z6⟩ := k6.facts
  obtain ⟨f7, g7, z7⟩ := k7.facts
  obtain ⟨f9, g9, z9⟩ := k9.facts
  refine (d4 w5a hb0).mono ?_; rintro e w6 ⟨rfl, hb6⟩
  replace k3 := k3.below hb6
  replace k6 := k6.below hb6
  replace k7 := k7.below hb6
  replace k9 := k9.below hb6
  replace hb0 : Below w.heap.size w w6 := after hb0 hb6
  clear f3 g3 z3
  clear f6 g6 z6
  clear f7 g7 z7
  clear f9 g9 z9
  clear hb6
  obtain ⟨f3, g3, z3⟩ := k3.facts
  obtain ⟨f6, g6, z6⟩ := k6.facts
  obtain ⟨f7, g7, z7⟩ := k7.facts
  obtain ⟨f9, g9, z9⟩ := k9.facts
  go_wp2_with fail
  refine calls_abs (fun W => Blk W (w.heap.size + 1) #[.int .i64 x1, .int .i64 x2, .int .i64 x3, .int .i64 x4, .int .i64 x5] ∧ Blk W (b6) #[.string t, .int .i64 R, .int .i64 C, .bool false, .bool false, .bool false] ∧ Blk W (b7) #[.string t, .int .i64 0, .int .i64 0, .bool false, .bool false, .bool false] ∧ Blk W (b9) #[.string t, .int .i64 199, .int .i64 51, .bool false, .bool false, .bool false] ∧ Below w.heap.size w W) ⟨(by apply Blk.eq; (repeat' (first | with_reducible assumption | with_reducible apply Blk.set | with_reducible apply Blk.other | (with_reducible refine Blk.new ?_; simp; done) | with_reducible apply Blk.alloc | omega)); rfl), (by apply Blk.eq; (repeat' (first | with_reducible assumption | with_reducible apply Blk.set | with_reducible apply Blk.other | (with_reducible refine Blk.new ?_; simp; done) | with_reducible apply Blk.alloc | omega)); rfl), (by apply Blk.eq; (repeat' (first | with_reducible assumption | with_reducible apply Blk.set | with_reducible apply Blk.other | (with_reducible refine Blk.new ?_; simp; done) | with_reducible apply Blk.alloc | omega)); rfl), (by apply Blk.eq; (repeat' (first | with_reducible assumption | with_reducible apply Blk.set | with_reducible apply Blk.other | (with_reducible refine Blk.new ?_; simp; done) | with_reducible apply Blk.alloc | omega)); rfl), (by repeat' (first | with_reducible assumption | with_reducible exact Below.refl _ _ | with_reducible refine allocB ?_ | with_reducible refine setB ?_ ?_ | with_reducible refine drewB ?_ | with_reducible refine after ?_ (by assumption) | (simp; omega) | omega))⟩ ?_
  clear f3 g3 z3
  clear f6 g6 z6
  clear f7 g7 z7
  clear f9 g9 z9
  clear k3 k6 k7 k9 hb0
  rintro w6a ⟨k3, k6, k7, k9, hb0⟩
  obtain ⟨f3, g3, z3⟩ := k3.facts
  obtain ⟨f6, g6, z6⟩ := k6.facts
  obtain ⟨f7, g7, z7⟩ := k7.facts
  obtain ⟨f9, g9, z9⟩ := k9.facts
  refine (d5 w6a hb0).mono ?_; rintro e w7 ⟨rfl, hb7⟩
  replace k3 := k3.below hb7
  replace k6 := k6.below hb7
  replace k7 := k7.below hb7
  replace k9 := k9.below hb7
  replace hb0 : Below w.heap.size w w7 := after hb0 hb7
  clear f3 g3 z3
  clear f6 g6 z6
  clear f7 g7 z7
  clear f9 g9 z9
  clear hb7
  obtain ⟨f3, g3, z3⟩ := k3.facts
  obtain ⟨f6, g6, z6⟩ := k6.facts
  obtain ⟨f7, g7, z7⟩ := k7.facts
  obtain ⟨f9, g9, z9⟩ := k9.facts
  go_wp2_with fail
  refine calls_abs (fun W => Blk W (w.heap.size + 1) #[.int .i64 x1, .int .i64 x2, .int .i64 x3, .int .i64 x4, .int .i64 x5] ∧ Blk W (b6) #[.string t, .int .i64 R, .int .i64 C, .bool false, .bool false, .bool false] ∧ Blk W (b7) #[.string t, .int .i64 0, .int .i64 0, .bool false, .bool false, .bool false] ∧ Blk W (b9) #[.string t, .int .i64 199, .int .i64 51, .bool false, .bool false, .bool false] ∧ Below w.heap.size w W) ⟨(by apply Blk.eq; (repeat' (first | with_reducible assumption | with_reducible apply Blk.set | with_reducible apply Blk.other | (with_reducible refine Blk.new ?_; simp; done) | with_reducible apply Blk.alloc | omega)); rfl), (by apply Blk.eq; (repeat' (first | with_reducible assumption | with_reducible apply Blk.set | with_reducible apply Blk.other | (with_reducible refine Blk.new ?_; simp; done) | with_reducible apply Blk.alloc | omega)); rfl), (by apply Blk.eq; (repeat' (first | with_reducible assumption | with_reducible apply Blk.set | with_reducible apply Blk.other | (with_reducible refine Blk.new ?_; simp; done) | with_reducible apply Blk.alloc | omega)); rfl), (by apply Blk.eq; (repeat' (first | with_reducible assumption | with_reducible apply Blk.set | with_reducible apply Blk.other | (with_reducible refine Blk.new ?_; simp; done) | with_reducible apply Blk.alloc | omega)); rfl), (by repeat' (first | with_reducible assumption | with_reducible exact Below.refl _ _ | with_reducible refine allocB ?_ | with_reducible refine setB ?_ ?_ | with_reducible refine drewB ?_ | with_reducible refine after ?_ (by assumption) | (simp; omega) | omega))⟩ ?_
  clear f3 g3 z3
  clear f6 g6 z6
  clear f7 g7 z7
  clear f9 g9 z9
  clear k3 k6 k7 k9 hb0
  rintro w7a ⟨k3, k6, k7, k9, hb0⟩
  obtain ⟨f3, g3, z3⟩ := k3.facts
  obtain ⟨f6, g6, z6⟩ := k6.facts
  obtain ⟨f7, g7, z7⟩ := k7.facts
  obtain ⟨f9, g9, z9⟩ := k9.facts
  refine (d6 w7a hb0).mono ?_; rintro e w8 ⟨rfl, hb8⟩
  replace k3 := k3.below hb8
  replace k6 := k6.below hb8
  replace k7 := k7.below hb8
  replace k9 := k9.below hb8
  replace hb0 : Below w.heap.size w w8 := after hb0 hb8
  clear f3 g3 z3
  clear f6 g6 z6
  clear f7 g7 z7
  clear f9 g9 z9
  clear hb8
  obtain ⟨f3, g3, z3⟩ := k3.facts
  obtain ⟨f6, g6, z6⟩ := k6.facts
  obtain ⟨f7, g7, z7⟩ := k7.facts
  obtain ⟨f9, g9, z9⟩ := k9.facts
  clear d1 d2 d3 d4 d5 d6
  go_wp2_with fail
  refine calls_abs (fun W => Blk W (w.heap.size + 1) #[.int .i64 x1, .int .i64 x2, .int .i64 x3, .int .i64 x4, .int .i64 x5] ∧ Blk W (b6) #[.string t, .int .i64 R, .int .i64 C, .bool false, .bool false, .bool false] ∧ Blk W (b7) #[.string t, .int .i64 0, .int .i64 0, .bool false, .bool false, .bool false] ∧ Blk W (b9) #[.string t, .int .i64 199, .int .i64 51, .bool false, .bool false, .bool false] ∧ Below w.heap.size w W) ⟨(by apply Blk.eq; (repeat' (first | with_reducible assumption | with_reducible apply Blk.set | with_reducible apply Blk.other | (with_reducible refine Blk.new ?_; simp; done) | with_reducible apply Blk.alloc | omega)); rfl), (by apply Blk.eq; (repeat' (first | with_reducible assumption | with_reducible apply Blk.set | with_reducible apply Blk.other | (with_reducible refine Blk.new ?_; simp; done) | with_reducible apply Blk.alloc | omega)); rfl), (by apply Blk.eq; (repeat' (first | with_reducible assumption | with_reducible apply Blk.set | with_reducible apply Blk.other | (with_reducible refine Blk.new ?_; simp; done) | with_reducible apply Blk.alloc | omega)); rfl), (by apply Blk.eq; (repeat' (first | with_reducible assumption | with_reducible apply Blk.set | with_reducible apply Blk.other | (with_reducible refine Blk.new ?_; simp; done) | with_reducible apply Blk.alloc | omega)); rfl), (by repeat' (first | with_reducible assumption | with_reducible exact Below.refl _ _ | with_reducible refine allocB ?_ | with_reducible refine setB ?_ ?_ | with_reducible refine drewB ?_ | with_reducible refine after ?_ (by assumption) | (simp; omega) | omega))⟩ ?_
  clear f3 g3 z3
  clear f6 g6 z6
  clear f7 g7 z7
  clear f9 g9 z9
  clear k3 k6 k7 k9 hb0
  rintro w8a ⟨k3, k6, k7, k9, hb0⟩
  obtain ⟨f3, g3, z3⟩ := k3.facts
  obtain ⟨f6, g6, z6⟩ := k6.facts
  obtain ⟨f7, g7, z7⟩ := k7.facts
  obtain ⟨f9, g9, z9⟩ := k9.facts
  clear k6 f6 g6 z6
  clear k7 f7 g7 z7
  clear k9 f9 g9 z9
  skip
  refine (cX w8a).mono ?_; rintro e w9 ⟨rfl, hb9⟩
  replace k3 := k3.below hb9
  replace hb0 : Below w.heap.size w w9 := after hb0 hb9
  clear f3 g3 z3
  clear hb9
  obtain ⟨f3, g3, z3⟩ := k3.facts
  clear k3 f3 g3 z3
  go_wp2_with fail
  have l19 := hb0.size
  refine calls_abs (fun W => Blk W (w9.heap.size) #[.int .i64 m1, .int .i64 m2, .int .i64 m3, .int .i64 m4, .int .i64 m5] ∧ Blk W (w9.heap.size + 1) #[.int .i64 m1, .int .i64 m2, .int .i64 m3, .int .i64 m4, .int .i64 (52 - m3)] ∧ Blk W (w9.heap.size + 1 + 1) #[.int .i64 m1, .int .i64 m2, .int .i64 m3, .int .i64 (200 - m2), .int .i64 m5] ∧ Below w.heap.size w W) ⟨(by apply Blk.eq; (repeat' (first | with_reducible assumption | with_reducible apply Blk.set | with_reducible apply Blk.other | (with_reducible refine Blk.new ?_; simp; done) | with_reducible apply Blk.alloc | omega)); rfl), (by apply Blk.eq; (repeat' (first | with_reducible assumption | with_reducible apply Blk.set | with_reducible apply Blk.other | (with_reducible refine Blk.new ?_; simp; done) | with_reducible apply Blk.alloc | omega)); rfl), (by apply Blk.eq; (repeat' (first | with_reducible assumption | with_reducible apply Blk.set | with_reducible apply Blk.other | (with_reducible refine Blk.new ?_; simp; done) | with_reducible apply Blk.alloc | omega)); rfl), (by repeat' (first | with_reducible assumption | with_reducible exact Below.refl _ _ | with_reducible refine allocB ?_ | with_reducible refine setB ?_ ?_ | with_reducible refine drewB ?_ | with_reducible refine after ?_ (by assumption) | (simp; omega) | omega))⟩ ?_
  clear hb0
  rintro w9a ⟨k19, k20, k21, hb0⟩
  generalize w9.heap.size = b19 at *
  obtain ⟨f19, g19, z19⟩ := k19.facts
  obtain ⟨f20, g20, z20⟩ := k20.facts
  obtain ⟨f21, g21, z21⟩ := k21.facts
  skip
  refine (c1 w9a).mono ?_; rintro e w10 ⟨rfl, hb10⟩
  replace k19 := k19.below hb10
  replace k20 := k20.below hb10
  replace k21 := k21.below hb10
  replace hb0 : Below w.heap.size w w10 := after hb0 hb10
  clear f19 g19 z19
  clear f20 g20 z20
  clear f21 g21 z21
  clear hb10
  obtain ⟨f19, g19, z19⟩ := k19.facts
  obtain ⟨f20, g20, z20⟩ := k20.facts
  obtain ⟨f21, g21, z21⟩ := k21.facts
  go_wp2_with fail
  have l22 := hb0.size
  have y19_22 := z19
  have y20_22 := z20
  have y21_22 := z21
  refine calls_abs (fun W => Blk W (b19) #[.int .i64 m1, .int .i64 m2, .int .i64 m3, .int .i64 m4, .int .i64 m5] ∧ Blk W (b19 + 1) #[.int .i64 m1, .int .i64 m2, .int .i64 m3, .int .i64 m4, .int .i64 (52 - m3)] ∧ Blk W (b19 + 1 + 1) #[.int .i64 m1, .int .i64 m2, .int .i64 m3, .int .i64 (200 - m2), .int .i64 m5] ∧ Blk W (w10.heap.size) #[.int .i64 m1, .int .i64 m2, .int .i64 m3, .int .i64 m4, .int .i64 m5] ∧ Below w.heap.size w W) ⟨(by apply Blk.eq; (repeat' (first | with_reducible assumption | with_reducible apply Blk.set | with_reducible apply Blk.other | (with_reducible refine Blk.new ?_; simp; done) | with_reducible apply Blk.alloc | omega)); rfl), (by apply Blk.eq; (repeat' (first | with_reducible assumption | with_reducible apply Blk.set | with_reducible apply Blk.other | (with_reducible refine Blk.new ?_; simp; done) | with_reducible apply Blk.alloc | omega)); rfl), (by apply Blk.eq; (repeat' (first | with_reducible assumption | with_reducible apply Blk.set | with_reducible apply Blk.other | (with_reducible refine Blk.new ?_; simp; done) | with_reducible apply Blk.alloc | omega)); rfl), (by apply Blk.eq; (repeat' (first | with_reducible assumption | with_reducible apply Blk.set | with_reducible apply Blk.other | (with_reducible refine Blk.new ?_; simp; done) | with_reducible apply Blk.alloc | omega)); rfl), (by repeat' (first | with_reducible assumption | with_reducible exact Below.refl _ _ | with_reducible refine allocB ?_ | with_reducible refine setB ?_ ?_ | with_reducible refine drewB ?_ | with_reducible refine after ?_ (by assumption) | (simp; omega) | omega))⟩ ?_
  clear f19 g19 z19
  clear f20 g20 z20
  clear f21 g21 z21
  clear k19 k20 k21 hb0
  rintro w10a ⟨k19, k20, k21, k22, hb0⟩
  generalize w10.heap.size = b22 at *
  obtain ⟨f19, g19, z19⟩ := k19.facts
  obtain ⟨f20, g20, z20⟩ := k20.facts
  obtain ⟨f21, g21, z21⟩ := k21.facts
  obtain ⟨f22, g22, z22⟩ := k22.facts
  refine (c2 w10a).mono ?_; rintro e w11 ⟨rfl, hb11⟩
  replace k19 := k19.below hb11
  replace k20 := k20.below hb11
  replace k21 := k21.below hb11
  replace k22 := k22.below hb11
  replace hb0 : Below w.heap.size w w11 := after hb0 hb11
  clear f19 g19 z19
  clear f20 g20 z20
  clear f21 g21 z21
  clear f22 g22 z22
  clear hb11
  obtain ⟨f19, g19, z19⟩ := k19.facts
  obtain ⟨f20, g20, z20⟩ := k20.facts
  obtain ⟨f21, g21, z21⟩ := k21.facts
  obtain ⟨f22, g22, z22⟩ := k22.facts
  go_wp2_with fail
  have l24 := hb0.size
  have y19_24 := z19
  have y20_24 := z20
  have y21_24 := z21
  have y22_24 := z22
  refine calls_abs (fun W => Blk W (b19) #[.int .i64 m1, .int .i64 m2, .int .i64 m3, .int .i64 m4, .int .i64 m5] ∧ Blk W (b19 + 1) #[.int .i64 m1, .int .i64 m2, .int .i64 m3, .int .i64 m4, .int .i64 (52 - m3 + 1)] ∧ Blk W (b19 + 1 + 1) #[.int .i64 m1, .int .i64 m2, .int .i64 m3, .int .i64 (200 - m2 + 1), .int .i64 m5] ∧ Blk W (b22) #[.int .i64 m1, .int .i64 m2, .int .i64 m3, .int .i64 m4, .int .i64 m5] ∧ Blk W (w11.heap.size) #[.int .i64 m1, .int .i64 m2, .int .i64 m3, .int .i64 m4, .int .i64 m5] ∧ Below w.heap.size w W) ⟨(by apply Blk.eq; (repeat' (first | with_reducible assumption | with_reducible apply Blk.set | with_reducible apply Blk.other | (with_reducible refine Blk.new ?_; simp; done) | with_reducible apply Blk.alloc | omega)); rfl), (by apply Blk.eq; (repeat' (first | with_reducible assumption | with_reducible apply Blk.set | with_reducible apply Blk.other | (with_reducible refine Blk.new ?_; simp; done) | with_reducible apply Blk.alloc | omega)); rfl), (by apply Blk.eq; (repeat' (first | with_reducible assumption | with_reducible apply Blk.set | with_reducible apply Blk.other | (with_reducible refine Blk.new ?_; simp; done) | with_reducible apply Blk.alloc | omega)); rfl), (by apply Blk.eq; (repeat' (first | with_reducible assumption | with_reducible apply Blk.set | with_reducible apply Blk.other | (with_reducible refine Blk.new ?_; simp; done) | with_reducible apply Blk.alloc | omega)); rfl), (by apply Blk.eq; (repeat' (first | with_reducible assumption | with_reducible apply Blk.set | with_reducible apply Blk.other | (with_reducible refine Blk.new ?_; simp; done) | with_reducible apply Blk.alloc | omega)); rfl), (by repeat' (first | with_reducible assumption | with_reducible exact Below.refl _ _ | with_reducible refine allocB ?_ | with_reducible refine setB ?_ ?_ | with_reducible refine drewB ?_ | with_reducible refine after ?_ (by assumption) | (simp; omega) | omega))⟩ ?_
  clear f19 g19 z19
  clear f20 g20 z20
  clear f21 g21 z21
  clear f22 g22 z22
  clear k19 k20 k21 k22 hb0
  rintro w11a ⟨k19, k20, k21, k22, k24, hb0⟩
  generalize w11.heap.size = b24 at *
  obtain ⟨f19, g19, z19⟩ := k19.facts
  obtain ⟨f20, g20, z20⟩ := k20.facts
  obtain ⟨f21, g21, z21⟩ := k21.facts
  obtain ⟨f22, g22, z22⟩ := k22.facts
  obtain ⟨f24, g24, z24⟩ := k24.facts
  skip
  refine (c3 w11a).mono ?_; rintro e w12 ⟨rfl, hb12⟩
  replace k19 := k19.below hb12
  replace k20 := k20.below hb12
  replace k21 := k21.below hb12
  replace k22 := k22.below hb12
  replace k24 := k24.below hb12
  replace hb0 : Below w.heap.size w w12 := after hb0 hb12
  clear f19 g19 z19
  clear f20 g20 z20
  clear f21 g21 z21
  clear f22 g22 z22
  clear f24 g24 z24
  clear hb12
  obtain ⟨f19, g19, z19⟩ := k19.facts
  obtain ⟨f20, g20, z20⟩ := k20.facts
  obtain ⟨f21, g21, z21⟩ := k21.facts
  obtain ⟨f22, g22, z22⟩ := k22.facts
  obtain ⟨f24, g24, z24⟩ := k24.facts
  go_wp2_with fail
  refine calls_abs (fun W => Blk W (b19) #[.int .i64 m1, .int .i64 m2, .int .i64 m3, .int .i64 m4, .int .i64 m5] ∧ Blk W (b19 + 1) #[.int .i64 m1, .int .i64 m2, .int .i64 m3, .int .i64 m4, .int .i64 (52 - m3 + 1)] ∧ Blk W (b19 + 1 + 1) #[.int .i64 m1, .int .i64 m2, .int .i64 m3, .int .i64 (200 - m2 + 1), .int .i64 m5] ∧ Blk W (b22) #[.int .i64 m1, .int .i64 m2, .int .i64 m3, .int .i64 m4, .int .i64 m5] ∧ Blk W (b24) #[.int .i64 m1, .int .i64 m2, .int .i64 m3, .int .i64 m4, .int .i64 m5] ∧ Below w.heap.size w W) ⟨(by apply Blk.eq; (repeat' (first | with_reducible assumption | with_reducible apply Blk.set | with_reducible apply Blk.other | (with_reducible refine Blk.new ?_; simp; done) | with_reducible apply Blk.alloc | omega)); rfl), (by apply Blk.eq; (repeat' (first | with_reducible assumption | with_reducible apply Blk.set | with_reducible apply Blk.other | (with_reducible refine Blk.new ?_; simp; done) | with_reducible apply Blk.alloc | omega)); rfl), (by apply Blk.eq; (repeat' (first | with_reducible assumption | with_reducible apply Blk.set | with_reducible apply Blk.other | (with_reducible refine Blk.new ?_; simp; done) | with_reducible apply Blk.alloc | omega)); rfl), (by apply Blk.eq; (repeat' (first | with_reducible assumption | with_reducible apply Blk.set | with_reducible apply Blk.other | (with_reducible refine Blk.new ?_; simp; done) | with_reducible apply Blk.alloc | omega)); rfl), (by apply Blk.eq; (repeat' (first | with_reducible assumption | with_reducible apply Blk.set | with_reducible apply Blk.other | (with_reducible refine Blk.new ?_; simp; done) | with_reducible apply Blk.alloc | omega)); rfl), (by repeat' (first | with_reducible assumption | with_reducible exact Below.refl _ _ | with_reducible refine allocB ?_ | with_reducible refine setB ?_ ?_ | with_reducible refine drewB ?_ | with_reducible refine after ?_ (by assumption) | (simp; omega) | omega))⟩ ?_
  clear f19 g19 z19
  clear f20 g20 z20
  clear f21 g21 z21
  clear f22 g22 z22
  clear f24 g24 z24
  clear k19 k20 k21 k22 k24 hb0
  rintro w12a ⟨k19, k20, k21, k22, k24, hb0⟩
  obtain ⟨f19, g19, z19⟩ := k19.facts
  obtain ⟨f20, g20, z20⟩ := k20.facts
  obtain ⟨f21, g21, z21⟩ := k21.facts
  obtain ⟨f22, g22, z22⟩ := k22.facts
  obtain ⟨f24, g24, z24⟩ := k24.facts
  refine (c4 w12a).mono ?_; rintro e w13 ⟨rfl, hb13⟩
  replace k19 := k19.below hb13
  replace k20 := k20.below hb13
  replace k21 := k21.below hb13
  replace k22 := k22.below hb13
  replace k24 := k24.below hb13
  replace hb0 : Below w.heap.size w w13 := after hb0 hb13
  clear f19 g19 z19
  clear f20 g20 z20
  clear f21 g21 z21
  clear f22 g22 z22
  clear f24 g24 z24
  clear hb13
  obtain ⟨f19, g19, z19⟩ := k19.facts
  obtain ⟨f20, g20, z20⟩ := k20.facts
  obtain ⟨f21, g21, z21⟩ := k21.facts
  obtain ⟨f22, g22, z22⟩ := k22.facts
  obtain ⟨f24, g24, z24⟩ := k24.facts
  clear c1 c2 c3 c4 cX hg
  go_wp2_with fail
  refine calls_abs (fun W => Blk W (b19) #[.int .i64 m1, .int .i64 m2, .int .i64 m3, .int .i64 m4, .int .i64 m5] ∧ Blk W (b19 + 1) #[.int .i64 m1, .int .i64 m2, .int .i64 m3, .int .i64 m4, .int .i64 (52 - m3 + 1)] ∧ Blk W (b19 + 1 + 1) #[.int .i64 m1, .int .i64 m2, .int .i64 m3, .int .i64 (200 - m2 + 1), .int .i64 m5] ∧ Blk W (b22) #[.int .i64 m1, .int .i64 m2, .int .i64 m3, .int .i64 m4, .int .i64 m5] ∧ Blk W (b24) #[.int .i64 m1, .int .i64 m2, .int .i64 m3, .int .i64 m4, .int .i64 m5] ∧ Below w.heap.size w W) ⟨(by apply Blk.eq; (repeat' (first | with_reducible assumption | with_reducible apply Blk.set | with_reducible apply Blk.other | (with_reducible refine Blk.new ?_; simp; done) | with_reducible apply Blk.alloc | omega)); rfl), (by apply Blk.eq; (repeat' (first | with_reducible assumption | with_reducible apply Blk.set | with_reducible apply Blk.other | (with_reducible refine Blk.new ?_; simp; done) | with_reducible apply Blk.alloc | omega)); rfl), (by apply Blk.eq; (repeat' (first | with_reducible assumption | with_reducible apply Blk.set | with_reducible apply Blk.other | (with_reducible refine Blk.new ?_; simp; done) | with_reducible apply Blk.alloc | omega)); rfl), (by apply Blk.eq; (repeat' (first | with_reducible assumption | with_reducible apply Blk.set | with_reducible apply Blk.other | (with_reducible refine Blk.new ?_; simp; done) | with_reducible apply Blk.alloc | omega)); rfl), (by apply Blk.eq; (repeat' (first | with_reducible assumption | with_reducible apply Blk.set | with_reducible apply Blk.other | (with_reducible refine Blk.new ?_; simp; done) | with_reducible apply Blk.alloc | omega)); rfl), (by repeat' (first | with_reducible assumption | with_reducible exact Below.refl _ _ | with_reducible refine allocB ?_ | with_reducible refine setB ?_ ?_ | with_reducible refine drewB ?_ | with_reducible refine after ?_ (by assumption) | (simp; omega) | omega))⟩ ?_
  clear f19 g19 z19
  clear f20 g20 z20
  clear f21 g21 z21
  clear f22 g22 z22
  clear f24 g24 z24
  clear k19 k20 k21 k22 k24 hb0
  rintro w13a ⟨k19, k20, k21, k22, k24, hb0⟩
  obtain ⟨f19, g19, z19⟩ := k19.facts
  obtain ⟨f20, g20, z20⟩ := k20.facts
  obtain ⟨f21, g21, z21⟩ := k21.facts
  obtain ⟨f22, g22, z22⟩ := k22.facts
  obtain ⟨f24, g24, z24⟩ := k24.facts
  refine (h1 w13a).mono ?_; rintro e w14 ⟨rfl, hb14⟩
  replace k19 := k19.below hb14
  replace k20 := k20.below hb14
  replace k21 := k21.below hb14
  replace k22 := k22.below hb14
  replace k24 := k24.below hb14
  replace hb0 : Below w.heap.size w w14 := after hb0 hb14
  clear f19 g19 z19
  clear f20 g20 z20
  clear f21 g21 z21
  clear f22 g22 z22
  clear f24 g24 z24
  clear hb14
  obtain ⟨f19, g19, z19⟩ := k19.facts
  obtain ⟨f20, g20, z20⟩ := k20.facts
  obtain ⟨f21, g21, z21⟩ := k21.facts
  obtain ⟨f22, g22, z22⟩ := k22.facts
  obtain ⟨f24, g24, z24⟩ := k24.facts
  go_wp2
  go_ret; exact Ret.mk' rfl (by repeat' (first | with_reducible assumption | with_reducible exact Below.refl _ _ | with_reducible refine allocB ?_ | with_reducible refine setB ?_ ?_ | with_reducible refine drewB ?_ | with_reducible refine after ?_ (by assumption) | (simp; omega) | omega))
end Go.Proofs.YtmeiboajpbflcaaDoor
