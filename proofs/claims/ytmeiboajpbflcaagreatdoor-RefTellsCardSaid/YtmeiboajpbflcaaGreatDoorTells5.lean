/- The walk of the reference's Area. -/
import Derived.Test.YtmeiboajpbflcaaGreatDoorTells4
namespace Go.Proofs.YtmeiboajpbflcaaGreatDoor
open Go.RowKit Tab

set_option maxRecDepth 100000 in
set_option maxHeartbeats 4000000 in
theorem TArea_any (a b : RefD) (sh : Int) (w : World) (hs : a.s.size ≤ 9223372036854775807) (hs' : b.s.size ≤ 9223372036854775807) (hsh : Int64 sh) : Calls Tryz.prog 21 #[refV a, refV b, .int .i64 sh] w (Ret (.tuple #[areaV (areaOf a b sh).1, .int .i64 (areaOf a b sh).2]) w) := by
  obtain ⟨⟨v1, v2, v3, v4, v5⟩, e, hV⟩ : ∃ V e, areaOf a b sh = (V, e) := ⟨_, _, rfl⟩
  rw [hV]
  obtain ⟨t, R, C, x, y, z⟩ := a
  obtain ⟨u, P, Q, x', y', z'⟩ := b
  dsimp only at hs hs'
  unfold Int64 at hsh
  obtain ⟨hm1, hm2⟩ := hsh
  unfold refV areaV
  dsimp only
  by_cases h : sh < 0 ∨ 8 ≤ sh
  · have e0 : areaOf ⟨t, R, C, x, y, z⟩ ⟨u, P, Q, x', y', z'⟩ sh = (⟨0, 0, 0, 0, 0⟩, 2) := by unfold areaOf; rw [if_pos h]; rfl
    rw [e0] at hV
    simp only [Prod.mk.injEq, AreaD.mk.injEq] at hV
    obtain ⟨⟨rfl, rfl, rfl, rfl, rfl⟩, rfl⟩ := hV
    clear e0
    rcases h with h | h
    all_goals (
      go_enter Tryz.func21, Tryz.ntmps21
      go_wp2
      exact bodyPost_ret (v := .tuple #[.agg #[.int .i64 (0), .int .i64 (0), .int .i64 (0), .int .i64 (0), .int .i64 (0)], .int .i64 2]) (by simp [results, Tryz.results21, go_sem, *]) rfl ⟨rfl, (by repeat' (first | with_reducible assumption | with_reducible exact Below.refl _ _ | with_reducible refine allocB ?_ | with_reducible refine setB ?_ ?_ | with_reducible refine drewB ?_ | with_reducible refine after ?_ (by assumption) | (simp; omega) | omega))⟩)
  · obtain ⟨h1, h2⟩ : 0 ≤ sh ∧ sh < 8 := by omega
    obtain ⟨X, hX⟩ : ∃ B, RefD.right ⟨t, R, C, x, y, z⟩ = B := ⟨_, rfl⟩
    obtain ⟨Y, hY⟩ : ∃ B, RefD.right ⟨u, P, Q, x', y', z'⟩ = B := ⟨_, rfl⟩
    have c1 := fun W => TRight_is hs hX W
    have c2 := fun W => TRight_is hs' hY W
    by_cases k : (X && Y && !z && !z') = true
    · simp only [Bool.and_eq_true, Bool.not_eq_true'] at k
      obtain ⟨⟨⟨rfl, rfl⟩, rfl⟩, rfl⟩ := k
      obtain ⟨rR1, rR2, rC1, rC2⟩ := right_range hX
      obtain ⟨rP1, rP2, rQ1, rQ2⟩ := right_range hY
      dsimp only at rR1 rR2 rC1 rC2 rP1 rP2 rQ1 rQ2
      have e0 : areaOf ⟨t, R, C, x, y, false⟩ ⟨u, P, Q, x', y', false⟩ sh = (⟨sh, if P < R then P else R, if Q < C then Q else C, if P < R then R - P + 1 else P - R + 1, if Q < C then C - Q + 1 else Q - C + 1⟩, 0) := by
        unfold areaOf
        rw [if_neg h, hX, hY]
        simp only [Bool.not_false, Bool.and_true, if_true, Prod.mk.injEq, AreaD.mk.injEq, and_true, true_and]
        constructor <;> (split <;> split <;> omega)
      rw [e0] at hV
      clear e0 hX hY h
      by_cases k1 : P < R <;> by_cases k2 : Q < C <;> simp only [k1, k2, if_true, if_false, Prod.mk.injEq, AreaD.mk.injEq] at hV <;> obtain ⟨⟨rfl, rfl, rfl, rfl, rfl⟩, rfl⟩ := hV
      · go_enter Tryz.func21, Tryz.ntmps21
        go_wp2_with fail
        refine calls_abs (fun W => Blk W (w.heap.size) #[.string t, .int .i64 R, .int .i64 C, .bool x, .bool y, .bool false] ∧ Blk W (w.heap.size + 1) #[.string u, .int .i64 P, .int .i64 Q, .bool x', .bool y', .bool false] ∧ Blk W (w.heap.size + 1 + 1) #[.int .i64 (0), .int .i64 (0), .int .i64 (0), .int .i64 (0), .int .i64 (0)] ∧ Below w.heap.size w W) ⟨(by apply Blk.eq; (repeat' (first | with_reducible assumption | with_reducible apply Blk.set | with_reducible apply Blk.other | (with_reducible refine Blk.new ?_; simp; done) | with_reducible apply Blk.alloc | omega)); rfl), (by apply Blk.eq; (repeat' (first | with_reducible assumption | with_reducible apply Blk.set | with_reducible apply Blk.other | (with_reducible refine Blk.new ?_; simp; done) | with_reducible apply Blk.alloc | omega)); rfl), (by apply Blk.eq; (repeat' (first | with_reducible assumption | with_reducible apply Blk.set | with_reducible apply Blk.other | (with_reducible refine Blk.new ?_; simp; done) | with_reducible apply Blk.alloc | omega)); rfl), (by repeat' (first | with_reducible assumption | with_reducible exact Below.refl _ _ | with_reducible refine allocB ?_ | with_reducible refine setB ?_ ?_ | with_reducible refine drewB ?_ | with_reducible refine after ?_ (by assumption) | (simp; omega) | omega))⟩ ?_
        rintro wa ⟨k3, k4, k6, hb0⟩
        obtain ⟨f3, g3, z3⟩ := k3.facts
        obtain ⟨f4, g4, z4⟩ := k4.facts
        obtain ⟨f6, g6, z6⟩ := k6.facts
        skip
        refine (c1 wa).mono ?_; rintro e w1 ⟨rfl, hb1⟩
        replace k3 := k3.below hb1
        replace k4 := k4.below hb1
        replace k6 := k6.below hb1
        replace hb0 : Below w.heap.size w w1 := after hb0 hb1
        clear f3 g3 z3
        clear f4 g4 z4
        clear f6 g6 z6
        clear hb1
        obtain ⟨f3, g3, z3⟩ := k3.facts
        obtain ⟨f4, g4, z4⟩ := k4.facts
        obtain ⟨f6, g6, z6⟩ := k6.facts
        go_wp2_with fail
        refine (c2 w1).mono ?_; rintro e w2 ⟨rfl, hb2⟩
        replace k3 := k3.below hb2
        replace k4 := k4.below hb2
        replace k6 := k6.below hb2
        replace hb0 : Below w.heap.size w w2 := after hb0 hb2
        clear f3 g3 z3
        clear f4 g4 z4
        clear f6 g6 z6
        clear hb2
        obtain ⟨f3, g3, z3⟩ := k3.facts
        obtain ⟨f4, g4, z4⟩ := k4.facts
        obtain ⟨f6, g6, z6⟩ := k6.facts
        clear c1 c2
        go_upto_region 14 with fail
        have l10 := hb0.size
        have y3_10 := z3
        have y4_10 := z4
        have y6_10 := z6
        refine wp_abs2 (fun W => Blk W (w.heap.size) #[.string t, .int .i64 R, .int .i64 C, .bool x, .bool y, .bool false] ∧ Blk W (w.heap.size + 1) #[.string u, .int .i64 P, .int .i64 Q, .bool x', .bool y', .bool false] ∧ Blk W (w.heap.size + 1 + 1) #[.int .i64 (0), .int .i64 (0), .int .i64 (0), .int .i64 (0), .int .i64 (0)] ∧ Blk W (w2.heap.size) #[.int .i64 (sh), .int .i64 (P), .int .i64 (Q), .int .i64 (R - P + 1), .int .i64 (C - Q + 1)] ∧ Below w.heap.size w W) ⟨(by apply Blk.eq; (repeat' (first | with_reducible assumption | with_reducible apply Blk.set | with_reducible apply Blk.other | (with_reducible refine Blk.new ?_; simp; done) | with_reducible apply Blk.alloc | omega)); rfl), (by apply Blk.eq; (repeat' (first | with_reducible assumption | with_reducible apply Blk.set | with_reducible apply Blk.other | (with_reducible refine Blk.new ?_; simp; done) | with_reducible apply Blk.alloc | omega)); rfl), (by apply Blk.eq; (repeat' (first | with_reducible assumption | with_reducible apply Blk.set | with_reducible apply Blk.other | (with_reducible refine Blk.new ?_; simp; done) | with_reducible apply Blk.alloc | omega)); rfl), (by apply Blk.eq; (repeat' (first | with_reducible assumption | with_reducible apply Blk.set | with_reducible apply Blk.other | (with_reducible refine Blk.new ?_; simp; done) | with_reducible apply Blk.alloc | omega)); rfl), (by repeat' (first | with_reducible assumption | with_reducible exact Below.refl _ _ | with_reducible refine allocB ?_ | with_reducible refine setB ?_ ?_ | with_reducible refine drewB ?_ | with_reducible refine after ?_ (by assumption) | (simp; omega) | omega))⟩ ?_
        clear f3 g3 z3
        clear f4 g4 z4
        clear f6 g6 z6
        clear k3 k4 k6 hb0
        rintro w2a ⟨k3, k4, k6, k10, hb0⟩
        generalize w2.heap.size = b10 at *
        obtain ⟨f3, g3, z3⟩ := k3.facts
        obtain ⟨f4, g4, z4⟩ := k4.facts
        obtain ⟨f6, g6, z6⟩ := k6.facts
        obtain ⟨f10, g10, z10⟩ := k10.facts
        go_wp2
        exact bodyPost_ret (v := .tuple #[.agg #[.int .i64 (sh), .int .i64 (P), .int .i64 (Q), .int .i64 (R - P + 1), .int .i64 (C - Q + 1)], .int .i64 0]) (by simp [results, Tryz.results21, go_sem, *]) rfl ⟨rfl, (by repeat' (first | with_reducible assumption | with_reducible exact Below.refl _ _ | with_reducible refine allocB ?_ | with_reducible refine setB ?_ ?_ | with_reducible refine drewB ?_ | with_reducible refine after ?_ (by assumption) | (simp; omega) | omega))⟩
      · go_enter Tryz.func21, Tryz.ntmps21
        go_wp2_with fail
        refine calls_abs (fun W => Blk W (w.heap.size) #[.string t, .int .i64 R, .int .i64 C, .bool x, .bool y, .bool false] ∧ Blk W (w.heap.size + 1) #[.string u, .int .i64 P, .int .i64 Q, .bool x', .bool y', .bool false] ∧ Blk W (w.heap.size + 1 + 1) #[.int .i64 (0), .int .i64 (0), .int .i64 (0), .int .i64 (0), .int .i64 (0)] ∧ Below w.heap.size w W) ⟨(by apply Blk.eq; (repeat' (first | with_reducible assumption | with_reducible apply Blk.set | with_reducible apply Blk.other | (with_reducible refine Blk.new ?_; simp; done) | with_reducible apply Blk.alloc | omega)); rfl), (by apply Blk.eq; (repeat' (first | with_reducible assumption | with_reducible apply Blk.set | with_reducible apply Blk.other | (with_reducible refine Blk.new ?_; simp; done) | with_reducible apply Blk.alloc | omega)); rfl), (by apply Blk.eq; (repeat' (first | with_reducible assumption | with_reducible apply Blk.set | with_reducible apply Blk.other | (with_reducible refine Blk.new ?_; simp; done) | with_reducible apply Blk.alloc | omega)); rfl), (by repeat' (first | with_reducible assumption | with_reducible exact Below.refl _ _ | with_reducible refine allocB ?_ | with_reducible refine setB ?_ ?_ | with_reducible refine drewB ?_ | with_reducible refine after ?_ (by assumption) | (simp; omega) | omega))⟩ ?_
        rintro wa ⟨k3, k4, k6, hb0⟩
        obtain ⟨f3, g3, z3⟩ := k3.facts
        obtain ⟨f4, g4, z4⟩ := k4.facts
        obtain ⟨f6, g6, z6⟩ := k6.facts
        skip
        refine (c1 wa).mono ?_; rintro e w1 ⟨rfl, hb1⟩
        replace k3 := k3.below hb1
        replace k4 := k4.below hb1
        replace k6 := k6.below hb1
        replace hb0 : Below w.heap.size w w1 := after hb0 hb1
        clear f3 g3 z3
        clear f4 g4 z4
        clear f6 g6 z6
        clear hb1
        obtain ⟨f3, g3, z3⟩ := k3.facts
        obtain ⟨f4, g4, z4⟩ := k4.facts
        obtain ⟨f6, g6, z6⟩ := k6.facts
        go_wp2_with fail
        refine (c2 w1).mono ?_; rintro e w2 ⟨rfl, hb2⟩
        replace k3 := k3.below hb2
        replace k4 := k4.below hb2
        replace k6 := k6.below hb2
        replace hb0 : Below w.heap.size w w2 := after hb0 hb2
        clear f3 g3 z3
        clear f4 g4 z4
        clear f6 g6 z6
        clear hb2
        obtain ⟨f3, g3, z3⟩ := k3.facts
        obtain ⟨f4, g4, z4⟩ := k4.facts
        obtain ⟨f6, g6, z6⟩ := k6.facts
        clear c1 c2
        go_upto_region 14 with fail
        have l10 := hb0.size
        have y3_10 := z3
        have y4_10 := z4
        have y6_10 := z6
        refine wp_abs2 (fun W => Blk W (w.heap.size) #[.string t, .int .i64 R, .int .i64 C, .bool x, .bool y, .bool false] ∧ Blk W (w.heap.size + 1) #[.string u, .int .i64 P, .int .i64 Q, .bool x', .bool y', .bool false] ∧ Blk W (w.heap.size + 1 + 1) #[.int .i64 (0), .int .i64 (0), .int .i64 (0), .int .i64 (0), .int .i64 (0)] ∧ Blk W (w2.heap.size) #[.int .i64 (sh), .int .i64 (P), .int .i64 (C), .int .i64 (R - P + 1), .int .i64 (Q - C + 1)] ∧ Below w.heap.size w W) ⟨(by apply Blk.eq; (repeat' (first | with_reducible assumption | with_reducible apply Blk.set | with_reducible apply Blk.other | (with_reducible refine Blk.new ?_; simp; done) | with_reducible apply Blk.alloc | omega)); rfl), (by apply Blk.eq; (repeat' (first | with_reducible assumption | with_reducible apply Blk.set | with_reducible apply Blk.other | (with_reducible refine Blk.new ?_; simp; done) | with_reducible apply Blk.alloc | omega)); rfl), (by apply Blk.eq; (repeat' (first | with_reducible assumption | with_reducible apply Blk.set | with_reducible apply Blk.other | (with_reducible refine Blk.new ?_; simp; done) | with_reducible apply Blk.alloc | omega)); rfl), (by apply Blk.eq; (repeat' (first | with_reducible assumption | with_reducible apply Blk.set | with_reducible apply Blk.other | (with_reducible refine Blk.new ?_; simp; done) | with_reducible apply Blk.alloc | omega)); rfl), (by repeat' (first | with_reducible assumption | with_reducible exact Below.refl _ _ | with_reducible refine allocB ?_ | with_reducible refine setB ?_ ?_ | with_reducible refine drewB ?_ | with_reducible refine after ?_ (by assumption) | (simp; omega) | omega))⟩ ?_
        clear f3 g3 z3
        clear f4 g4 z4
        clear f6 g6 z6
        clear k3 k4 k6 hb0
        rintro w2a ⟨k3, k4, k6, k10, hb0⟩
        generalize w2.heap.size = b10 at *
        obtain ⟨f3, g3, z3⟩ := k3.facts
        obtain ⟨f4, g4, z4⟩ := k4.facts
        obtain ⟨f6, g6, z6⟩ := k6.facts
        obtain ⟨f10, g10, z10⟩ := k10.facts
        go_wp2
        exact bodyPost_ret (v := .tuple #[.agg #[.int .i64 (sh), .int .i64 (P), .int .i64 (C), .int .i64 (R - P + 1), .int .i64 (Q - C + 1)], .int .i64 0]) (by simp [results, Tryz.results21, go_sem, *]) rfl ⟨rfl, (by repeat' (first | with_reducible assumption | with_reducible exact Below.refl _ _ | with_reducible refine allocB ?_ | with_reducible refine setB ?_ ?_ | with_reducible refine drewB ?_ | with_reducible refine after ?_ (by assumption) | (simp; omega) | omega))⟩
      · go_enter Tryz.func21, Tryz.ntmps21
        go_wp2_with fail
        refine calls_abs (fun W => Blk W (w.heap.size) #[.string t, .int .i64 R, .int .i64 C, .bool x, .bool y, .bool false] ∧ Blk W (w.heap.size + 1) #[.string u, .int .i64 P, .int .i64 Q, .bool x', .bool y', .bool false] ∧ Blk W (w.heap.size + 1 + 1) #[.int .i64 (0), .int .i64 (0), .int .i64 (0), .int .i64 (0), .int .i64 (0)] ∧ Below w.heap.size w W) ⟨(by apply Blk.eq; (repeat' (first | with_reducible assumption | with_reducible apply Blk.set | with_reducible apply Blk.other | (with_reducible refine Blk.new ?_; simp; done) | with_reducible apply Blk.alloc | omega)); rfl), (by apply Blk.eq; (repeat' (first | with_reducible assumption | with_reducible apply Blk.set | with_reducible apply Blk.other | (with_reducible refine Blk.new ?_; simp; done) | with_reducible apply Blk.alloc | omega)); rfl), (by apply Blk.eq; (repeat' (first | with_reducible assumption | with_reducible apply Blk.set | with_reducible apply Blk.other | (with_reducible refine Blk.new ?_; simp; done) | with_reducible apply Blk.alloc | omega)); rfl), (by repeat' (first | with_reducible assumption | with_reducible exact Below.refl _ _ | with_reducible refine allocB ?_ | with_reducible refine setB ?_ ?_ | with_reducible refine drewB ?_ | with_reducible refine after ?_ (by assumption) | (simp; omega) | omega))⟩ ?_
        rintro wa ⟨k3, k4, k6, hb0⟩
        obtain ⟨f3, g3, z3⟩ := k3.facts
        obtain ⟨f4, g4, z4⟩ := k4.facts
        obtain ⟨f6, g6, z6⟩ := k6.facts
        skip
        refine (c1 wa).mono ?_; rintro e w1 ⟨rfl, hb1⟩
        replace k3 := k3.below hb1
        replace k4 := k4.below hb1
        replace k6 := k6.below hb1
        replace hb0 : Below w.heap.size w w1 := after hb0 hb1
        clear f3 g3 z3
        clear f4 g4 z4
        clear f6 g6 z6
        clear hb1
        obtain ⟨f3, g3, z3⟩ := k3.facts
        obtain ⟨f4, g4, z4⟩ := k4.facts
        obtain ⟨f6, g6, z6⟩ := k6.facts
        go_wp2_with fail
        refine (c2 w1).mono ?_; rintro e w2 ⟨rfl, hb2⟩
        replace k3 := k3.below hb2
        replace k4 := k4.below hb2
        replace k6 := k6.below hb2
        replace hb0 : Below w.heap.size w w2 := after hb0 hb2
        clear f3 g3 z3
        clear f4 g4 z4
        clear f6 g6 z6
        clear hb2
        obtain ⟨f3, g3, z3⟩ := k3.facts
        obtain ⟨f4, g4, z4⟩ := k4.facts
        obtain ⟨f6, g6, z6⟩ := k6.facts
        clear c1 c2
        go_upto_region 14 with fail
        have l10 := hb0.size
        have y3_10 := z3
        have y4_10 := z4
        have y6_10 := z6
        refine wp_abs2 (fun W => Blk W (w.heap.size) #[.string t, .int .i64 R, .int .i64 C, .bool x, .bool y, .bool false] ∧ Blk W (w.heap.size + 1) #[.string u, .int .i64 P, .int .i64 Q, .bool x', .bool y', .bool false] ∧ Blk W (w.heap.size + 1 + 1) #[.int .i64 (0), .int .i64 (0), .int .i64 (0), .int .i64 (0), .int .i64 (0)] ∧ Blk W (w2.heap.size) #[.int .i64 (sh), .int .i64 (R), .int .i64 (Q), .int .i64 (P - R + 1), .int .i64 (C - Q + 1)] ∧ Below w.heap.size w W) ⟨(by apply Blk.eq; (repeat' (first | with_reducible assumption | with_reducible apply Blk.set | with_reducible apply Blk.other | (with_reducible refine Blk.new ?_; simp; done) | with_reducible apply Blk.alloc | omega)); rfl), (by apply Blk.eq; (repeat' (first | with_reducible assumption | with_reducible apply Blk.set | with_reducible apply Blk.other | (with_reducible refine Blk.new ?_; simp; done) | with_reducible apply Blk.alloc | omega)); rfl), (by apply Blk.eq; (repeat' (first | with_reducible assumption | with_reducible apply Blk.set | with_reducible apply Blk.other | (with_reducible refine Blk.new ?_; simp; done) | with_reducible apply Blk.alloc | omega)); rfl), (by apply Blk.eq; (repeat' (first | with_reducible assumption | with_reducible apply Blk.set | with_reducible apply Blk.other | (with_reducible refine Blk.new ?_; simp; done) | with_reducible apply Blk.alloc | omega)); rfl), (by repeat' (first | with_reducible assumption | with_reducible exact Below.refl _ _ | with_reducible refine allocB ?_ | with_reducible refine setB ?_ ?_ | with_reducible refine drewB ?_ | with_reducible refine after ?_ (by assumption) | (simp; omega) | omega))⟩ ?_
        clear f3 g3 z3
        clear f4 g4 z4
        clear f6 g6 z6
        clear k3 k4 k6 hb0
        rintro w2a ⟨k3, k4, k6, k10, hb0⟩
        generalize w2.heap.size = b10 at *
        obtain ⟨f3, g3, z3⟩ := k3.facts
        obtain ⟨f4, g4, z4⟩ := k4.facts
        obtain ⟨f6, g6, z6⟩ := k6.facts
        obtain ⟨f10, g10, z10⟩ := k10.facts
        go_wp2
        exact bodyPost_ret (v := .tuple #[.agg #[.int .i64 (sh), .int .i64 (R), .int .i64 (Q), .int .i64 (P - R + 1), .int .i64 (C - Q + 1)], .int .i64 0]) (by simp [results, Tryz.results21, go_sem, *]) rfl ⟨rfl, (by repeat' (first | with_reducible assumption | with_reducible exact Below.refl _ _ | with_reducible refine allocB ?_ | with_reducible refine setB ?_ ?_ | with_reducible refine drewB ?_ | with_reducible refine after ?_ (by assumption) | (simp; omega) | omega))⟩
      · go_enter Tryz.func21, Tryz.ntmps21
        go_wp2_with fail
        refine calls_abs (fun W => Blk W (w.heap.size) #[.string t, .int .i64 R, .int .i64 C, .bool x, .bool y, .bool false] ∧ Blk W (w.heap.size + 1) #[.string u, .int .i64 P, .int .i64 Q, .bool x', .bool y', .bool false] ∧ Blk W (w.heap.size + 1 + 1) #[.int .i64 (0), .int .i64 (0), .int .i64 (0), .int .i64 (0), .int .i64 (0)] ∧ Below w.heap.size w W) ⟨(by apply Blk.eq; (repeat' (first | with_reducible assumption | with_reducible apply Blk.set | with_reducible apply Blk.other | (with_reducible refine Blk.new ?_; simp; done) | with_reducible apply Blk.alloc | omega)); rfl), (by apply Blk.eq; (repeat' (first | with_reducible assumption | with_reducible apply Blk.set | with_reducible apply Blk.other | (with_reducible refine Blk.new ?_; simp; done) | with_reducible apply Blk.alloc | omega)); rfl), (by apply Blk.eq; (repeat' (first | with_reducible assumption | with_reducible apply Blk.set | with_reducible apply Blk.other | (with_reducible refine Blk.new ?_; simp; done) | with_reducible apply Blk.alloc | omega)); rfl), (by repeat' (first | with_reducible assumption | with_reducible exact Below.refl _ _ | with_reducible refine allocB ?_ | with_reducible refine setB ?_ ?_ | with_reducible refine drewB ?_ | with_reducible refine after ?_ (by assumption) | (simp; omega) | omega))⟩ ?_
        rintro wa ⟨k3, k4, k6, hb0⟩
        obtain ⟨f3, g3, z3⟩ := k3.facts
        obtain ⟨f4, g4, z4⟩ := k4.facts
        obtain ⟨f6, g6, z6⟩ := k6.facts
        skip
        refine (c1 wa).mono ?_; rintro e w1 ⟨rfl, hb1⟩
        replace k3 := k3.below hb1
        replace k4 := k4.below hb1
        replace k6 := k6.below hb1
        replace hb0 : Below w.heap.size w w1 := after hb0 hb1
        clear f3 g3 z3
        clear f4 g4 z4
        clear f6 g6 z6
        clear hb1
        obtain ⟨f3, g3, z3⟩ := k3.facts
        obtain ⟨f4, g4, z4⟩ := k4.facts
        obtain ⟨f6, g6, z6⟩ := k6.facts
        go_wp2_with fail
        refine (c2 w1).mono ?_; rintro e w2 ⟨rfl, hb2⟩
        replace k3 := k3.below hb2
        replace k4 := k4.below hb2
        replace k6 := k6.below hb2
        replace hb0 : Below w.heap.size w w2 := after hb0 hb2
        clear f3 g3 z3
        clear f4 g4 z4
        clear f6 g6 z6
        clear hb2
        obtain ⟨f3, g3, z3⟩ := k3.facts
        obtain ⟨f4, g4, z4⟩ := k4.facts
        obtain ⟨f6, g6, z6⟩ := k6.facts
        clear c1 c2
        go_upto_region 14 with fail
        have l10 := hb0.size
        have y3_10 := z3
        have y4_10 := z4
        have y6_10 := z6
        refine wp_abs2 (fun W => Blk W (w.heap.size) #[.string t, .int .i64 R, .int .i64 C, .bool x, .bool y, .bool false] ∧ Blk W (w.heap.size + 1) #[.string u, .int .i64 P, .int .i64 Q, .bool x', .bool y', .bool false] ∧ Blk W (w.heap.size + 1 + 1) #[.int .i64 (0), .int .i64 (0), .int .i64 (0), .int .i64 (0), .int .i64 (0)] ∧ Blk W (w2.heap.size) #[.int .i64 (sh), .int .i64 (R), .int .i64 (C), .int .i64 (P - R + 1), .int .i64 (Q - C + 1)] ∧ Below w.heap.size w W) ⟨(by apply Blk.eq; (repeat' (first | with_reducible assumption | with_reducible apply Blk.set | with_reducible apply Blk.other | (with_reducible refine Blk.new ?_; simp; done) | with_reducible apply Blk.alloc | omega)); rfl), (by apply Blk.eq; (repeat' (first | with_reducible assumption | with_reducible apply Blk.set | with_reducible apply Blk.other | (with_reducible refine Blk.new ?_; simp; done) | with_reducible apply Blk.alloc | omega)); rfl), (by apply Blk.eq; (repeat' (first | with_reducible assumption | with_reducible apply Blk.set | with_reducible apply Blk.other | (with_reducible refine Blk.new ?_; simp; done) | with_reducible apply Blk.alloc | omega)); rfl), (by apply Blk.eq; (repeat' (first | with_reducible assumption | with_reducible apply Blk.set | with_reducible apply Blk.other | (with_reducible refine Blk.new ?_; simp; done) | with_reducible apply Blk.alloc | omega)); rfl), (by repeat' (first | with_reducible assumption | with_reducible exact Below.refl _ _ | with_reducible refine allocB ?_ | with_reducible refine setB ?_ ?_ | with_reducible refine drewB ?_ | with_reducible refine after ?_ (by assumption) | (simp; omega) | omega))⟩ ?_
        clear f3 g3 z3
        clear f4 g4 z4
        clear f6 g6 z6
        clear k3 k4 k6 hb0
        rintro w2a ⟨k3, k4, k6, k10, hb0⟩
        generalize w2.heap.size = b10 at *
        obtain ⟨f3, g3, z3⟩ := k3.facts
        obtain ⟨f4, g4, z4⟩ := k4.facts
        obtain ⟨f6, g6, z6⟩ := k6.facts
        obtain ⟨f10, g10, z10⟩ := k10.facts
        go_wp2
        exact bodyPost_ret (v := .tuple #[.agg #[.int .i64 (sh), .int .i64 (R), .int .i64 (C), .int .i64 (P - R + 1), .int .i64 (Q - C + 1)], .int .i64 0]) (by simp [results, Tryz.results21, go_sem, *]) rfl ⟨rfl, (by repeat' (first | with_reducible assumption | with_reducible exact Below.refl _ _ | with_reducible refine allocB ?_ | with_reducible refine setB ?_ ?_ | with_reducible refine drewB ?_ | with_reducible refine after ?_ (by assumption) | (simp; omega) | omega))⟩
    · have e0 : areaOf ⟨t, R, C, x, y, z⟩ ⟨u, P, Q, x', y', z'⟩ sh = (⟨0, 0, 0, 0, 0⟩, 20) := by
        unfold areaOf
        rw [if_neg h, hX, hY, if_neg k]; rfl
      rw [e0] at hV
      simp only [Prod.mk.injEq, AreaD.mk.injEq] at hV
      obtain ⟨⟨rfl, rfl, rfl, rfl, rfl⟩, rfl⟩ := hV
      clear e0 hX hY h
      go_enter Tryz.func21, Tryz.ntmps21
      go_wp2_with fail
      refine calls_abs (fun W => Blk W (w.heap.size) #[.string t, .int .i64 R, .int .i64 C, .bool x, .bool y, .bool z] ∧ Blk W (w.heap.size + 1) #[.string u, .int .i64 P, .int .i64 Q, .bool x', .bool y', .bool z'] ∧ Blk W (w.heap.size + 1 + 1) #[.int .i64 (0), .int .i64 (0), .int .i64 (0), .int .i64 (0), .int .i64 (0)] ∧ Below w.heap.size w W) ⟨(by apply Blk.eq; (repeat' (first | with_reducible assumption | with_reducible apply Blk.set | with_reducible apply Blk.other | (with_reducible refine Blk.new ?_; simp; done) | with_reducible apply Blk.alloc | omega)); rfl), (by apply Blk.eq; (repeat' (first | with_reducible assumption | with_reducible apply Blk.set | with_reducible apply Blk.other | (with_reducible refine Blk.new ?_; simp; done) | with_reducible apply Blk.alloc | omega)); rfl), (by apply Blk.eq; (repeat' (first | with_reducible assumption | with_reducible apply Blk.set | with_reducible apply Blk.other | (with_reducible refine Blk.new ?_; simp; done) | with_reducible apply Blk.alloc | omega)); rfl), (by repeat' (first | with_reducible assumption | with_reducible exact Below.refl _ _ | with_reducible refine allocB ?_ | with_reducible refine setB ?_ ?_ | with_reducible refine drewB ?_ | with_reducible refine after ?_ (by assumption) | (simp; omega) | omega))⟩ ?_
      rintro wa ⟨k3, k4, k6, hb0⟩
      obtain ⟨f3, g3, z3⟩ := k3.facts
      obtain ⟨f4, g4, z4⟩ := k4.facts
      obtain ⟨f6, g6, z6⟩ := k6.facts
      skip
      refine (c1 wa).mono ?_; rintro e w1 ⟨rfl, hb1⟩
      replace k3 := k3.below hb1
      replace k4 := k4.below hb1
      replace k6 := k6.below hb1
      replace hb0 : Below w.heap.size w w1 := after hb0 hb1
      clear f3 g3 z3
      clear f4 g4 z4
      clear f6 g6 z6
      clear hb1
      obtain ⟨f3, g3, z3⟩ := k3.facts
      obtain ⟨f4, g4, z4⟩ := k4.facts
      obtain ⟨f6, g6, z6⟩ := k6.facts
      go_wp2_with fail
      refine (c2 w1).mono ?_; rintro e w2 ⟨rfl, hb2⟩
      replace k3 := k3.below hb2
      replace k4 := k4.below hb2
      replace k6 := k6.below hb2
      replace hb0 : Below w.heap.size w w2 := after hb0 hb2
      clear f3 g3 z3
      clear f4 g4 z4
      clear f6 g6 z6
      clear hb2
      obtain ⟨f3, g3, z3⟩ := k3.facts
      obtain ⟨f4, g4, z4⟩ := k4.facts
      obtain ⟨f6, g6, z6⟩ := k6.facts
      clear c1 c2
      cases X <;> cases Y <;> cases z <;> cases z' <;> first | exact absurd rfl k | clear k
      all_goals (
        go_wp2
        exact bodyPost_ret (v := .tuple #[.agg #[.int .i64 (0), .int .i64 (0), .int .i64 (0), .int .i64 (0), .int .i64 (0)], .int .i64 20]) (by simp [results, Tryz.results21, go_sem, *]) rfl ⟨rfl, (by repeat' (first | with_reducible assumption | with_reducible exact Below.refl _ _ | with_reducible refine allocB ?_ | with_reducible refine setB ?_ ?_ | with_reducible refine drewB ?_ | with_reducible refine after ?_ (by assumption) | (simp; omega) | omega))⟩)
end Go.Proofs.YtmeiboajpbflcaaGreatDoor
