/- Walks of the reference's Moved and Area. -/
import Derived.Test.YtmeiboajpbflcaaGreatDoorTells1
import Derived.Test.YtmeiboajpbflcaaGreatDoorMakers
import Derived.Test.YtmeiboajpbflcaaGreatDoorRead
import Derived.Test.YtmeiboajpbflcaaGreatDoorTellsP
namespace Go.Proofs.YtmeiboajpbflcaaGreatDoor
open Go.RowKit Tab

theorem TRight_is {t : ByteArray} {R C : Int} {x y z B : Bool} (ht : t.size ≤ 9223372036854775807) (h : RefD.right ⟨t, R, C, x, y, z⟩ = B) (W : World) :
    Calls Tryz.prog 17 #[.agg #[.string t, .int .i64 R, .int .i64 C, .bool x, .bool y, .bool z]] W (Ret (.bool B) W) := by
  have := TRight_any t R C x y z W ht
  rw [show rightB t.data.toList R C x y z = B from h] at this
  exact this
def zeroV : Value := .agg #[.string ⟨#[]⟩, .int .i64 0, .int .i64 0, .bool false, .bool false, .bool false]

set_option maxRecDepth 100000 in
set_option maxHeartbeats 4000000 in
theorem TMoved_any (a : RefD) (m n : Int) (w : World) (ha : RefIn a) (hs : a.s.size ≤ 9223372036854775807) (hm : Int64 m) (hn : Int64 n) : Calls Tryz.prog 19 #[refV a, .int .i64 m, .int .i64 n] w (Ret (.tuple #[refV (movedOf a m n).1, .int .i64 (movedOf a m n).2]) w) := by
  rw [← tmoved_is]
  obtain ⟨V, hV⟩ : ∃ V, tmovedOf a m n = V := ⟨_, rfl⟩
  obtain ⟨⟨v1, v2, v3, v4, v5, v6⟩, e⟩ := V
  rw [hV]
  obtain ⟨t, R, C, x, y, z⟩ := a
  dsimp only at hs
  unfold Int64 at hm hn
  obtain ⟨hm1, hm2⟩ := hm
  obtain ⟨hn1, hn2⟩ := hn
  cases hr : RefD.right ⟨t, R, C, x, y, z⟩
  · have e0 : tmovedOf ⟨t, R, C, x, y, z⟩ m n = (⟨⟨#[]⟩, 0, 0, false, false, false⟩, 20) := by unfold tmovedOf; rw [hr]; rfl
    rw [e0] at hV
    simp only [Prod.mk.injEq, RefD.mk.injEq] at hV
    obtain ⟨⟨rfl, rfl, rfl, rfl, rfl, rfl⟩, rfl⟩ := hV
    have c1 := fun W => TRight_is hs hr W
    unfold refV
    clear hr ha e0
    go_enter Tryz.func19, Tryz.ntmps19
    go_wp2_with fail
    refine calls_abs (fun W => Blk W (w.heap.size) #[.string t, .int .i64 (R), .int .i64 (C), .bool x, .bool y, .bool z] ∧ Blk W (w.heap.size + 1) #[.string ⟨#[]⟩, .int .i64 (0), .int .i64 (0), .bool false, .bool false, .bool false] ∧ Below w.heap.size w W) ⟨(by apply Blk.eq; (repeat' (first | with_reducible assumption | with_reducible apply Blk.set | with_reducible apply Blk.other | (with_reducible refine Blk.new ?_; simp; done) | with_reducible apply Blk.alloc | omega)); rfl), (by apply Blk.eq; (repeat' (first | with_reducible assumption | with_reducible apply Blk.set | with_reducible apply Blk.other | (with_reducible refine Blk.new ?_; simp; done) | with_reducible apply Blk.alloc | omega)); rfl), (by repeat' (first | with_reducible assumption | with_reducible exact Below.refl _ _ | with_reducible refine allocB ?_ | with_reducible refine setB ?_ ?_ | with_reducible refine drewB ?_ | with_reducible refine after ?_ (by assumption) | (simp; omega) | omega))⟩ ?_
    rintro wa ⟨k3, k6, hb0⟩
    obtain ⟨f3, g3, z3⟩ := k3.facts
    obtain ⟨f6, g6, z6⟩ := k6.facts
    skip
    refine (c1 wa).mono ?_; rintro e w1 ⟨rfl, hb1⟩
    replace k3 := k3.below hb1
    replace k6 := k6.below hb1
    replace hb0 : Below w.heap.size w w1 := after hb0 hb1
    clear f3 g3 z3
    clear f6 g6 z6
    clear hb1
    obtain ⟨f3, g3, z3⟩ := k3.facts
    obtain ⟨f6, g6, z6⟩ := k6.facts
    go_wp2
    exact bodyPost_ret (v := .tuple #[.agg #[.string ⟨#[]⟩, .int .i64 (0), .int .i64 (0), .bool false, .bool false, .bool false], .int .i64 20]) (by simp [results, Tryz.results19, go_sem, *]) rfl ⟨rfl, (by repeat' (first | with_reducible assumption | with_reducible exact Below.refl _ _ | with_reducible refine allocB ?_ | with_reducible refine setB ?_ ?_ | with_reducible refine drewB ?_ | with_reducible refine after ?_ (by assumption) | (simp; omega) | omega))⟩
  · cases z
    · obtain ⟨rR1, rR2, rC1, rC2⟩ := right_range hr
      dsimp only at rR1 rR2 rC1 rC2
      have c1 := fun W => TRight_is hs hr W
      have e0 : tmovedOf ⟨t, R, C, x, y, false⟩ m n = if !x ∧ (m < -200 ∨ 200 < m) then (RefD.zero, 20) else if !y ∧ (n < -200 ∨ 200 < n) then (RefD.zero, 20) else if (RefD.to ⟨t, R, C, x, y, false⟩ m n).right then (RefD.to ⟨t, R, C, x, y, false⟩ m n, 0) else (RefD.zero, 20) := by
        conv => lhs; unfold tmovedOf
        rw [hr]; rfl
      rw [e0] at hV
      clear e0 hr ha
      by_cases k1 : (!x) = true ∧ (m < -200 ∨ 200 < m)
      · rw [if_pos k1] at hV
        simp only [RefD.zero, Prod.mk.injEq, RefD.mk.injEq] at hV
        obtain ⟨⟨rfl, rfl, rfl, rfl, rfl, rfl⟩, rfl⟩ := hV
        obtain ⟨k0, k1⟩ := k1
        obtain rfl : x = false := by simpa using k0
        unfold refV
        clear k0
        rcases k1 with k1 | k1
        all_goals (
          go_enter Tryz.func19, Tryz.ntmps19
          go_wp2_with fail
          refine calls_abs (fun W => Blk W (w.heap.size) #[.string t, .int .i64 (R), .int .i64 (C), .bool false, .bool y, .bool false] ∧ Blk W (w.heap.size + 1) #[.string ⟨#[]⟩, .int .i64 (0), .int .i64 (0), .bool false, .bool false, .bool false] ∧ Below w.heap.size w W) ⟨(by apply Blk.eq; (repeat' (first | with_reducible assumption | with_reducible apply Blk.set | with_reducible apply Blk.other | (with_reducible refine Blk.new ?_; simp; done) | with_reducible apply Blk.alloc | omega)); rfl), (by apply Blk.eq; (repeat' (first | with_reducible assumption | with_reducible apply Blk.set | with_reducible apply Blk.other | (with_reducible refine Blk.new ?_; simp; done) | with_reducible apply Blk.alloc | omega)); rfl), (by repeat' (first | with_reducible assumption | with_reducible exact Below.refl _ _ | with_reducible refine allocB ?_ | with_reducible refine setB ?_ ?_ | with_reducible refine drewB ?_ | with_reducible refine after ?_ (by assumption) | (simp; omega) | omega))⟩ ?_
          rintro wa ⟨k3, k6, hb0⟩
          obtain ⟨f3, g3, z3⟩ := k3.facts
          obtain ⟨f6, g6, z6⟩ := k6.facts
          skip
          refine (c1 wa).mono ?_; rintro e w1 ⟨rfl, hb1⟩
          replace k3 := k3.below hb1
          replace k6 := k6.below hb1
          replace hb0 : Below w.heap.size w w1 := after hb0 hb1
          clear f3 g3 z3
          clear f6 g6 z6
          clear hb1
          obtain ⟨f3, g3, z3⟩ := k3.facts
          obtain ⟨f6, g6, z6⟩ := k6.facts
          go_wp2
          exact bodyPost_ret (v := .tuple #[.agg #[.string ⟨#[]⟩, .int .i64 (0), .int .i64 (0), .bool false, .bool false, .bool false], .int .i64 20]) (by simp [results, Tryz.results19, go_sem, *]) rfl ⟨rfl, (by repeat' (first | with_reducible assumption | with_reducible exact Below.refl _ _ | with_reducible refine allocB ?_ | with_reducible refine setB ?_ ?_ | with_reducible refine drewB ?_ | with_reducible refine after ?_ (by assumption) | (simp; omega) | omega))⟩)
      · rw [if_neg k1] at hV
        by_cases k2 : (!y) = true ∧ (n < -200 ∨ 200 < n)
        · rw [if_pos k2] at hV
          simp only [RefD.zero, Prod.mk.injEq, RefD.mk.injEq] at hV
          obtain ⟨⟨rfl, rfl, rfl, rfl, rfl, rfl⟩, rfl⟩ := hV
          obtain ⟨k0, k2⟩ := k2
          obtain rfl : y = false := by simpa using k0
          unfold refV
          clear k0
          cases x
          · obtain ⟨q1, q2⟩ : -200 ≤ m ∧ m ≤ 200 := by simpa using k1
            clear k1
            rcases k2 with k2 | k2
            all_goals (
              go_enter Tryz.func19, Tryz.ntmps19
              go_wp2_with fail
              refine calls_abs (fun W => Blk W (w.heap.size) #[.string t, .int .i64 (R), .int .i64 (C), .bool false, .bool false, .bool false] ∧ Blk W (w.heap.size + 1) #[.string ⟨#[]⟩, .int .i64 (0), .int .i64 (0), .bool false, .bool false, .bool false] ∧ Below w.heap.size w W) ⟨(by apply Blk.eq; (repeat' (first | with_reducible assumption | with_reducible apply Blk.set | with_reducible apply Blk.other | (with_reducible refine Blk.new ?_; simp; done) | with_reducible apply Blk.alloc | omega)); rfl), (by apply Blk.eq; (repeat' (first | with_reducible assumption | with_reducible apply Blk.set | with_reducible apply Blk.other | (with_reducible refine Blk.new ?_; simp; done) | with_reducible apply Blk.alloc | omega)); rfl), (by repeat' (first | with_reducible assumption | with_reducible exact Below.refl _ _ | with_reducible refine allocB ?_ | with_reducible refine setB ?_ ?_ | with_reducible refine drewB ?_ | with_reducible refine after ?_ (by assumption) | (simp; omega) | omega))⟩ ?_
              rintro wa ⟨k3, k6, hb0⟩
              obtain ⟨f3, g3, z3⟩ := k3.facts
              obtain ⟨f6, g6, z6⟩ := k6.facts
              skip
              refine (c1 wa).mono ?_; rintro e w1 ⟨rfl, hb1⟩
              replace k3 := k3.below hb1
              replace k6 := k6.below hb1
              replace hb0 : Below w.heap.size w w1 := after hb0 hb1
              clear f3 g3 z3
              clear f6 g6 z6
              clear hb1
              obtain ⟨f3, g3, z3⟩ := k3.facts
              obtain ⟨f6, g6, z6⟩ := k6.facts
              go_wp2
              exact bodyPost_ret (v := .tuple #[.agg #[.string ⟨#[]⟩, .int .i64 (0), .int .i64 (0), .bool false, .bool false, .bool false], .int .i64 20]) (by simp [results, Tryz.results19, go_sem, *]) rfl ⟨rfl, (by repeat' (first | with_reducible assumption | with_reducible exact Below.refl _ _ | with_reducible refine allocB ?_ | with_reducible refine setB ?_ ?_ | with_reducible refine drewB ?_ | with_reducible refine after ?_ (by assumption) | (simp; omega) | omega))⟩)
          · skip
            clear k1
            rcases k2 with k2 | k2
            all_goals (
              go_enter Tryz.func19, Tryz.ntmps19
              go_wp2_with fail
              refine calls_abs (fun W => Blk W (w.heap.size) #[.string t, .int .i64 (R), .int .i64 (C), .bool true, .bool false, .bool false] ∧ Blk W (w.heap.size + 1) #[.string ⟨#[]⟩, .int .i64 (0), .int .i64 (0), .bool false, .bool false, .bool false] ∧ Below w.heap.size w W) ⟨(by apply Blk.eq; (repeat' (first | with_reducible assumption | with_reducible apply Blk.set | with_reducible apply Blk.other | (with_reducible refine Blk.new ?_; simp; done) | with_reducible apply Blk.alloc | omega)); rfl), (by apply Blk.eq; (repeat' (first | with_reducible assumption | with_reducible apply Blk.set | with_reducible apply Blk.other | (with_reducible refine Blk.new ?_; simp; done) | with_reducible apply Blk.alloc | omega)); rfl), (by repeat' (first | with_reducible assumption | with_reducible exact Below.refl _ _ | with_reducible refine allocB ?_ | with_reducible refine setB ?_ ?_ | with_reducible refine drewB ?_ | with_reducible refine after ?_ (by assumption) | (simp; omega) | omega))⟩ ?_
              rintro wa ⟨k3, k6, hb0⟩
              obtain ⟨f3, g3, z3⟩ := k3.facts
              obtain ⟨f6, g6, z6⟩ := k6.facts
              skip
              refine (c1 wa).mono ?_; rintro e w1 ⟨rfl, hb1⟩
              replace k3 := k3.below hb1
              replace k6 := k6.below hb1
              replace hb0 : Below w.heap.size w w1 := after hb0 hb1
              clear f3 g3 z3
              clear f6 g6 z6
              clear hb1
              obtain ⟨f3, g3, z3⟩ := k3.facts
              obtain ⟨f6, g6, z6⟩ := k6.facts
              go_wp2
              exact bodyPost_ret (v := .tuple #[.agg #[.string ⟨#[]⟩, .int .i64 (0), .int .i64 (0), .bool false, .bool false, .bool false], .int .i64 20]) (by simp [results, Tryz.results19, go_sem, *]) rfl ⟨rfl, (by repeat' (first | with_reducible assumption | with_reducible exact Below.refl _ _ | with_reducible refine allocB ?_ | with_reducible refine setB ?_ ?_ | with_reducible refine drewB ?_ | with_reducible refine after ?_ (by assumption) | (simp; omega) | omega))⟩)
        · rw [if_neg k2] at hV
          obtain ⟨R', hR'⟩ : ∃ P, (if x then R else R + m) = P := ⟨_, rfl⟩
          obtain ⟨C', hC'⟩ : ∃ P, (if y then C else C + n) = P := ⟨_, rfl⟩
          have eT : RefD.to ⟨t, R, C, x, y, false⟩ m n = ⟨t, R', C', x, y, false⟩ := by unfold RefD.to; dsimp only; rw [hR', hC']
          rw [eT] at hV
          obtain ⟨B, hB⟩ : ∃ B, RefD.right ⟨t, R', C', x, y, false⟩ = B := ⟨_, rfl⟩
          have c2 := fun W => TRight_is hs hB W
          rw [hB] at hV
          clear hB eT
          unfold refV
          cases x <;> cases y <;> simp only [if_true, Bool.false_eq_true, if_false] at hR' hC' <;> subst hR' hC'
          all_goals simp only [Bool.not_false, Bool.not_true, true_and, false_and, Bool.false_eq_true, not_false_eq_true, not_or, Int.not_lt] at k1 k2
          all_goals cases B <;> simp only [RefD.zero, Bool.false_eq_true, if_false, if_true, Prod.mk.injEq, RefD.mk.injEq] at hV <;> obtain ⟨⟨rfl, rfl, rfl, rfl, rfl, rfl⟩, rfl⟩ := hV
          · obtain ⟨q1, q2⟩ := k1
            obtain ⟨q3, q4⟩ := k2
            go_enter Tryz.func19, Tryz.ntmps19
            go_wp2_with fail
            refine calls_abs (fun W => Blk W (w.heap.size) #[.string t, .int .i64 (R), .int .i64 (C), .bool false, .bool false, .bool false] ∧ Blk W (w.heap.size + 1) #[.string ⟨#[]⟩, .int .i64 (0), .int .i64 (0), .bool false, .bool false, .bool false] ∧ Below w.heap.size w W) ⟨(by apply Blk.eq; (repeat' (first | with_reducible assumption | with_reducible apply Blk.set | with_reducible apply Blk.other | (with_reducible refine Blk.new ?_; simp; done) | with_reducible apply Blk.alloc | omega)); rfl), (by apply Blk.eq; (repeat' (first | with_reducible assumption | with_reducible apply Blk.set | with_reducible apply Blk.other | (with_reducible refine Blk.new ?_; simp; done) | with_reducible apply Blk.alloc | omega)); rfl), (by repeat' (first | with_reducible assumption | with_reducible exact Below.refl _ _ | with_reducible refine allocB ?_ | with_reducible refine setB ?_ ?_ | with_reducible refine drewB ?_ | with_reducible refine after ?_ (by assumption) | (simp; omega) | omega))⟩ ?_
            rintro wa ⟨k3, k6, hb0⟩
            obtain ⟨f3, g3, z3⟩ := k3.facts
            obtain ⟨f6, g6, z6⟩ := k6.facts
            skip
            refine (c1 wa).mono ?_; rintro e w1 ⟨rfl, hb1⟩
            replace k3 := k3.below hb1
            replace k6 := k6.below hb1
            replace hb0 : Below w.heap.size w w1 := after hb0 hb1
            clear f3 g3 z3
            clear f6 g6 z6
            clear hb1
            obtain ⟨f3, g3, z3⟩ := k3.facts
            obtain ⟨f6, g6, z6⟩ := k6.facts
            clear c1
            go_wp2_with fail
            refine calls_abs (fun W => Blk W (w.heap.size) #[.string t, .int .i64 (R + m), .int .i64 (C + n), .bool false, .bool false, .bool false] ∧ Blk W (w.heap.size + 1) #[.string ⟨#[]⟩, .int .i64 (0), .int .i64 (0), .bool false, .bool false, .bool false] ∧ Below w.heap.size w W) ⟨(by apply Blk.eq; (repeat' (first | with_reducible assumption | with_reducible apply Blk.set | with_reducible apply Blk.other | (with_reducible refine Blk.new ?_; simp; done) | with_reducible apply Blk.alloc | omega)); rfl), (by apply Blk.eq; (repeat' (first | with_reducible assumption | with_reducible apply Blk.set | with_reducible apply Blk.other | (with_reducible refine Blk.new ?_; simp; done) | with_reducible apply Blk.alloc | omega)); rfl), (by repeat' (first | with_reducible assumption | with_reducible exact Below.refl _ _ | with_reducible refine allocB ?_ | with_reducible refine setB ?_ ?_ | with_reducible refine drewB ?_ | with_reducible refine after ?_ (by assumption) | (simp; omega) | omega))⟩ ?_
            clear f3 g3 z3
            clear f6 g6 z6
            clear k3 k6 hb0
            rintro w1a ⟨k3, k6, hb0⟩
            obtain ⟨f3, g3, z3⟩ := k3.facts
            obtain ⟨f6, g6, z6⟩ := k6.facts
            skip
            refine (c2 w1a).mono ?_; rintro e w2 ⟨rfl, hb2⟩
            replace k3 := k3.below hb2
            replace k6 := k6.below hb2
            replace hb0 : Below w.heap.size w w2 := after hb0 hb2
            clear f3 g3 z3
            clear f6 g6 z6
            clear hb2
            obtain ⟨f3, g3, z3⟩ := k3.facts
            obtain ⟨f6, g6, z6⟩ := k6.facts
            go_wp2
            exact bodyPost_ret (v := .tuple #[.agg #[.string ⟨#[]⟩, .int .i64 (0), .int .i64 (0), .bool false, .bool false, .bool false], .int .i64 20]) (by simp [results, Tryz.results19, go_sem, *]) rfl ⟨rfl, (by repeat' (first | with_reducible assumption | with_reducible exact Below.refl _ _ | with_reducible refine allocB ?_ | with_reducible refine setB ?_ ?_ | with_reducible refine drewB ?_ | with_reducible refine after ?_ (by assumption) | (simp; omega) | omega))⟩
          · obtain ⟨q1, q2⟩ := k1
            obtain ⟨q3, q4⟩ := k2
            go_enter Tryz.func19, Tryz.ntmps19
            go_wp2_with fail
            refine calls_abs (fun W => Blk W (w.heap.size) #[.string t, .int .i64 (R), .int .i64 (C), .bool false, .bool false, .bool false] ∧ Blk W (w.heap.size + 1) #[.string ⟨#[]⟩, .int .i64 (0), .int .i64 (0), .bool false, .bool false, .bool false] ∧ Below w.heap.size w W) ⟨(by apply Blk.eq; (repeat' (first | with_reducible assumption | with_reducible apply Blk.set | with_reducible apply Blk.other | (with_reducible refine Blk.new ?_; simp; done) | with_reducible apply Blk.alloc | omega)); rfl), (by apply Blk.eq; (repeat' (first | with_reducible assumption | with_reducible apply Blk.set | with_reducible apply Blk.other | (with_reducible refine Blk.new ?_; simp; done) | with_reducible apply Blk.alloc | omega)); rfl), (by repeat' (first | with_reducible assumption | with_reducible exact Below.refl _ _ | with_reducible refine allocB ?_ | with_reducible refine setB ?_ ?_ | with_reducible refine drewB ?_ | with_reducible refine after ?_ (by assumption) | (simp; omega) | omega))⟩ ?_
            rintro wa ⟨k3, k6, hb0⟩
            obtain ⟨f3, g3, z3⟩ := k3.facts
            obtain ⟨f6, g6, z6⟩ := k6.facts
            skip
            refine (c1 wa).mono ?_; rintro e w1 ⟨rfl, hb1⟩
            replace k3 := k3.below hb1
            replace k6 := k6.below hb1
            replace hb0 : Below w.heap.size w w1 := after hb0 hb1
            clear f3 g3 z3
            clear f6 g6 z6
            clear hb1
            obtain ⟨f3, g3, z3⟩ := k3.facts
            obtain ⟨f6, g6, z6⟩ := k6.facts
            clear c1
            go_wp2_with fail
            refine calls_abs (fun W => Blk W (w.heap.size) #[.string t, .int .i64 (R + m), .int .i64 (C + n), .bool false, .bool false, .bool false] ∧ Blk W (w.heap.size + 1) #[.string ⟨#[]⟩, .int .i64 (0), .int .i64 (0), .bool false, .bool false, .bool false] ∧ Below w.heap.size w W) ⟨(by apply Blk.eq; (repeat' (first | with_reducible assumption | with_reducible apply Blk.set | with_reducible apply Blk.other | (with_reducible refine Blk.new ?_; simp; done) | with_reducible apply Blk.alloc | omega)); rfl), (by apply Blk.eq; (repeat' (first | with_reducible assumption | with_reducible apply Blk.set | with_reducible apply Blk.other | (with_reducible refine Blk.new ?_; simp; done) | with_reducible apply Blk.alloc | omega)); rfl), (by repeat' (first | with_reducible assumption | with_reducible exact Below.refl _ _ | with_reducible refine allocB ?_ | with_reducible refine setB ?_ ?_ | with_reducible refine drewB ?_ | with_reducible refine after ?_ (by assumption) | (simp; omega) | omega))⟩ ?_
            clear f3 g3 z3
            clear f6 g6 z6
            clear k3 k6 hb0
            rintro w1a ⟨k3, k6, hb0⟩
            obtain ⟨f3, g3, z3⟩ := k3.facts
            obtain ⟨f6, g6, z6⟩ := k6.facts
            skip
            refine (c2 w1a).mono ?_; rintro e w2 ⟨rfl, hb2⟩
            replace k3 := k3.below hb2
            replace k6 := k6.below hb2
            replace hb0 : Below w.heap.size w w2 := after hb0 hb2
            clear f3 g3 z3
            clear f6 g6 z6
            clear hb2
            obtain ⟨f3, g3, z3⟩ := k3.facts
            obtain ⟨f6, g6, z6⟩ := k6.facts
            go_wp2
            exact bodyPost_ret (v := .tuple #[.agg #[.string t, .int .i64 (R + m), .int .i64 (C + n), .bool false, .bool false, .bool false], .int .i64 0]) (by simp [results, Tryz.results19, go_sem, *]) rfl ⟨rfl, (by repeat' (first | with_reducible assumption | with_reducible exact Below.refl _ _ | with_reducible refine allocB ?_ | with_reducible refine setB ?_ ?_ | with_reducible refine drewB ?_ | with_reducible refine after ?_ (by assumption) | (simp; omega) | omega))⟩
          · obtain ⟨q1, q2⟩ := k1
            clear k2
            go_enter Tryz.func19, Tryz.ntmps19
            go_wp2_with fail
            refine calls_abs (fun W => Blk W (w.heap.size) #[.string t, .int .i64 (R), .int .i64 (C), .bool false, .bool true, .bool false] ∧ Blk W (w.heap.size + 1) #[.string ⟨#[]⟩, .int .i64 (0), .int .i64 (0), .bool false, .bool false, .bool false] ∧ Below w.heap.size w W) ⟨(by apply Blk.eq; (repeat' (first | with_reducible assumption | with_reducible apply Blk.set | with_reducible apply Blk.other | (with_reducible refine Blk.new ?_; simp; done) | with_reducible apply Blk.alloc | omega)); rfl), (by apply Blk.eq; (repeat' (first | with_reducible assumption | with_reducible apply Blk.set | with_reducible apply Blk.other | (with_reducible refine Blk.new ?_; simp; done) | with_reducible apply Blk.alloc | omega)); rfl), (by repeat' (first | with_reducible assumption | with_reducible exact Below.refl _ _ | with_reducible refine allocB ?_ | with_reducible refine setB ?_ ?_ | with_reducible refine drewB ?_ | with_reducible refine after ?_ (by assumption) | (simp; omega) | omega))⟩ ?_
            rintro wa ⟨k3, k6, hb0⟩
            obtain ⟨f3, g3, z3⟩ := k3.facts
            obtain ⟨f6, g6, z6⟩ := k6.facts
            skip
            refine (c1 wa).mono ?_; rintro e w1 ⟨rfl, hb1⟩
            replace k3 := k3.below hb1
            replace k6 := k6.below hb1
            replace hb0 : Below w.heap.size w w1 := after hb0 hb1
            clear f3 g3 z3
            clear f6 g6 z6
            clear hb1
            obtain ⟨f3, g3, z3⟩ := k3.facts
            obtain ⟨f6, g6, z6⟩ := k6.facts
            clear c1
            go_wp2_with fail
            refine calls_abs (fun W => Blk W (w.heap.size) #[.string t, .int .i64 (R + m), .int .i64 (C), .bool false, .bool true, .bool false] ∧ Blk W (w.heap.size + 1) #[.string ⟨#[]⟩, .int .i64 (0), .int .i64 (0), .bool false, .bool false, .bool false] ∧ Below w.heap.size w W) ⟨(by apply Blk.eq; (repeat' (first | with_reducible assumption | with_reducible apply Blk.set | with_reducible apply Blk.other | (with_reducible refine Blk.new ?_; simp; done) | with_reducible apply Blk.alloc | omega)); rfl), (by apply Blk.eq; (repeat' (first | with_reducible assumption | with_reducible apply Blk.set | with_reducible apply Blk.other | (with_reducible refine Blk.new ?_; simp; done) | with_reducible apply Blk.alloc | omega)); rfl), (by repeat' (first | with_reducible assumption | with_reducible exact Below.refl _ _ | with_reducible refine allocB ?_ | with_reducible refine setB ?_ ?_ | with_reducible refine drewB ?_ | with_reducible refine after ?_ (by assumption) | (simp; omega) | omega))⟩ ?_
            clear f3 g3 z3
            clear f6 g6 z6
            clear k3 k6 hb0
            rintro w1a ⟨k3, k6, hb0⟩
            obtain ⟨f3, g3, z3⟩ := k3.facts
            obtain ⟨f6, g6, z6⟩ := k6.facts
            skip
            refine (c2 w1a).mono ?_; rintro e w2 ⟨rfl, hb2⟩
            replace k3 := k3.below hb2
            replace k6 := k6.below hb2
            replace hb0 : Below w.heap.size w w2 := after hb0 hb2
            clear f3 g3 z3
            clear f6 g6 z6
            clear hb2
            obtain ⟨f3, g3, z3⟩ := k3.facts
            obtain ⟨f6, g6, z6⟩ := k6.facts
            go_wp2
            exact bodyPost_ret (v := .tuple #[.agg #[.string ⟨#[]⟩, .int .i64 (0), .int .i64 (0), .bool false, .bool false, .bool false], .int .i64 20]) (by simp [results, Tryz.results19, go_sem, *]) rfl ⟨rfl, (by repeat' (first | with_reducible assumption | with_reducible exact Below.refl _ _ | with_reducible refine allocB ?_ | with_reducible refine setB ?_ ?_ | with_reducible refine drewB ?_ | with_reducible refine after ?_ (by assumption) | (simp; omega) | omega))⟩
          · obtain ⟨q1, q2⟩ := k1
            clear k2
            go_enter Tryz.func19, Tryz.ntmps19
            go_wp2_with fail
            refine calls_abs (fun W => Blk W (w.heap.size) #[.string t, .int .i64 (R), .int .i64 (C), .bool false, .bool true, .bool false] ∧ Blk W (w.heap.size + 1) #[.string ⟨#[]⟩, .int .i64 (0), .int .i64 (0), .bool false, .bool false, .bool false] ∧ Below w.heap.size w W) ⟨(by apply Blk.eq; (repeat' (first | with_reducible assumption | with_reducible apply Blk.set | with_reducible apply Blk.other | (with_reducible refine Blk.new ?_; simp; done) | with_reducible apply Blk.alloc | omega)); rfl), (by apply Blk.eq; (repeat' (first | with_reducible assumption | with_reducible apply Blk.set | with_reducible apply Blk.other | (with_reducible refine Blk.new ?_; simp; done) | with_reducible apply Blk.alloc | omega)); rfl), (by repeat' (first | with_reducible assumption | with_reducible exact Below.refl _ _ | with_reducible refine allocB ?_ | with_reducible refine setB ?_ ?_ | with_reducible refine drewB ?_ | with_reducible refine after ?_ (by assumption) | (simp; omega) | omega))⟩ ?_
            rintro wa ⟨k3, k6, hb0⟩
            obtain ⟨f3, g3, z3⟩ := k3.facts
            obtain ⟨f6, g6, z6⟩ := k6.facts
            skip
            refine (c1 wa).mono ?_; rintro e w1 ⟨rfl, hb1⟩
            replace k3 := k3.below hb1
            replace k6 := k6.below hb1
            replace hb0 : Below w.heap.size w w1 := after hb0 hb1
            clear f3 g3 z3
            clear f6 g6 z6
            clear hb1
            obtain ⟨f3, g3, z3⟩ := k3.facts
            obtain ⟨f6, g6, z6⟩ := k6.facts
            clear c1
            go_wp2_with fail
            refine calls_abs (fun W => Blk W (w.heap.size) #[.string t, .int .i64 (R + m), .int .i64 (C), .bool false, .bool true, .bool false] ∧ Blk W (w.heap.size + 1) #[.string ⟨#[]⟩, .int .i64 (0), .int .i64 (0), .bool false, .bool false, .bool false] ∧ Below w.heap.size w W) ⟨(by apply Blk.eq; (repeat' (first | with_reducible assumption | with_reducible apply Blk.set | with_reducible apply Blk.other | (with_reducible refine Blk.new ?_; simp; done) | with_reducible apply Blk.alloc | omega)); rfl), (by apply Blk.eq; (repeat' (first | with_reducible assumption | with_reducible apply Blk.set | with_reducible apply Blk.other | (with_reducible refine Blk.new ?_; simp; done) | with_reducible apply Blk.alloc | omega)); rfl), (by repeat' (first | with_reducible assumption | with_reducible exact Below.refl _ _ | with_reducible refine allocB ?_ | with_reducible refine setB ?_ ?_ | with_reducible refine drewB ?_ | with_reducible refine after ?_ (by assumption) | (simp; omega) | omega))⟩ ?_
            clear f3 g3 z3
            clear f6 g6 z6
            clear k3 k6 hb0
            rintro w1a ⟨k3, k6, hb0⟩
            obtain ⟨f3, g3, z3⟩ := k3.facts
            obtain ⟨f6, g6, z6⟩ := k6.facts
            skip
            refine (c2 w1a).mono ?_; rintro e w2 ⟨rfl, hb2⟩
            replace k3 := k3.below hb2
            replace k6 := k6.below hb2
            replace hb0 : Below w.heap.size w w2 := after hb0 hb2
            clear f3 g3 z3
            clear f6 g6 z6
            clear hb2
            obtain ⟨f3, g3, z3⟩ := k3.facts
            obtain ⟨f6, g6, z6⟩ := k6.facts
            go_wp2
            exact bodyPost_ret (v := .tuple #[.agg #[.string t, .int .i64 (R + m), .int .i64 (C), .bool false, .bool true, .bool false], .int .i64 0]) (by simp [results, Tryz.results19, go_sem, *]) rfl ⟨rfl, (by repeat' (first | with_reducible assumption | with_reducible exact Below.refl _ _ | with_reducible refine allocB ?_ | with_reducible refine setB ?_ ?_ | with_reducible refine drewB ?_ | with_reducible refine after ?_ (by assumption) | (simp; omega) | omega))⟩
          · clear k1
            obtain ⟨q3, q4⟩ := k2
            go_enter Tryz.func19, Tryz.ntmps19
            go_wp2_with fail
            refine calls_abs (fun W => Blk W (w.heap.size) #[.string t, .int .i64 (R), .int .i64 (C), .bool true, .bool false, .bool false] ∧ Blk W (w.heap.size + 1) #[.string ⟨#[]⟩, .int .i64 (0), .int .i64 (0), .bool false, .bool false, .bool false] ∧ Below w.heap.size w W) ⟨(by apply Blk.eq; (repeat' (first | with_reducible assumption | with_reducible apply Blk.set | with_reducible apply Blk.other | (with_reducible refine Blk.new ?_; simp; done) | with_reducible apply Blk.alloc | omega)); rfl), (by apply Blk.eq; (repeat' (first | with_reducible assumption | with_reducible apply Blk.set | with_reducible apply Blk.other | (with_reducible refine Blk.new ?_; simp; done) | with_reducible apply Blk.alloc | omega)); rfl), (by repeat' (first | with_reducible assumption | with_reducible exact Below.refl _ _ | with_reducible refine allocB ?_ | with_reducible refine setB ?_ ?_ | with_reducible refine drewB ?_ | with_reducible refine after ?_ (by assumption) | (simp; omega) | omega))⟩ ?_
            rintro wa ⟨k3, k6, hb0⟩
            obtain ⟨f3, g3, z3⟩ := k3.facts
            obtain ⟨f6, g6, z6⟩ := k6.facts
            skip
            refine (c1 wa).mono ?_; rintro e w1 ⟨rfl, hb1⟩
            replace k3 := k3.below hb1
            replace k6 := k6.below hb1
            replace hb0 : Below w.heap.size w w1 := after hb0 hb1
            clear f3 g3 z3
            clear f6 g6 z6
            clear hb1
            obtain ⟨f3, g3, z3⟩ := k3.facts
            obtain ⟨f6, g6, z6⟩ := k6.facts
            clear c1
            go_wp2_with fail
            refine calls_abs (fun W => Blk W (w.heap.size) #[.string t, .int .i64 (R), .int .i64 (C + n), .bool true, .bool false, .bool false] ∧ Blk W (w.heap.size + 1) #[.string ⟨#[]⟩, .int .i64 (0), .int .i64 (0), .bool false, .bool false, .bool false] ∧ Below w.heap.size w W) ⟨(by apply Blk.eq; (repeat' (first | with_reducible assumption | with_reducible apply Blk.set | with_reducible apply Blk.other | (with_reducible refine Blk.new ?_; simp; done) | with_reducible apply Blk.alloc | omega)); rfl), (by apply Blk.eq; (repeat' (first | with_reducible assumption | with_reducible apply Blk.set | with_reducible apply Blk.other | (with_reducible refine Blk.new ?_; simp; done) | with_reducible apply Blk.alloc | omega)); rfl), (by repeat' (first | with_reducible assumption | with_reducible exact Below.refl _ _ | with_reducible refine allocB ?_ | with_reducible refine setB ?_ ?_ | with_reducible refine drewB ?_ | with_reducible refine after ?_ (by assumption) | (simp; omega) | omega))⟩ ?_
            clear f3 g3 z3
            clear f6 g6 z6
            clear k3 k6 hb0
            rintro w1a ⟨k3, k6, hb0⟩
            obtain ⟨f3, g3, z3⟩ := k3.facts
            obtain ⟨f6, g6, z6⟩ := k6.facts
            skip
            refine (c2 w1a).mono ?_; rintro e w2 ⟨rfl, hb2⟩
            replace k3 := k3.below hb2
            replace k6 := k6.below hb2
            replace hb0 : Below w.heap.size w w2 := after hb0 hb2
            clear f3 g3 z3
            clear f6 g6 z6
            clear hb2
            obtain ⟨f3, g3, z3⟩ := k3.facts
            obtain ⟨f6, g6, z6⟩ := k6.facts
            go_wp2
            exact bodyPost_ret (v := .tuple #[.agg #[.string ⟨#[]⟩, .int .i64 (0), .int .i64 (0), .bool false, .bool false, .bool false], .int .i64 20]) (by simp [results, Tryz.results19, go_sem, *]) rfl ⟨rfl, (by repeat' (first | with_reducible assumption | with_reducible exact Below.refl _ _ | with_reducible refine allocB ?_ | with_reducible refine setB ?_ ?_ | with_reducible refine drewB ?_ | with_reducible refine after ?_ (by assumption) | (simp; omega) | omega))⟩
          · clear k1
            obtain ⟨q3, q4⟩ := k2
            go_enter Tryz.func19, Tryz.ntmps19
            go_wp2_with fail
            refine calls_abs (fun W => Blk W (w.heap.size) #[.string t, .int .i64 (R), .int .i64 (C), .bool true, .bool false, .bool false] ∧ Blk W (w.heap.size + 1) #[.string ⟨#[]⟩, .int .i64 (0), .int .i64 (0), .bool false, .bool false, .bool false] ∧ Below w.heap.size w W) ⟨(by apply Blk.eq; (repeat' (first | with_reducible assumption | with_reducible apply Blk.set | with_reducible apply Blk.other | (with_reducible refine Blk.new ?_; simp; done) | with_reducible apply Blk.alloc | omega)); rfl), (by apply Blk.eq; (repeat' (first | with_reducible assumption | with_reducible apply Blk.set | with_reducible apply Blk.other | (with_reducible refine Blk.new ?_; simp; done) | with_reducible apply Blk.alloc | omega)); rfl), (by repeat' (first | with_reducible assumption | with_reducible exact Below.refl _ _ | with_reducible refine allocB ?_ | with_reducible refine setB ?_ ?_ | with_reducible refine drewB ?_ | with_reducible refine after ?_ (by assumption) | (simp; omega) | omega))⟩ ?_
            rintro wa ⟨k3, k6, hb0⟩
            obtain ⟨f3, g3, z3⟩ := k3.facts
            obtain ⟨f6, g6, z6⟩ := k6.facts
            skip
            refine (c1 wa).mono ?_; rintro e w1 ⟨rfl, hb1⟩
            replace k3 := k3.below hb1
            replace k6 := k6.below hb1
            replace hb0 : Below w.heap.size w w1 := after hb0 hb1
            clear f3 g3 z3
            clear f6 g6 z6
            clear hb1
            obtain ⟨f3, g3, z3⟩ := k3.facts
            obtain ⟨f6, g6, z6⟩ := k6.facts
            clear c1
            go_wp2_with fail
            refine calls_abs (fun W => Blk W (w.heap.size) #[.string t, .int .i64 (R), .int .i64 (C + n), .bool true, .bool false, .bool false] ∧ Blk W (w.heap.size + 1) #[.string ⟨#[]⟩, .int .i64 (0), .int .i64 (0), .bool false, .bool false, .bool false] ∧ Below w.heap.size w W) ⟨(by apply Blk.eq; (repeat' (first | with_reducible assumption | with_reducible apply Blk.set | with_reducible apply Blk.other | (with_reducible refine Blk.new ?_; simp; done) | with_reducible apply Blk.alloc | omega)); rfl), (by apply Blk.eq; (repeat' (first | with_reducible assumption | with_reducible apply Blk.set | with_reducible apply Blk.other | (with_reducible refine Blk.new ?_; simp; done) | with_reducible apply Blk.alloc | omega)); rfl), (by repeat' (first | with_reducible assumption | with_reducible exact Below.refl _ _ | with_reducible refine allocB ?_ | with_reducible refine setB ?_ ?_ | with_reducible refine drewB ?_ | with_reducible refine after ?_ (by assumption) | (simp; omega) | omega))⟩ ?_
            clear f3 g3 z3
            clear f6 g6 z6
            clear k3 k6 hb0
            rintro w1a ⟨k3, k6, hb0⟩
            obtain ⟨f3, g3, z3⟩ := k3.facts
            obtain ⟨f6, g6, z6⟩ := k6.facts
            skip
            refine (c2 w1a).mono ?_; rintro e w2 ⟨rfl, hb2⟩
            replace k3 := k3.below hb2
            replace k6 := k6.below hb2
            replace hb0 : Below w.heap.size w w2 := after hb0 hb2
            clear f3 g3 z3
            clear f6 g6 z6
            clear hb2
            obtain ⟨f3, g3, z3⟩ := k3.facts
            obtain ⟨f6, g6, z6⟩ := k6.facts
            go_wp2
            exact bodyPost_ret (v := .tuple #[.agg #[.string t, .int .i64 (R), .int .i64 (C + n), .bool true, .bool false, .bool false], .int .i64 0]) (by simp [results, Tryz.results19, go_sem, *]) rfl ⟨rfl, (by repeat' (first | with_reducible assumption | with_reducible exact Below.refl _ _ | with_reducible refine allocB ?_ | with_reducible refine setB ?_ ?_ | with_reducible refine drewB ?_ | with_reducible refine after ?_ (by assumption) | (simp; omega) | omega))⟩
          · clear k1
            clear k2
            go_enter Tryz.func19, Tryz.ntmps19
            go_wp2_with fail
            refine calls_abs (fun W => Blk W (w.heap.size) #[.string t, .int .i64 (R), .int .i64 (C), .bool true, .bool true, .bool false] ∧ Blk W (w.heap.size + 1) #[.string ⟨#[]⟩, .int .i64 (0), .int .i64 (0), .bool false, .bool false, .bool false] ∧ Below w.heap.size w W) ⟨(by apply Blk.eq; (repeat' (first | with_reducible assumption | with_reducible apply Blk.set | with_reducible apply Blk.other | (with_reducible refine Blk.new ?_; simp; done) | with_reducible apply Blk.alloc | omega)); rfl), (by apply Blk.eq; (repeat' (first | with_reducible assumption | with_reducible apply Blk.set | with_reducible apply Blk.other | (with_reducible refine Blk.new ?_; simp; done) | with_reducible apply Blk.alloc | omega)); rfl), (by repeat' (first | with_reducible assumption | with_reducible exact Below.refl _ _ | with_reducible refine allocB ?_ | with_reducible refine setB ?_ ?_ | with_reducible refine drewB ?_ | with_reducible refine after ?_ (by assumption) | (simp; omega) | omega))⟩ ?_
            rintro wa ⟨k3, k6, hb0⟩
            obtain ⟨f3, g3, z3⟩ := k3.facts
            obtain ⟨f6, g6, z6⟩ := k6.facts
            skip
            refine (c1 wa).mono ?_; rintro e w1 ⟨rfl, hb1⟩
            replace k3 := k3.below hb1
            replace k6 := k6.below hb1
            replace hb0 : Below w.heap.size w w1 := after hb0 hb1
            clear f3 g3 z3
            clear f6 g6 z6
            clear hb1
            obtain ⟨f3, g3, z3⟩ := k3.facts
            obtain ⟨f6, g6, z6⟩ := k6.facts
            clear c1
            go_wp2_with fail
            refine calls_abs (fun W => Blk W (w.heap.size) #[.string t, .int .i64 (R), .int .i64 (C), .bool true, .bool true, .bool false] ∧ Blk W (w.heap.size + 1) #[.string ⟨#[]⟩, .int .i64 (0), .int .i64 (0), .bool false, .bool false, .bool false] ∧ Below w.heap.size w W) ⟨(by apply Blk.eq; (repeat' (first | with_reducible assumption | with_reducible apply Blk.set | with_reducible apply Blk.other | (with_reducible refine Blk.new ?_; simp; done) | with_reducible apply Blk.alloc | omega)); rfl), (by apply Blk.eq; (repeat' (first | with_reducible assumption | with_reducible apply Blk.set | with_reducible apply Blk.other | (with_reducible refine Blk.new ?_; simp; done) | with_reducible apply Blk.alloc | omega)); rfl), (by repeat' (first | with_reducible assumption | with_reducible exact Below.refl _ _ | with_reducible refine allocB ?_ | with_reducible refine setB ?_ ?_ | with_reducible refine drewB ?_ | with_reducible refine after ?_ (by assumption) | (simp; omega) | omega))⟩ ?_
            clear f3 g3 z3
            clear f6 g6 z6
            clear k3 k6 hb0
            rintro w1a ⟨k3, k6, hb0⟩
            obtain ⟨f3, g3, z3⟩ := k3.facts
            obtain ⟨f6, g6, z6⟩ := k6.facts
            skip
            refine (c2 w1a).mono ?_; rintro e w2 ⟨rfl, hb2⟩
            replace k3 := k3.below hb2
            replace k6 := k6.below hb2
            replace hb0 : Below w.heap.size w w2 := after hb0 hb2
            clear f3 g3 z3
            clear f6 g6 z6
            clear hb2
            obtain ⟨f3, g3, z3⟩ := k3.facts
            obtain ⟨f6, g6, z6⟩ := k6.facts
            go_wp2
            exact bodyPost_ret (v := .tuple #[.agg #[.string ⟨#[]⟩, .int .i64 (0), .int .i64 (0), .bool false, .bool false, .bool false], .int .i64 20]) (by simp [results, Tryz.results19, go_sem, *]) rfl ⟨rfl, (by repeat' (first | with_reducible assumption | with_reducible exact Below.refl _ _ | with_reducible refine allocB ?_ | with_reducible refine setB ?_ ?_ | with_reducible refine drewB ?_ | with_reducible refine after ?_ (by assumption) | (simp; omega) | omega))⟩
          · clear k1
            clear k2
            go_enter Tryz.func19, Tryz.ntmps19
            go_wp2_with fail
            refine calls_abs (fun W => Blk W (w.heap.size) #[.string t, .int .i64 (R), .int .i64 (C), .bool true, .bool true, .bool false] ∧ Blk W (w.heap.size + 1) #[.string ⟨#[]⟩, .int .i64 (0), .int .i64 (0), .bool false, .bool false, .bool false] ∧ Below w.heap.size w W) ⟨(by apply Blk.eq; (repeat' (first | with_reducible assumption | with_reducible apply Blk.set | with_reducible apply Blk.other | (with_reducible refine Blk.new ?_; simp; done) | with_reducible apply Blk.alloc | omega)); rfl), (by apply Blk.eq; (repeat' (first | with_reducible assumption | with_reducible apply Blk.set | with_reducible apply Blk.other | (with_reducible refine Blk.new ?_; simp; done) | with_reducible apply Blk.alloc | omega)); rfl), (by repeat' (first | with_reducible assumption | with_reducible exact Below.refl _ _ | with_reducible refine allocB ?_ | with_reducible refine setB ?_ ?_ | with_reducible refine drewB ?_ | with_reducible refine after ?_ (by assumption) | (simp; omega) | omega))⟩ ?_
            rintro wa ⟨k3, k6, hb0⟩
            obtain ⟨f3, g3, z3⟩ := k3.facts
            obtain ⟨f6, g6, z6⟩ := k6.facts
            skip
            refine (c1 wa).mono ?_; rintro e w1 ⟨rfl, hb1⟩
            replace k3 := k3.below hb1
            replace k6 := k6.below hb1
            replace hb0 : Below w.heap.size w w1 := after hb0 hb1
            clear f3 g3 z3
            clear f6 g6 z6
            clear hb1
            obtain ⟨f3, g3, z3⟩ := k3.facts
            obtain ⟨f6, g6, z6⟩ := k6.facts
            clear c1
            go_wp2_with fail
            refine calls_abs (fun W => Blk W (w.heap.size) #[.string t, .int .i64 (R), .int .i64 (C), .bool true, .bool true, .bool false] ∧ Blk W (w.heap.size + 1) #[.string ⟨#[]⟩, .int .i64 (0), .int .i64 (0), .bool false, .bool false, .bool false] ∧ Below w.heap.size w W) ⟨(by apply Blk.eq; (repeat' (first | with_reducible assumption | with_reducible apply Blk.set | with_reducible apply Blk.other | (with_reducible refine Blk.new ?_; simp; done) | with_reducible apply Blk.alloc | omega)); rfl), (by apply Blk.eq; (repeat' (first | with_reducible assumption | with_reducible apply Blk.set | with_reducible apply Blk.other | (with_reducible refine Blk.new ?_; simp; done) | with_reducible apply Blk.alloc | omega)); rfl), (by repeat' (first | with_reducible assumption | with_reducible exact Below.refl _ _ | with_reducible refine allocB ?_ | with_reducible refine setB ?_ ?_ | with_reducible refine drewB ?_ | with_reducible refine after ?_ (by assumption) | (simp; omega) | omega))⟩ ?_
            clear f3 g3 z3
            clear f6 g6 z6
            clear k3 k6 hb0
            rintro w1a ⟨k3, k6, hb0⟩
            obtain ⟨f3, g3, z3⟩ := k3.facts
            obtain ⟨f6, g6, z6⟩ := k6.facts
            skip
            refine (c2 w1a).mono ?_; rintro e w2 ⟨rfl, hb2⟩
            replace k3 := k3.below hb2
            replace k6 := k6.below hb2
            replace hb0 : Below w.heap.size w w2 := after hb0 hb2
            clear f3 g3 z3
            clear f6 g6 z6
            clear hb2
            obtain ⟨f3, g3, z3⟩ := k3.facts
            obtain ⟨f6, g6, z6⟩ := k6.facts
            go_wp2
            exact bodyPost_ret (v := .tuple #[.agg #[.string t, .int .i64 (R), .int .i64 (C), .bool true, .bool true, .bool false], .int .i64 0]) (by simp [results, Tryz.results19, go_sem, *]) rfl ⟨rfl, (by repeat' (first | with_reducible assumption | with_reducible exact Below.refl _ _ | with_reducible refine allocB ?_ | with_reducible refine setB ?_ ?_ | with_reducible refine drewB ?_ | with_reducible refine after ?_ (by assumption) | (simp; omega) | omega))⟩
    · have e0 : tmovedOf ⟨t, R, C, x, y, true⟩ m n = (⟨t, R, C, x, y, true⟩, 0) := by unfold tmovedOf; rw [hr]; rfl
      rw [e0] at hV
      simp only [Prod.mk.injEq, RefD.mk.injEq] at hV
      obtain ⟨⟨rfl, rfl, rfl, rfl, rfl, rfl⟩, rfl⟩ := hV
      have c1 := fun W => TRight_is hs hr W
      unfold refV
      clear hr ha e0
      go_enter Tryz.func19, Tryz.ntmps19
      go_wp2_with fail
      refine calls_abs (fun W => Blk W (w.heap.size) #[.string t, .int .i64 (R), .int .i64 (C), .bool x, .bool y, .bool true] ∧ Blk W (w.heap.size + 1) #[.string ⟨#[]⟩, .int .i64 (0), .int .i64 (0), .bool false, .bool false, .bool false] ∧ Below w.heap.size w W) ⟨(by apply Blk.eq; (repeat' (first | with_reducible assumption | with_reducible apply Blk.set | with_reducible apply Blk.other | (with_reducible refine Blk.new ?_; simp; done) | with_reducible apply Blk.alloc | omega)); rfl), (by apply Blk.eq; (repeat' (first | with_reducible assumption | with_reducible apply Blk.set | with_reducible apply Blk.other | (with_reducible refine Blk.new ?_; simp; done) | with_reducible apply Blk.alloc | omega)); rfl), (by repeat' (first | with_reducible assumption | with_reducible exact Below.refl _ _ | with_reducible refine allocB ?_ | with_reducible refine setB ?_ ?_ | with_reducible refine drewB ?_ | with_reducible refine after ?_ (by assumption) | (simp; omega) | omega))⟩ ?_
      rintro wa ⟨k3, k6, hb0⟩
      obtain ⟨f3, g3, z3⟩ := k3.facts
      obtain ⟨f6, g6, z6⟩ := k6.facts
      skip
      refine (c1 wa).mono ?_; rintro e w1 ⟨rfl, hb1⟩
      replace k3 := k3.below hb1
      replace k6 := k6.below hb1
      replace hb0 : Below w.heap.size w w1 := after hb0 hb1
      clear f3 g3 z3
      clear f6 g6 z6
      clear hb1
      obtain ⟨f3, g3, z3⟩ := k3.facts
      obtain ⟨f6, g6, z6⟩ := k6.facts
      go_wp2
      exact bodyPost_ret (v := .tuple #[.agg #[.string t, .int .i64 (R), .int .i64 (C), .bool x, .bool y, .bool true], .int .i64 0]) (by simp [results, Tryz.results19, go_sem, *]) rfl ⟨rfl, (by repeat' (first | with_reducible assumption | with_reducible exact Below.refl _ _ | with_reducible refine allocB ?_ | with_reducible refine setB ?_ ?_ | with_reducible refine drewB ?_ | with_reducible refine after ?_ (by assumption) | (simp; omega) | omega))⟩
end Go.Proofs.YtmeiboajpbflcaaGreatDoor
