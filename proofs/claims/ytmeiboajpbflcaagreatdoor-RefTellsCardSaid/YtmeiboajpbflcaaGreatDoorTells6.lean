/- The walk of the reference's Meet. -/
import Derived.Test.YtmeiboajpbflcaaGreatDoorTells5
namespace Go.Proofs.YtmeiboajpbflcaaGreatDoor
open Go.RowKit Tab

def cellInt (w : World) (b o : Nat) : Int := match w.cell? ⟨b, o, none⟩ with
  | some (.int _ j) => j
  | _ => 0
theorem cellInt_of {w : World} {b o : Nat} {C : Array Value} {k : IntKind} {j : Int} (h : Blk w b C) (hj : C[o]? = some (.int k j)) : cellInt w b o = j := by
  unfold cellInt; rw [h.facts.1 o, hj]

set_option maxRecDepth 100000 in
set_option maxHeartbeats 4000000 in
theorem TMeet_any (a b : AreaD) (w : World) (ha : AreaIn a) (hb : AreaIn b) : Calls Tryz.prog 49 #[areaV a, areaV b] w (Ret (.tuple #[areaV (meetA a b), .bool (meetB a b)]) w) := by
  have c1 : ∀ W, Calls Tryz.prog 72 #[areaV a] W (Ret (.bool a.ok) W) := fun W => IsArea_any _ _ _ _ _ W ha
  have c2 : ∀ W, Calls Tryz.prog 72 #[areaV b] W (Ret (.bool b.ok) W) := fun W => IsArea_any _ _ _ _ _ W hb
  clear ha hb
  have hV := tmeet_is a b
  have hka := fun h : a.ok = true => (ok_iff a).1 h
  have hkb := fun h : b.ok = true => (ok_iff b).1 h
  generalize meetA a b = V at *
  generalize meetB a b = E at *
  unfold tmeetA at hV
  obtain ⟨X, hX⟩ : ∃ X, a.ok = X := ⟨_, rfl⟩
  obtain ⟨Y, hY⟩ : ∃ X, b.ok = X := ⟨_, rfl⟩
  rw [hX] at c1 hka hV
  rw [hY] at c2 hkb hV
  clear hX hY
  obtain ⟨s1, r1, q1, n1, m1⟩ := a
  obtain ⟨s2, r2, q2, n2, m2⟩ := b
  obtain ⟨v1, v2, v3, v4, v5⟩ := V
  unfold areaV at *
  dsimp only at *
  by_cases k : (X && Y && decide (s1 = s2)) = true
  · rw [if_pos k] at hV
    simp only [Bool.and_eq_true, decide_eq_true_eq] at k
    obtain ⟨⟨rfl, rfl⟩, rfl⟩ := k
    obtain ⟨a1, a2, a3, a4, a5, a6, a7, a8, a9, a10⟩ := hka rfl
    obtain ⟨b1, b2, b3, b4, b5, b6, b7, b8, b9, b10⟩ := hkb rfl
    dsimp only at a1 a2 a3 a4 a5 a6 a7 a8 a9 a10 b1 b2 b3 b4 b5 b6 b7 b8 b9 b10
    clear hka hkb
    obtain ⟨R, hR⟩ : ∃ R, max r1 r2 = R := ⟨_, rfl⟩
    obtain ⟨C, hC⟩ : ∃ R, max q1 q2 = R := ⟨_, rfl⟩
    obtain ⟨P, hP⟩ : ∃ R, min (r1 + n1) (r2 + n2) = R := ⟨_, rfl⟩
    obtain ⟨Q, hQ⟩ : ∃ R, min (q1 + m1) (q2 + m2) = R := ⟨_, rfl⟩
    rw [hR, hC, hP, hQ] at hV
    obtain ⟨N, hN⟩ : ∃ N, upto R P = N := ⟨_, rfl⟩
    obtain ⟨M, hM⟩ : ∃ N, upto C Q = N := ⟨_, rfl⟩
    rw [hN, hM] at hV
    unfold upto at hN hM
    have bR : 0 ≤ R ∧ R < 200 := by omega
    have bC : 0 ≤ C ∧ C < 52 := by omega
    have bP : 0 ≤ P ∧ P ≤ 200 := by omega
    have bQ : 0 ≤ Q ∧ Q ≤ 52 := by omega
    have bN : 0 ≤ N ∧ N ≤ 200 ∧ (∀ j, 0 ≤ j → (R + j < P ↔ j < N)) := ⟨by omega, by omega, fun j hj => by omega⟩
    have bM : 0 ≤ M ∧ M ≤ 52 ∧ (∀ j, 0 ≤ j → (C + j < Q ↔ j < M)) := ⟨by omega, by omega, fun j hj => by omega⟩
    obtain ⟨N1, N2, N3⟩ := bN
    obtain ⟨M1, M2, M3⟩ := bM
    have HV := Lib.hid hV
    have HN := Lib.hid N3
    have HM := Lib.hid M3
    clear hV hN hM N3 M3
    go_enter Tryz.func49, Tryz.ntmps49
    go_wp2_with fail
    refine calls_abs (fun W => Blk W (w.heap.size) #[.int .i64 (s1), .int .i64 (r1), .int .i64 (q1), .int .i64 (n1), .int .i64 (m1)] ∧ Blk W (w.heap.size + 1) #[.int .i64 (s1), .int .i64 (r2), .int .i64 (q2), .int .i64 (n2), .int .i64 (m2)] ∧ Blk W (w.heap.size + 1 + 1) #[.int .i64 (0), .int .i64 (0), .int .i64 (0), .int .i64 (0), .int .i64 (0)] ∧ Below w.heap.size w W) ⟨(by apply Blk.eq; (repeat' (first | with_reducible assumption | with_reducible apply Blk.set | with_reducible apply Blk.other | (with_reducible refine Blk.new ?_; simp; done) | with_reducible apply Blk.alloc | omega)); rfl), (by apply Blk.eq; (repeat' (first | with_reducible assumption | with_reducible apply Blk.set | with_reducible apply Blk.other | (with_reducible refine Blk.new ?_; simp; done) | with_reducible apply Blk.alloc | omega)); rfl), (by apply Blk.eq; (repeat' (first | with_reducible assumption | with_reducible apply Blk.set | with_reducible apply Blk.other | (with_reducible refine Blk.new ?_; simp; done) | with_reducible apply Blk.alloc | omega)); rfl), (by repeat' (first | with_reducible assumption | with_reducible exact Below.refl _ _ | with_reducible refine allocB ?_ | with_reducible refine setB ?_ ?_ | with_reducible refine drewB ?_ | with_reducible refine after ?_ (by assumption) | (simp; omega) | omega))⟩ ?_
    rintro wa ⟨k2, k3, k4, hb0⟩
    obtain ⟨f2, g2, z2⟩ := k2.facts
    obtain ⟨f3, g3, z3⟩ := k3.facts
    obtain ⟨f4, g4, z4⟩ := k4.facts
    skip
    refine (c1 wa).mono ?_; rintro e w1 ⟨rfl, hb1⟩
    replace k2 := k2.below hb1
    replace k3 := k3.below hb1
    replace k4 := k4.below hb1
    replace hb0 : Below w.heap.size w w1 := after hb0 hb1
    clear f2 g2 z2
    clear f3 g3 z3
    clear f4 g4 z4
    clear hb1
    obtain ⟨f2, g2, z2⟩ := k2.facts
    obtain ⟨f3, g3, z3⟩ := k3.facts
    obtain ⟨f4, g4, z4⟩ := k4.facts
    go_wp2_with fail
    refine (c2 w1).mono ?_; rintro e w2 ⟨rfl, hb2⟩
    replace k2 := k2.below hb2
    replace k3 := k3.below hb2
    replace k4 := k4.below hb2
    replace hb0 : Below w.heap.size w w2 := after hb0 hb2
    clear f2 g2 z2
    clear f3 g3 z3
    clear f4 g4 z4
    clear hb2
    obtain ⟨f2, g2, z2⟩ := k2.facts
    obtain ⟨f3, g3, z3⟩ := k3.facts
    obtain ⟨f4, g4, z4⟩ := k4.facts
    clear c1 c2
    go_upto_region 6 with fail
    have l8 := hb0.size
    have y2_8 := z2
    have y3_8 := z3
    have y4_8 := z4
    refine wp_abs2 (fun W => Blk W (w.heap.size) #[.int .i64 (s1), .int .i64 (r1), .int .i64 (q1), .int .i64 (n1), .int .i64 (m1)] ∧ Blk W (w.heap.size + 1) #[.int .i64 (s1), .int .i64 (r2), .int .i64 (q2), .int .i64 (n2), .int .i64 (m2)] ∧ Blk W (w.heap.size + 1 + 1) #[.int .i64 (0), .int .i64 (0), .int .i64 (0), .int .i64 (0), .int .i64 (0)] ∧ Blk W (w2.heap.size) #[.int .i64 (s1), .int .i64 (R), .int .i64 (C), .int .i64 (0), .int .i64 (0)] ∧ Below w.heap.size w W) ⟨(by apply Blk.eq; (repeat' (first | with_reducible assumption | with_reducible apply Blk.set | with_reducible apply Blk.other | (with_reducible refine Blk.new ?_; simp; done) | with_reducible apply Blk.alloc | omega)); rfl), (by apply Blk.eq; (repeat' (first | with_reducible assumption | with_reducible apply Blk.set | with_reducible apply Blk.other | (with_reducible refine Blk.new ?_; simp; done) | with_reducible apply Blk.alloc | omega)); rfl), (by apply Blk.eq; (repeat' (first | with_reducible assumption | with_reducible apply Blk.set | with_reducible apply Blk.other | (with_reducible refine Blk.new ?_; simp; done) | with_reducible apply Blk.alloc | omega)); rfl), (by apply Blk.eq; (repeat' (first | with_reducible assumption | with_reducible apply Blk.set | with_reducible apply Blk.other | (with_reducible refine Blk.new ?_; simp; done) | with_reducible apply Blk.alloc | omega)); rfl), (by repeat' (first | with_reducible assumption | with_reducible exact Below.refl _ _ | with_reducible refine allocB ?_ | with_reducible refine setB ?_ ?_ | with_reducible refine drewB ?_ | with_reducible refine after ?_ (by assumption) | (simp; omega) | omega))⟩ ?_
    clear f2 g2 z2
    clear f3 g3 z3
    clear f4 g4 z4
    clear k2 k3 k4 hb0
    rintro w2a ⟨k2, k3, k4, k8, hb0⟩
    generalize w2.heap.size = b8 at *
    obtain ⟨f2, g2, z2⟩ := k2.facts
    obtain ⟨f3, g3, z3⟩ := k3.facts
    obtain ⟨f4, g4, z4⟩ := k4.facts
    obtain ⟨f8, g8, z8⟩ := k8.facts
    have o8 : w.heap.size + 1 + 1 < b8 := y4_8
    clear f2 g2 z2 f3 g3 z3 f4 g4 z4 f8 g8 z8
    go_wp2_with fail
    go_loopw [] (fun w' => ∃ j : Int, 0 ≤ j ∧ j ≤ N ∧ Blk w' w.heap.size #[.int .i64 (s1), .int .i64 (r1), .int .i64 (q1), .int .i64 (n1), .int .i64 (m1)] ∧ Blk w' (w.heap.size + 1) #[.int .i64 (s1), .int .i64 (r2), .int .i64 (q2), .int .i64 (n2), .int .i64 (m2)] ∧ Blk w' (w.heap.size + 1 + 1) #[.int .i64 (0), .int .i64 (0), .int .i64 (0), .int .i64 (0), .int .i64 (0)] ∧ Blk w' b8 #[.int .i64 (s1), .int .i64 (R), .int .i64 (C), .int .i64 (j), .int .i64 (0)] ∧ Below w.heap.size w w') (fun w' => (N - cellInt w' b8 3).toNat)
    case atStart => exact ⟨0, by omega, by omega, k2, k3, k4, k8, hb0⟩
    case round =>
      clear k2 k3 k4 k8 hb0
      obtain ⟨j, j0, jN, k2, k3, k4, k8, hb0⟩ := hrel
      obtain ⟨f2, g2, z2⟩ := k2.facts
      obtain ⟨f3, g3, z3⟩ := k3.facts
      obtain ⟨f4, g4, z4⟩ := k4.facts
      obtain ⟨f8, g8, z8⟩ := k8.facts
      by_cases hlt : j < N
      · have hc := (HN.out j j0).2 hlt
        have K8 : Blk (wr.setCell ⟨b8, 3, none⟩ (.int .i64 (j + 1))) b8 #[.int .i64 (s1), .int .i64 (R), .int .i64 (C), .int .i64 (j + 1), .int .i64 (0)] := (by apply Blk.eq; (repeat' (first | with_reducible assumption | with_reducible apply Blk.set | with_reducible apply Blk.other | (with_reducible refine Blk.new ?_; simp; done) | with_reducible apply Blk.alloc | omega)); rfl)
        go_wp2
        go_roundw
        case rel => exact ⟨j + 1, by omega, by omega, (by apply Blk.eq; (repeat' (first | with_reducible assumption | with_reducible apply Blk.set | with_reducible apply Blk.other | (with_reducible refine Blk.new ?_; simp; done) | with_reducible apply Blk.alloc | omega)); rfl), (by apply Blk.eq; (repeat' (first | with_reducible assumption | with_reducible apply Blk.set | with_reducible apply Blk.other | (with_reducible refine Blk.new ?_; simp; done) | with_reducible apply Blk.alloc | omega)); rfl), (by apply Blk.eq; (repeat' (first | with_reducible assumption | with_reducible apply Blk.set | with_reducible apply Blk.other | (with_reducible refine Blk.new ?_; simp; done) | with_reducible apply Blk.alloc | omega)); rfl), K8, (by repeat' (first | with_reducible assumption | with_reducible exact Below.refl _ _ | with_reducible refine allocB ?_ | with_reducible refine setB ?_ ?_ | with_reducible refine drewB ?_ | with_reducible refine after ?_ (by assumption) | (simp; omega) | omega))⟩
        case measure => rw [cellInt_of (o := 3) K8 rfl, cellInt_of (o := 3) k8 rfl]; omega
      · have hc : ¬ R + j < P := fun h => hlt ((HN.out j j0).1 h)
        obtain rfl : j = N := by omega
        clear hlt jN j0
        go_wp2_with fail
        go_loopw [] (fun w' => ∃ i : Int, 0 ≤ i ∧ i ≤ M ∧ Blk w' w.heap.size #[.int .i64 (s1), .int .i64 (r1), .int .i64 (q1), .int .i64 (n1), .int .i64 (m1)] ∧ Blk w' (w.heap.size + 1) #[.int .i64 (s1), .int .i64 (r2), .int .i64 (q2), .int .i64 (n2), .int .i64 (m2)] ∧ Blk w' (w.heap.size + 1 + 1) #[.int .i64 (0), .int .i64 (0), .int .i64 (0), .int .i64 (0), .int .i64 (0)] ∧ Blk w' b8 #[.int .i64 (s1), .int .i64 (R), .int .i64 (C), .int .i64 (j), .int .i64 (i)] ∧ Below w.heap.size w w') (fun w' => (M - cellInt w' b8 4).toNat)
        case atStart => exact ⟨0, by omega, by omega, k2, k3, k4, k8, hb0⟩
        case round =>
          clear k2 k3 k4 k8 hb0 f2 g2 z2 f3 g3 z3 f4 g4 z4 f8 g8 z8
          obtain ⟨i, i0, iM, k2, k3, k4, k8, hb0⟩ := hrel
          obtain ⟨f2, g2, z2⟩ := k2.facts
          obtain ⟨f3, g3, z3⟩ := k3.facts
          obtain ⟨f4, g4, z4⟩ := k4.facts
          obtain ⟨f8, g8, z8⟩ := k8.facts
          by_cases hlt : i < M
          · have hc2 := (HM.out i i0).2 hlt
            have K8 : Blk (wr.setCell ⟨b8, 4, none⟩ (.int .i64 (i + 1))) b8 #[.int .i64 (s1), .int .i64 (R), .int .i64 (C), .int .i64 (j), .int .i64 (i + 1)] := (by apply Blk.eq; (repeat' (first | with_reducible assumption | with_reducible apply Blk.set | with_reducible apply Blk.other | (with_reducible refine Blk.new ?_; simp; done) | with_reducible apply Blk.alloc | omega)); rfl)
            go_wp2
            go_roundw
            case rel => exact ⟨i + 1, by omega, by omega, (by apply Blk.eq; (repeat' (first | with_reducible assumption | with_reducible apply Blk.set | with_reducible apply Blk.other | (with_reducible refine Blk.new ?_; simp; done) | with_reducible apply Blk.alloc | omega)); rfl), (by apply Blk.eq; (repeat' (first | with_reducible assumption | with_reducible apply Blk.set | with_reducible apply Blk.other | (with_reducible refine Blk.new ?_; simp; done) | with_reducible apply Blk.alloc | omega)); rfl), (by apply Blk.eq; (repeat' (first | with_reducible assumption | with_reducible apply Blk.set | with_reducible apply Blk.other | (with_reducible refine Blk.new ?_; simp; done) | with_reducible apply Blk.alloc | omega)); rfl), K8, (by repeat' (first | with_reducible assumption | with_reducible exact Below.refl _ _ | with_reducible refine allocB ?_ | with_reducible refine setB ?_ ?_ | with_reducible refine drewB ?_ | with_reducible refine after ?_ (by assumption) | (simp; omega) | omega))⟩
            case measure => rw [cellInt_of (o := 4) K8 rfl, cellInt_of (o := 4) k8 rfl]; omega
          · have hc2 : ¬ C + i < Q := fun h => hlt ((HM.out i i0).1 h)
            obtain rfl : i = M := by omega
            clear hlt iM i0
            have hV := HV.out
            by_cases hz : j = 0 ∨ i = 0
            · rw [if_pos hz] at hV
              simp only [AreaD.zero, Prod.mk.injEq, AreaD.mk.injEq] at hV
              obtain ⟨⟨rfl, rfl, rfl, rfl, rfl⟩, rfl⟩ := hV
              clear HV
              by_cases h0 : j = 0
              · go_wp2
                exact bodyPost_ret (v := .tuple #[.agg #[.int .i64 (0), .int .i64 (0), .int .i64 (0), .int .i64 (0), .int .i64 (0)], .bool false]) (by simp [results, Tryz.results49, go_sem, *]) rfl ⟨rfl, (by repeat' (first | with_reducible assumption | with_reducible exact Below.refl _ _ | with_reducible refine allocB ?_ | with_reducible refine setB ?_ ?_ | with_reducible refine drewB ?_ | with_reducible refine after ?_ (by assumption) | (simp; omega) | omega))⟩
              · obtain h0' : i = 0 := by omega
                go_wp2
                exact bodyPost_ret (v := .tuple #[.agg #[.int .i64 (0), .int .i64 (0), .int .i64 (0), .int .i64 (0), .int .i64 (0)], .bool false]) (by simp [results, Tryz.results49, go_sem, *]) rfl ⟨rfl, (by repeat' (first | with_reducible assumption | with_reducible exact Below.refl _ _ | with_reducible refine allocB ?_ | with_reducible refine setB ?_ ?_ | with_reducible refine drewB ?_ | with_reducible refine after ?_ (by assumption) | (simp; omega) | omega))⟩
            · rw [if_neg hz] at hV
              simp only [Prod.mk.injEq, AreaD.mk.injEq] at hV
              obtain ⟨⟨rfl, rfl, rfl, rfl, rfl⟩, rfl⟩ := hV
              clear HV
              obtain ⟨hz1, hz2⟩ : ¬ j = 0 ∧ ¬ i = 0 := by omega
              have e1 : (j == 0) = false := by rw [beq_eq_false_iff_ne]; exact hz1
              have e2 : (i == 0) = false := by rw [beq_eq_false_iff_ne]; exact hz2
              clear hz1 hz2 hz
              go_wp2
              exact bodyPost_ret (v := .tuple #[.agg #[.int .i64 (s1), .int .i64 (R), .int .i64 (C), .int .i64 (j), .int .i64 (i)], .bool true]) (by simp [results, Tryz.results49, go_sem, *]) rfl ⟨rfl, (by repeat' (first | with_reducible assumption | with_reducible exact Below.refl _ _ | with_reducible refine allocB ?_ | with_reducible refine setB ?_ ?_ | with_reducible refine drewB ?_ | with_reducible refine after ?_ (by assumption) | (simp; omega) | omega))⟩
  · rw [if_neg k] at hV
    simp only [AreaD.zero, Prod.mk.injEq, AreaD.mk.injEq] at hV
    obtain ⟨⟨rfl, rfl, rfl, rfl, rfl⟩, rfl⟩ := hV
    clear hka hkb
    go_enter Tryz.func49, Tryz.ntmps49
    go_wp2_with fail
    refine calls_abs (fun W => Blk W (w.heap.size) #[.int .i64 (s1), .int .i64 (r1), .int .i64 (q1), .int .i64 (n1), .int .i64 (m1)] ∧ Blk W (w.heap.size + 1) #[.int .i64 (s2), .int .i64 (r2), .int .i64 (q2), .int .i64 (n2), .int .i64 (m2)] ∧ Blk W (w.heap.size + 1 + 1) #[.int .i64 (0), .int .i64 (0), .int .i64 (0), .int .i64 (0), .int .i64 (0)] ∧ Below w.heap.size w W) ⟨(by apply Blk.eq; (repeat' (first | with_reducible assumption | with_reducible apply Blk.set | with_reducible apply Blk.other | (with_reducible refine Blk.new ?_; simp; done) | with_reducible apply Blk.alloc | omega)); rfl), (by apply Blk.eq; (repeat' (first | with_reducible assumption | with_reducible apply Blk.set | with_reducible apply Blk.other | (with_reducible refine Blk.new ?_; simp; done) | with_reducible apply Blk.alloc | omega)); rfl), (by apply Blk.eq; (repeat' (first | with_reducible assumption | with_reducible apply Blk.set | with_reducible apply Blk.other | (with_reducible refine Blk.new ?_; simp; done) | with_reducible apply Blk.alloc | omega)); rfl), (by repeat' (first | with_reducible assumption | with_reducible exact Below.refl _ _ | with_reducible refine allocB ?_ | with_reducible refine setB ?_ ?_ | with_reducible refine drewB ?_ | with_reducible refine after ?_ (by assumption) | (simp; omega) | omega))⟩ ?_
    rintro wa ⟨k2, k3, k4, hb0⟩
    obtain ⟨f2, g2, z2⟩ := k2.facts
    obtain ⟨f3, g3, z3⟩ := k3.facts
    obtain ⟨f4, g4, z4⟩ := k4.facts
    skip
    refine (c1 wa).mono ?_; rintro e w1 ⟨rfl, hb1⟩
    replace k2 := k2.below hb1
    replace k3 := k3.below hb1
    replace k4 := k4.below hb1
    replace hb0 : Below w.heap.size w w1 := after hb0 hb1
    clear f2 g2 z2
    clear f3 g3 z3
    clear f4 g4 z4
    clear hb1
    obtain ⟨f2, g2, z2⟩ := k2.facts
    obtain ⟨f3, g3, z3⟩ := k3.facts
    obtain ⟨f4, g4, z4⟩ := k4.facts
    go_wp2_with fail
    refine (c2 w1).mono ?_; rintro e w2 ⟨rfl, hb2⟩
    replace k2 := k2.below hb2
    replace k3 := k3.below hb2
    replace k4 := k4.below hb2
    replace hb0 : Below w.heap.size w w2 := after hb0 hb2
    clear f2 g2 z2
    clear f3 g3 z3
    clear f4 g4 z4
    clear hb2
    obtain ⟨f2, g2, z2⟩ := k2.facts
    obtain ⟨f3, g3, z3⟩ := k3.facts
    obtain ⟨f4, g4, z4⟩ := k4.facts
    clear c1 c2
    cases X
    · go_wp2
      exact bodyPost_ret (v := .tuple #[.agg #[.int .i64 (0), .int .i64 (0), .int .i64 (0), .int .i64 (0), .int .i64 (0)], .bool false]) (by simp [results, Tryz.results49, go_sem, *]) rfl ⟨rfl, (by repeat' (first | with_reducible assumption | with_reducible exact Below.refl _ _ | with_reducible refine allocB ?_ | with_reducible refine setB ?_ ?_ | with_reducible refine drewB ?_ | with_reducible refine after ?_ (by assumption) | (simp; omega) | omega))⟩
    cases Y
    · go_wp2
      exact bodyPost_ret (v := .tuple #[.agg #[.int .i64 (0), .int .i64 (0), .int .i64 (0), .int .i64 (0), .int .i64 (0)], .bool false]) (by simp [results, Tryz.results49, go_sem, *]) rfl ⟨rfl, (by repeat' (first | with_reducible assumption | with_reducible exact Below.refl _ _ | with_reducible refine allocB ?_ | with_reducible refine setB ?_ ?_ | with_reducible refine drewB ?_ | with_reducible refine after ?_ (by assumption) | (simp; omega) | omega))⟩
    have hs : ¬ s1 = s2 := by simpa using k
    clear k
    go_wp2
    exact bodyPost_ret (v := .tuple #[.agg #[.int .i64 (0), .int .i64 (0), .int .i64 (0), .int .i64 (0), .int .i64 (0)], .bool false]) (by simp [results, Tryz.results49, go_sem, *]) rfl ⟨rfl, (by repeat' (first | with_reducible assumption | with_reducible exact Below.refl _ _ | with_reducible refine allocB ?_ | with_reducible refine setB ?_ ?_ | with_reducible refine drewB ?_ | with_reducible refine after ?_ (by assumption) | (simp; omega) | omega))⟩
end Go.Proofs.YtmeiboajpbflcaaGreatDoor
