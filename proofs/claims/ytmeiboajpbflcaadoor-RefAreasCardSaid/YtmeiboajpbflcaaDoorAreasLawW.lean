/- The law RefAreas: its walk. -/
import Derived.Test.YtmeiboajpbflcaaDoorUses
namespace Go.Proofs.YtmeiboajpbflcaaDoor
open Go.RowKit Tab

theorem areaOf_bad {a b : RefD} (h : a.bad = true ∨ b.bad = true) (s : Int) (hs : 0 ≤ s ∧ s < 8) : areaOf a b s = (AreaD.zero, 20) := by
  unfold areaOf
  rw [if_neg (by omega)]
  rcases h with h | h <;> rw [h] <;> simp
theorem areaOf_two (t u : ByteArray) (R C P Q : Int) (x y x' y' : Bool) (s : Int) (hs : 0 ≤ s ∧ s < 8) (ha : RefD.right ⟨t, R, C, x, y, false⟩ = true) (hb : RefD.right ⟨u, P, Q, x', y', false⟩ = true) :
    areaOf ⟨t, R, C, x, y, false⟩ ⟨u, P, Q, x', y', false⟩ s = (⟨s, if P < R then P else R, if Q < C then Q else C, (if R < P then P - R else R - P) + 1, (if C < Q then Q - C else C - Q) + 1⟩, 0) := by
  unfold areaOf
  rw [if_neg (by omega), ha, hb]
  simp only [Bool.not_false, Bool.and_true, if_true, Prod.mk.injEq, AreaD.mk.injEq, and_true, true_and]
  constructor <;> (split <;> split <;> (try split) <;> omega)

theorem has_in (s X2 X3 X4 X5 R C : Int) (rs : 0 ≤ s ∧ s < 8) (h2 : 0 ≤ X2 ∧ X2 ≤ R ∧ R < X2 + X4 ∧ X2 + X4 ≤ 200) (h3 : 0 ≤ X3 ∧ X3 ≤ C ∧ C < X3 + X5 ∧ X3 + X5 ≤ 52) : hasB ⟨s, X2, X3, X4, X5⟩ s R C = true := by
  rw [has_iff]
  refine ⟨⟨?_, ?_, ?_, ?_, ?_, ?_, ?_, ?_, ?_, ?_⟩, ?_, ?_, ?_, ?_, rfl, ?_, ?_, ?_, ?_⟩ <;> (try dsimp only) <;> omega
theorem has_off (s X2 X3 X4 X5 R C : Int) : hasB ⟨s, X2, X3, X4, X5⟩ (7 - s) R C = false := by
  rw [Bool.eq_false_iff]; intro h
  have := (has_iff _ _ _ _).1 h
  obtain ⟨_, _, _, _, _, h, _⟩ := this
  dsimp only at h; omega

set_option maxRecDepth 100000 in
set_option maxHeartbeats 8000000 in
theorem law_RefAreas (a b : RefD) (sheet : Int) (w : World) (hg : Good w) (ha : RefIn a) (hb : RefIn b) (hs : Int64 sheet) : Calls Tryd.prog 8 #[refV a, refV b, .int .i64 sheet] w (Ret (.bool true) w) := by
  have cR : ∀ W, Below w.heap.size w W → _ := fun W (_ : Below w.heap.size w W) => RefOf_any a W ha.2.1 ha.2.2 ha.1
  have cQ : ∀ W, Below w.heap.size w W → _ := fun W (_ : Below w.heap.size w W) => RefOf_any b W hb.2.1 hb.2.2 hb.1
  obtain ⟨s, hS⟩ : ∃ P, pickI sheet 8 = P := ⟨_, rfl⟩
  have cS := pick_is sheet 8 hs (by omega) (by omega) s hS
  have rs := pickI_range sheet 8 (by omega)
  rw [hS] at rs
  clear hS hs ha hb
  obtain ⟨a0, a1, a2, a3, a4, a5⟩ := a
  obtain ⟨b0, b1, b2, b3, b4, b5⟩ := b
  unfold refV at *
  dsimp only at *
  go_enter Tryd.func8, Tryd.ntmps8
  go_wp2_with fail
  refine calls_abs (fun W => Blk W (w.heap.size) #[.string a0, .int .i64 a1, .int .i64 a2, .bool a3, .bool a4, .bool a5] ∧ Blk W (w.heap.size + 1) #[.string b0, .int .i64 b1, .int .i64 b2, .bool b3, .bool b4, .bool b5] ∧ Below w.heap.size w W) ⟨(by apply Blk.eq; (repeat' (first | with_reducible assumption | with_reducible apply Blk.set | with_reducible apply Blk.other | (with_reducible refine Blk.new ?_; simp; done) | with_reducible apply Blk.alloc | omega)); rfl), (by apply Blk.eq; (repeat' (first | with_reducible assumption | with_reducible apply Blk.set | with_reducible apply Blk.other | (with_reducible refine Blk.new ?_; simp; done) | with_reducible apply Blk.alloc | omega)); rfl), (by repeat' (first | with_reducible assumption | with_reducible exact Below.refl _ _ | with_reducible refine allocB ?_ | with_reducible refine setB ?_ ?_ | with_reducible refine drewB ?_ | with_reducible refine after ?_ (by assumption) | (simp; omega) | omega))⟩ ?_
  rintro wa ⟨k3, k4, hb0⟩
  obtain ⟨f3, g3, z3⟩ := k3.facts
  obtain ⟨f4, g4, z4⟩ := k4.facts
  refine (awake_any wa (hg.below hb0)).mono ?_; rintro e w1 ⟨rfl, hb1⟩
  replace k3 := k3.below hb1
  replace k4 := k4.below hb1
  replace hb0 : Below w.heap.size w w1 := after hb0 hb1
  clear f3 g3 z3
  clear f4 g4 z4
  clear hb1
  obtain ⟨f3, g3, z3⟩ := k3.facts
  obtain ⟨f4, g4, z4⟩ := k4.facts
  go_wp2_with fail
  refine (cR w1 hb0).mono ?_; rintro e w2 ⟨⟨t, R, C, x, y, z⟩, hq, rfl, hb2⟩
  replace k3 := k3.below hb2
  replace k4 := k4.below hb2
  replace hb0 : Below w.heap.size w w2 := after hb0 hb2
  clear f3 g3 z3
  clear f4 g4 z4
  clear hb2
  obtain ⟨f3, g3, z3⟩ := k3.facts
  obtain ⟨f4, g4, z4⟩ := k4.facts
  clear k3 f3 g3 z3
  dsimp only
  go_wp2_with fail
  refine calls_abs (fun W => Blk W (w.heap.size + 1) #[.string b0, .int .i64 b1, .int .i64 b2, .bool b3, .bool b4, .bool b5] ∧ Blk W (w2.heap.size) #[.string t, .int .i64 R, .int .i64 C, .bool x, .bool y, .bool z] ∧ Below w.heap.size w W) ⟨(by apply Blk.eq; (repeat' (first | with_reducible assumption | with_reducible apply Blk.set | with_reducible apply Blk.other | (with_reducible refine Blk.new ?_; simp; done) | with_reducible apply Blk.alloc | omega)); rfl), (by apply Blk.eq; (repeat' (first | with_reducible assumption | with_reducible apply Blk.set | with_reducible apply Blk.other | (with_reducible refine Blk.new ?_; simp; done) | with_reducible apply Blk.alloc | omega)); rfl), (by repeat' (first | with_reducible assumption | with_reducible exact Below.refl _ _ | with_reducible refine allocB ?_ | with_reducible refine setB ?_ ?_ | with_reducible refine drewB ?_ | with_reducible refine after ?_ (by assumption) | (simp; omega) | omega))⟩ ?_
  clear f4 g4 z4
  clear k4 hb0
  rintro w2a ⟨k4, k8, hb0⟩
  generalize w2.heap.size = b8 at *
  obtain ⟨f4, g4, z4⟩ := k4.facts
  obtain ⟨f8, g8, z8⟩ := k8.facts
  refine (cQ w2a hb0).mono ?_; rintro e w3 ⟨⟨u, P, Q, x', y', z'⟩, hq', rfl, hb3⟩
  replace k4 := k4.below hb3
  replace k8 := k8.below hb3
  replace hb0 : Below w.heap.size w w3 := after hb0 hb3
  clear f4 g4 z4
  clear f8 g8 z8
  clear hb3
  obtain ⟨f4, g4, z4⟩ := k4.facts
  obtain ⟨f8, g8, z8⟩ := k8.facts
  clear k4 f4 g4 z4
  dsimp only
  obtain ⟨i1, r1, _⟩ := made_in hq
  obtain ⟨i2, r2, _⟩ := made_in hq'
  clear hq hq' cR cQ
  go_wp2_with fail
  refine calls_abs (fun W => Blk W (b8) #[.string t, .int .i64 R, .int .i64 C, .bool x, .bool y, .bool z] ∧ Blk W (w3.heap.size) #[.string u, .int .i64 P, .int .i64 Q, .bool x', .bool y', .bool z'] ∧ Below w.heap.size w W) ⟨(by apply Blk.eq; (repeat' (first | with_reducible assumption | with_reducible apply Blk.set | with_reducible apply Blk.other | (with_reducible refine Blk.new ?_; simp; done) | with_reducible apply Blk.alloc | omega)); rfl), (by apply Blk.eq; (repeat' (first | with_reducible assumption | with_reducible apply Blk.set | with_reducible apply Blk.other | (with_reducible refine Blk.new ?_; simp; done) | with_reducible apply Blk.alloc | omega)); rfl), (by repeat' (first | with_reducible assumption | with_reducible exact Below.refl _ _ | with_reducible refine allocB ?_ | with_reducible refine setB ?_ ?_ | with_reducible refine drewB ?_ | with_reducible refine after ?_ (by assumption) | (simp; omega) | omega))⟩ ?_
  clear f8 g8 z8
  clear k8 hb0
  rintro w3a ⟨k8, k9, hb0⟩
  generalize w3.heap.size = b9 at *
  obtain ⟨f8, g8, z8⟩ := k8.facts
  obtain ⟨f9, g9, z9⟩ := k9.facts
  refine (cS w3a).mono ?_; rintro e w4 ⟨rfl, rfl⟩
  by_cases hz : (z || z') = true
  · have E1 : areaOf ⟨t, R, C, x, y, z⟩ ⟨u, P, Q, x', y', z'⟩ s = (⟨0, 0, 0, 0, 0⟩, 20) := areaOf_bad (by simpa using hz) s rs
    have E2 : areaOf ⟨u, P, Q, x', y', z'⟩ ⟨t, R, C, x, y, z⟩ s = (⟨0, 0, 0, 0, 0⟩, 20) := areaOf_bad (by rcases (by simpa using hz : z = true ∨ z' = true) with h | h; exact .inr h; exact .inl h) s rs
    have c1 := fun W hb => Area_is hg i1 i2 E1 W hb
    have c2 := fun W hb => Area_is hg i2 i1 E2 W hb
    clear E1 E2 i1 i2 r1 r2
    go_wp2_with fail
    refine (c1 w3a hb0).mono ?_; rintro e w5 ⟨rfl, hb5⟩
    replace k8 := k8.below hb5
    replace k9 := k9.below hb5
    replace hb0 : Below w.heap.size w w5 := after hb0 hb5
    clear f8 g8 z8
    clear f9 g9 z9
    clear hb5
    obtain ⟨f8, g8, z8⟩ := k8.facts
    obtain ⟨f9, g9, z9⟩ := k9.facts
    go_wp2_with fail
    refine calls_abs (fun W => Blk W (b8) #[.string t, .int .i64 R, .int .i64 C, .bool x, .bool y, .bool z] ∧ Blk W (b9) #[.string u, .int .i64 P, .int .i64 Q, .bool x', .bool y', .bool z'] ∧ Blk W (w5.heap.size) #[.int .i64 0, .int .i64 0, .int .i64 0, .int .i64 0, .int .i64 0] ∧ Below w.heap.size w W) ⟨(by apply Blk.eq; (repeat' (first | with_reducible assumption | with_reducible apply Blk.set | with_reducible apply Blk.other | (with_reducible refine Blk.new ?_; simp; done) | with_reducible apply Blk.alloc | omega)); rfl), (by apply Blk.eq; (repeat' (first | with_reducible assumption | with_reducible apply Blk.set | with_reducible apply Blk.other | (with_reducible refine Blk.new ?_; simp; done) | with_reducible apply Blk.alloc | omega)); rfl), (by apply Blk.eq; (repeat' (first | with_reducible assumption | with_reducible apply Blk.set | with_reducible apply Blk.other | (with_reducible refine Blk.new ?_; simp; done) | with_reducible apply Blk.alloc | omega)); rfl), (by repeat' (first | with_reducible assumption | with_reducible exact Below.refl _ _ | with_reducible refine allocB ?_ | with_reducible refine setB ?_ ?_ | with_reducible refine drewB ?_ | with_reducible refine after ?_ (by assumption) | (simp; omega) | omega))⟩ ?_
    clear f8 g8 z8
    clear f9 g9 z9
    clear k8 k9 hb0
    rintro w5a ⟨k8, k9, k11, hb0⟩
    generalize w5.heap.size = b11 at *
    obtain ⟨f8, g8, z8⟩ := k8.facts
    obtain ⟨f9, g9, z9⟩ := k9.facts
    obtain ⟨f11, g11, z11⟩ := k11.facts
    refine (c2 w5a hb0).mono ?_; rintro e w6 ⟨rfl, hb6⟩
    replace k8 := k8.below hb6
    replace k9 := k9.below hb6
    replace k11 := k11.below hb6
    replace hb0 : Below w.heap.size w w6 := after hb0 hb6
    clear f8 g8 z8
    clear f9 g9 z9
    clear f11 g11 z11
    clear hb6
    obtain ⟨f8, g8, z8⟩ := k8.facts
    obtain ⟨f9, g9, z9⟩ := k9.facts
    obtain ⟨f11, g11, z11⟩ := k11.facts
    clear cS c1 c2 hg rs
    cases z <;> cases z' <;> first | exact absurd hz (by decide) | skip
    all_goals (
      go_wp2
      go_ret; exact Ret.mk' rfl (by repeat' (first | with_reducible assumption | with_reducible exact Below.refl _ _ | with_reducible refine allocB ?_ | with_reducible refine setB ?_ ?_ | with_reducible refine drewB ?_ | with_reducible refine after ?_ (by assumption) | (simp; omega) | omega)))
  · obtain ⟨rfl, rfl⟩ : z = false ∧ z' = false := by simpa using hz
    clear hz
    obtain ⟨rR1, rR2, rC1, rC2⟩ := right_range r1
    obtain ⟨rP1, rP2, rQ1, rQ2⟩ := right_range r2
    dsimp only at rR1 rR2 rC1 rC2 rP1 rP2 rQ1 rQ2
    have r0 : RefD.right ⟨⟨#[]⟩, R, C, false, false, false⟩ = true := by rw [right_at _ _ _ _ _ (by rfl)]; exact decide_eq_true (by omega)
    have E1 := areaOf_two t u R C P Q x y x' y' s rs r1 r2
    have E2 := areaOf_two u t P Q R C x' y' x y s rs r2 r1
    have E3 := areaOf_two ⟨#[]⟩ u R C P Q false false x' y' s rs r0 r2
    have e2 : (if R < P then R else P) = (if P < R then P else R) := by split <;> split <;> omega
    have e3 : (if C < Q then C else Q) = (if Q < C then Q else C) := by split <;> split <;> omega
    have e4 : (if P < R then R - P else P - R) = (if R < P then P - R else R - P) := by split <;> split <;> omega
    have e5 : (if Q < C then C - Q else Q - C) = (if C < Q then Q - C else C - Q) := by split <;> split <;> omega
    rw [e2, e3, e4, e5] at E2
    clear e2 e3 e4 e5
    obtain ⟨X2, q2⟩ : ∃ X, (if P < R then P else R) = X := ⟨_, rfl⟩
    obtain ⟨X3, q3⟩ : ∃ X, (if Q < C then Q else C) = X := ⟨_, rfl⟩
    obtain ⟨X4, q4⟩ : ∃ X, (if R < P then P - R else R - P) + 1 = X := ⟨_, rfl⟩
    obtain ⟨X5, q5⟩ : ∃ X, (if C < Q then Q - C else C - Q) + 1 = X := ⟨_, rfl⟩
    rw [q2, q3, q4, q5] at E1 E2 E3
    have H1 := has_in s X2 X3 X4 X5 R C rs (by rw [← q2, ← q4]; split <;> split <;> omega) (by rw [← q3, ← q5]; split <;> split <;> omega)
    have H2 := has_in s X2 X3 X4 X5 P Q rs (by rw [← q2, ← q4]; split <;> split <;> omega) (by rw [← q3, ← q5]; split <;> split <;> omega)
    have h1 := fun W => Has_is H1 W
    have h2 := fun W => Has_is H2 W
    have h3 := fun W => Has_is (has_off s X2 X3 X4 X5 R C) W
    have Hd := Lib.hid (show (R - P < 0 → -(R - P) + 1 = X4) ∧ (0 ≤ R - P → R - P + 1 = X4) ∧ (C - Q < 0 → -(C - Q) + 1 = X5) ∧ (0 ≤ C - Q → C - Q + 1 = X5) from (by rw [← q4, ← q5]; refine ⟨?_, ?_, ?_, ?_⟩ <;> intro _ <;> split <;> omega))
    clear q2 q3 q4 q5 H1 H2
    have c1 := fun W hb => Area_is hg i1 i2 E1 W hb
    have c2 := fun W hb => Area_is hg i2 i1 E2 W hb
    have c3 := fun W hb => Area_is hg (by unfold RefIn; exact ⟨show (0 : Nat) ≤ 9223372036854775807 by omega, by dsimp only; omega, by dsimp only; omega⟩) i2 E3 W hb
    clear E1 E2 E3 i1 i2 r0 r1 r2
    go_wp2_with fail
    refine (c1 w3a hb0).mono ?_; rintro e w5 ⟨rfl, hb5⟩
    replace k8 := k8.below hb5
    replace k9 := k9.below hb5
    replace hb0 : Below w.heap.size w w5 := after hb0 hb5
    clear f8 g8 z8
    clear f9 g9 z9
    clear hb5
    obtain ⟨f8, g8, z8⟩ := k8.facts
    obtain ⟨f9, g9, z9⟩ := k9.facts
    go_wp2_with fail
    refine calls_abs (fun W => Blk W (b8) #[.string t, .int .i64 R, .int .i64 C, .bool x, .bool y, .bool false] ∧ Blk W (b9) #[.string u, .int .i64 P, .int .i64 Q, .bool x', .bool y', .bool false] ∧ Blk W (w5.heap.size) #[.int .i64 s, .int .i64 X2, .int .i64 X3, .int .i64 X4, .int .i64 X5] ∧ Below w.heap.size w W) ⟨(by apply Blk.eq; (repeat' (first | with_reducible assumption | with_reducible apply Blk.set | with_reducible apply Blk.other | (with_reducible refine Blk.new ?_; simp; done) | with_reducible apply Blk.alloc | omega)); rfl), (by apply Blk.eq; (repeat' (first | with_reducible assumption | with_reducible apply Blk.set | with_reducible apply Blk.other | (with_reducible refine Blk.new ?_; simp; done) | with_reducible apply Blk.alloc | omega)); rfl), (by apply Blk.eq; (repeat' (first | with_reducible assumption | with_reducible apply Blk.set | with_reducible apply Blk.other | (with_reducible refine Blk.new ?_; simp; done) | with_reducible apply Blk.alloc | omega)); rfl), (by repeat' (first | with_reducible assumption | with_reducible exact Below.refl _ _ | with_reducible refine allocB ?_ | with_reducible refine setB ?_ ?_ | with_reducible refine drewB ?_ | with_reducible refine after ?_ (by assumption) | (simp; omega) | omega))⟩ ?_
    clear f8 g8 z8
    clear f9 g9 z9
    clear k8 k9 hb0
    rintro w5a ⟨k8, k9, k11, hb0⟩
    generalize w5.heap.size = b11 at *
    obtain ⟨f8, g8, z8⟩ := k8.facts
    obtain ⟨f9, g9, z9⟩ := k9.facts
    obtain ⟨f11, g11, z11⟩ := k11.facts
    refine (c2 w5a hb0).mono ?_; rintro e w6 ⟨rfl, hb6⟩
    replace k8 := k8.below hb6
    replace k9 := k9.below hb6
    replace k11 := k11.below hb6
    replace hb0 : Below w.heap.size w w6 := after hb0 hb6
    clear f8 g8 z8
    clear f9 g9 z9
    clear f11 g11 z11
    clear hb6
    obtain ⟨f8, g8, z8⟩ := k8.facts
    obtain ⟨f9, g9, z9⟩ := k9.facts
    obtain ⟨f11, g11, z11⟩ := k11.facts
    go_wp2_with fail
    refine calls_abs (fun W => Blk W (b8) #[.string t, .int .i64 R, .int .i64 C, .bool x, .bool y, .bool false] ∧ Blk W (b9) #[.string u, .int .i64 P, .int .i64 Q, .bool x', .bool y', .bool false] ∧ Blk W (b11) #[.int .i64 s, .int .i64 X2, .int .i64 X3, .int .i64 X4, .int .i64 X5] ∧ Blk W (w6.heap.size) #[.int .i64 s, .int .i64 X2, .int .i64 X3, .int .i64 X4, .int .i64 X5] ∧ Blk W (w6.heap.size + 1) #[.string ⟨#[]⟩, .int .i64 R, .int .i64 C, .bool false, .bool false, .bool false] ∧ Below w.heap.size w W) ⟨(by apply Blk.eq; (repeat' (first | with_reducible assumption | with_reducible apply Blk.set | with_reducible apply Blk.other | (with_reducible refine Blk.new ?_; simp; done) | with_reducible apply Blk.alloc | omega)); rfl), (by apply Blk.eq; (repeat' (first | with_reducible assumption | with_reducible apply Blk.set | with_reducible apply Blk.other | (with_reducible refine Blk.new ?_; simp; done) | with_reducible apply Blk.alloc | omega)); rfl), (by apply Blk.eq; (repeat' (first | with_reducible assumption | with_reducible apply Blk.set | with_reducible apply Blk.other | (with_reducible refine Blk.new ?_; simp; done) | with_reducible apply Blk.alloc | omega)); rfl), (by apply Blk.eq; (repeat' (first | with_reducible assumption | with_reducible apply Blk.set | with_reducible apply Blk.other | (with_reducible refine Blk.new ?_; simp; done) | with_reducible apply Blk.alloc | omega)); rfl), (by apply Blk.eq; (repeat' (first | with_reducible assumption | with_reducible apply Blk.set | with_reducible apply Blk.other | (with_reducible refine Blk.new ?_; simp; done) | with_reducible apply Blk.alloc | omega)); rfl), (by repeat' (first | with_reducible assumption | with_reducible exact Below.refl _ _ | with_reducible refine allocB ?_ | with_reducible refine setB ?_ ?_ | with_reducible refine drewB ?_ | with_reducible refine after ?_ (by assumption) | (simp; omega) | omega))⟩ ?_
    clear f8 g8 z8
    clear f9 g9 z9
    clear f11 g11 z11
    clear k8 k9 k11 hb0
    rintro w6a ⟨k8, k9, k11, k13, k15, hb0⟩
    generalize w6.heap.size = b13 at *
    obtain ⟨f8, g8, z8⟩ := k8.facts
    obtain ⟨f9, g9, z9⟩ := k9.facts
    obtain ⟨f11, g11, z11⟩ := k11.facts
    obtain ⟨f13, g13, z13⟩ := k13.facts
    obtain ⟨f15, g15, z15⟩ := k15.facts
    skip
    refine (c3 w6a hb0).mono ?_; rintro e w7 ⟨rfl, hb7⟩
    replace k8 := k8.below hb7
    replace k9 := k9.below hb7
    replace k11 := k11.below hb7
    replace k13 := k13.below hb7
    replace k15 := k15.below hb7
    replace hb0 : Below w.heap.size w w7 := after hb0 hb7
    clear f8 g8 z8
    clear f9 g9 z9
    clear f11 g11 z11
    clear f13 g13 z13
    clear f15 g15 z15
    clear hb7
    obtain ⟨f8, g8, z8⟩ := k8.facts
    obtain ⟨f9, g9, z9⟩ := k9.facts
    obtain ⟨f11, g11, z11⟩ := k11.facts
    obtain ⟨f13, g13, z13⟩ := k13.facts
    obtain ⟨f15, g15, z15⟩ := k15.facts
    clear cS c1 c2 c3 hg
    by_cases k1 : R - P < 0 <;> by_cases k2 : C - Q < 0
    · have q1 := Hd.out.1 k1; have q2 := Hd.out.2.2.1 k2; clear Hd; subst q1; subst q2
      go_wp2_with fail
      refine calls_abs (fun W => Blk W (b8) #[.string t, .int .i64 R, .int .i64 C, .bool x, .bool y, .bool false] ∧ Blk W (b9) #[.string u, .int .i64 P, .int .i64 Q, .bool x', .bool y', .bool false] ∧ Blk W (b11) #[.int .i64 s, .int .i64 X2, .int .i64 X3, .int .i64 (-(R - P) + 1), .int .i64 (-(C - Q) + 1)] ∧ Blk W (b13) #[.int .i64 s, .int .i64 X2, .int .i64 X3, .int .i64 (-(R - P) + 1), .int .i64 (-(C - Q) + 1)] ∧ Blk W (b13 + 1) #[.string ⟨#[]⟩, .int .i64 R, .int .i64 C, .bool false, .bool false, .bool false] ∧ Blk W (w7.heap.size) #[.int .i64 s, .int .i64 X2, .int .i64 X3, .int .i64 (-(R - P) + 1), .int .i64 (-(C - Q) + 1)] ∧ Below w.heap.size w W) ⟨(by apply Blk.eq; (repeat' (first | with_reducible assumption | with_reducible apply Blk.set | with_reducible apply Blk.other | (with_reducible refine Blk.new ?_; simp; done) | with_reducible apply Blk.alloc | omega)); rfl), (by apply Blk.eq; (repeat' (first | with_reducible assumption | with_reducible apply Blk.set | with_reducible apply Blk.other | (with_reducible refine Blk.new ?_; simp; done) | with_reducible apply Blk.alloc | omega)); rfl), (by apply Blk.eq; (repeat' (first | with_reducible assumption | with_reducible apply Blk.set | with_reducible apply Blk.other | (with_reducible refine Blk.new ?_; simp; done) | with_reducible apply Blk.alloc | omega)); rfl), (by apply Blk.eq; (repeat' (first | with_reducible assumption | with_reducible apply Blk.set | with_reducible apply Blk.other | (with_reducible refine Blk.new ?_; simp; done) | with_reducible apply Blk.alloc | omega)); rfl), (by apply Blk.eq; (repeat' (first | with_reducible assumption | with_reducible apply Blk.set | with_reducible apply Blk.other | (with_reducible refine Blk.new ?_; simp; done) | with_reducible apply Blk.alloc | omega)); rfl), (by apply Blk.eq; (repeat' (first | with_reducible assumption | with_reducible apply Blk.set | with_reducible apply Blk.other | (with_reducible refine Blk.new ?_; simp; done) | with_reducible apply Blk.alloc | omega)); rfl), (by repeat' (first | with_reducible assumption | with_reducible exact Below.refl _ _ | with_reducible refine allocB ?_ | with_reducible refine setB ?_ ?_ | with_reducible refine drewB ?_ | with_reducible refine after ?_ (by assumption) | (simp; omega) | omega))⟩ ?_
      clear f8 g8 z8
      clear f9 g9 z9
      clear f11 g11 z11
      clear f13 g13 z13
      clear f15 g15 z15
      clear k8 k9 k11 k13 k15 hb0
      rintro w7a ⟨k8, k9, k11, k13, k15, k16, hb0⟩
      generalize w7.heap.size = b16 at *
      obtain ⟨f8, g8, z8⟩ := k8.facts
      obtain ⟨f9, g9, z9⟩ := k9.facts
      obtain ⟨f11, g11, z11⟩ := k11.facts
      obtain ⟨f13, g13, z13⟩ := k13.facts
      obtain ⟨f15, g15, z15⟩ := k15.facts
      obtain ⟨f16, g16, z16⟩ := k16.facts
      refine (h1 w7a).mono ?_; rintro e w8 ⟨rfl, hb8⟩
      replace k8 := k8.below hb8
      replace k9 := k9.below hb8
      replace k11 := k11.below hb8
      replace k13 := k13.below hb8
      replace k15 := k15.below hb8
      replace k16 := k16.below hb8
      replace hb0 : Below w.heap.size w w8 := after hb0 hb8
      clear f8 g8 z8
      clear f9 g9 z9
      clear f11 g11 z11
      clear f13 g13 z13
      clear f15 g15 z15
      clear f16 g16 z16
      clear hb8
      obtain ⟨f8, g8, z8⟩ := k8.facts
      obtain ⟨f9, g9, z9⟩ := k9.facts
      obtain ⟨f11, g11, z11⟩ := k11.facts
      obtain ⟨f13, g13, z13⟩ := k13.facts
      obtain ⟨f15, g15, z15⟩ := k15.facts
      obtain ⟨f16, g16, z16⟩ := k16.facts
      go_wp2_with fail
      refine (h2 w8).mono ?_; rintro e w9 ⟨rfl, hb9⟩
      replace k8 := k8.below hb9
      replace k9 := k9.below hb9
      replace k11 := k11.below hb9
      replace k13 := k13.below hb9
      replace k15 := k15.below hb9
      replace k16 := k16.below hb9
      replace hb0 : Below w.heap.size w w9 := after hb0 hb9
      clear f8 g8 z8
      clear f9 g9 z9
      clear f11 g11 z11
      clear f13 g13 z13
      clear f15 g15 z15
      clear f16 g16 z16
      clear hb9
      obtain ⟨f8, g8, z8⟩ := k8.facts
      obtain ⟨f9, g9, z9⟩ := k9.facts
      obtain ⟨f11, g11, z11⟩ := k11.facts
      obtain ⟨f13, g13, z13⟩ := k13.facts
      obtain ⟨f15, g15, z15⟩ := k15.facts
      obtain ⟨f16, g16, z16⟩ := k16.facts
      go_wp2_with fail
      refine (h3 w9).mono ?_; rintro e w10 ⟨rfl, hb10⟩
      replace k8 := k8.below hb10
      replace k9 := k9.below hb10
      replace k11 := k11.below hb10
      replace k13 := k13.below hb10
      replace k15 := k15.below hb10
      replace k16 := k16.below hb10
      replace hb0 : Below w.heap.size w w10 := after hb0 hb10
      clear f8 g8 z8
      clear f9 g9 z9
      clear f11 g11 z11
      clear f13 g13 z13
      clear f15 g15 z15
      clear f16 g16 z16
      clear hb10
      obtain ⟨f8, g8, z8⟩ := k8.facts
      obtain ⟨f9, g9, z9⟩ := k9.facts
      obtain ⟨f11, g11, z11⟩ := k11.facts
      obtain ⟨f13, g13, z13⟩ := k13.facts
      obtain ⟨f15, g15, z15⟩ := k15.facts
      obtain ⟨f16, g16, z16⟩ := k16.facts
      go_wp2
      go_ret; exact Ret.mk' rfl (by repeat' (first | with_reducible assumption | with_reducible exact Below.refl _ _ | with_reducible refine allocB ?_ | with_reducible refine setB ?_ ?_ | with_reducible refine drewB ?_ | with_reducible refine after ?_ (by assumption) | (simp; omega) | omega))
    · have q1 := Hd.out.1 k1; have q2 := Hd.out.2.2.2 (by omega); clear Hd; subst q1; subst q2
      go_wp2_with fail
      refine calls_abs (fun W => Blk W (b8) #[.string t, .int .i64 R, .int .i64 C, .bool x, .bool y, .bool false] ∧ Blk W (b9) #[.string u, .int .i64 P, .int .i64 Q, .bool x', .bool y', .bool false] ∧ Blk W (b11) #[.int .i64 s, .int .i64 X2, .int .i64 X3, .int .i64 (-(R - P) + 1), .int .i64 (C - Q + 1)] ∧ Blk W (b13) #[.int .i64 s, .int .i64 X2, .int .i64 X3, .int .i64 (-(R - P) + 1), .int .i64 (C - Q + 1)] ∧ Blk W (b13 + 1) #[.string ⟨#[]⟩, .int .i64 R, .int .i64 C, .bool false, .bool false, .bool false] ∧ Blk W (w7.heap.size) #[.int .i64 s, .int .i64 X2, .int .i64 X3, .int .i64 (-(R - P) + 1), .int .i64 (C - Q + 1)] ∧ Below w.heap.size w W) ⟨(by apply Blk.eq; (repeat' (first | with_reducible assumption | with_reducible apply Blk.set | with_reducible apply Blk.other | (with_reducible refine Blk.new ?_; simp; done) | with_reducible apply Blk.alloc | omega)); rfl), (by apply Blk.eq; (repeat' (first | with_reducible assumption | with_reducible apply Blk.set | with_reducible apply Blk.other | (with_reducible refine Blk.new ?_; simp; done) | with_reducible apply Blk.alloc | omega)); rfl), (by apply Blk.eq; (repeat' (first | with_reducible assumption | with_reducible apply Blk.set | with_reducible apply Blk.other | (with_reducible refine Blk.new ?_; simp; done) | with_reducible apply Blk.alloc | omega)); rfl), (by apply Blk.eq; (repeat' (first | with_reducible assumption | with_reducible apply Blk.set | with_reducible apply Blk.other | (with_reducible refine Blk.new ?_; simp; done) | with_reducible apply Blk.alloc | omega)); rfl), (by apply Blk.eq; (repeat' (first | with_reducible assumption | with_reducible apply Blk.set | with_reducible apply Blk.other | (with_reducible refine Blk.new ?_; simp; done) | with_reducible apply Blk.alloc | omega)); rfl), (by apply Blk.eq; (repeat' (first | with_reducible assumption | with_reducible apply Blk.set | with_reducible apply Blk.other | (with_reducible refine Blk.new ?_; simp; done) | with_reducible apply Blk.alloc | omega)); rfl), (by repeat' (first | with_reducible assumption | with_reducible exact Below.refl _ _ | with_reducible refine allocB ?_ | with_reducible refine setB ?_ ?_ | with_reducible refine drewB ?_ | with_reducible refine after ?_ (by assumption) | (simp; omega) | omega))⟩ ?_
      clear f8 g8 z8
      clear f9 g9 z9
      clear f11 g11 z11
      clear f13 g13 z13
      clear f15 g15 z15
      clear k8 k9 k11 k13 k15 hb0
      rintro w7a ⟨k8, k9, k11, k13, k15, k16, hb0⟩
      generalize w7.heap.size = b16 at *
      obtain ⟨f8, g8, z8⟩ := k8.facts
      obtain ⟨f9, g9, z9⟩ := k9.facts
      obtain ⟨f11, g11, z11⟩ := k11.facts
      obtain ⟨f13, g13, z13⟩ := k13.facts
      obtain ⟨f15, g15, z15⟩ := k15.facts
      obtain ⟨f16, g16, z16⟩ := k16.facts
      refine (h1 w7a).mono ?_; rintro e w8 ⟨rfl, hb8⟩
      replace k8 := k8.below hb8
      replace k9 := k9.below hb8
      replace k11 := k11.below hb8
      replace k13 := k13.below hb8
      replace k15 := k15.below hb8
      replace k16 := k16.below hb8
      replace hb0 : Below w.heap.size w w8 := after hb0 hb8
      clear f8 g8 z8
      clear f9 g9 z9
      clear f11 g11 z11
      clear f13 g13 z13
      clear f15 g15 z15
      clear f16 g16 z16
      clear hb8
      obtain ⟨f8, g8, z8⟩ := k8.facts
      obtain ⟨f9, g9, z9⟩ := k9.facts
      obtain ⟨f11, g11, z11⟩ := k11.facts
      obtain ⟨f13, g13, z13⟩ := k13.facts
      obtain ⟨f15, g15, z15⟩ := k15.facts
      obtain ⟨f16, g16, z16⟩ := k16.facts
      go_wp2_with fail
      refine (h2 w8).mono ?_; rintro e w9 ⟨rfl, hb9⟩
      replace k8 := k8.below hb9
      replace k9 := k9.below hb9
      replace k11 := k11.below hb9
      replace k13 := k13.below hb9
      replace k15 := k15.below hb9
      replace k16 := k16.below hb9
      replace hb0 : Below w.heap.size w w9 := after hb0 hb9
      clear f8 g8 z8
      clear f9 g9 z9
      clear f11 g11 z11
      clear f13 g13 z13
      clear f15 g15 z15
      clear f16 g16 z16
      clear hb9
      obtain ⟨f8, g8, z8⟩ := k8.facts
      obtain ⟨f9, g9, z9⟩ := k9.facts
      obtain ⟨f11, g11, z11⟩ := k11.facts
      obtain ⟨f13, g13, z13⟩ := k13.facts
      obtain ⟨f15, g15, z15⟩ := k15.facts
      obtain ⟨f16, g16, z16⟩ := k16.facts
      go_wp2_with fail
      refine (h3 w9).mono ?_; rintro e w10 ⟨rfl, hb10⟩
      replace k8 := k8.below hb10
      replace k9 := k9.below hb10
      replace k11 := k11.below hb10
      replace k13 := k13.below hb10
      replace k15 := k15.below hb10
      replace k16 := k16.below hb10
      replace hb0 : Below w.heap.size w w10 := after hb0 hb10
      clear f8 g8 z8
      clear f9 g9 z9
      clear f11 g11 z11
      clear f13 g13 z13
      clear f15 g15 z15
      clear f16 g16 z16
      clear hb10
      obtain ⟨f8, g8, z8⟩ := k8.facts
      obtain ⟨f9, g9, z9⟩ := k9.facts
      obtain ⟨f11, g11, z11⟩ := k11.facts
      obtain ⟨f13, g13, z13⟩ := k13.facts
      obtain ⟨f15, g15, z15⟩ := k15.facts
      obtain ⟨f16, g16, z16⟩ := k16.facts
      go_wp2
      go_ret; exact Ret.mk' rfl (by repeat' (first | with_reducible assumption | with_reducible exact Below.refl _ _ | with_reducible refine allocB ?_ | with_reducible refine setB ?_ ?_ | with_reducible refine drewB ?_ | with_reducible refine after ?_ (by assumption) | (simp; omega) | omega))
    · have q1 := Hd.out.2.1 (by omega); have q2 := Hd.out.2.2.1 k2; clear Hd; subst q1; subst q2
      go_wp2_with fail
      refine calls_abs (fun W => Blk W (b8) #[.string t, .int .i64 R, .int .i64 C, .bool x, .bool y, .bool false] ∧ Blk W (b9) #[.string u, .int .i64 P, .int .i64 Q, .bool x', .bool y', .bool false] ∧ Blk W (b11) #[.int .i64 s, .int .i64 X2, .int .i64 X3, .int .i64 (R - P + 1), .int .i64 (-(C - Q) + 1)] ∧ Blk W (b13) #[.int .i64 s, .int .i64 X2, .int .i64 X3, .int .i64 (R - P + 1), .int .i64 (-(C - Q) + 1)] ∧ Blk W (b13 + 1) #[.string ⟨#[]⟩, .int .i64 R, .int .i64 C, .bool false, .bool false, .bool false] ∧ Blk W (w7.heap.size) #[.int .i64 s, .int .i64 X2, .int .i64 X3, .int .i64 (R - P + 1), .int .i64 (-(C - Q) + 1)] ∧ Below w.heap.size w W) ⟨(by apply Blk.eq; (repeat' (first | with_reducible assumption | with_reducible apply Blk.set | with_reducible apply Blk.other | (with_reducible refine Blk.new ?_; simp; done) | with_reducible apply Blk.alloc | omega)); rfl), (by apply Blk.eq; (repeat' (first | with_reducible assumption | with_reducible apply Blk.set | with_reducible apply Blk.other | (with_reducible refine Blk.new ?_; simp; done) | with_reducible apply Blk.alloc | omega)); rfl), (by apply Blk.eq; (repeat' (first | with_reducible assumption | with_reducible apply Blk.set | with_reducible apply Blk.other | (with_reducible refine Blk.new ?_; simp; done) | with_reducible apply Blk.alloc | omega)); rfl), (by apply Blk.eq; (repeat' (first | with_reducible assumption | with_reducible apply Blk.set | with_reducible apply Blk.other | (with_reducible refine Blk.new ?_; simp; done) | with_reducible apply Blk.alloc | omega)); rfl), (by apply Blk.eq; (repeat' (first | with_reducible assumption | with_reducible apply Blk.set | with_reducible apply Blk.other | (with_reducible refine Blk.new ?_; simp; done) | with_reducible apply Blk.alloc | omega)); rfl), (by apply Blk.eq; (repeat' (first | with_reducible assumption | with_reducible apply Blk.set | with_reducible apply Blk.other | (with_reducible refine Blk.new ?_; simp; done) | with_reducible apply Blk.alloc | omega)); rfl), (by repeat' (first | with_reducible assumption | with_reducible exact Below.refl _ _ | with_reducible refine allocB ?_ | with_reducible refine setB ?_ ?_ | with_reducible refine drewB ?_ | with_reducible refine after ?_ (by assumption) | (simp; omega) | omega))⟩ ?_
      clear f8 g8 z8
      clear f9 g9 z9
      clear f11 g11 z11
      clear f13 g13 z13
      clear f15 g15 z15
      clear k8 k9 k11 k13 k15 hb0
      rintro w7a ⟨k8, k9, k11, k13, k15, k16, hb0⟩
      generalize w7.heap.size = b16 at *
      obtain ⟨f8, g8, z8⟩ := k8.facts
      obtain ⟨f9, g9, z9⟩ := k9.facts
      obtain ⟨f11, g11, z11⟩ := k11.facts
      obtain ⟨f13, g13, z13⟩ := k13.facts
      obtain ⟨f15, g15, z15⟩ := k15.facts
      obtain ⟨f16, g16, z16⟩ := k16.facts
      refine (h1 w7a).mono ?_; rintro e w8 ⟨rfl, hb8⟩
      replace k8 := k8.below hb8
      replace k9 := k9.below hb8
      replace k11 := k11.below hb8
      replace k13 := k13.below hb8
      replace k15 := k15.below hb8
      replace k16 := k16.below hb8
      replace hb0 : Below w.heap.size w w8 := after hb0 hb8
      clear f8 g8 z8
      clear f9 g9 z9
      clear f11 g11 z11
      clear f13 g13 z13
      clear f15 g15 z15
      clear f16 g16 z16
      clear hb8
      obtain ⟨f8, g8, z8⟩ := k8.facts
      obtain ⟨f9, g9, z9⟩ := k9.facts
      obtain ⟨f11, g11, z11⟩ := k11.facts
      obtain ⟨f13, g13, z13⟩ := k13.facts
      obtain ⟨f15, g15, z15⟩ := k15.facts
      obtain ⟨f16, g16, z16⟩ := k16.facts
      go_wp2_with fail
      refine (h2 w8).mono ?_; rintro e w9 ⟨rfl, hb9⟩
      replace k8 := k8.below hb9
      replace k9 := k9.below hb9
      replace k11 := k11.below hb9
      replace k13 := k13.below hb9
      replace k15 := k15.below hb9
      replace k16 := k16.below hb9
      replace hb0 : Below w.heap.size w w9 := after hb0 hb9
      clear f8 g8 z8
      clear f9 g9 z9
      clear f11 g11 z11
      clear f13 g13 z13
      clear f15 g15 z15
      clear f16 g16 z16
      clear hb9
      obtain ⟨f8, g8, z8⟩ := k8.facts
      obtain ⟨f9, g9, z9⟩ := k9.facts
      obtain ⟨f11, g11, z11⟩ := k11.facts
      obtain ⟨f13, g13, z13⟩ := k13.facts
      obtain ⟨f15, g15, z15⟩ := k15.facts
      obtain ⟨f16, g16, z16⟩ := k16.facts
      go_wp2_with fail
      refine (h3 w9).mono ?_; rintro e w10 ⟨rfl, hb10⟩
      replace k8 := k8.below hb10
      replace k9 := k9.below hb10
      replace k11 := k11.below hb10
      replace k13 := k13.below hb10
      replace k15 := k15.below hb10
      replace k16 := k16.below hb10
      replace hb0 : Below w.heap.size w w10 := after hb0 hb10
      clear f8 g8 z8
      clear f9 g9 z9
      clear f11 g11 z11
      clear f13 g13 z13
      clear f15 g15 z15
      clear f16 g16 z16
      clear hb10
      obtain ⟨f8, g8, z8⟩ := k8.facts
      obtain ⟨f9, g9, z9⟩ := k9.facts
      obtain ⟨f11, g11, z11⟩ := k11.facts
      obtain ⟨f13, g13, z13⟩ := k13.facts
      obtain ⟨f15, g15, z15⟩ := k15.facts
      obtain ⟨f16, g16, z16⟩ := k16.facts
      go_wp2
      go_ret; exact Ret.mk' rfl (by repeat' (first | with_reducible assumption | with_reducible exact Below.refl _ _ | with_reducible refine allocB ?_ | with_reducible refine setB ?_ ?_ | with_reducible refine drewB ?_ | with_reducible refine after ?_ (by assumption) | (simp; omega) | omega))
    · have q1 := Hd.out.2.1 (by omega); have q2 := Hd.out.2.2.2 (by omega); clear Hd; subst q1; subst q2
      go_wp2_with fail
      refine calls_abs (fun W => Blk W (b8) #[.string t, .int .i64 R, .int .i64 C, .bool x, .bool y, .bool false] ∧ Blk W (b9) #[.string u, .int .i64 P, .int .i64 Q, .bool x', .bool y', .bool false] ∧ Blk W (b11) #[.int .i64 s, .int .i64 X2, .int .i64 X3, .int .i64 (R - P + 1), .int .i64 (C - Q + 1)] ∧ Blk W (b13) #[.int .i64 s, .int .i64 X2, .int .i64 X3, .int .i64 (R - P + 1), .int .i64 (C - Q + 1)] ∧ Blk W (b13 + 1) #[.string ⟨#[]⟩, .int .i64 R, .int .i64 C, .bool false, .bool false, .bool false] ∧ Blk W (w7.heap.size) #[.int .i64 s, .int .i64 X2, .int .i64 X3, .int .i64 (R - P + 1), .int .i64 (C - Q + 1)] ∧ Below w.heap.size w W) ⟨(by apply Blk.eq; (repeat' (first | with_reducible assumption | with_reducible apply Blk.set | with_reducible apply Blk.other | (with_reducible refine Blk.new ?_; simp; done) | with_reducible apply Blk.alloc | omega)); rfl), (by apply Blk.eq; (repeat' (first | with_reducible assumption | with_reducible apply Blk.set | with_reducible apply Blk.other | (with_reducible refine Blk.new ?_; simp; done) | with_reducible apply Blk.alloc | omega)); rfl), (by apply Blk.eq; (repeat' (first | with_reducible assumption | with_reducible apply Blk.set | with_reducible apply Blk.other | (with_reducible refine Blk.new ?_; simp; done) | with_reducible apply Blk.alloc | omega)); rfl), (by apply Blk.eq; (repeat' (first | with_reducible assumption | with_reducible apply Blk.set | with_reducible apply Blk.other | (with_reducible refine Blk.new ?_; simp; done) | with_reducible apply Blk.alloc | omega)); rfl), (by apply Blk.eq; (repeat' (first | with_reducible assumption | with_reducible apply Blk.set | with_reducible apply Blk.other | (with_reducible refine Blk.new ?_; simp; done) | with_reducible apply Blk.alloc | omega)); rfl), (by apply Blk.eq; (repeat' (first | with_reducible assumption | with_reducible apply Blk.set | with_reducible apply Blk.other | (with_reducible refine Blk.new ?_; simp; done) | with_reducible apply Blk.alloc | omega)); rfl), (by repeat' (first | with_reducible assumption | with_reducible exact Below.refl _ _ | with_reducible refine allocB ?_ | with_reducible refine setB ?_ ?_ | with_reducible refine drewB ?_ | with_reducible refine after ?_ (by assumption) | (simp; omega) | omega))⟩ ?_
      clear f8 g8 z8
      clear f9 g9 z9
      clear f11 g11 z11
      clear f13 g13 z13
      clear f15 g15 z15
      clear k8 k9 k11 k13 k15 hb0
      rintro w7a ⟨k8, k9, k11, k13, k15, k16, hb0⟩
      generalize w7.heap.size = b16 at *
      obtain ⟨f8, g8, z8⟩ := k8.facts
      obtain ⟨f9, g9, z9⟩ := k9.facts
      obtain ⟨f11, g11, z11⟩ := k11.facts
      obtain ⟨f13, g13, z13⟩ := k13.facts
      obtain ⟨f15, g15, z15⟩ := k15.facts
      obtain ⟨f16, g16, z16⟩ := k16.facts
      refine (h1 w7a).mono ?_; rintro e w8 ⟨rfl, hb8⟩
      replace k8 := k8.below hb8
      replace k9 := k9.below hb8
      replace k11 := k11.below hb8
      replace k13 := k13.below hb8
      replace k15 := k15.below hb8
      replace k16 := k16.below hb8
      replace hb0 : Below w.heap.size w w8 := after hb0 hb8
      clear f8 g8 z8
      clear f9 g9 z9
      clear f11 g11 z11
      clear f13 g13 z13
      clear f15 g15 z15
      clear f16 g16 z16
      clear hb8
      obtain ⟨f8, g8, z8⟩ := k8.facts
      obtain ⟨f9, g9, z9⟩ := k9.facts
      obtain ⟨f11, g11, z11⟩ := k11.facts
      obtain ⟨f13, g13, z13⟩ := k13.facts
      obtain ⟨f15, g15, z15⟩ := k15.facts
      obtain ⟨f16, g16, z16⟩ := k16.facts
      go_wp2_with fail
      refine (h2 w8).mono ?_; rintro e w9 ⟨rfl, hb9⟩
      replace k8 := k8.below hb9
      replace k9 := k9.below hb9
      replace k11 := k11.below hb9
      replace k13 := k13.below hb9
      replace k15 := k15.below hb9
      replace k16 := k16.below hb9
      replace hb0 : Below w.heap.size w w9 := after hb0 hb9
      clear f8 g8 z8
      clear f9 g9 z9
      clear f11 g11 z11
      clear f13 g13 z13
      clear f15 g15 z15
      clear f16 g16 z16
      clear hb9
      obtain ⟨f8, g8, z8⟩ := k8.facts
      obtain ⟨f9, g9, z9⟩ := k9.facts
      obtain ⟨f11, g11, z11⟩ := k11.facts
      obtain ⟨f13, g13, z13⟩ := k13.facts
      obtain ⟨f15, g15, z15⟩ := k15.facts
      obtain ⟨f16, g16, z16⟩ := k16.facts
      go_wp2_with fail
      refine (h3 w9).mono ?_; rintro e w10 ⟨rfl, hb10⟩
      replace k8 := k8.below hb10
      replace k9 := k9.below hb10
      replace k11 := k11.below hb10
      replace k13 := k13.below hb10
      replace k15 := k15.below hb10
      replace k16 := k16.below hb10
      replace hb0 : Below w.heap.size w w10 := after hb0 hb10
      clear f8 g8 z8
      clear f9 g9 z9
      clear f11 g11 z11
      clear f13 g13 z13
      clear f15 g15 z15
      clear f16 g16 z16
      clear hb10
      obtain ⟨f8, g8, z8⟩ := k8.facts
      obtain ⟨f9, g9, z9⟩ := k9.facts
      obtain ⟨f11, g11, z11⟩ := k11.facts
      obtain ⟨f13, g13, z13⟩ := k13.facts
      obtain ⟨f15, g15, z15⟩ := k15.facts
      obtain ⟨f16, g16, z16⟩ := k16.facts
      go_wp2
      go_ret; exact Ret.mk' rfl (by repeat' (first | with_reducible assumption | with_reducible exact Below.refl _ _ | with_reducible refine allocB ?_ | with_reducible refine setB ?_ ?_ | with_reducible refine drewB ?_ | with_reducible refine after ?_ (by assumption) | (simp; omega) | omega))
end Go.Proofs.YtmeiboajpbflcaaDoor
