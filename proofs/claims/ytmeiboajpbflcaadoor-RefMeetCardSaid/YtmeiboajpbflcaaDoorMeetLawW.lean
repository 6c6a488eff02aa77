/- The law RefMeet: its walk. -/
import Derived.Test.YtmeiboajpbflcaaDoorUses
namespace Go.Proofs.YtmeiboajpbflcaaDoor
open Go.RowKit Tab

set_option maxRecDepth 100000 in
set_option maxHeartbeats 8000000 in
theorem Meet_walk (a1 a2 a3 a4 a5 : Int) (b1 b2 b3 b4 b5 : Int) (c1 c2 c3 c4 c5 : Int) (t1 t2 t3 : Int) (w : World) (hg : Good w) (x1 x2 x3 x4 x5 : Int) (y1 y2 y3 y4 y5 : Int) (z1 z2 z3 z4 z5 : Int) (p1 p2 p3 : Int)
    (cX : ∀ W, Calls Tryd.prog 20 #[.agg #[.int .i64 a1, .int .i64 a2, .int .i64 a3, .int .i64 a4, .int .i64 a5]] W (Ret (.agg #[.int .i64 x1, .int .i64 x2, .int .i64 x3, .int .i64 x4, .int .i64 x5]) W)) (cY : ∀ W, Calls Tryd.prog 20 #[.agg #[.int .i64 b1, .int .i64 b2, .int .i64 b3, .int .i64 b4, .int .i64 b5]] W (Ret (.agg #[.int .i64 y1, .int .i64 y2, .int .i64 y3, .int .i64 y4, .int .i64 y5]) W)) (cZ : ∀ W, Calls Tryd.prog 20 #[.agg #[.int .i64 c1, .int .i64 c2, .int .i64 c3, .int .i64 c4, .int .i64 c5]] W (Ret (.agg #[.int .i64 z1, .int .i64 z2, .int .i64 z3, .int .i64 z4, .int .i64 z5]) W))
    (cP : ∀ W, Calls Tryd.prog 21 #[.agg #[.int .i64 t1, .int .i64 t2, .int .i64 t3]] W (Ret (.agg #[.int .i64 p1, .int .i64 p2, .int .i64 p3]) W))
    (m1 m2 m3 m4 m5 : Int) (B : Bool) (E1 : meetA ⟨x1, x2, x3, x4, x5⟩ ⟨y1, y2, y3, y4, y5⟩ = ⟨m1, m2, m3, m4, m5⟩) (F1 : meetB ⟨x1, x2, x3, x4, x5⟩ ⟨y1, y2, y3, y4, y5⟩ = B) (E2 : meetA ⟨y1, y2, y3, y4, y5⟩ ⟨x1, x2, x3, x4, x5⟩ = ⟨m1, m2, m3, m4, m5⟩) (F2 : meetB ⟨y1, y2, y3, y4, y5⟩ ⟨x1, x2, x3, x4, x5⟩ = B) (E3 : meetA ⟨x1, x2, x3, x4, x5⟩ ⟨x1, x2, x3, x4, x5⟩ = ⟨x1, x2, x3, x4, x5⟩) (F3 : meetB ⟨x1, x2, x3, x4, x5⟩ ⟨x1, x2, x3, x4, x5⟩ = true)
    (h1 h2 : Bool) (H1 : hasB ⟨x1, x2, x3, x4, x5⟩ p1 p2 p3 = h1) (H2 : hasB ⟨y1, y2, y3, y4, y5⟩ p1 p2 p3 = h2) (H3 : hasB ⟨m1, m2, m3, m4, m5⟩ p1 p2 p3 = (h1 && h2))
    (hz : B = false → m1 = 0 ∧ m2 = 0 ∧ m3 = 0 ∧ m4 = 0 ∧ m5 = 0)
    (r1 r2 : Int) (hr : B = true → 0 ≤ r1 ∧ r1 < 200 ∧ 0 ≤ r2 ∧ r2 < 52) (g1 : B = true → IntKind.i64.wrap (m2 + m4) = r1 + 1) (g2 : B = true → IntKind.i64.wrap (r1 + 1 - 1) = r1) (g3 : B = true → IntKind.i64.wrap (m3 + m5) = r2 + 1) (g4 : B = true → IntKind.i64.wrap (r2 + 1 - 1) = r2)
    (K1 : B = true → hasB ⟨x1, x2, x3, x4, x5⟩ m1 m2 m3 = true) (K2 : B = true → hasB ⟨y1, y2, y3, y4, y5⟩ m1 m2 m3 = true) (K3 : B = true → hasB ⟨x1, x2, x3, x4, x5⟩ m1 r1 r2 = true) (K4 : B = true → hasB ⟨y1, y2, y3, y4, y5⟩ m1 r1 r2 = true)
    (u1 u2 u3 u4 u5 : Int) (i1 i2 i3 i4 i5 : Int) (v1 v2 v3 v4 v5 : Int) (sm ev : Bool) (E4 : meetA ⟨m1, m2, m3, m4, m5⟩ ⟨z1, z2, z3, z4, z5⟩ = ⟨u1, u2, u3, u4, u5⟩) (F4 : B = true → meetB ⟨m1, m2, m3, m4, m5⟩ ⟨z1, z2, z3, z4, z5⟩ = (sm && ev)) (E5 : meetA ⟨y1, y2, y3, y4, y5⟩ ⟨z1, z2, z3, z4, z5⟩ = ⟨i1, i2, i3, i4, i5⟩) (F5 : meetB ⟨y1, y2, y3, y4, y5⟩ ⟨z1, z2, z3, z4, z5⟩ = sm) (E6 : meetA ⟨x1, x2, x3, x4, x5⟩ ⟨i1, i2, i3, i4, i5⟩ = ⟨v1, v2, v3, v4, v5⟩) (F6 : meetB ⟨x1, x2, x3, x4, x5⟩ ⟨i1, i2, i3, i4, i5⟩ = ev)
    (huv : B = true → (sm && ev) = true → u1 = v1 ∧ u2 = v2 ∧ u3 = v3 ∧ u4 = v4 ∧ u5 = v5) :
    Calls Tryd.prog 7 #[.agg #[.int .i64 a1, .int .i64 a2, .int .i64 a3, .int .i64 a4, .int .i64 a5], .agg #[.int .i64 b1, .int .i64 b2, .int .i64 b3, .int .i64 b4, .int .i64 b5], .agg #[.int .i64 c1, .int .i64 c2, .int .i64 c3, .int .i64 c4, .int .i64 c5], .agg #[.int .i64 t1, .int .i64 t2, .int .i64 t3]] w (Ret (.bool true) w) := by
  have Hg4 := Lib.hid (And.intro g1 (And.intro g2 (And.intro g3 g4)))
  have HK := Lib.hid (And.intro K1 (And.intro K2 (And.intro K3 K4)))
  have Hz := Lib.hid hz
  have Huv := Lib.hid huv
  have HF4 := Lib.hid F4
  have Hr := Lib.hid hr
  clear hr g1 g2 g3 g4 K1 K2 K3 K4 hz huv F4
  go_enter Tryd.func7, Tryd.ntmps7
  go_wp2_with fail
  refine calls_abs (fun W => Blk W (w.heap.size) #[.int .i64 a1, .int .i64 a2, .int .i64 a3, .int .i64 a4, .int .i64 a5] ∧ Blk W (w.heap.size + 1) #[.int .i64 b1, .int .i64 b2, .int .i64 b3, .int .i64 b4, .int .i64 b5] ∧ Blk W (w.heap.size + 1 + 1) #[.int .i64 c1, .int .i64 c2, .int .i64 c3, .int .i64 c4, .int .i64 c5] ∧ Blk W (w.heap.size + 1 + 1 + 1) #[.int .i64 t1, .int .i64 t2, .int .i64 t3] ∧ Below w.heap.size w W) ⟨(by apply Blk.eq; (repeat' (first | with_reducible assumption | with_reducible apply Blk.set | with_reducible apply Blk.other | (with_reducible refine Blk.new ?_; simp; done) | with_reducible apply Blk.alloc | omega)); rfl), (by apply Blk.eq; (repeat' (first | with_reducible assumption | with_reducible apply Blk.set | with_reducible apply Blk.other | (with_reducible refine Blk.new ?_; simp; done) | with_reducible apply Blk.alloc | omega)); rfl), (by apply Blk.eq; (repeat' (first | with_reducible assumption | with_reducible apply Blk.set | with_reducible apply Blk.other | (with_reducible refine Blk.new ?_; simp; done) | with_reducible apply Blk.alloc | omega)); rfl), (by apply Blk.eq; (repeat' (first | with_reducible assumption | with_reducible apply Blk.set | with_reducible apply Blk.other | (with_reducible refine Blk.new ?_; simp; done) | with_reducible apply Blk.alloc | omega)); rfl), (by repeat' (first | with_reducible assumption | with_reducible exact Below.refl _ _ | with_reducible refine allocB ?_ | with_reducible refine setB ?_ ?_ | with_reducible refine drewB ?_ | with_reducible refine after ?_ (by assumption) | (simp; omega) | omega))⟩ ?_
  rintro wa ⟨k4, k5, k6, k7, hb0⟩
  obtain ⟨f4, g4, z4⟩ := k4.facts
  obtain ⟨f5, g5, z5⟩ := k5.facts
  obtain ⟨f6, g6, z6⟩ := k6.facts
  obtain ⟨f7, g7, z7⟩ := k7.facts
  refine (awake_any wa (hg.below hb0)).mono ?_; rintro e w1 ⟨rfl, hb1⟩
  replace k4 := k4.below hb1
  replace k5 := k5.below hb1
  replace k6 := k6.below hb1
  replace k7 := k7.below hb1
  replace hb0 : Below w.heap.size w w1 := after hb0 hb1
  clear f4 g4 z4
  clear f5 g5 z5
  clear f6 g6 z6
  clear f7 g7 z7
  clear hb1
  obtain ⟨f4, g4, z4⟩ := k4.facts
  obtain ⟨f5, g5, z5⟩ := k5.facts
  obtain ⟨f6, g6, z6⟩ := k6.facts
  obtain ⟨f7, g7, z7⟩ := k7.facts
  go_wp2_with fail
  refine (cX w1).mono ?_; rintro e w2 ⟨rfl, hb2⟩
  replace k4 := k4.below hb2
  replace k5 := k5.below hb2
  replace k6 := k6.below hb2
  replace k7 := k7.below hb2
  replace hb0 : Below w.heap.size w w2 := after hb0 hb2
  clear f4 g4 z4
  clear f5 g5 z5
  clear f6 g6 z6
  clear f7 g7 z7
  clear hb2
  obtain ⟨f4, g4, z4⟩ := k4.facts
  obtain ⟨f5, g5, z5⟩ := k5.facts
  obtain ⟨f6, g6, z6⟩ := k6.facts
  obtain ⟨f7, g7, z7⟩ := k7.facts
  clear k4 f4 g4 z4
  go_wp2_with fail
  refine calls_abs (fun W => Blk W (w.heap.size + 1) #[.int .i64 b1, .int .i64 b2, .int .i64 b3, .int .i64 b4, .int .i64 b5] ∧ Blk W (w.heap.size + 1 + 1) #[.int .i64 c1, .int .i64 c2, .int .i64 c3, .int .i64 c4, .int .i64 c5] ∧ Blk W (w.heap.size + 1 + 1 + 1) #[.int .i64 t1, .int .i64 t2, .int .i64 t3] ∧ Blk W (w2.heap.size) #[.int .i64 x1, .int .i64 x2, .int .i64 x3, .int .i64 x4, .int .i64 x5] ∧ Below w.heap.size w W) ⟨(by apply Blk.eq; (repeat' (first | with_reducible assumption | with_reducible apply Blk.set | with_reducible apply Blk.other | (with_reducible refine Blk.new ?_; simp; done) | with_reducible apply Blk.alloc | omega)); rfl), (by apply Blk.eq; (repeat' (first | with_reducible assumption | with_reducible apply Blk.set | with_reducible apply Blk.other | (with_reducible refine Blk.new ?_; simp; done) | with_reducible apply Blk.alloc | omega)); rfl), (by apply Blk.eq; (repeat' (first | with_reducible assumption | with_reducible apply Blk.set | with_reducible apply Blk.other | (with_reducible refine Blk.new ?_; simp; done) | with_reducible apply Blk.alloc | omega)); rfl), (by apply Blk.eq; (repeat' (first | with_reducible assumption | with_reducible apply Blk.set | with_reducible apply Blk.other | (with_reducible refine Blk.new ?_; simp; done) | with_reducible apply Blk.alloc | omega)); rfl), (by repeat' (first | with_reducible assumption | with_reducible exact Below.refl _ _ | with_reducible refine allocB ?_ | with_reducible refine setB ?_ ?_ | with_reducible refine drewB ?_ | with_reducible refine after ?_ (by assumption) | (simp; omega) | omega))⟩ ?_
  clear f5 g5 z5
  clear f6 g6 z6
  clear f7 g7 z7
  clear k5 k6 k7 hb0
  rintro w2a ⟨k5, k6, k7, k10, hb0⟩
  generalize w2.heap.size = b10 at *
  obtain ⟨f5, g5, z5⟩ := k5.facts
  obtain ⟨f6, g6, z6⟩ := k6.facts
  obtain ⟨f7, g7, z7⟩ := k7.facts
  obtain ⟨f10, g10, z10⟩ := k10.facts
  refine (cY w2a).mono ?_; rintro e w3 ⟨rfl, hb3⟩
  replace k5 := k5.below hb3
  replace k6 := k6.below hb3
  replace k7 := k7.below hb3
  replace k10 := k10.below hb3
  replace hb0 : Below w.heap.size w w3 := after hb0 hb3
  clear f5 g5 z5
  clear f6 g6 z6
  clear f7 g7 z7
  clear f10 g10 z10
  clear hb3
  obtain ⟨f5, g5, z5⟩ := k5.facts
  obtain ⟨f6, g6, z6⟩ := k6.facts
  obtain ⟨f7, g7, z7⟩ := k7.facts
  obtain ⟨f10, g10, z10⟩ := k10.facts
  clear k5 f5 g5 z5
  go_wp2_with fail
  refine calls_abs (fun W => Blk W (w.heap.size + 1 + 1) #[.int .i64 c1, .int .i64 c2, .int .i64 c3, .int .i64 c4, .int .i64 c5] ∧ Blk W (w.heap.size + 1 + 1 + 1) #[.int .i64 t1, .int .i64 t2, .int .i64 t3] ∧ Blk W (b10) #[.int .i64 x1, .int .i64 x2, .int .i64 x3, .int .i64 x4, .int .i64 x5] ∧ Blk W (w3.heap.size) #[.int .i64 y1, .int .i64 y2, .int .i64 y3, .int .i64 y4, .int .i64 y5] ∧ Below w.heap.size w W) ⟨(by apply Blk.eq; (repeat' (first | with_reducible assumption | with_reducible apply Blk.set | with_reducible apply Blk.other | (with_reducible refine Blk.new ?_; simp; done) | with_reducible apply Blk.alloc | omega)); rfl), (by apply Blk.eq; (repeat' (first | with_reducible assumption | with_reducible apply Blk.set | with_reducible apply Blk.other | (with_reducible refine Blk.new ?_; simp; done) | with_reducible apply Blk.alloc | omega)); rfl), (by apply Blk.eq; (repeat' (first | with_reducible assumption | with_reducible apply Blk.set | with_reducible apply Blk.other | (with_reducible refine Blk.new ?_; simp; done) | with_reducible apply Blk.alloc | omega)); rfl), (by apply Blk.eq; (repeat' (first | with_reducible assumption | with_reducible apply Blk.set | with_reducible apply Blk.other | (with_reducible refine Blk.new ?_; simp; done) | with_reducible apply Blk.alloc | omega)); rfl), (by repeat' (first | with_reducible assumption | with_reducible exact Below.refl _ _ | with_reducible refine allocB ?_ | with_reducible refine setB ?_ ?_ | with_reducible refine drewB ?_ | with_reducible refine after ?_ (by assumption) | (simp; omega) | omega))⟩ ?_
  clear f6 g6 z6
  clear f7 g7 z7
  clear f10 g10 z10
  clear k6 k7 k10 hb0
  rintro w3a ⟨k6, k7, k10, k11, hb0⟩
  generalize w3.heap.size = b11 at *
  obtain ⟨f6, g6, z6⟩ := k6.facts
  obtain ⟨f7, g7, z7⟩ := k7.facts
  obtain ⟨f10, g10, z10⟩ := k10.facts
  obtain ⟨f11, g11, z11⟩ := k11.facts
  refine (cZ w3a).mono ?_; rintro e w4 ⟨rfl, hb4⟩
  replace k6 := k6.below hb4
  replace k7 := k7.below hb4
  replace k10 := k10.below hb4
  replace k11 := k11.below hb4
  replace hb0 : Below w.heap.size w w4 := after hb0 hb4
  clear f6 g6 z6
  clear f7 g7 z7
  clear f10 g10 z10
  clear f11 g11 z11
  clear hb4
  obtain ⟨f6, g6, z6⟩ := k6.facts
  obtain ⟨f7, g7, z7⟩ := k7.facts
  obtain ⟨f10, g10, z10⟩ := k10.facts
  obtain ⟨f11, g11, z11⟩ := k11.facts
  clear k6 f6 g6 z6
  go_wp2_with fail
  refine calls_abs (fun W => Blk W (w.heap.size + 1 + 1 + 1) #[.int .i64 t1, .int .i64 t2, .int .i64 t3] ∧ Blk W (b10) #[.int .i64 x1, .int .i64 x2, .int .i64 x3, .int .i64 x4, .int .i64 x5] ∧ Blk W (b11) #[.int .i64 y1, .int .i64 y2, .int .i64 y3, .int .i64 y4, .int .i64 y5] ∧ Blk W (w4.heap.size) #[.int .i64 z1, .int .i64 z2, .int .i64 z3, .int .i64 z4, .int .i64 z5] ∧ Below w.heap.size w W) ⟨(by apply Blk.eq; (repeat' (first | with_reducible assumption | with_reducible apply Blk.set | with_reducible apply Blk.other | (with_reducible refine Blk.new ?_; simp; done) | with_reducible apply Blk.alloc | omega)); rfl), (by apply Blk.eq; (repeat' (first | with_reducible assumption | with_reducible apply Blk.set | with_reducible apply Blk.other | (with_reducible refine Blk.new ?_; simp; done) | with_reducible apply Blk.alloc | omega)); rfl), (by apply Blk.eq; (repeat' (first | with_reducible assumption | with_reducible apply Blk.set | with_reducible apply Blk.other | (with_reducible refine Blk.new ?_; simp; done) | with_reducible apply Blk.alloc | omega)); rfl), (by apply Blk.eq; (repeat' (first | with_reducible assumption | with_reducible apply Blk.set | with_reducible apply Blk.other | (with_reducible refine Blk.new ?_; simp; done) | with_reducible apply Blk.alloc | omega)); rfl), (by repeat' (first | with_reducible assumption | with_reducible exact Below.refl _ _ | with_reducible refine allocB ?_ | with_reducible refine setB ?_ ?_ | with_reducible refine drewB ?_ | with_reducible refine after ?_ (by assumption) | (simp; omega) | omega))⟩ ?_
  clear f7 g7 z7
  clear f10 g10 z10
  clear f11 g11 z11
  clear k7 k10 k11 hb0
  rintro w4a ⟨k7, k10, k11, k12, hb0⟩
  generalize w4.heap.size = b12 at *
  obtain ⟨f7, g7, z7⟩ := k7.facts
  obtain ⟨f10, g10, z10⟩ := k10.facts
  obtain ⟨f11, g11, z11⟩ := k11.facts
  obtain ⟨f12, g12, z12⟩ := k12.facts
  refine (cP w4a).mono ?_; rintro e w5 ⟨rfl, hb5⟩
  replace k7 := k7.below hb5
  replace k10 := k10.below hb5
  replace k11 := k11.below hb5
  replace k12 := k12.below hb5
  replace hb0 : Below w.heap.size w w5 := after hb0 hb5
  clear f7 g7 z7
  clear f10 g10 z10
  clear f11 g11 z11
  clear f12 g12 z12
  clear hb5
  obtain ⟨f7, g7, z7⟩ := k7.facts
  obtain ⟨f10, g10, z10⟩ := k10.facts
  obtain ⟨f11, g11, z11⟩ := k11.facts
  obtain ⟨f12, g12, z12⟩ := k12.facts
  clear k7 f7 g7 z7
  go_wp2_with fail
  refine calls_abs (fun W => Blk W (b10) #[.int .i64 x1, .int .i64 x2, .int .i64 x3, .int .i64 x4, .int .i64 x5] ∧ Blk W (b11) #[.int .i64 y1, .int .i64 y2, .int .i64 y3, .int .i64 y4, .int .i64 y5] ∧ Blk W (b12) #[.int .i64 z1, .int .i64 z2, .int .i64 z3, .int .i64 z4, .int .i64 z5] ∧ Blk W (w5.heap.size) #[.int .i64 p1, .int .i64 p2, .int .i64 p3] ∧ Below w.heap.size w W) ⟨(by apply Blk.eq; (repeat' (first | with_reducible assumption | with_reducible apply Blk.set | with_reducible apply Blk.other | (with_reducible refine Blk.new ?_; simp; done) | with_reducible apply Blk.alloc | omega)); rfl), (by apply Blk.eq; (repeat' (first | with_reducible assumption | with_reducible apply Blk.set | with_reducible apply Blk.other | (with_reducible refine Blk.new ?_; simp; done) | with_reducible apply Blk.alloc | omega)); rfl), (by apply Blk.eq; (repeat' (first | with_reducible assumption | with_reducible apply Blk.set | with_reducible apply Blk.other | (with_reducible refine Blk.new ?_; simp; done) | with_reducible apply Blk.alloc | omega)); rfl), (by apply Blk.eq; (repeat' (first | with_reducible assumption | with_reducible apply Blk.set | with_reducible apply Blk.other | (with_reducible refine Blk.new ?_; simp; done) | with_reducible apply Blk.alloc | omega)); rfl), (by repeat' (first | with_reducible assumption | with_reducible exact Below.refl _ _ | with_reducible refine allocB ?_ | with_reducible refine setB ?_ ?_ | with_reducible refine drewB ?_ | with_reducible refine after ?_ (by assumption) | (simp; omega) | omega))⟩ ?_
  clear f10 g10 z10
  clear f11 g11 z11
  clear f12 g12 z12
  clear k10 k11 k12 hb0
  rintro w5a ⟨k10, k11, k12, k13, hb0⟩
  generalize w5.heap.size = b13 at *
  obtain ⟨f10, g10, z10⟩ := k10.facts
  obtain ⟨f11, g11, z11⟩ := k11.facts
  obtain ⟨f12, g12, z12⟩ := k12.facts
  obtain ⟨f13, g13, z13⟩ := k13.facts
  refine (Meet_is E1 F1 w5a).mono ?_; rintro e w6 ⟨rfl, hb6⟩
  replace k10 := k10.below hb6
  replace k11 := k11.below hb6
  replace k12 := k12.below hb6
  replace k13 := k13.below hb6
  replace hb0 : Below w.heap.size w w6 := after hb0 hb6
  clear f10 g10 z10
  clear f11 g11 z11
  clear f12 g12 z12
  clear f13 g13 z13
  clear hb6
  obtain ⟨f10, g10, z10⟩ := k10.facts
  obtain ⟨f11, g11, z11⟩ := k11.facts
  obtain ⟨f12, g12, z12⟩ := k12.facts
  obtain ⟨f13, g13, z13⟩ := k13.facts
  go_wp2_with fail
  refine calls_abs (fun W => Blk W (b10) #[.int .i64 x1, .int .i64 x2, .int .i64 x3, .int .i64 x4, .int .i64 x5] ∧ Blk W (b11) #[.int .i64 y1, .int .i64 y2, .int .i64 y3, .int .i64 y4, .int .i64 y5] ∧ Blk W (b12) #[.int .i64 z1, .int .i64 z2, .int .i64 z3, .int .i64 z4, .int .i64 z5] ∧ Blk W (b13) #[.int .i64 p1, .int .i64 p2, .int .i64 p3] ∧ Blk W (w6.heap.size) #[.int .i64 m1, .int .i64 m2, .int .i64 m3, .int .i64 m4, .int .i64 m5] ∧ Below w.heap.size w W) ⟨(by apply Blk.eq; (repeat' (first | with_reducible assumption | with_reducible apply Blk.set | with_reducible apply Blk.other | (with_reducible refine Blk.new ?_; simp; done) | with_reducible apply Blk.alloc | omega)); rfl), (by apply Blk.eq; (repeat' (first | with_reducible assumption | with_reducible apply Blk.set | with_reducible apply Blk.other | (with_reducible refine Blk.new ?_; simp; done) | with_reducible apply Blk.alloc | omega)); rfl), (by apply Blk.eq; (repeat' (first | with_reducible assumption | with_reducible apply Blk.set | with_reducible apply Blk.other | (with_reducible refine Blk.new ?_; simp; done) | with_reducible apply Blk.alloc | omega)); rfl), (by apply Blk.eq; (repeat' (first | with_reducible assumption | with_reducible apply Blk.set | with_reducible apply Blk.other | (with_reducible refine Blk.new ?_; simp; done) | with_reducible apply Blk.alloc | omega)); rfl), (by apply Blk.eq; (repeat' (first | with_reducible assumption | with_reducible apply Blk.set | with_reducible apply Blk.other | (with_reducible refine Blk.new ?_; simp; done) | with_reducible apply Blk.alloc | omega)); rfl), (by repeat' (first | with_reducible assumption | with_reducible exact Below.refl _ _ | with_reducible refine allocB ?_ | with_reducible refine setB ?_ ?_ | with_reducible refine drewB ?_ | with_reducible refine after ?_ (by assumption) | (simp; omega) | omega))⟩ ?_
  clear f10 g10 z10
  clear f11 g11 z11
  clear f12 g12 z12
  clear f13 g13 z13
  clear k10 k11 k12 k13 hb0
  rintro w6a ⟨k10, k11, k12, k13, k14, hb0⟩
  generalize w6.heap.size = b14 at *
  obtain ⟨f10, g10, z10⟩ := k10.facts
  obtain ⟨f11, g11, z11⟩ := k11.facts
  obtain ⟨f12, g12, z12⟩ := k12.facts
  obtain ⟨f13, g13, z13⟩ := k13.facts
  obtain ⟨f14, g14, z14⟩ := k14.facts
  refine (Meet_is E2 F2 w6a).mono ?_; rintro e w7 ⟨rfl, hb7⟩
  replace k10 := k10.below hb7
  replace k11 := k11.below hb7
  replace k12 := k12.below hb7
  replace k13 := k13.below hb7
  replace k14 := k14.below hb7
  replace hb0 : Below w.heap.size w w7 := after hb0 hb7
  clear f10 g10 z10
  clear f11 g11 z11
  clear f12 g12 z12
  clear f13 g13 z13
  clear f14 g14 z14
  clear hb7
  obtain ⟨f10, g10, z10⟩ := k10.facts
  obtain ⟨f11, g11, z11⟩ := k11.facts
  obtain ⟨f12, g12, z12⟩ := k12.facts
  obtain ⟨f13, g13, z13⟩ := k13.facts
  obtain ⟨f14, g14, z14⟩ := k14.facts
  go_wp2_with fail
  refine calls_abs (fun W => Blk W (b10) #[.int .i64 x1, .int .i64 x2, .int .i64 x3, .int .i64 x4, .int .i64 x5] ∧ Blk W (b11) #[.int .i64 y1, .int .i64 y2, .int .i64 y3, .int .i64 y4, .int .i64 y5] ∧ Blk W (b12) #[.int .i64 z1, .int .i64 z2, .int .i64 z3, .int .i64 z4, .int .i64 z5] ∧ Blk W (b13) #[.int .i64 p1, .int .i64 p2, .int .i64 p3] ∧ Blk W (b14) #[.int .i64 m1, .int .i64 m2, .int .i64 m3, .int .i64 m4, .int .i64 m5] ∧ Blk W (w7.heap.size) #[.int .i64 m1, .int .i64 m2, .int .i64 m3, .int .i64 m4, .int .i64 m5] ∧ Below w.heap.size w W) ⟨(by apply Blk.eq; (repeat' (first | with_reducible assumption | with_reducible apply Blk.set | with_reducible apply Blk.other | (with_reducible refine Blk.new ?_; simp; done) | with_reducible apply Blk.alloc | omega)); rfl), (by apply Blk.eq; (repeat' (first | with_reducible assumption | with_reducible apply Blk.set | with_reducible apply Blk.other | (with_reducible refine Blk.new ?_; simp; done) | with_reducible apply Blk.alloc | omega)); rfl), (by apply Blk.eq; (repeat' (first | with_reducible assumption | with_reducible apply Blk.set | with_reducible apply Blk.other | (with_reducible refine Blk.new ?_; simp; done) | with_reducible apply Blk.alloc | omega)); rfl), (by apply Blk.eq; (repeat' (first | with_reducible assumption | with_reducible apply Blk.set | with_reducible apply Blk.other | (with_reducible refine Blk.new ?_; simp; done) | with_reducible apply Blk.alloc | omega)); rfl), (by apply Blk.eq; (repeat' (first | with_reducible assumption | with_reducible apply Blk.set | with_reducible apply Blk.other | (with_reducible refine Blk.new ?_; simp; done) | with_reducible apply Blk.alloc | omega)); rfl), (by apply Blk.eq; (repeat' (first | with_reducible assumption | with_reducible apply Blk.set | with_reducible apply Blk.other | (with_reducible refine Blk.new ?_; simp; done) | with_reducible apply Blk.alloc | omega)); rfl), (by repeat' (first | with_reducible assumption | with_reducible exact Below.refl _ _ | with_reducible refine allocB ?_ | with_reducible refine setB ?_ ?_ | with_reducible refine drewB ?_ | with_reducible refine after ?_ (by assumption) | (simp; omega) | omega))⟩ ?_
  clear f10 g10 z10
  clear f11 g11 z11
  clear f12 g12 z12
  clear f13 g13 z13
  clear f14 g14 z14
  clear k10 k11 k12 k13 k14 hb0
  rintro w7a ⟨k10, k11, k12, k13, k14, k16, hb0⟩
  generalize w7.heap.size = b16 at *
  obtain ⟨f10, g10, z10⟩ := k10.facts
  obtain ⟨f11, g11, z11⟩ := k11.facts
  obtain ⟨f12, g12, z12⟩ := k12.facts
  obtain ⟨f13, g13, z13⟩ := k13.facts
  obtain ⟨f14, g14, z14⟩ := k14.facts
  obtain ⟨f16, g16, z16⟩ := k16.facts
  refine (Meet_is E3 F3 w7a).mono ?_; rintro e w8 ⟨rfl, hb8⟩
  replace k10 := k10.below hb8
  replace k11 := k11.below hb8
  replace k12 := k12.below hb8
  replace k13 := k13.below hb8
  replace k14 := k14.below hb8
  replace k16 := k16.below hb8
  replace hb0 : Below w.heap.size w w8 := after hb0 hb8
  clear f10 g10 z10
  clear f11 g11 z11
  clear f12 g12 z12
  clear f13 g13 z13
  clear f14 g14 z14
  clear f16 g16 z16
  clear hb8
  obtain ⟨f10, g10, z10⟩ := k10.facts
  obtain ⟨f11, g11, z11⟩ := k11.facts
  obtain ⟨f12, g12, z12⟩ := k12.facts
  obtain ⟨f13, g13, z13⟩ := k13.facts
  obtain ⟨f14, g14, z14⟩ := k14.facts
  obtain ⟨f16, g16, z16⟩ := k16.facts
  go_wp2_with fail
  refine wp_abs2 (fun W => Blk W (b10) #[.int .i64 x1, .int .i64 x2, .int .i64 x3, .int .i64 x4, .int .i64 x5] ∧ Blk W (b11) #[.int .i64 y1, .int .i64 y2, .int .i64 y3, .int .i64 y4, .int .i64 y5] ∧ Blk W (b12) #[.int .i64 z1, .int .i64 z2, .int .i64 z3, .int .i64 z4, .int .i64 z5] ∧ Blk W (b13) #[.int .i64 p1, .int .i64 p2, .int .i64 p3] ∧ Blk W (b14) #[.int .i64 m1, .int .i64 m2, .int .i64 m3, .int .i64 m4, .int .i64 m5] ∧ Blk W (b16) #[.int .i64 m1, .int .i64 m2, .int .i64 m3, .int .i64 m4, .int .i64 m5] ∧ Blk W (w8.heap.size) #[.int .i64 x1, .int .i64 x2, .int .i64 x3, .int .i64 x4, .int .i64 x5] ∧ Below w.heap.size w W) ⟨(by apply Blk.eq; (repeat' (first | with_reducible assumption | with_reducible apply Blk.set | with_reducible apply Blk.other | (with_reducible refine Blk.new ?_; simp; done) | with_reducible apply Blk.alloc | omega)); rfl), (by apply Blk.eq; (repeat' (first | with_reducible assumption | with_reducible apply Blk.set | with_reducible apply Blk.other | (with_reducible refine Blk.new ?_; simp; done) | with_reducible apply Blk.alloc | omega)); rfl), (by apply Blk.eq; (repeat' (first | with_reducible assumption | with_reducible apply Blk.set | with_reducible apply Blk.other | (with_reducible refine Blk.new ?_; simp; done) | with_reducible apply Blk.alloc | omega)); rfl), (by apply Blk.eq; (repeat' (first | with_reducible assumption | with_reducible apply Blk.set | with_reducible apply Blk.other | (with_reducible refine Blk.new ?_; simp; done) | with_reducible apply Blk.alloc | omega)); rfl), (by apply Blk.eq; (repeat' (first | with_reducible assumption | with_reducible apply Blk.set | with_reducible apply Blk.other | (with_reducible refine Blk.new ?_; simp; done) | with_reducible apply Blk.alloc | omega)); rfl), (by apply Blk.eq; (repeat' (first | with_reducible assumption | with_reducible apply Blk.set | with_reducible apply Blk.other | (with_reducible refine Blk.new ?_; simp; done) | with_reducible apply Blk.alloc | omega)); rfl), (by apply Blk.eq; (repeat' (first | with_reducible assumption | with_reducible apply Blk.set | with_reducible apply Blk.other | (with_reducible refine Blk.new ?_; simp; done) | with_reducible apply Blk.alloc | omega)); rfl), (by repeat' (first | with_reducible assumption | with_reducible exact Below.refl _ _ | with_reducible refine allocB ?_ | with_reducible refine setB ?_ ?_ | with_reducible refine drewB ?_ | with_reducible refine after ?_ (by assumption) | (simp; omega) | omega))⟩ ?_
  clear f10 g10 z10
  clear f11 g11 z11
  clear f12 g12 z12
  clear f13 g13 z13
  clear f14 g14 z14
  clear f16 g16 z16
  clear k10 k11 k12 k13 k14 k16 hb0
  rintro w8a ⟨k10, k11, k12, k13, k14, k16, k18, hb0⟩
  generalize w8.heap.size = b18 at *
  obtain ⟨f10, g10, z10⟩ := k10.facts
  obtain ⟨f11, g11, z11⟩ := k11.facts
  obtain ⟨f12, g12, z12⟩ := k12.facts
  obtain ⟨f13, g13, z13⟩ := k13.facts
  obtain ⟨f14, g14, z14⟩ := k14.facts
  obtain ⟨f16, g16, z16⟩ := k16.facts
  obtain ⟨f18, g18, z18⟩ := k18.facts
  clear cX cY cZ cP hg E1 F1 E2 F2 E3 F3
  cases B
  · obtain ⟨rfl, rfl, rfl, rfl, rfl⟩ := Hz.out (by first | exact rfl | trivial)
    clear Hr Hz Huv HF4 Hg4 HK E4 E5 F5 E6 F6
    cases h1 <;> cases h2
    all_goals (
        simp only [Bool.false_and, Bool.true_and] at H3
        have kc := gcell w8a
        refine region_below (by kernel_rfl) (by kernel_rfl) ?_
        repeat (quiet_step (exact Ret.grown (fun W _ => Has_any _ _ _ _ _ _ _ _ W)))
        refine wpQuiet_nil ?_
        intro wr hbr
        clear kc
        replace k10 := k10.below hbr
        replace k11 := k11.below hbr
        replace k12 := k12.below hbr
        replace k13 := k13.below hbr
        replace k14 := k14.below hbr
        replace k16 := k16.below hbr
        replace k18 := k18.below hbr
        replace hb0 : Below w.heap.size w wr := after hb0 hbr
        clear f10 g10 z10
        clear f11 g11 z11
        clear f12 g12 z12
        clear f13 g13 z13
        clear f14 g14 z14
        clear f16 g16 z16
        clear f18 g18 z18
        clear hbr
        obtain ⟨f10, g10, z10⟩ := k10.facts
        obtain ⟨f11, g11, z11⟩ := k11.facts
        obtain ⟨f12, g12, z12⟩ := k12.facts
        obtain ⟨f13, g13, z13⟩ := k13.facts
        obtain ⟨f14, g14, z14⟩ := k14.facts
        obtain ⟨f16, g16, z16⟩ := k16.facts
        obtain ⟨f18, g18, z18⟩ := k18.facts
        go_wp2
        go_ret; exact Ret.mk' rfl (by repeat' (first | with_reducible assumption | with_reducible exact Below.refl _ _ | with_reducible refine allocB ?_ | with_reducible refine setB ?_ ?_ | with_reducible refine drewB ?_ | with_reducible refine after ?_ (by assumption) | (simp; omega) | omega)))
  · clear Hz
    obtain ⟨g1, g2, g3, g4⟩ : _ ∧ _ ∧ _ ∧ _ := ⟨Hg4.out.1 rfl, Hg4.out.2.1 rfl, Hg4.out.2.2.1 rfl, Hg4.out.2.2.2 rfl⟩
    obtain ⟨K1, K2, K3, K4⟩ : _ ∧ _ ∧ _ ∧ _ := ⟨HK.out.1 rfl, HK.out.2.1 rfl, HK.out.2.2.1 rfl, HK.out.2.2.2 rfl⟩
    have F4 := HF4.out rfl
    obtain ⟨qr1, qr2, qr3, qr4⟩ := Hr.out rfl
    clear Hg4 HK HF4 Hr
    cases h1 <;> cases h2
    all_goals (
        simp only [Bool.false_and, Bool.true_and] at H3
        have kc := gcell w8a
        refine region_below (by kernel_rfl) (by kernel_rfl) ?_
        repeat (quiet_step (exact Ret.grown (fun W _ => Has_any _ _ _ _ _ _ _ _ W)))
        refine wpQuiet_nil ?_
        intro wr hbr
        clear kc
        replace k10 := k10.below hbr
        replace k11 := k11.below hbr
        replace k12 := k12.below hbr
        replace k13 := k13.below hbr
        replace k14 := k14.below hbr
        replace k16 := k16.below hbr
        replace k18 := k18.below hbr
        replace hb0 : Below w.heap.size w wr := after hb0 hbr
        clear f10 g10 z10
        clear f11 g11 z11
        clear f12 g12 z12
        clear f13 g13 z13
        clear f14 g14 z14
        clear f16 g16 z16
        clear f18 g18 z18
        clear hbr
        obtain ⟨f10, g10, z10⟩ := k10.facts
        obtain ⟨f11, g11, z11⟩ := k11.facts
        obtain ⟨f12, g12, z12⟩ := k12.facts
        obtain ⟨f13, g13, z13⟩ := k13.facts
        obtain ⟨f14, g14, z14⟩ := k14.facts
        obtain ⟨f16, g16, z16⟩ := k16.facts
        obtain ⟨f18, g18, z18⟩ := k18.facts
        clear H1 H2 H3
        go_wp2_with fail
        refine calls_abs (fun W => Blk W (b10) #[.int .i64 x1, .int .i64 x2, .int .i64 x3, .int .i64 x4, .int .i64 x5] ∧ Blk W (b11) #[.int .i64 y1, .int .i64 y2, .int .i64 y3, .int .i64 y4, .int .i64 y5] ∧ Blk W (b12) #[.int .i64 z1, .int .i64 z2, .int .i64 z3, .int .i64 z4, .int .i64 z5] ∧ Blk W (b13) #[.int .i64 p1, .int .i64 p2, .int .i64 p3] ∧ Blk W (b14) #[.int .i64 m1, .int .i64 m2, .int .i64 m3, .int .i64 m4, .int .i64 m5] ∧ Blk W (b16) #[.int .i64 m1, .int .i64 m2, .int .i64 m3, .int .i64 m4, .int .i64 m5] ∧ Blk W (b18) #[.int .i64 x1, .int .i64 x2, .int .i64 x3, .int .i64 x4, .int .i64 x5] ∧ Blk W (wr.heap.size) #[.int .i64 m1, .int .i64 m2, .int .i64 m3] ∧ Blk W (wr.heap.size + 1) #[.int .i64 m1, .int .i64 r1, .int .i64 r2] ∧ Below w.heap.size w W) ⟨(by apply Blk.eq; (repeat' (first | with_reducible assumption | with_reducible apply Blk.set | with_reducible apply Blk.other | (with_reducible refine Blk.new ?_; simp; done) | with_reducible apply Blk.alloc | omega)); rfl), (by apply Blk.eq; (repeat' (first | with_reducible assumption | with_reducible apply Blk.set | with_reducible apply Blk.other | (with_reducible refine Blk.new ?_; simp; done) | with_reducible apply Blk.alloc | omega)); rfl), (by apply Blk.eq; (repeat' (first | with_reducible assumption | with_reducible apply Blk.set | with_reducible apply Blk.other | (with_reducible refine Blk.new ?_; simp; done) | with_reducible apply Blk.alloc | omega)); rfl), (by apply Blk.eq; (repeat' (first | with_reducible assumption | with_reducible apply Blk.set | with_reducible apply Blk.other | (with_reducible refine Blk.new ?_; simp; done) | with_reducible apply Blk.alloc | omega)); rfl), (by apply Blk.eq; (repeat' (first | with_reducible assumption | with_reducible apply Blk.set | with_reducible apply Blk.other | (with_reducible refine Blk.new ?_; simp; done) | with_reducible apply Blk.alloc | omega)); rfl), (by apply Blk.eq; (repeat' (first | with_reducible assumption | with_reducible apply Blk.set | with_reducible apply Blk.other | (with_reducible refine Blk.new ?_; simp; done) | with_reducible apply Blk.alloc | omega)); rfl), (by apply Blk.eq; (repeat' (first | with_reducible assumption | with_reducible apply Blk.set | with_reducible apply Blk.other | (with_reducible refine Blk.new ?_; simp; done) | with_reducible apply Blk.alloc | omega)); rfl), (by apply Blk.eq; (repeat' (first | with_reducible assumption | with_reducible apply Blk.set | with_reducible apply Blk.other | (with_reducible refine Blk.new ?_; simp; done) | with_reducible apply Blk.alloc | omega)); rfl), (by apply Blk.eq; (repeat' (first | with_reducible assumption | with_reducible apply Blk.set | with_reducible apply Blk.other | (with_reducible refine Blk.new ?_; simp; done) | with_reducible apply Blk.alloc | omega)); rfl), (by repeat' (first | with_reducible assumption | with_reducible exact Below.refl _ _ | with_reducible refine allocB ?_ | with_reducible refine setB ?_ ?_ | with_reducible refine drewB ?_ | with_reducible refine after ?_ (by assumption) | (simp; omega) | omega))⟩ ?_
        clear f10 g10 z10
        clear f11 g11 z11
        clear f12 g12 z12
        clear f13 g13 z13
        clear f14 g14 z14
        clear f16 g16 z16
        clear f18 g18 z18
        clear k10 k11 k12 k13 k14 k16 k18 hb0
        rintro wra ⟨k10, k11, k12, k13, k14, k16, k18, k20, k21, hb0⟩
        generalize wr.heap.size = b20 at *
        obtain ⟨f10, g10, z10⟩ := k10.facts
        obtain ⟨f11, g11, z11⟩ := k11.facts
        obtain ⟨f12, g12, z12⟩ := k12.facts
        obtain ⟨f13, g13, z13⟩ := k13.facts
        obtain ⟨f14, g14, z14⟩ := k14.facts
        obtain ⟨f16, g16, z16⟩ := k16.facts
        obtain ⟨f18, g18, z18⟩ := k18.facts
        obtain ⟨f20, g20, z20⟩ := k20.facts
        obtain ⟨f21, g21, z21⟩ := k21.facts
        refine (Meet_is E4 F4 wra).mono ?_; rintro e w9 ⟨rfl, hb9⟩
        replace k10 := k10.below hb9
        replace k11 := k11.below hb9
        replace k12 := k12.below hb9
        replace k13 := k13.below hb9
        replace k14 := k14.below hb9
        replace k16 := k16.below hb9
        replace k18 := k18.below hb9
        replace k20 := k20.below hb9
        replace k21 := k21.below hb9
        replace hb0 : Below w.heap.size w w9 := after hb0 hb9
        clear f10 g10 z10
        clear f11 g11 z11
        clear f12 g12 z12
        clear f13 g13 z13
        clear f14 g14 z14
        clear f16 g16 z16
        clear f18 g18 z18
        clear f20 g20 z20
        clear f21 g21 z21
        clear hb9
        obtain ⟨f10, g10, z10⟩ := k10.facts
        obtain ⟨f11, g11, z11⟩ := k11.facts
        obtain ⟨f12, g12, z12⟩ := k12.facts
        obtain ⟨f13, g13, z13⟩ := k13.facts
        obtain ⟨f14, g14, z14⟩ := k14.facts
        obtain ⟨f16, g16, z16⟩ := k16.facts
        obtain ⟨f18, g18, z18⟩ := k18.facts
        obtain ⟨f20, g20, z20⟩ := k20.facts
        obtain ⟨f21, g21, z21⟩ := k21.facts
        go_wp2_with fail
        refine calls_abs (fun W => Blk W (b10) #[.int .i64 x1, .int .i64 x2, .int .i64 x3, .int .i64 x4, .int .i64 x5] ∧ Blk W (b11) #[.int .i64 y1, .int .i64 y2, .int .i64 y3, .int .i64 y4, .int .i64 y5] ∧ Blk W (b12) #[.int .i64 z1, .int .i64 z2, .int .i64 z3, .int .i64 z4, .int .i64 z5] ∧ Blk W (b13) #[.int .i64 p1, .int .i64 p2, .int .i64 p3] ∧ Blk W (b14) #[.int .i64 m1, .int .i64 m2, .int .i64 m3, .int .i64 m4, .int .i64 m5] ∧ Blk W (b16) #[.int .i64 m1, .int .i64 m2, .int .i64 m3, .int .i64 m4, .int .i64 m5] ∧ Blk W (b18) #[.int .i64 x1, .int .i64 x2, .int .i64 x3, .int .i64 x4, .int .i64 x5] ∧ Blk W (b20) #[.int .i64 m1, .int .i64 m2, .int .i64 m3] ∧ Blk W (b20 + 1) #[.int .i64 m1, .int .i64 r1, .int .i64 r2] ∧ Blk W (w9.heap.size) #[.int .i64 u1, .int .i64 u2, .int .i64 u3, .int .i64 u4, .int .i64 u5] ∧ Below w.heap.size w W) ⟨(by apply Blk.eq; (repeat' (first | with_reducible assumption | with_reducible apply Blk.set | with_reducible apply Blk.other | (with_reducible refine Blk.new ?_; simp; done) | with_reducible apply Blk.alloc | omega)); rfl), (by apply Blk.eq; (repeat' (first | with_reducible assumption | with_reducible apply Blk.set | with_reducible apply Blk.other | (with_reducible refine Blk.new ?_; simp; done) | with_reducible apply Blk.alloc | omega)); rfl), (by apply Blk.eq; (repeat' (first | with_reducible assumption | with_reducible apply Blk.set | with_reducible apply Blk.other | (with_reducible refine Blk.new ?_; simp; done) | with_reducible apply Blk.alloc | omega)); rfl), (by apply Blk.eq; (repeat' (first | with_reducible assumption | with_reducible apply Blk.set | with_reducible apply Blk.other | (with_reducible refine Blk.new ?_; simp; done) | with_reducible apply Blk.alloc | omega)); rfl), (by apply Blk.eq; (repeat' (first | with_reducible assumption | with_reducible apply Blk.set | with_reducible apply Blk.other | (with_reducible refine Blk.new ?_; simp; done) | with_reducible apply Blk.alloc | omega)); rfl), (by apply Blk.eq; (repeat' (first | with_reducible assumption | with_reducible apply Blk.set | with_reducible apply Blk.other | (with_reducible refine Blk.new ?_; simp; done) | with_reducible apply Blk.alloc | omega)); rfl), (by apply Blk.eq; (repeat' (first | with_reducible assumption | with_reducible apply Blk.set | with_reducible apply Blk.other | (with_reducible refine Blk.new ?_; simp; done) | with_reducible apply Blk.alloc | omega)); rfl), (by apply Blk.eq; (repeat' (first | with_reducible assumption | with_reducible apply Blk.set | with_reducible apply Blk.other | (with_reducible refine Blk.new ?_; simp; done) | with_reducible apply Blk.alloc | omega)); rfl), (by apply Blk.eq; (repeat' (first | with_reducible assumption | with_reducible apply Blk.set | with_reducible apply Blk.other | (with_reducible refine Blk.new ?_; simp; done) | with_reducible apply Blk.alloc | omega)); rfl), (by apply Blk.eq; (repeat' (first | with_reducible assumption | with_reducible apply Blk.set | with_reducible apply Blk.other | (with_reducible refine Blk.new ?_; simp; done) | with_reducible apply Blk.alloc | omega)); rfl), (by repeat' (first | with_reducible assumption | with_reducible exact Below.refl _ _ | with_reducible refine allocB ?_ | with_reducible refine setB ?_ ?_ | with_reducible refine drewB ?_ | with_reducible refine after ?_ (by assumption) | (simp; omega) | omega))⟩ ?_
        clear f10 g10 z10
        clear f11 g11 z11
        clear f12 g12 z12
        clear f13 g13 z13
        clear f14 g14 z14
        clear f16 g16 z16
        clear f18 g18 z18
        clear f20 g20 z20
        clear f21 g21 z21
        clear k10 k11 k12 k13 k14 k16 k18 k20 k21 hb0
        rintro w9a ⟨k10, k11, k12, k13, k14, k16, k18, k20, k21, k22, hb0⟩
        generalize w9.heap.size = b22 at *
        obtain ⟨f10, g10, z10⟩ := k10.facts
        obtain ⟨f11, g11, z11⟩ := k11.facts
        obtain ⟨f12, g12, z12⟩ := k12.facts
        obtain ⟨f13, g13, z13⟩ := k13.facts
        obtain ⟨f14, g14, z14⟩ := k14.facts
        obtain ⟨f16, g16, z16⟩ := k16.facts
        obtain ⟨f18, g18, z18⟩ := k18.facts
        obtain ⟨f20, g20, z20⟩ := k20.facts
        obtain ⟨f21, g21, z21⟩ := k21.facts
        obtain ⟨f22, g22, z22⟩ := k22.facts
        refine (Meet_is E5 F5 w9a).mono ?_; rintro e w10 ⟨rfl, hb10⟩
        replace k10 := k10.below hb10
        replace k11 := k11.below hb10
        replace k12 := k12.below hb10
        replace k13 := k13.below hb10
        replace k14 := k14.below hb10
        replace k16 := k16.below hb10
        replace k18 := k18.below hb10
        replace k20 := k20.below hb10
        replace k21 := k21.below hb10
        replace k22 := k22.below hb10
        replace hb0 : Below w.heap.size w w10 := after hb0 hb10
        clear f10 g10 z10
        clear f11 g11 z11
        clear f12 g12 z12
        clear f13 g13 z13
        clear f14 g14 z14
        clear f16 g16 z16
        clear f18 g18 z18
        clear f20 g20 z20
        clear f21 g21 z21
        clear f22 g22 z22
        clear hb10
        obtain ⟨f10, g10, z10⟩ := k10.facts
        obtain ⟨f11, g11, z11⟩ := k11.facts
        obtain ⟨f12, g12, z12⟩ := k12.facts
        obtain ⟨f13, g13, z13⟩ := k13.facts
        obtain ⟨f14, g14, z14⟩ := k14.facts
        obtain ⟨f16, g16, z16⟩ := k16.facts
        obtain ⟨f18, g18, z18⟩ := k18.facts
        obtain ⟨f20, g20, z20⟩ := k20.facts
        obtain ⟨f21, g21, z21⟩ := k21.facts
        obtain ⟨f22, g22, z22⟩ := k22.facts
        go_wp2_with fail
        refine calls_abs (fun W => Blk W (b10) #[.int .i64 x1, .int .i64 x2, .int .i64 x3, .int .i64 x4, .int .i64 x5] ∧ Blk W (b11) #[.int .i64 y1, .int .i64 y2, .int .i64 y3, .int .i64 y4, .int .i64 y5] ∧ Blk W (b12) #[.int .i64 z1, .int .i64 z2, .int .i64 z3, .int .i64 z4, .int .i64 z5] ∧ Blk W (b13) #[.int .i64 p1, .int .i64 p2, .int .i64 p3] ∧ Blk W (b14) #[.int .i64 m1, .int .i64 m2, .int .i64 m3, .int .i64 m4, .int .i64 m5] ∧ Blk W (b16) #[.int .i64 m1, .int .i64 m2, .int .i64 m3, .int .i64 m4, .int .i64 m5] ∧ Blk W (b18) #[.int .i64 x1, .int .i64 x2, .int .i64 x3, .int .i64 x4, .int .i64 x5] ∧ Blk W (b20) #[.int .i64 m1, .int .i64 m2, .int .i64 m3] ∧ Blk W (b20 + 1) #[.int .i64 m1, .int .i64 r1, .int .i64 r2] ∧ Blk W (b22) #[.int .i64 u1, .int .i64 u2, .int .i64 u3, .int .i64 u4, .int .i64 u5] ∧ Blk W (w10.heap.size) #[.int .i64 i1, .int .i64 i2, .int .i64 i3, .int .i64 i4, .int .i64 i5] ∧ Below w.heap.size w W) ⟨(by apply Blk.eq; (repeat' (first | with_reducible assumption | with_reducible apply Blk.set | with_reducible apply Blk.other | (with_reducible refine Blk.new ?_; simp; done) | with_reducible apply Blk.alloc | omega)); rfl), (by apply Blk.eq; (repeat' (first | with_reducible assumption | with_reducible apply Blk.set | with_reducible apply Blk.other | (with_reducible refine Blk.new ?_; simp; done) | with_reducible apply Blk.alloc | omega)); rfl), (by apply Blk.eq; (repeat' (first | with_reducible assumption | with_reducible apply Blk.set | with_reducible apply Blk.other | (with_reducible refine Blk.new ?_; simp; done) | with_reducible apply Blk.alloc | omega)); rfl), (by apply Blk.eq; (repeat' (first | with_reducible assumption | with_reducible apply Blk.set | with_reducible apply Blk.other | (with_reducible refine Blk.new ?_; simp; done) | with_reducible apply Blk.alloc | omega)); rfl), (by apply Blk.eq; (repeat' (first | with_reducible assumption | with_reducible apply Blk.set | with_reducible apply Blk.other | (with_reducible refine Blk.new ?_; simp; done) | with_reducible apply Blk.alloc | omega)); rfl), (by apply Blk.eq; (repeat' (first | with_reducible assumption | with_reducible apply Blk.set | with_reducible apply Blk.other | (with_reducible refine Blk.new ?_; simp; done) | with_reducible apply Blk.alloc | omega)); rfl), (by apply Blk.eq; (repeat' (first | with_reducible assumption | with_reducible apply Blk.set | with_reducible apply Blk.other | (with_reducible refine Blk.new ?_; simp; done) | with_reducible apply Blk.alloc | omega)); rfl), (by apply Blk.eq; (repeat' (first | with_reducible assumption | with_reducible apply Blk.set | with_reducible apply Blk.other | (with_reducible refine Blk.new ?_; simp; done) | with_reducible apply Blk.alloc | omega)); rfl), (by apply Blk.eq; (repeat' (first | with_reducible assumption | with_reducible apply Blk.set | with_reducible apply Blk.other | (with_reducible refine Blk.new ?_; simp; done) | with_reducible apply Blk.alloc | omega)); rfl), (by apply Blk.eq; (repeat' (first | with_reducible assumption | with_reducible apply Blk.set | with_reducible apply Blk.other | (with_reducible refine Blk.new ?_; simp; done) | with_reducible apply Blk.alloc | omega)); rfl), (by apply Blk.eq; (repeat' (first | with_reducible assumption | with_reducible apply Blk.set | with_reducible apply Blk.other | (with_reducible refine Blk.new ?_; simp; done) | with_reducible apply Blk.alloc | omega)); rfl), (by repeat' (first | with_reducible assumption | with_reducible exact Below.refl _ _ | with_reducible refine allocB ?_ | with_reducible refine setB ?_ ?_ | with_reducible refine drewB ?_ | with_reducible refine after ?_ (by assumption) | (simp; omega) | omega))⟩ ?_
        clear f10 g10 z10
        clear f11 g11 z11
        clear f12 g12 z12
        clear f13 g13 z13
        clear f14 g14 z14
        clear f16 g16 z16
        clear f18 g18 z18
        clear f20 g20 z20
        clear f21 g21 z21
        clear f22 g22 z22
        clear k10 k11 k12 k13 k14 k16 k18 k20 k21 k22 hb0
        rintro w10a ⟨k10, k11, k12, k13, k14, k16, k18, k20, k21, k22, k24, hb0⟩
        generalize w10.heap.size = b24 at *
        obtain ⟨f10, g10, z10⟩ := k10.facts
        obtain ⟨f11, g11, z11⟩ := k11.facts
        obtain ⟨f12, g12, z12⟩ := k12.facts
        obtain ⟨f13, g13, z13⟩ := k13.facts
        obtain ⟨f14, g14, z14⟩ := k14.facts
        obtain ⟨f16, g16, z16⟩ := k16.facts
        obtain ⟨f18, g18, z18⟩ := k18.facts
        obtain ⟨f20, g20, z20⟩ := k20.facts
        obtain ⟨f21, g21, z21⟩ := k21.facts
        obtain ⟨f22, g22, z22⟩ := k22.facts
        obtain ⟨f24, g24, z24⟩ := k24.facts
        refine (Meet_is E6 F6 w10a).mono ?_; rintro e w11 ⟨rfl, hb11⟩
        replace k10 := k10.below hb11
        replace k11 := k11.below hb11
        replace k12 := k12.below hb11
        replace k13 := k13.below hb11
        replace k14 := k14.below hb11
        replace k16 := k16.below hb11
        replace k18 := k18.below hb11
        replace k20 := k20.below hb11
        replace k21 := k21.below hb11
        replace k22 := k22.below hb11
        replace k24 := k24.below hb11
        replace hb0 : Below w.heap.size w w11 := after hb0 hb11
        clear f10 g10 z10
        clear f11 g11 z11
        clear f12 g12 z12
        clear f13 g13 z13
        clear f14 g14 z14
        clear f16 g16 z16
        clear f18 g18 z18
        clear f20 g20 z20
        clear f21 g21 z21
        clear f22 g22 z22
        clear f24 g24 z24
        clear hb11
        obtain ⟨f10, g10, z10⟩ := k10.facts
        obtain ⟨f11, g11, z11⟩ := k11.facts
        obtain ⟨f12, g12, z12⟩ := k12.facts
        obtain ⟨f13, g13, z13⟩ := k13.facts
        obtain ⟨f14, g14, z14⟩ := k14.facts
        obtain ⟨f16, g16, z16⟩ := k16.facts
        obtain ⟨f18, g18, z18⟩ := k18.facts
        obtain ⟨f20, g20, z20⟩ := k20.facts
        obtain ⟨f21, g21, z21⟩ := k21.facts
        obtain ⟨f22, g22, z22⟩ := k22.facts
        obtain ⟨f24, g24, z24⟩ := k24.facts
        go_upto_region 18 with (fail)
        refine wp_abs2 (fun W => Blk W (b10) #[.int .i64 x1, .int .i64 x2, .int .i64 x3, .int .i64 x4, .int .i64 x5] ∧ Blk W (b11) #[.int .i64 y1, .int .i64 y2, .int .i64 y3, .int .i64 y4, .int .i64 y5] ∧ Blk W (b12) #[.int .i64 z1, .int .i64 z2, .int .i64 z3, .int .i64 z4, .int .i64 z5] ∧ Blk W (b13) #[.int .i64 p1, .int .i64 p2, .int .i64 p3] ∧ Blk W (b14) #[.int .i64 m1, .int .i64 m2, .int .i64 m3, .int .i64 m4, .int .i64 m5] ∧ Blk W (b16) #[.int .i64 m1, .int .i64 m2, .int .i64 m3, .int .i64 m4, .int .i64 m5] ∧ Blk W (b18) #[.int .i64 x1, .int .i64 x2, .int .i64 x3, .int .i64 x4, .int .i64 x5] ∧ Blk W (b20) #[.int .i64 m1, .int .i64 m2, .int .i64 m3] ∧ Blk W (b20 + 1) #[.int .i64 m1, .int .i64 r1, .int .i64 r2] ∧ Blk W (b22) #[.int .i64 u1, .int .i64 u2, .int .i64 u3, .int .i64 u4, .int .i64 u5] ∧ Blk W (b24) #[.int .i64 i1, .int .i64 i2, .int .i64 i3, .int .i64 i4, .int .i64 i5] ∧ Blk W (w11.heap.size) #[.int .i64 v1, .int .i64 v2, .int .i64 v3, .int .i64 v4, .int .i64 v5] ∧ Below w.heap.size w W) ⟨(by apply Blk.eq; (repeat' (first | with_reducible assumption | with_reducible apply Blk.set | with_reducible apply Blk.other | (with_reducible refine Blk.new ?_; simp; done) | with_reducible apply Blk.alloc | omega)); rfl), (by apply Blk.eq; (repeat' (first | with_reducible assumption | with_reducible apply Blk.set | with_reducible apply Blk.other | (with_reducible refine Blk.new ?_; simp; done) | with_reducible apply Blk.alloc | omega)); rfl), (by apply Blk.eq; (repeat' (first | with_reducible assumption | with_reducible apply Blk.set | with_reducible apply Blk.other | (with_reducible refine Blk.new ?_; simp; done) | with_reducible apply Blk.alloc | omega)); rfl), (by apply Blk.eq; (repeat' (first | with_reducible assumption | with_reducible apply Blk.set | with_reducible apply Blk.other | (with_reducible refine Blk.new ?_; simp; done) | with_reducible apply Blk.alloc | omega)); rfl), (by apply Blk.eq; (repeat' (first | with_reducible assumption | with_reducible apply Blk.set | with_reducible apply Blk.other | (with_reducible refine Blk.new ?_; simp; done) | with_reducible apply Blk.alloc | omega)); rfl), (by apply Blk.eq; (repeat' (first | with_reducible assumption | with_reducible apply Blk.set | with_reducible apply Blk.other | (with_reducible refine Blk.new ?_; simp; done) | with_reducible apply Blk.alloc | omega)); rfl), (by apply Blk.eq; (repeat' (first | with_reducible assumption | with_reducible apply Blk.set | with_reducible apply Blk.other | (with_reducible refine Blk.new ?_; simp; done) | with_reducible apply Blk.alloc | omega)); rfl), (by apply Blk.eq; (repeat' (first | with_reducible assumption | with_reducible apply Blk.set | with_reducible apply Blk.other | (with_reducible refine Blk.new ?_; simp; done) | with_reducible apply Blk.alloc | omega)); rfl), (by apply Blk.eq; (repeat' (first | with_reducible assumption | with_reducible apply Blk.set | with_reducible apply Blk.other | (with_reducible refine Blk.new ?_; simp; done) | with_reducible apply Blk.alloc | omega)); rfl), (by apply Blk.eq; (repeat' (first | with_reducible assumption | with_reducible apply Blk.set | with_reducible apply Blk.other | (with_reducible refine Blk.new ?_; simp; done) | with_reducible apply Blk.alloc | omega)); rfl), (by apply Blk.eq; (repeat' (first | with_reducible assumption | with_reducible apply Blk.set | with_reducible apply Blk.other | (with_reducible refine Blk.new ?_; simp; done) | with_reducible apply Blk.alloc | omega)); rfl), (by apply Blk.eq; (repeat' (first | with_reducible assumption | with_reducible apply Blk.set | with_reducible apply Blk.other | (with_reducible refine Blk.new ?_; simp; done) | with_reducible apply Blk.alloc | omega)); rfl), (by repeat' (first | with_reducible assumption | with_reducible exact Below.refl _ _ | with_reducible refine allocB ?_ | with_reducible refine setB ?_ ?_ | with_reducible refine drewB ?_ | with_reducible refine after ?_ (by assumption) | (simp; omega) | omega))⟩ ?_
        clear f10 g10 z10
        clear f11 g11 z11
        clear f12 g12 z12
        clear f13 g13 z13
        clear f14 g14 z14
        clear f16 g16 z16
        clear f18 g18 z18
        clear f20 g20 z20
        clear f21 g21 z21
        clear f22 g22 z22
        clear f24 g24 z24
        clear k10 k11 k12 k13 k14 k16 k18 k20 k21 k22 k24 hb0
        rintro w11a ⟨k10, k11, k12, k13, k14, k16, k18, k20, k21, k22, k24, k26, hb0⟩
        generalize w11.heap.size = b26 at *
        obtain ⟨f10, g10, z10⟩ := k10.facts
        obtain ⟨f11, g11, z11⟩ := k11.facts
        obtain ⟨f12, g12, z12⟩ := k12.facts
        obtain ⟨f13, g13, z13⟩ := k13.facts
        obtain ⟨f14, g14, z14⟩ := k14.facts
        obtain ⟨f16, g16, z16⟩ := k16.facts
        obtain ⟨f18, g18, z18⟩ := k18.facts
        obtain ⟨f20, g20, z20⟩ := k20.facts
        obtain ⟨f21, g21, z21⟩ := k21.facts
        obtain ⟨f22, g22, z22⟩ := k22.facts
        obtain ⟨f24, g24, z24⟩ := k24.facts
        obtain ⟨f26, g26, z26⟩ := k26.facts
        clear E4 F4 E5 F5 E6 F6
        cases sm <;> cases ev
        · clear Huv
          go_wp2_with fail
          refine (Has_is K1 w11a).mono ?_; rintro e w12 ⟨rfl, hb12⟩
          replace k10 := k10.below hb12
          replace k11 := k11.below hb12
          replace k12 := k12.below hb12
          replace k13 := k13.below hb12
          replace k14 := k14.below hb12
          replace k16 := k16.below hb12
          replace k18 := k18.below hb12
          replace k20 := k20.below hb12
          replace k21 := k21.below hb12
          replace k22 := k22.below hb12
          replace k24 := k24.below hb12
          replace k26 := k26.below hb12
          replace hb0 : Below w.heap.size w w12 := after hb0 hb12
          clear f10 g10 z10
          clear f11 g11 z11
          clear f12 g12 z12
          clear f13 g13 z13
          clear f14 g14 z14
          clear f16 g16 z16
          clear f18 g18 z18
          clear f20 g20 z20
          clear f21 g21 z21
          clear f22 g22 z22
          clear f24 g24 z24
          clear f26 g26 z26
          clear hb12
          obtain ⟨f10, g10, z10⟩ := k10.facts
          obtain ⟨f11, g11, z11⟩ := k11.facts
          obtain ⟨f12, g12, z12⟩ := k12.facts
          obtain ⟨f13, g13, z13⟩ := k13.facts
          obtain ⟨f14, g14, z14⟩ := k14.facts
          obtain ⟨f16, g16, z16⟩ := k16.facts
          obtain ⟨f18, g18, z18⟩ := k18.facts
          obtain ⟨f20, g20, z20⟩ := k20.facts
          obtain ⟨f21, g21, z21⟩ := k21.facts
          obtain ⟨f22, g22, z22⟩ := k22.facts
          obtain ⟨f24, g24, z24⟩ := k24.facts
          obtain ⟨f26, g26, z26⟩ := k26.facts
          go_wp2_with fail
          refine (Has_is K2 w12).mono ?_; rintro e w13 ⟨rfl, hb13⟩
          replace k10 := k10.below hb13
          replace k11 := k11.below hb13
          replace k12 := k12.below hb13
          replace k13 := k13.below hb13
          replace k14 := k14.below hb13
          replace k16 := k16.below hb13
          replace k18 := k18.below hb13
          replace k20 := k20.below hb13
          replace k21 := k21.below hb13
          replace k22 := k22.below hb13
          replace k24 := k24.below hb13
          replace k26 := k26.below hb13
          replace hb0 : Below w.heap.size w w13 := after hb0 hb13
          clear f10 g10 z10
          clear f11 g11 z11
          clear f12 g12 z12
          clear f13 g13 z13
          clear f14 g14 z14
          clear f16 g16 z16
          clear f18 g18 z18
          clear f20 g20 z20
          clear f21 g21 z21
          clear f22 g22 z22
          clear f24 g24 z24
          clear f26 g26 z26
          clear hb13
          obtain ⟨f10, g10, z10⟩ := k10.facts
          obtain ⟨f11, g11, z11⟩ := k11.facts
          obtain ⟨f12, g12, z12⟩ := k12.facts
          obtain ⟨f13, g13, z13⟩ := k13.facts
          obtain ⟨f14, g14, z14⟩ := k14.facts
          obtain ⟨f16, g16, z16⟩ := k16.facts
          obtain ⟨f18, g18, z18⟩ := k18.facts
          obtain ⟨f20, g20, z20⟩ := k20.facts
          obtain ⟨f21, g21, z21⟩ := k21.facts
          obtain ⟨f22, g22, z22⟩ := k22.facts
          obtain ⟨f24, g24, z24⟩ := k24.facts
          obtain ⟨f26, g26, z26⟩ := k26.facts
          go_wp2_with fail
          refine (Has_is K3 w13).mono ?_; rintro e w14 ⟨rfl, hb14⟩
          replace k10 := k10.below hb14
          replace k11 := k11.below hb14
          replace k12 := k12.below hb14
          replace k13 := k13.below hb14
          replace k14 := k14.below hb14
          replace k16 := k16.below hb14
          replace k18 := k18.below hb14
          replace k20 := k20.below hb14
          replace k21 := k21.below hb14
          replace k22 := k22.below hb14
          replace k24 := k24.below hb14
          replace k26 := k26.below hb14
          replace hb0 : Below w.heap.size w w14 := after hb0 hb14
          clear f10 g10 z10
          clear f11 g11 z11
          clear f12 g12 z12
          clear f13 g13 z13
          clear f14 g14 z14
          clear f16 g16 z16
          clear f18 g18 z18
          clear f20 g20 z20
          clear f21 g21 z21
          clear f22 g22 z22
          clear f24 g24 z24
          clear f26 g26 z26
          clear hb14
          obtain ⟨f10, g10, z10⟩ := k10.facts
          obtain ⟨f11, g11, z11⟩ := k11.facts
          obtain ⟨f12, g12, z12⟩ := k12.facts
          obtain ⟨f13, g13, z13⟩ := k13.facts
          obtain ⟨f14, g14, z14⟩ := k14.facts
          obtain ⟨f16, g16, z16⟩ := k16.facts
          obtain ⟨f18, g18, z18⟩ := k18.facts
          obtain ⟨f20, g20, z20⟩ := k20.facts
          obtain ⟨f21, g21, z21⟩ := k21.facts
          obtain ⟨f22, g22, z22⟩ := k22.facts
          obtain ⟨f24, g24, z24⟩ := k24.facts
          obtain ⟨f26, g26, z26⟩ := k26.facts
          go_wp2_with fail
          refine (Has_is K4 w14).mono ?_; rintro e w15 ⟨rfl, hb15⟩
          replace k10 := k10.below hb15
          replace k11 := k11.below hb15
          replace k12 := k12.below hb15
          replace k13 := k13.below hb15
          replace k14 := k14.below hb15
          replace k16 := k16.below hb15
          replace k18 := k18.below hb15
          replace k20 := k20.below hb15
          replace k21 := k21.below hb15
          replace k22 := k22.below hb15
          replace k24 := k24.below hb15
          replace k26 := k26.below hb15
          replace hb0 : Below w.heap.size w w15 := after hb0 hb15
          clear f10 g10 z10
          clear f11 g11 z11
          clear f12 g12 z12
          clear f13 g13 z13
          clear f14 g14 z14
          clear f16 g16 z16
          clear f18 g18 z18
          clear f20 g20 z20
          clear f21 g21 z21
          clear f22 g22 z22
          clear f24 g24 z24
          clear f26 g26 z26
          clear hb15
          obtain ⟨f10, g10, z10⟩ := k10.facts
          obtain ⟨f11, g11, z11⟩ := k11.facts
          obtain ⟨f12, g12, z12⟩ := k12.facts
          obtain ⟨f13, g13, z13⟩ := k13.facts
          obtain ⟨f14, g14, z14⟩ := k14.facts
          obtain ⟨f16, g16, z16⟩ := k16.facts
          obtain ⟨f18, g18, z18⟩ := k18.facts
          obtain ⟨f20, g20, z20⟩ := k20.facts
          obtain ⟨f21, g21, z21⟩ := k21.facts
          obtain ⟨f22, g22, z22⟩ := k22.facts
          obtain ⟨f24, g24, z24⟩ := k24.facts
          obtain ⟨f26, g26, z26⟩ := k26.facts
          go_wp2
          go_ret; exact Ret.mk' rfl (by repeat' (first | with_reducible assumption | with_reducible exact Below.refl _ _ | with_reducible refine allocB ?_ | with_reducible refine setB ?_ ?_ | with_reducible refine drewB ?_ | with_reducible refine after ?_ (by assumption) | (simp; omega) | omega))
        · clear Huv
          go_wp2_with fail
          refine (Has_is K1 w11a).mono ?_; rintro e w12 ⟨rfl, hb12⟩
          replace k10 := k10.below hb12
          replace k11 := k11.below hb12
          replace k12 := k12.below hb12
          replace k13 := k13.below hb12
          replace k14 := k14.below hb12
          replace k16 := k16.below hb12
          replace k18 := k18.below hb12
          replace k20 := k20.below hb12
          replace k21 := k21.below hb12
          replace k22 := k22.below hb12
          replace k24 := k24.below hb12
          replace k26 := k26.below hb12
          replace hb0 : Below w.heap.size w w12 := after hb0 hb12
          clear f10 g10 z10
          clear f11 g11 z11
          clear f12 g12 z12
          clear f13 g13 z13
          clear f14 g14 z14
          clear f16 g16 z16
          clear f18 g18 z18
          clear f20 g20 z20
          clear f21 g21 z21
          clear f22 g22 z22
          clear f24 g24 z24
          clear f26 g26 z26
          clear hb12
          obtain ⟨f10, g10, z10⟩ := k10.facts
          obtain ⟨f11, g11, z11⟩ := k11.facts
          obtain ⟨f12, g12, z12⟩ := k12.facts
          obtain ⟨f13, g13, z13⟩ := k13.facts
          obtain ⟨f14, g14, z14⟩ := k14.facts
          obtain ⟨f16, g16, z16⟩ := k16.facts
          obtain ⟨f18, g18, z18⟩ := k18.facts
          obtain ⟨f20, g20, z20⟩ := k20.facts
          obtain ⟨f21, g21, z21⟩ := k21.facts
          obtain ⟨f22, g22, z22⟩ := k22.facts
          obtain ⟨f24, g24, z24⟩ := k24.facts
          obtain ⟨f26, g26, z26⟩ := k26.facts
          go_wp2_with fail
          refine (Has_is K2 w12).mono ?_; rintro e w13 ⟨rfl, hb13⟩
          replace k10 := k10.below hb13
          replace k11 := k11.below hb13
          replace k12 := k12.below hb13
          replace k13 := k13.below hb13
          replace k14 := k14.below hb13
          replace k16 := k16.below hb13
          replace k18 := k18.below hb13
          replace k20 := k20.below hb13
          replace k21 := k21.below hb13
          replace k22 := k22.below hb13
          replace k24 := k24.below hb13
          replace k26 := k26.below hb13
          replace hb0 : Below w.heap.size w w13 := after hb0 hb13
          clear f10 g10 z10
          clear f11 g11 z11
          clear f12 g12 z12
          clear f13 g13 z13
          clear f14 g14 z14
          clear f16 g16 z16
          clear f18 g18 z18
          clear f20 g20 z20
          clear f21 g21 z21
          clear f22 g22 z22
          clear f24 g24 z24
          clear f26 g26 z26
          clear hb13
          obtain ⟨f10, g10, z10⟩ := k10.facts
          obtain ⟨f11, g11, z11⟩ := k11.facts
          obtain ⟨f12, g12, z12⟩ := k12.facts
          obtain ⟨f13, g13, z13⟩ := k13.facts
          obtain ⟨f14, g14, z14⟩ := k14.facts
          obtain ⟨f16, g16, z16⟩ := k16.facts
          obtain ⟨f18, g18, z18⟩ := k18.facts
          obtain ⟨f20, g20, z20⟩ := k20.facts
          obtain ⟨f21, g21, z21⟩ := k21.facts
          obtain ⟨f22, g22, z22⟩ := k22.facts
          obtain ⟨f24, g24, z24⟩ := k24.facts
          obtain ⟨f26, g26, z26⟩ := k26.facts
          go_wp2_with fail
          refine (Has_is K3 w13).mono ?_; rintro e w14 ⟨rfl, hb14⟩
          replace k10 := k10.below hb14
          replace k11 := k11.below hb14
          replace k12 := k12.below hb14
          replace k13 := k13.below hb14
          replace k14 := k14.below hb14
          replace k16 := k16.below hb14
          replace k18 := k18.below hb14
          replace k20 := k20.below hb14
          replace k21 := k21.below hb14
          replace k22 := k22.below hb14
          replace k24 := k24.below hb14
          replace k26 := k26.below hb14
          replace hb0 : Below w.heap.size w w14 := after hb0 hb14
          clear f10 g10 z10
          clear f11 g11 z11
          clear f12 g12 z12
          clear f13 g13 z13
          clear f14 g14 z14
          clear f16 g16 z16
          clear f18 g18 z18
          clear f20 g20 z20
          clear f21 g21 z21
          clear f22 g22 z22
          clear f24 g24 z24
          clear f26 g26 z26
          clear hb14
          obtain ⟨f10, g10, z10⟩ := k10.facts
          obtain ⟨f11, g11, z11⟩ := k11.facts
          obtain ⟨f12, g12, z12⟩ := k12.facts
          obtain ⟨f13, g13, z13⟩ := k13.facts
          obtain ⟨f14, g14, z14⟩ := k14.facts
          obtain ⟨f16, g16, z16⟩ := k16.facts
          obtain ⟨f18, g18, z18⟩ := k18.facts
          obtain ⟨f20, g20, z20⟩ := k20.facts
          obtain ⟨f21, g21, z21⟩ := k21.facts
          obtain ⟨f22, g22, z22⟩ := k22.facts
          obtain ⟨f24, g24, z24⟩ := k24.facts
          obtain ⟨f26, g26, z26⟩ := k26.facts
          go_wp2_with fail
          refine (Has_is K4 w14).mono ?_; rintro e w15 ⟨rfl, hb15⟩
          replace k10 := k10.below hb15
          replace k11 := k11.below hb15
          replace k12 := k12.below hb15
          replace k13 := k13.below hb15
          replace k14 := k14.below hb15
          replace k16 := k16.below hb15
          replace k18 := k18.below hb15
          replace k20 := k20.below hb15
          replace k21 := k21.below hb15
          replace k22 := k22.below hb15
          replace k24 := k24.below hb15
          replace k26 := k26.below hb15
          replace hb0 : Below w.heap.size w w15 := after hb0 hb15
          clear f10 g10 z10
          clear f11 g11 z11
          clear f12 g12 z12
          clear f13 g13 z13
          clear f14 g14 z14
          clear f16 g16 z16
          clear f18 g18 z18
          clear f20 g20 z20
          clear f21 g21 z21
          clear f22 g22 z22
          clear f24 g24 z24
          clear f26 g26 z26
          clear hb15
          obtain ⟨f10, g10, z10⟩ := k10.facts
          obtain ⟨f11, g11, z11⟩ := k11.facts
          obtain ⟨f12, g12, z12⟩ := k12.facts
          obtain ⟨f13, g13, z13⟩ := k13.facts
          obtain ⟨f14, g14, z14⟩ := k14.facts
          obtain ⟨f16, g16, z16⟩ := k16.facts
          obtain ⟨f18, g18, z18⟩ := k18.facts
          obtain ⟨f20, g20, z20⟩ := k20.facts
          obtain ⟨f21, g21, z21⟩ := k21.facts
          obtain ⟨f22, g22, z22⟩ := k22.facts
          obtain ⟨f24, g24, z24⟩ := k24.facts
          obtain ⟨f26, g26, z26⟩ := k26.facts
          go_wp2
          go_ret; exact Ret.mk' rfl (by repeat' (first | with_reducible assumption | with_reducible exact Below.refl _ _ | with_reducible refine allocB ?_ | with_reducible refine setB ?_ ?_ | with_reducible refine drewB ?_ | with_reducible refine after ?_ (by assumption) | (simp; omega) | omega))
        · clear Huv
          go_wp2_with fail
          refine (Has_is K1 w11a).mono ?_; rintro e w12 ⟨rfl, hb12⟩
          replace k10 := k10.below hb12
          replace k11 := k11.below hb12
          replace k12 := k12.below hb12
          replace k13 := k13.below hb12
          replace k14 := k14.below hb12
          replace k16 := k16.below hb12
          replace k18 := k18.below hb12
          replace k20 := k20.below hb12
          replace k21 := k21.below hb12
          replace k22 := k22.below hb12
          replace k24 := k24.below hb12
          replace k26 := k26.below hb12
          replace hb0 : Below w.heap.size w w12 := after hb0 hb12
          clear f10 g10 z10
          clear f11 g11 z11
          clear f12 g12 z12
          clear f13 g13 z13
          clear f14 g14 z14
          clear f16 g16 z16
          clear f18 g18 z18
          clear f20 g20 z20
          clear f21 g21 z21
          clear f22 g22 z22
          clear f24 g24 z24
          clear f26 g26 z26
          clear hb12
          obtain ⟨f10, g10, z10⟩ := k10.facts
          obtain ⟨f11, g11, z11⟩ := k11.facts
          obtain ⟨f12, g12, z12⟩ := k12.facts
          obtain ⟨f13, g13, z13⟩ := k13.facts
          obtain ⟨f14, g14, z14⟩ := k14.facts
          obtain ⟨f16, g16, z16⟩ := k16.facts
          obtain ⟨f18, g18, z18⟩ := k18.facts
          obtain ⟨f20, g20, z20⟩ := k20.facts
          obtain ⟨f21, g21, z21⟩ := k21.facts
          obtain ⟨f22, g22, z22⟩ := k22.facts
          obtain ⟨f24, g24, z24⟩ := k24.facts
          obtain ⟨f26, g26, z26⟩ := k26.facts
          go_wp2_with fail
          refine (Has_is K2 w12).mono ?_; rintro e w13 ⟨rfl, hb13⟩
          replace k10 := k10.below hb13
          replace k11 := k11.below hb13
          replace k12 := k12.below hb13
          replace k13 := k13.below hb13
          replace k14 := k14.below hb13
          replace k16 := k16.below hb13
          replace k18 := k18.below hb13
          replace k20 := k20.below hb13
          replace k21 := k21.below hb13
          replace k22 := k22.below hb13
          replace k24 := k24.below hb13
          replace k26 := k26.below hb13
          replace hb0 : Below w.heap.size w w13 := after hb0 hb13
          clear f10 g10 z10
          clear f11 g11 z11
          clear f12 g12 z12
          clear f13 g13 z13
          clear f14 g14 z14
          clear f16 g16 z16
          clear f18 g18 z18
          clear f20 g20 z20
          clear f21 g21 z21
          clear f22 g22 z22
          clear f24 g24 z24
          clear f26 g26 z26
          clear hb13
          obtain ⟨f10, g10, z10⟩ := k10.facts
          obtain ⟨f11, g11, z11⟩ := k11.facts
          obtain ⟨f12, g12, z12⟩ := k12.facts
          obtain ⟨f13, g13, z13⟩ := k13.facts
          obtain ⟨f14, g14, z14⟩ := k14.facts
          obtain ⟨f16, g16, z16⟩ := k16.facts
          obtain ⟨f18, g18, z18⟩ := k18.facts
          obtain ⟨f20, g20, z20⟩ := k20.facts
          obtain ⟨f21, g21, z21⟩ := k21.facts
          obtain ⟨f22, g22, z22⟩ := k22.facts
          obtain ⟨f24, g24, z24⟩ := k24.facts
          obtain ⟨f26, g26, z26⟩ := k26.facts
          go_wp2_with fail
          refine (Has_is K3 w13).mono ?_; rintro e w14 ⟨rfl, hb14⟩
          replace k10 := k10.below hb14
          replace k11 := k11.below hb14
          replace k12 := k12.below hb14
          replace k13 := k13.below hb14
          replace k14 := k14.below hb14
          replace k16 := k16.below hb14
          replace k18 := k18.below hb14
          replace k20 := k20.below hb14
          replace k21 := k21.below hb14
          replace k22 := k22.below hb14
          replace k24 := k24.below hb14
          replace k26 := k26.below hb14
          replace hb0 : Below w.heap.size w w14 := after hb0 hb14
          clear f10 g10 z10
          clear f11 g11 z11
          clear f12 g12 z12
          clear f13 g13 z13
          clear f14 g14 z14
          clear f16 g16 z16
          clear f18 g18 z18
          clear f20 g20 z20
          clear f21 g21 z21
          clear f22 g22 z22
          clear f24 g24 z24
          clear f26 g26 z26
          clear hb14
          obtain ⟨f10, g10, z10⟩ := k10.facts
          obtain ⟨f11, g11, z11⟩ := k11.facts
          obtain ⟨f12, g12, z12⟩ := k12.facts
          obtain ⟨f13, g13, z13⟩ := k13.facts
          obtain ⟨f14, g14, z14⟩ := k14.facts
          obtain ⟨f16, g16, z16⟩ := k16.facts
          obtain ⟨f18, g18, z18⟩ := k18.facts
          obtain ⟨f20, g20, z20⟩ := k20.facts
          obtain ⟨f21, g21, z21⟩ := k21.facts
          obtain ⟨f22, g22, z22⟩ := k22.facts
          obtain ⟨f24, g24, z24⟩ := k24.facts
          obtain ⟨f26, g26, z26⟩ := k26.facts
          go_wp2_with fail
          refine (Has_is K4 w14).mono ?_; rintro e w15 ⟨rfl, hb15⟩
          replace k10 := k10.below hb15
          replace k11 := k11.below hb15
          replace k12 := k12.below hb15
          replace k13 := k13.below hb15
          replace k14 := k14.below hb15
          replace k16 := k16.below hb15
          replace k18 := k18.below hb15
          replace k20 := k20.below hb15
          replace k21 := k21.below hb15
          replace k22 := k22.below hb15
          replace k24 := k24.below hb15
          replace k26 := k26.below hb15
          replace hb0 : Below w.heap.size w w15 := after hb0 hb15
          clear f10 g10 z10
          clear f11 g11 z11
          clear f12 g12 z12
          clear f13 g13 z13
          clear f14 g14 z14
          clear f16 g16 z16
          clear f18 g18 z18
          clear f20 g20 z20
          clear f21 g21 z21
          clear f22 g22 z22
          clear f24 g24 z24
          clear f26 g26 z26
          clear hb15
          obtain ⟨f10, g10, z10⟩ := k10.facts
          obtain ⟨f11, g11, z11⟩ := k11.facts
          obtain ⟨f12, g12, z12⟩ := k12.facts
          obtain ⟨f13, g13, z13⟩ := k13.facts
          obtain ⟨f14, g14, z14⟩ := k14.facts
          obtain ⟨f16, g16, z16⟩ := k16.facts
          obtain ⟨f18, g18, z18⟩ := k18.facts
          obtain ⟨f20, g20, z20⟩ := k20.facts
          obtain ⟨f21, g21, z21⟩ := k21.facts
          obtain ⟨f22, g22, z22⟩ := k22.facts
          obtain ⟨f24, g24, z24⟩ := k24.facts
          obtain ⟨f26, g26, z26⟩ := k26.facts
          go_wp2
          go_ret; exact Ret.mk' rfl (by repeat' (first | with_reducible assumption | with_reducible exact Below.refl _ _ | with_reducible refine allocB ?_ | with_reducible refine setB ?_ ?_ | with_reducible refine drewB ?_ | with_reducible refine after ?_ (by assumption) | (simp; omega) | omega))
        · obtain ⟨rfl, rfl, rfl, rfl, rfl⟩ := Huv.out (by first | exact rfl | trivial) (by first | exact rfl | trivial)
          clear Huv
          go_wp2_with fail
          refine (Has_is K1 w11a).mono ?_; rintro e w12 ⟨rfl, hb12⟩
          replace k10 := k10.below hb12
          replace k11 := k11.below hb12
          replace k12 := k12.below hb12
          replace k13 := k13.below hb12
          replace k14 := k14.below hb12
          replace k16 := k16.below hb12
          replace k18 := k18.below hb12
          replace k20 := k20.below hb12
          replace k21 := k21.below hb12
          replace k22 := k22.below hb12
          replace k24 := k24.below hb12
          replace k26 := k26.below hb12
          replace hb0 : Below w.heap.size w w12 := after hb0 hb12
          clear f10 g10 z10
          clear f11 g11 z11
          clear f12 g12 z12
          clear f13 g13 z13
          clear f14 g14 z14
          clear f16 g16 z16
          clear f18 g18 z18
          clear f20 g20 z20
          clear f21 g21 z21
          clear f22 g22 z22
          clear f24 g24 z24
          clear f26 g26 z26
          clear hb12
          obtain ⟨f10, g10, z10⟩ := k10.facts
          obtain ⟨f11, g11, z11⟩ := k11.facts
          obtain ⟨f12, g12, z12⟩ := k12.facts
          obtain ⟨f13, g13, z13⟩ := k13.facts
          obtain ⟨f14, g14, z14⟩ := k14.facts
          obtain ⟨f16, g16, z16⟩ := k16.facts
          obtain ⟨f18, g18, z18⟩ := k18.facts
          obtain ⟨f20, g20, z20⟩ := k20.facts
          obtain ⟨f21, g21, z21⟩ := k21.facts
          obtain ⟨f22, g22, z22⟩ := k22.facts
          obtain ⟨f24, g24, z24⟩ := k24.facts
          obtain ⟨f26, g26, z26⟩ := k26.facts
          go_wp2_with fail
          refine (Has_is K2 w12).mono ?_; rintro e w13 ⟨rfl, hb13⟩
          replace k10 := k10.below hb13
          replace k11 := k11.below hb13
          replace k12 := k12.below hb13
          replace k13 := k13.below hb13
          replace k14 := k14.below hb13
          replace k16 := k16.below hb13
          replace k18 := k18.below hb13
          replace k20 := k20.below hb13
          replace k21 := k21.below hb13
          replace k22 := k22.below hb13
          replace k24 := k24.below hb13
          replace k26 := k26.below hb13
          replace hb0 : Below w.heap.size w w13 := after hb0 hb13
          clear f10 g10 z10
          clear f11 g11 z11
          clear f12 g12 z12
          clear f13 g13 z13
          clear f14 g14 z14
          clear f16 g16 z16
          clear f18 g18 z18
          clear f20 g20 z20
          clear f21 g21 z21
          clear f22 g22 z22
          clear f24 g24 z24
          clear f26 g26 z26
          clear hb13
          obtain ⟨f10, g10, z10⟩ := k10.facts
          obtain ⟨f11, g11, z11⟩ := k11.facts
          obtain ⟨f12, g12, z12⟩ := k12.facts
          obtain ⟨f13, g13, z13⟩ := k13.facts
          obtain ⟨f14, g14, z14⟩ := k14.facts
          obtain ⟨f16, g16, z16⟩ := k16.facts
          obtain ⟨f18, g18, z18⟩ := k18.facts
          obtain ⟨f20, g20, z20⟩ := k20.facts
          obtain ⟨f21, g21, z21⟩ := k21.facts
          obtain ⟨f22, g22, z22⟩ := k22.facts
          obtain ⟨f24, g24, z24⟩ := k24.facts
          obtain ⟨f26, g26, z26⟩ := k26.facts
          go_wp2_with fail
          refine (Has_is K3 w13).mono ?_; rintro e w14 ⟨rfl, hb14⟩
          replace k10 := k10.below hb14
          replace k11 := k11.below hb14
          replace k12 := k12.below hb14
          replace k13 := k13.below hb14
          replace k14 := k14.below hb14
          replace k16 := k16.below hb14
          replace k18 := k18.below hb14
          replace k20 := k20.below hb14
          replace k21 := k21.below hb14
          replace k22 := k22.below hb14
          replace k24 := k24.below hb14
          replace k26 := k26.below hb14
          replace hb0 : Below w.heap.size w w14 := after hb0 hb14
          clear f10 g10 z10
          clear f11 g11 z11
          clear f12 g12 z12
          clear f13 g13 z13
          clear f14 g14 z14
          clear f16 g16 z16
          clear f18 g18 z18
          clear f20 g20 z20
          clear f21 g21 z21
          clear f22 g22 z22
          clear f24 g24 z24
          clear f26 g26 z26
          clear hb14
          obtain ⟨f10, g10, z10⟩ := k10.facts
          obtain ⟨f11, g11, z11⟩ := k11.facts
          obtain ⟨f12, g12, z12⟩ := k12.facts
          obtain ⟨f13, g13, z13⟩ := k13.facts
          obtain ⟨f14, g14, z14⟩ := k14.facts
          obtain ⟨f16, g16, z16⟩ := k16.facts
          obtain ⟨f18, g18, z18⟩ := k18.facts
          obtain ⟨f20, g20, z20⟩ := k20.facts
          obtain ⟨f21, g21, z21⟩ := k21.facts
          obtain ⟨f22, g22, z22⟩ := k22.facts
          obtain ⟨f24, g24, z24⟩ := k24.facts
          obtain ⟨f26, g26, z26⟩ := k26.facts
          go_wp2_with fail
          refine (Has_is K4 w14).mono ?_; rintro e w15 ⟨rfl, hb15⟩
          replace k10 := k10.below hb15
          replace k11 := k11.below hb15
          replace k12 := k12.below hb15
          replace k13 := k13.below hb15
          replace k14 := k14.below hb15
          replace k16 := k16.below hb15
          replace k18 := k18.below hb15
          replace k20 := k20.below hb15
          replace k21 := k21.below hb15
          replace k22 := k22.below hb15
          replace k24 := k24.below hb15
          replace k26 := k26.below hb15
          replace hb0 : Below w.heap.size w w15 := after hb0 hb15
          clear f10 g10 z10
          clear f11 g11 z11
          clear f12 g12 z12
          clear f13 g13 z13
          clear f14 g14 z14
          clear f16 g16 z16
          clear f18 g18 z18
          clear f20 g20 z20
          clear f21 g21 z21
          clear f22 g22 z22
          clear f24 g24 z24
          clear f26 g26 z26
          clear hb15
          obtain ⟨f10, g10, z10⟩ := k10.facts
          obtain ⟨f11, g11, z11⟩ := k11.facts
          obtain ⟨f12, g12, z12⟩ := k12.facts
          obtain ⟨f13, g13, z13⟩ := k13.facts
          obtain ⟨f14, g14, z14⟩ := k14.facts
          obtain ⟨f16, g16, z16⟩ := k16.facts
          obtain ⟨f18, g18, z18⟩ := k18.facts
          obtain ⟨f20, g20, z20⟩ := k20.facts
          obtain ⟨f21, g21, z21⟩ := k21.facts
          obtain ⟨f22, g22, z22⟩ := k22.facts
          obtain ⟨f24, g24, z24⟩ := k24.facts
          obtain ⟨f26, g26, z26⟩ := k26.facts
          go_wp2
          go_ret; exact Ret.mk' rfl (by repeat' (first | with_reducible assumption | with_reducible exact Below.refl _ _ | with_reducible refine allocB ?_ | with_reducible refine setB ?_ ?_ | with_reducible refine drewB ?_ | with_reducible refine after ?_ (by assumption) | (simp; omega) | omega)))
end Go.Proofs.YtmeiboajpbflcaaDoor
