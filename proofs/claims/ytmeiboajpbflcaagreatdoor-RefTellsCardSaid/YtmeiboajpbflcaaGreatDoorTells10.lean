/- The walk of areas: what is told of two areas and a place is as the document says. -/
import Derived.Test.YtmeiboajpbflcaaGreatDoorTells6
import Derived.Test.YtmeiboajpbflcaaGreatDoorTells3
import Derived.Test.YtmeiboajpbflcaaGreatDoorUses
namespace Go.Proofs.YtmeiboajpbflcaaGreatDoor
open Go.RowKit Tab

set_option maxRecDepth 100000 in
set_option maxHeartbeats 4000000 in
theorem areas_any (a b : AreaD) (s r c : Int) (w : World) (ha : AreaIn a) (hb : AreaIn b) : Calls Tryz.prog 22 #[areaV a, areaV b, .agg #[.int .i64 s, .int .i64 r, .int .i64 c]] w (Ret (.bool true) w) := by
  obtain ⟨a1, a2, a3, a4, a5⟩ := a
  obtain ⟨b1, b2, b3, b4, b5⟩ := b
  have cM := fun W => Meet_any ⟨a1, a2, a3, a4, a5⟩ ⟨b1, b2, b3, b4, b5⟩ W
  have cT := fun W => TMeet_any ⟨a1, a2, a3, a4, a5⟩ ⟨b1, b2, b3, b4, b5⟩ W ha hb
  have cH := fun W => Has_any a1 a2 a3 a4 a5 s r c W
  have cG := fun W => THas_any a1 a2 a3 a4 a5 s r c W ha
  clear ha hb
  generalize meetA ⟨a1, a2, a3, a4, a5⟩ ⟨b1, b2, b3, b4, b5⟩ = M at *
  generalize meetB ⟨a1, a2, a3, a4, a5⟩ ⟨b1, b2, b3, b4, b5⟩ = X at *
  generalize hasB ⟨a1, a2, a3, a4, a5⟩ s r c = Y at *
  obtain ⟨m1, m2, m3, m4, m5⟩ := M
  unfold areaV at *
  dsimp only at *
  go_enter Tryz.func22, Tryz.ntmps22
  go_wp2_with fail
  refine calls_abs (fun W => Blk W (w.heap.size) #[.int .i64 a1, .int .i64 a2, .int .i64 a3, .int .i64 a4, .int .i64 a5] ∧ Blk W (w.heap.size + 1) #[.int .i64 b1, .int .i64 b2, .int .i64 b3, .int .i64 b4, .int .i64 b5] ∧ Blk W (w.heap.size + 1 + 1) #[.int .i64 s, .int .i64 r, .int .i64 c] ∧ Below w.heap.size w W) ⟨(by apply Blk.eq; (repeat' (first | with_reducible assumption | with_reducible apply Blk.set | with_reducible apply Blk.other | (with_reducible refine Blk.new ?_; simp; done) | with_reducible apply Blk.alloc | omega)); rfl), (by apply Blk.eq; (repeat' (first | with_reducible assumption | with_reducible apply Blk.set | with_reducible apply Blk.other | (with_reducible refine Blk.new ?_; simp; done) | with_reducible apply Blk.alloc | omega)); rfl), (by apply Blk.eq; (repeat' (first | with_reducible assumption | with_reducible apply Blk.set | with_reducible apply Blk.other | (with_reducible refine Blk.new ?_; simp; done) | with_reducible apply Blk.alloc | omega)); rfl), (by repeat' (first | with_reducible assumption | with_reducible exact Below.refl _ _ | with_reducible refine allocB ?_ | with_reducible refine setB ?_ ?_ | with_reducible refine drewB ?_ | with_reducible refine after ?_ (by assumption) | (simp; omega) | omega))⟩ ?_
  rintro wa ⟨k3, k4, k5, hb0⟩
  obtain ⟨f3, g3, z3⟩ := k3.facts
  obtain ⟨f4, g4, z4⟩ := k4.facts
  obtain ⟨f5, g5, z5⟩ := k5.facts
  refine (cM wa).mono ?_; rintro e w1 ⟨rfl, hb1⟩
  replace k3 := k3.below hb1
  replace k4 := k4.below hb1
  replace k5 := k5.below hb1
  replace hb0 : Below w.heap.size w w1 := after hb0 hb1
  clear f3 g3 z3
  clear f4 g4 z4
  clear f5 g5 z5
  clear hb1
  obtain ⟨f3, g3, z3⟩ := k3.facts
  obtain ⟨f4, g4, z4⟩ := k4.facts
  obtain ⟨f5, g5, z5⟩ := k5.facts
  go_wp2_with fail
  have l6 := hb0.size
  have y3_6 := z3
  have y4_6 := z4
  have y5_6 := z5
  refine calls_abs (fun W => Blk W (w.heap.size) #[.int .i64 a1, .int .i64 a2, .int .i64 a3, .int .i64 a4, .int .i64 a5] ∧ Blk W (w.heap.size + 1) #[.int .i64 b1, .int .i64 b2, .int .i64 b3, .int .i64 b4, .int .i64 b5] ∧ Blk W (w.heap.size + 1 + 1) #[.int .i64 s, .int .i64 r, .int .i64 c] ∧ Blk W (w1.heap.size) #[.int .i64 m1, .int .i64 m2, .int .i64 m3, .int .i64 m4, .int .i64 m5] ∧ Below w.heap.size w W) ⟨(by apply Blk.eq; (repeat' (first | with_reducible assumption | with_reducible apply Blk.set | with_reducible apply Blk.other | (with_reducible refine Blk.new ?_; simp; done) | with_reducible apply Blk.alloc | omega)); rfl), (by apply Blk.eq; (repeat' (first | with_reducible assumption | with_reducible apply Blk.set | with_reducible apply Blk.other | (with_reducible refine Blk.new ?_; simp; done) | with_reducible apply Blk.alloc | omega)); rfl), (by apply Blk.eq; (repeat' (first | with_reducible assumption | with_reducible apply Blk.set | with_reducible apply Blk.other | (with_reducible refine Blk.new ?_; simp; done) | with_reducible apply Blk.alloc | omega)); rfl), (by apply Blk.eq; (repeat' (first | with_reducible assumption | with_reducible apply Blk.set | with_reducible apply Blk.other | (with_reducible refine Blk.new ?_; simp; done) | with_reducible apply Blk.alloc | omega)); rfl), (by repeat' (first | with_reducible assumption | with_reducible exact Below.refl _ _ | with_reducible refine allocB ?_ | with_reducible refine setB ?_ ?_ | with_reducible refine drewB ?_ | with_reducible refine after ?_ (by assumption) | (simp; omega) | omega))⟩ ?_
  clear f3 g3 z3
  clear f4 g4 z4
  clear f5 g5 z5
  clear k3 k4 k5 hb0
  rintro w1a ⟨k3, k4, k5, k6, hb0⟩
  generalize w1.heap.size = b6 at *
  obtain ⟨f3, g3, z3⟩ := k3.facts
  obtain ⟨f4, g4, z4⟩ := k4.facts
  obtain ⟨f5, g5, z5⟩ := k5.facts
  obtain ⟨f6, g6, z6⟩ := k6.facts
  refine (cT w1a).mono ?_; rintro e w2 ⟨rfl, hb2⟩
  replace k3 := k3.below hb2
  replace k4 := k4.below hb2
  replace k5 := k5.below hb2
  replace k6 := k6.below hb2
  replace hb0 : Below w.heap.size w w2 := after hb0 hb2
  clear f3 g3 z3
  clear f4 g4 z4
  clear f5 g5 z5
  clear f6 g6 z6
  clear hb2
  obtain ⟨f3, g3, z3⟩ := k3.facts
  obtain ⟨f4, g4, z4⟩ := k4.facts
  obtain ⟨f5, g5, z5⟩ := k5.facts
  obtain ⟨f6, g6, z6⟩ := k6.facts
  go_upto_region 3 with fail
  have l8 := hb0.size
  have y3_8 := z3
  have y4_8 := z4
  have y5_8 := z5
  have y6_8 := z6
  refine wp_abs2 (fun W => Blk W (w.heap.size) #[.int .i64 a1, .int .i64 a2, .int .i64 a3, .int .i64 a4, .int .i64 a5] ∧ Blk W (w.heap.size + 1) #[.int .i64 b1, .int .i64 b2, .int .i64 b3, .int .i64 b4, .int .i64 b5] ∧ Blk W (w.heap.size + 1 + 1) #[.int .i64 s, .int .i64 r, .int .i64 c] ∧ Blk W (b6) #[.int .i64 m1, .int .i64 m2, .int .i64 m3, .int .i64 m4, .int .i64 m5] ∧ Blk W (w2.heap.size) #[.int .i64 m1, .int .i64 m2, .int .i64 m3, .int .i64 m4, .int .i64 m5] ∧ Below w.heap.size w W) ⟨(by apply Blk.eq; (repeat' (first | with_reducible assumption | with_reducible apply Blk.set | with_reducible apply Blk.other | (with_reducible refine Blk.new ?_; simp; done) | with_reducible apply Blk.alloc | omega)); rfl), (by apply Blk.eq; (repeat' (first | with_reducible assumption | with_reducible apply Blk.set | with_reducible apply Blk.other | (with_reducible refine Blk.new ?_; simp; done) | with_reducible apply Blk.alloc | omega)); rfl), (by apply Blk.eq; (repeat' (first | with_reducible assumption | with_reducible apply Blk.set | with_reducible apply Blk.other | (with_reducible refine Blk.new ?_; simp; done) | with_reducible apply Blk.alloc | omega)); rfl), (by apply Blk.eq; (repeat' (first | with_reducible assumption | with_reducible apply Blk.set | with_reducible apply Blk.other | (with_reducible refine Blk.new ?_; simp; done) | with_reducible apply Blk.alloc | omega)); rfl), (by apply Blk.eq; (repeat' (first | with_reducible assumption | with_reducible apply Blk.set | with_reducible apply Blk.other | (with_reducible refine Blk.new ?_; simp; done) | with_reducible apply Blk.alloc | omega)); rfl), (by repeat' (first | with_reducible assumption | with_reducible exact Below.refl _ _ | with_reducible refine allocB ?_ | with_reducible refine setB ?_ ?_ | with_reducible refine drewB ?_ | with_reducible refine after ?_ (by assumption) | (simp; omega) | omega))⟩ ?_
  clear f3 g3 z3
  clear f4 g4 z4
  clear f5 g5 z5
  clear f6 g6 z6
  clear k3 k4 k5 k6 hb0
  rintro w2a ⟨k3, k4, k5, k6, k8, hb0⟩
  generalize w2.heap.size = b8 at *
  obtain ⟨f3, g3, z3⟩ := k3.facts
  obtain ⟨f4, g4, z4⟩ := k4.facts
  obtain ⟨f5, g5, z5⟩ := k5.facts
  obtain ⟨f6, g6, z6⟩ := k6.facts
  obtain ⟨f8, g8, z8⟩ := k8.facts
  have kc := gcell w2a
  clear cM cT
  refine region_below (by kernel_rfl) (by kernel_rfl) ?_
  repeat (quiet_step (first | exact Ret.grown (fun W _ => cH W) | exact Ret.grown (fun W _ => cG W)))
  refine wpQuiet_nil ?_
  intro wr hbr
  replace hb0 := after hb0 hbr
  go_wp2
  go_ret; exact Ret.mk' rfl hb0
end Go.Proofs.YtmeiboajpbflcaaGreatDoor
