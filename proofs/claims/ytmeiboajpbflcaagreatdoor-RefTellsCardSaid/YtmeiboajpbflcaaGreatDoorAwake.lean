/- The walk of tabulalaw02.awake. -/
import Derived.Test.YtmeiboajpbflcaaGreatDoorEgs
import Derived.Test.YtmeiboajpbflcaaGreatDoorRead
import Derived.Test.YtmeiboajpbflcaaGreatDoorHas
import Derived.Test.YtmeiboajpbflcaaGreatDoorMoved
import Derived.Test.YtmeiboajpbflcaaGreatDoorWriteW
namespace Go.Proofs.YtmeiboajpbflcaaGreatDoor
open Go.RowKit Tab

set_option maxRecDepth 100000 in
set_option maxHeartbeats 4000000 in
theorem awake_any (w : World) (hg : Good w) : Calls Tryz.prog 4 #[] w (Ret (.bool true) w) := by
  have c1 : ∀ W, Below w.heap.size w W → Calls Tryz.prog 13 #[.int .i64 51] W (Ret (.tuple #[.string ⟨#[65, 90]⟩, .int .i64 0]) W) := fun W hb => by
    have := Column_any 51 W (by decide) (by decide)
    rw [eg15.1, eg15.2] at this
    exact this
  have c2 : ∀ W, Below w.heap.size w W → Calls Tryz.prog 15 #[.agg #[.string ⟨#[73, 116, 39, 115]⟩, .int .i64 4, .int .i64 27, .bool true, .bool true, .bool false]] W (Ret (.tuple #[.string ⟨#[39, 73, 116, 39, 39, 115, 39, 33, 36, 65, 66, 36, 53]⟩, .int .i64 0]) W) := fun W hb => by
    have := Text_any egText W (hg.below hb) (by decide)
    rw [eg1] at this
    exact this
  have c3 : ∀ W, Below w.heap.size w W → Calls Tryz.prog 9 #[.string ⟨#[98, 51]⟩] W (Ret (.tuple #[.agg #[.string ⟨#[]⟩, .int .i64 2, .int .i64 1, .bool false, .bool false, .bool false], .int .i64 0]) W) := fun W hb => by
    have := Read_any ⟨#[98, 51]⟩ W (hg.below hb) (by decide)
    rw [eg2] at this
    exact this
  have c4 : ∀ W, Below w.heap.size w W → Calls Tryz.prog 9 #[.string ⟨#[66, 48]⟩] W (Ret (.tuple #[.agg #[.string ⟨#[]⟩, .int .i64 0, .int .i64 0, .bool false, .bool false, .bool false], .int .i64 20]) W) := fun W hb => by
    have := Read_any ⟨#[66, 48]⟩ W (hg.below hb) (by decide)
    rw [eg3] at this
    exact this
  have c5 : ∀ W, Below w.heap.size w W → Calls Tryz.prog 9 #[.string ⟨#[66, 48, 51]⟩] W (Ret (.tuple #[.agg #[.string ⟨#[]⟩, .int .i64 0, .int .i64 0, .bool false, .bool false, .bool false], .int .i64 20]) W) := fun W hb => by
    have := Read_any ⟨#[66, 48, 51]⟩ W (hg.below hb) (by decide)
    rw [eg4] at this
    exact this
  have c6 : ∀ W, Below w.heap.size w W → Calls Tryz.prog 9 #[.string ⟨#[39, 39, 33, 65, 49]⟩] W (Ret (.tuple #[.agg #[.string ⟨#[]⟩, .int .i64 0, .int .i64 0, .bool false, .bool false, .bool false], .int .i64 20]) W) := fun W hb => by
    have := Read_any ⟨#[39, 39, 33, 65, 49]⟩ W (hg.below hb) (by decide)
    rw [eg5] at this
    exact this
  have c7 : ∀ W, Below w.heap.size w W → Calls Tryz.prog 20 #[.agg #[.string ⟨#[]⟩, .int .i64 4, .int .i64 2, .bool false, .bool false, .bool false], .agg #[.string ⟨#[]⟩, .int .i64 6, .int .i64 0, .bool false, .bool false, .bool false], .int .i64 1] W (Ret (.tuple #[.agg #[.int .i64 1, .int .i64 4, .int .i64 0, .int .i64 3, .int .i64 3], .int .i64 0]) W) := fun W hb => by
    have := Area_any ⟨⟨#[]⟩, 4, 2, false, false, false⟩ ⟨⟨#[]⟩, 6, 0, false, false, false⟩ 1 W (hg.below hb) (by unfold RefIn; decide) (by unfold RefIn; decide)
    rw [eg6] at this
    exact this
  have c8 : ∀ W, Below w.heap.size w W → Calls Tryz.prog 25 #[.agg #[.int .i64 1, .int .i64 4, .int .i64 0, .int .i64 3, .int .i64 3], .agg #[.int .i64 1, .int .i64 5, .int .i64 1, .int .i64 9, .int .i64 9]] W (Ret (.tuple #[.agg #[.int .i64 1, .int .i64 5, .int .i64 1, .int .i64 2, .int .i64 2], .bool true]) W) := fun W hb => by
    have := Meet_any ⟨1, 4, 0, 3, 3⟩ ⟨1, 5, 1, 9, 9⟩ W
    rw [eg7, eg7b] at this
    exact this
  have c9 : ∀ W, Below w.heap.size w W → Calls Tryz.prog 18 #[.agg #[.string ⟨#[]⟩, .int .i64 2, .int .i64 1, .bool false, .bool false, .bool false], .int .i64 (-2), .int .i64 1] W (Ret (.tuple #[.agg #[.string ⟨#[]⟩, .int .i64 0, .int .i64 2, .bool false, .bool false, .bool false], .int .i64 0]) W) := fun W hb => by
    have := Moved_any egB3 (-2) 1 W (hg.below hb) (by unfold RefIn; decide)
    rw [eg8] at this
    exact this
  have c10 : ∀ W, Below w.heap.size w W → Calls Tryz.prog 18 #[.agg #[.string ⟨#[]⟩, .int .i64 2, .int .i64 1, .bool false, .bool false, .bool false], .int .i64 (-3), .int .i64 1] W (Ret (.tuple #[.agg #[.string ⟨#[]⟩, .int .i64 0, .int .i64 0, .bool false, .bool false, .bool false], .int .i64 20]) W) := fun W hb => by
    have := Moved_any egB3 (-3) 1 W (hg.below hb) (by unfold RefIn; decide)
    rw [eg9] at this
    exact this
  have c11 : ∀ W, Below w.heap.size w W → Calls Tryz.prog 11 #[.string ⟨#[97, 90]⟩] W (Ret (.tuple #[.int .i64 51, .int .i64 0]) W) := fun W hb => by
    have := ReadColumn_any ⟨#[97, 90]⟩ W (hg.below hb) (by decide)
    rw [show colOf (ByteArray.mk #[97, 90]).data.toList = some 51 from eg10] at this
    exact this
  have c12 : ∀ W, Below w.heap.size w W → Calls Tryz.prog 26 #[.agg #[.int .i64 1, .int .i64 4, .int .i64 0, .int .i64 3, .int .i64 3], .agg #[.int .i64 1, .int .i64 6, .int .i64 2]] W (Ret (.bool true) W) := fun W hb => by
    have := Has_any 1 4 0 3 3 1 6 2 W
    rw [eg11] at this
    exact this
  have c13 : ∀ W, Below w.heap.size w W → Calls Tryz.prog 26 #[.agg #[.int .i64 1, .int .i64 4, .int .i64 0, .int .i64 3, .int .i64 3], .agg #[.int .i64 0, .int .i64 6, .int .i64 2]] W (Ret (.bool false) W) := fun W hb => by
    have := Has_any 1 4 0 3 3 0 6 2 W
    rw [eg12] at this
    exact this
  have c14 : ∀ W, Below w.heap.size w W → Calls Tryz.prog 16 #[.agg #[.string ⟨#[]⟩, .int .i64 2, .int .i64 1, .bool false, .bool false, .bool false]] W (Ret (.bool true) W) := fun W hb => by
    have := Right_any ⟨#[]⟩ 2 1 false false false W (hg.below hb) (by decide)
    rw [show rightB (ByteArray.mk #[]).data.toList 2 1 false false false = true from eg13] at this
    exact this
  have c15 : ∀ W, Below w.heap.size w W → Calls Tryz.prog 16 #[.agg #[.string ⟨#[]⟩, .int .i64 1, .int .i64 0, .bool false, .bool false, .bool true]] W (Ret (.bool false) W) := fun W hb => by
    have := Right_any ⟨#[]⟩ 1 0 false false true W (hg.below hb) (by decide)
    rw [show rightB (ByteArray.mk #[]).data.toList 1 0 false false true = false from eg14] at this
    exact this
  clear hg
  go_enter Tryz.func4, Tryz.ntmps4
  go_wp2_with fail
  refine (c1 w (Below.refl _ _)).mono ?_; rintro e w1 ⟨rfl, hb1⟩
  have hb0 : Below w.heap.size w w1 := hb1
  clear hb1 c1
  go_wp2_with fail
  refine (c2 w1 hb0).mono ?_; rintro e w2 ⟨rfl, hb2⟩
  replace hb0 : Below w.heap.size w w2 := after hb0 hb2
  clear hb2 c2
  go_wp2_with fail
  refine (c3 w2 hb0).mono ?_; rintro e w3 ⟨rfl, hb3⟩
  replace hb0 : Below w.heap.size w w3 := after hb0 hb3
  clear hb3 c3
  go_wp2_with fail
  refine calls_abs (fun W => Blk W w3.heap.size #[.string ⟨#[]⟩, .int .i64 2, .int .i64 1, .bool false, .bool false, .bool false] ∧ Below w.heap.size w W) ⟨(by apply Blk.eq; (repeat' (first | with_reducible assumption | with_reducible apply Blk.set | with_reducible apply Blk.other | with_reducible exact Blk.new rfl | with_reducible apply Blk.alloc | omega)); rfl), (by repeat' (first | with_reducible assumption | with_reducible exact Below.refl _ _ | with_reducible refine allocB ?_ | with_reducible refine setB ?_ ?_ | with_reducible refine drewB ?_ | with_reducible refine after ?_ (by assumption) | (simp; omega) | omega))⟩ ?_
  clear hb0
  rintro w3a ⟨k5, hb0⟩
  generalize w3.heap.size = b5 at *
  obtain ⟨f5, g5, z5⟩ := k5.facts
  refine (c4 w3a hb0).mono ?_; rintro e w4 ⟨rfl, hb4⟩
  replace k5 := k5.below hb4
  replace hb0 : Below w.heap.size w w4 := after hb0 hb4
  clear f5 g5 z5
  clear hb4 c4
  obtain ⟨f5, g5, z5⟩ := k5.facts
  go_wp2_with fail
  refine calls_abs (fun W => Blk W b5 #[.string ⟨#[]⟩, .int .i64 2, .int .i64 1, .bool false, .bool false, .bool false] ∧ Below w.heap.size w W) ⟨(by apply Blk.eq; (repeat' (first | with_reducible assumption | with_reducible apply Blk.set | with_reducible apply Blk.other | with_reducible exact Blk.new rfl | with_reducible apply Blk.alloc | omega)); rfl), (by repeat' (first | with_reducible assumption | with_reducible exact Below.refl _ _ | with_reducible refine allocB ?_ | with_reducible refine setB ?_ ?_ | with_reducible refine drewB ?_ | with_reducible refine after ?_ (by assumption) | (simp; omega) | omega))⟩ ?_
  clear f5 g5 z5
  clear k5 hb0
  rintro w4a ⟨k5, hb0⟩
  obtain ⟨f5, g5, z5⟩ := k5.facts
  refine (c5 w4a hb0).mono ?_; rintro e w5 ⟨rfl, hb5⟩
  replace k5 := k5.below hb5
  replace hb0 : Below w.heap.size w w5 := after hb0 hb5
  clear f5 g5 z5
  clear hb5 c5
  obtain ⟨f5, g5, z5⟩ := k5.facts
  go_wp2_with fail
  refine calls_abs (fun W => Blk W b5 #[.string ⟨#[]⟩, .int .i64 2, .int .i64 1, .bool false, .bool false, .bool false] ∧ Below w.heap.size w W) ⟨(by apply Blk.eq; (repeat' (first | with_reducible assumption | with_reducible apply Blk.set | with_reducible apply Blk.other | with_reducible exact Blk.new rfl | with_reducible apply Blk.alloc | omega)); rfl), (by repeat' (first | with_reducible assumption | with_reducible exact Below.refl _ _ | with_reducible refine allocB ?_ | with_reducible refine setB ?_ ?_ | with_reducible refine drewB ?_ | with_reducible refine after ?_ (by assumption) | (simp; omega) | omega))⟩ ?_
  clear f5 g5 z5
  clear k5 hb0
  rintro w5a ⟨k5, hb0⟩
  obtain ⟨f5, g5, z5⟩ := k5.facts
  refine (c6 w5a hb0).mono ?_; rintro e w6 ⟨rfl, hb6⟩
  replace k5 := k5.below hb6
  replace hb0 : Below w.heap.size w w6 := after hb0 hb6
  clear f5 g5 z5
  clear hb6 c6
  obtain ⟨f5, g5, z5⟩ := k5.facts
  go_wp2_with fail
  refine calls_abs (fun W => Blk W b5 #[.string ⟨#[]⟩, .int .i64 2, .int .i64 1, .bool false, .bool false, .bool false] ∧ Below w.heap.size w W) ⟨(by apply Blk.eq; (repeat' (first | with_reducible assumption | with_reducible apply Blk.set | with_reducible apply Blk.other | with_reducible exact Blk.new rfl | with_reducible apply Blk.alloc | omega)); rfl), (by repeat' (first | with_reducible assumption | with_reducible exact Below.refl _ _ | with_reducible refine allocB ?_ | with_reducible refine setB ?_ ?_ | with_reducible refine drewB ?_ | with_reducible refine after ?_ (by assumption) | (simp; omega) | omega))⟩ ?_
  clear f5 g5 z5
  clear k5 hb0
  rintro w6a ⟨k5, hb0⟩
  obtain ⟨f5, g5, z5⟩ := k5.facts
  refine (c7 w6a hb0).mono ?_; rintro e w7 ⟨rfl, hb7⟩
  replace k5 := k5.below hb7
  replace hb0 : Below w.heap.size w w7 := after hb0 hb7
  clear f5 g5 z5
  clear hb7 c7
  obtain ⟨f5, g5, z5⟩ := k5.facts
  go_wp2_with fail
  refine calls_abs (fun W => Blk W b5 #[.string ⟨#[]⟩, .int .i64 2, .int .i64 1, .bool false, .bool false, .bool false] ∧ Blk W w7.heap.size #[.int .i64 1, .int .i64 4, .int .i64 0, .int .i64 3, .int .i64 3] ∧ Below w.heap.size w W) ⟨(by apply Blk.eq; (repeat' (first | with_reducible assumption | with_reducible apply Blk.set | with_reducible apply Blk.other | with_reducible exact Blk.new rfl | with_reducible apply Blk.alloc | omega)); rfl), (by apply Blk.eq; (repeat' (first | with_reducible assumption | with_reducible apply Blk.set | with_reducible apply Blk.other | with_reducible exact Blk.new rfl | with_reducible apply Blk.alloc | omega)); rfl), (by repeat' (first | with_reducible assumption | with_reducible exact Below.refl _ _ | with_reducible refine allocB ?_ | with_reducible refine setB ?_ ?_ | with_reducible refine drewB ?_ | with_reducible refine after ?_ (by assumption) | (simp; omega) | omega))⟩ ?_
  clear f5 g5 z5
  clear k5 hb0
  rintro w7a ⟨k5, k13, hb0⟩
  generalize w7.heap.size = b13 at *
  obtain ⟨f5, g5, z5⟩ := k5.facts
  obtain ⟨f13, g13, z13⟩ := k13.facts
  refine (c8 w7a hb0).mono ?_; rintro e w8 ⟨rfl, hb8⟩
  replace k5 := k5.below hb8
  replace k13 := k13.below hb8
  replace hb0 : Below w.heap.size w w8 := after hb0 hb8
  clear f5 g5 z5
  clear f13 g13 z13
  clear hb8 c8
  obtain ⟨f5, g5, z5⟩ := k5.facts
  obtain ⟨f13, g13, z13⟩ := k13.facts
  go_wp2_with fail
  refine calls_abs (fun W => Blk W b5 #[.string ⟨#[]⟩, .int .i64 2, .int .i64 1, .bool false, .bool false, .bool false] ∧ Blk W b13 #[.int .i64 1, .int .i64 4, .int .i64 0, .int .i64 3, .int .i64 3] ∧ Blk W w8.heap.size #[.int .i64 1, .int .i64 5, .int .i64 1, .int .i64 2, .int .i64 2] ∧ Below w.heap.size w W) ⟨(by apply Blk.eq; (repeat' (first | with_reducible assumption | with_reducible apply Blk.set | with_reducible apply Blk.other | with_reducible exact Blk.new rfl | with_reducible apply Blk.alloc | omega)); rfl), (by apply Blk.eq; (repeat' (first | with_reducible assumption | with_reducible apply Blk.set | with_reducible apply Blk.other | with_reducible exact Blk.new rfl | with_reducible apply Blk.alloc | omega)); rfl), (by apply Blk.eq; (repeat' (first | with_reducible assumption | with_reducible apply Blk.set | with_reducible apply Blk.other | with_reducible exact Blk.new rfl | with_reducible apply Blk.alloc | omega)); rfl), (by repeat' (first | with_reducible assumption | with_reducible exact Below.refl _ _ | with_reducible refine allocB ?_ | with_reducible refine setB ?_ ?_ | with_reducible refine drewB ?_ | with_reducible refine after ?_ (by assumption) | (simp; omega) | omega))⟩ ?_
  clear f5 g5 z5
  clear f13 g13 z13
  clear k5 k13 hb0
  rintro w8a ⟨k5, k13, k15, hb0⟩
  generalize w8.heap.size = b15 at *
  obtain ⟨f5, g5, z5⟩ := k5.facts
  obtain ⟨f13, g13, z13⟩ := k13.facts
  obtain ⟨f15, g15, z15⟩ := k15.facts
  refine (c9 w8a hb0).mono ?_; rintro e w9 ⟨rfl, hb9⟩
  replace k5 := k5.below hb9
  replace k13 := k13.below hb9
  replace k15 := k15.below hb9
  replace hb0 : Below w.heap.size w w9 := after hb0 hb9
  clear f5 g5 z5
  clear f13 g13 z13
  clear f15 g15 z15
  clear hb9 c9
  obtain ⟨f5, g5, z5⟩ := k5.facts
  obtain ⟨f13, g13, z13⟩ := k13.facts
  obtain ⟨f15, g15, z15⟩ := k15.facts
  go_wp2_with fail
  refine calls_abs (fun W => Blk W b5 #[.string ⟨#[]⟩, .int .i64 2, .int .i64 1, .bool false, .bool false, .bool false] ∧ Blk W b13 #[.int .i64 1, .int .i64 4, .int .i64 0, .int .i64 3, .int .i64 3] ∧ Blk W b15 #[.int .i64 1, .int .i64 5, .int .i64 1, .int .i64 2, .int .i64 2] ∧ Blk W w9.heap.size #[.string ⟨#[]⟩, .int .i64 0, .int .i64 2, .bool false, .bool false, .bool false] ∧ Below w.heap.size w W) ⟨(by apply Blk.eq; (repeat' (first | with_reducible assumption | with_reducible apply Blk.set | with_reducible apply Blk.other | with_reducible exact Blk.new rfl | with_reducible apply Blk.alloc | omega)); rfl), (by apply Blk.eq; (repeat' (first | with_reducible assumption | with_reducible apply Blk.set | with_reducible apply Blk.other | with_reducible exact Blk.new rfl | with_reducible apply Blk.alloc | omega)); rfl), (by apply Blk.eq; (repeat' (first | with_reducible assumption | with_reducible apply Blk.set | with_reducible apply Blk.other | with_reducible exact Blk.new rfl | with_reducible apply Blk.alloc | omega)); rfl), (by apply Blk.eq; (repeat' (first | with_reducible assumption | with_reducible apply Blk.set | with_reducible apply Blk.other | with_reducible exact Blk.new rfl | with_reducible apply Blk.alloc | omega)); rfl), (by repeat' (first | with_reducible assumption | with_reducible exact Below.refl _ _ | with_reducible refine allocB ?_ | with_reducible refine setB ?_ ?_ | with_reducible refine drewB ?_ | with_reducible refine after ?_ (by assumption) | (simp; omega) | omega))⟩ ?_
  clear f5 g5 z5
  clear f13 g13 z13
  clear f15 g15 z15
  clear k5 k13 k15 hb0
  rintro w9a ⟨k5, k13, k15, k17, hb0⟩
  generalize w9.heap.size = b17 at *
  obtain ⟨f5, g5, z5⟩ := k5.facts
  obtain ⟨f13, g13, z13⟩ := k13.facts
  obtain ⟨f15, g15, z15⟩ := k15.facts
  obtain ⟨f17, g17, z17⟩ := k17.facts
  refine (c10 w9a hb0).mono ?_; rintro e w10 ⟨rfl, hb10⟩
  replace k5 := k5.below hb10
  replace k13 := k13.below hb10
  replace k15 := k15.below hb10
  replace k17 := k17.below hb10
  replace hb0 : Below w.heap.size w w10 := after hb0 hb10
  clear f5 g5 z5
  clear f13 g13 z13
  clear f15 g15 z15
  clear f17 g17 z17
  clear hb10 c10
  obtain ⟨f5, g5, z5⟩ := k5.facts
  obtain ⟨f13, g13, z13⟩ := k13.facts
  obtain ⟨f15, g15, z15⟩ := k15.facts
  obtain ⟨f17, g17, z17⟩ := k17.facts
  go_wp2_with fail
  refine calls_abs (fun W => Blk W b5 #[.string ⟨#[]⟩, .int .i64 2, .int .i64 1, .bool false, .bool false, .bool false] ∧ Blk W b13 #[.int .i64 1, .int .i64 4, .int .i64 0, .int .i64 3, .int .i64 3] ∧ Blk W b15 #[.int .i64 1, .int .i64 5, .int .i64 1, .int .i64 2, .int .i64 2] ∧ Blk W b17 #[.string ⟨#[]⟩, .int .i64 0, .int .i64 2, .bool false, .bool false, .bool false] ∧ Below w.heap.size w W) ⟨(by apply Blk.eq; (repeat' (first | with_reducible assumption | with_reducible apply Blk.set | with_reducible apply Blk.other | with_reducible exact Blk.new rfl | with_reducible apply Blk.alloc | omega)); rfl), (by apply Blk.eq; (repeat' (first | with_reducible assumption | with_reducible apply Blk.set | with_reducible apply Blk.other | with_reducible exact Blk.new rfl | with_reducible apply Blk.alloc | omega)); rfl), (by apply Blk.eq; (repeat' (first | with_reducible assumption | with_reducible apply Blk.set | with_reducible apply Blk.other | with_reducible exact Blk.new rfl | with_reducible apply Blk.alloc | omega)); rfl), (by apply Blk.eq; (repeat' (first | with_reducible assumption | with_reducible apply Blk.set | with_reducible apply Blk.other | with_reducible exact Blk.new rfl | with_reducible apply Blk.alloc | omega)); rfl), (by repeat' (first | with_reducible assumption | with_reducible exact Below.refl _ _ | with_reducible refine allocB ?_ | with_reducible refine setB ?_ ?_ | with_reducible refine drewB ?_ | with_reducible refine after ?_ (by assumption) | (simp; omega) | omega))⟩ ?_
  clear f5 g5 z5
  clear f13 g13 z13
  clear f15 g15 z15
  clear f17 g17 z17
  clear k5 k13 k15 k17 hb0
  rintro w10a ⟨k5, k13, k15, k17, hb0⟩
  obtain ⟨f5, g5, z5⟩ := k5.facts
  obtain ⟨f13, g13, z13⟩ := k13.facts
  obtain ⟨f15, g15, z15⟩ := k15.facts
  obtain ⟨f17, g17, z17⟩ := k17.facts
  refine (c11 w10a hb0).mono ?_; rintro e w11 ⟨rfl, hb11⟩
  replace k5 := k5.below hb11
  replace k13 := k13.below hb11
  replace k15 := k15.below hb11
  replace k17 := k17.below hb11
  replace hb0 : Below w.heap.size w w11 := after hb0 hb11
  clear f5 g5 z5
  clear f13 g13 z13
  clear f15 g15 z15
  clear f17 g17 z17
  clear hb11 c11
  obtain ⟨f5, g5, z5⟩ := k5.facts
  obtain ⟨f13, g13, z13⟩ := k13.facts
  obtain ⟨f15, g15, z15⟩ := k15.facts
  obtain ⟨f17, g17, z17⟩ := k17.facts
  go_wp2_with fail
  refine (c12 w11 hb0).mono ?_; rintro e w12 ⟨rfl, hb12⟩
  replace k5 := k5.below hb12
  replace k13 := k13.below hb12
  replace k15 := k15.below hb12
  replace k17 := k17.below hb12
  replace hb0 : Below w.heap.size w w12 := after hb0 hb12
  clear f5 g5 z5
  clear f13 g13 z13
  clear f15 g15 z15
  clear f17 g17 z17
  clear hb12 c12
  obtain ⟨f5, g5, z5⟩ := k5.facts
  obtain ⟨f13, g13, z13⟩ := k13.facts
  obtain ⟨f15, g15, z15⟩ := k15.facts
  obtain ⟨f17, g17, z17⟩ := k17.facts
  go_wp2_with fail
  refine (c13 w12 hb0).mono ?_; rintro e w13 ⟨rfl, hb13⟩
  replace k5 := k5.below hb13
  replace k13 := k13.below hb13
  replace k15 := k15.below hb13
  replace k17 := k17.below hb13
  replace hb0 : Below w.heap.size w w13 := after hb0 hb13
  clear f5 g5 z5
  clear f13 g13 z13
  clear f15 g15 z15
  clear f17 g17 z17
  clear hb13 c13
  obtain ⟨f5, g5, z5⟩ := k5.facts
  obtain ⟨f13, g13, z13⟩ := k13.facts
  obtain ⟨f15, g15, z15⟩ := k15.facts
  obtain ⟨f17, g17, z17⟩ := k17.facts
  go_wp2_with fail
  refine (c14 w13 hb0).mono ?_; rintro e w14 ⟨rfl, hb14⟩
  replace k5 := k5.below hb14
  replace k13 := k13.below hb14
  replace k15 := k15.below hb14
  replace k17 := k17.below hb14
  replace hb0 : Below w.heap.size w w14 := after hb0 hb14
  clear f5 g5 z5
  clear f13 g13 z13
  clear f15 g15 z15
  clear f17 g17 z17
  clear hb14 c14
  obtain ⟨f5, g5, z5⟩ := k5.facts
  obtain ⟨f13, g13, z13⟩ := k13.facts
  obtain ⟨f15, g15, z15⟩ := k15.facts
  obtain ⟨f17, g17, z17⟩ := k17.facts
  go_wp2_with fail
  refine (c15 w14 hb0).mono ?_; rintro e w15 ⟨rfl, hb15⟩
  replace k5 := k5.below hb15
  replace k13 := k13.below hb15
  replace k15 := k15.below hb15
  replace k17 := k17.below hb15
  replace hb0 : Below w.heap.size w w15 := after hb0 hb15
  clear f5 g5 z5
  clear f13 g13 z13
  clear f15 g15 z15
  clear f17 g17 z17
  clear hb15 c15
  obtain ⟨f5, g5, z5⟩ := k5.facts
  obtain ⟨f13, g13, z13⟩ := k13.facts
  obtain ⟨f15, g15, z15⟩ := k15.facts
  obtain ⟨f17, g17, z17⟩ := k17.facts
  go_wp2
  go_ret; exact Ret.mk' rfl hb0
end Go.Proofs.YtmeiboajpbflcaaGreatDoor
