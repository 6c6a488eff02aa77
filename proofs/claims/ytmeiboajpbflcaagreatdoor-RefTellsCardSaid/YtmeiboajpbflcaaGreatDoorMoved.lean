/- The walk of Moved. -/
import Derived.Test.YtmeiboajpbflcaaGreatDoorArea
namespace Go.Proofs.YtmeiboajpbflcaaGreatDoor
open Go.RowKit Tab

theorem clamp_range (x m : Int) (h : 0 ≤ m) : -m ≤ clamp x m ∧ clamp x m ≤ m := by
  unfold clamp; omega
set_option maxRecDepth 100000 in
set_option maxHeartbeats 1000000 in
theorem Moved_no (s : ByteArray) (row col : Int) (x y z : Bool) (m n : Int) (w : World) (hg : Good w) (l1 : s.size ≤ 9223372036854775807) (R1 : rightB s.data.toList row col x y z = false) :
    Calls Tryz.prog 18 #[.agg #[.string s, .int .i64 row, .int .i64 col, .bool x, .bool y, .bool z], .int .i64 m, .int .i64 n] w (Ret (.tuple #[refV (movedOf ⟨s, row, col, x, y, z⟩ m n).1, .int .i64 (movedOf ⟨s, row, col, x, y, z⟩ m n).2]) w) := by
  have cR : ∀ r c W, Below w.heap.size w W → Calls Tryz.prog 16 #[.agg #[.string s, .int .i64 r, .int .i64 c, .bool x, .bool y, .bool z]] W (Ret (.bool (rightB s.data.toList r c x y z)) W) := fun r c W hb => Right_any s r c x y z W (hg.below hb) l1
  clear hg l1
  have Hv : Hid (movedOf ⟨s, row, col, x, y, z⟩ m n = (RefD.zero, 20)) := by
    show _ = _
    simp [movedOf, RefD.right, R1]
  go_enter Tryz.func18, Tryz.ntmps18
  go_wp2_with fail
  refine (cR _ _ _ (by repeat' (first | with_reducible assumption | with_reducible exact Below.refl _ _ | with_reducible refine allocB ?_ | with_reducible refine setB ?_ ?_ | with_reducible refine drewB ?_ | with_reducible refine after ?_ (by assumption) | (simp; omega) | omega))).mono ?_; rintro e w1 ⟨rfl, hb1⟩
  have k0 : Blk w1 w.heap.size #[.string s, .int .i64 row, .int .i64 col, .bool x, .bool y, .bool z] := ((Blk.new rfl).alloc).below hb1
  have k1 : Blk w1 (w.heap.size + 1) #[.string ⟨#[]⟩, .int .i64 0, .int .i64 0, .bool false, .bool false, .bool false] := (Blk.new (by simp)).below hb1
  have hb0 : Below w.heap.size w w1 := (by repeat' (first | with_reducible assumption | with_reducible exact Below.refl _ _ | with_reducible refine allocB ?_ | with_reducible refine setB ?_ ?_ | with_reducible refine drewB ?_ | with_reducible refine after ?_ (by assumption) | (simp; omega) | omega))
  clear hb1
  obtain ⟨f0, g0, z0⟩ := k0.facts
  obtain ⟨f1, g1, z1⟩ := k1.facts
  rw [R1]
  clear cR
  go_wp2
  exact bodyPost_ret (v := .tuple #[.agg #[.string ⟨#[]⟩, .int .i64 0, .int .i64 0, .bool false, .bool false, .bool false], .int .i64 20]) (by simp [results, Tryz.results18, go_sem, *]) rfl ⟨by rw [Hv.out]; rfl, (by repeat' (first | with_reducible assumption | with_reducible exact Below.refl _ _ | with_reducible refine allocB ?_ | with_reducible refine setB ?_ ?_ | with_reducible refine drewB ?_ | with_reducible refine after ?_ (by assumption) | (simp; omega) | omega))⟩

set_option maxRecDepth 100000 in
set_option maxHeartbeats 1000000 in
theorem Moved_bad (s : ByteArray) (row col : Int) (x y : Bool) (m n : Int) (w : World) (hg : Good w) (l1 : s.size ≤ 9223372036854775807) (R1 : rightB s.data.toList row col x y true = true) :
    Calls Tryz.prog 18 #[.agg #[.string s, .int .i64 row, .int .i64 col, .bool x, .bool y, .bool true], .int .i64 m, .int .i64 n] w (Ret (.tuple #[refV (movedOf ⟨s, row, col, x, y, true⟩ m n).1, .int .i64 (movedOf ⟨s, row, col, x, y, true⟩ m n).2]) w) := by
  have cR : ∀ r c W, Below w.heap.size w W → Calls Tryz.prog 16 #[.agg #[.string s, .int .i64 r, .int .i64 c, .bool x, .bool y, .bool true]] W (Ret (.bool (rightB s.data.toList r c x y true)) W) := fun r c W hb => Right_any s r c x y true W (hg.below hb) l1
  clear hg l1
  have Hv : Hid (movedOf ⟨s, row, col, x, y, true⟩ m n = (⟨s, row, col, x, y, true⟩, 0)) := by
    show _ = _
    simp [movedOf, RefD.right, R1]
  go_enter Tryz.func18, Tryz.ntmps18
  go_wp2_with fail
  refine (cR _ _ _ (by repeat' (first | with_reducible assumption | with_reducible exact Below.refl _ _ | with_reducible refine allocB ?_ | with_reducible refine setB ?_ ?_ | with_reducible refine drewB ?_ | with_reducible refine after ?_ (by assumption) | (simp; omega) | omega))).mono ?_; rintro e w1 ⟨rfl, hb1⟩
  have k0 : Blk w1 w.heap.size #[.string s, .int .i64 row, .int .i64 col, .bool x, .bool y, .bool true] := ((Blk.new rfl).alloc).below hb1
  have k1 : Blk w1 (w.heap.size + 1) #[.string ⟨#[]⟩, .int .i64 0, .int .i64 0, .bool false, .bool false, .bool false] := (Blk.new (by simp)).below hb1
  have hb0 : Below w.heap.size w w1 := (by repeat' (first | with_reducible assumption | with_reducible exact Below.refl _ _ | with_reducible refine allocB ?_ | with_reducible refine setB ?_ ?_ | with_reducible refine drewB ?_ | with_reducible refine after ?_ (by assumption) | (simp; omega) | omega))
  clear hb1
  obtain ⟨f0, g0, z0⟩ := k0.facts
  obtain ⟨f1, g1, z1⟩ := k1.facts
  rw [R1]
  clear cR
  go_wp2
  exact bodyPost_ret (v := .tuple #[.agg #[.string s, .int .i64 row, .int .i64 col, .bool x, .bool y, .bool true], .int .i64 0]) (by simp [results, Tryz.results18, go_sem, *]) rfl ⟨by rw [Hv.out]; rfl, (by repeat' (first | with_reducible assumption | with_reducible exact Below.refl _ _ | with_reducible refine allocB ?_ | with_reducible refine setB ?_ ?_ | with_reducible refine drewB ?_ | with_reducible refine after ?_ (by assumption) | (simp; omega) | omega))⟩

set_option maxRecDepth 100000 in
set_option maxHeartbeats 1000000 in
theorem Moved_true_true (s : ByteArray) (row col : Int) (m n : Int) (w : World) (hg : Good w) (l1 : s.size ≤ 9223372036854775807) (R1 : rightB s.data.toList row col true true false = true) :
    Calls Tryz.prog 18 #[.agg #[.string s, .int .i64 row, .int .i64 col, .bool true, .bool true, .bool false], .int .i64 m, .int .i64 n] w (Ret (.tuple #[refV (movedOf ⟨s, row, col, true, true, false⟩ m n).1, .int .i64 (movedOf ⟨s, row, col, true, true, false⟩ m n).2]) w) := by
  have cR : ∀ r c W, Below w.heap.size w W → Calls Tryz.prog 16 #[.agg #[.string s, .int .i64 r, .int .i64 c, .bool true, .bool true, .bool false]] W (Ret (.bool (rightB s.data.toList r c true true false)) W) := fun r c W hb => Right_any s r c true true false W (hg.below hb) l1
  clear hg l1
  obtain ⟨b1, b2, b3, b4⟩ := right_range (r := ⟨s, row, col, true, true, false⟩) R1
  simp only at b1 b2 b3 b4
  have Hv : Hid (movedOf ⟨s, row, col, true, true, false⟩ m n = if rightB s.data.toList row col true true false = true then (⟨s, row, col, true, true, false⟩, 0) else (RefD.zero, 20)) := by
    show _ = _
    simp [movedOf, RefD.right, RefD.shifted, R1]
  obtain ⟨p1, p2⟩ := clamp_range m 200 (by omega)
  obtain ⟨q1, q2⟩ := clamp_range n 52 (by omega)
  have e1 : max (min m 200) (-200) = clamp m 200 := rfl
  have e2 : max (min n 52) (-52) = clamp n 52 := rfl
  generalize clamp m 200 = P at *
  generalize clamp n 52 = Q at *
  go_enter Tryz.func18, Tryz.ntmps18
  go_wp2_with fail
  refine (cR _ _ _ (by repeat' (first | with_reducible assumption | with_reducible exact Below.refl _ _ | with_reducible refine allocB ?_ | with_reducible refine setB ?_ ?_ | with_reducible refine drewB ?_ | with_reducible refine after ?_ (by assumption) | (simp; omega) | omega))).mono ?_; rintro e w1 ⟨rfl, hb1⟩
  have k0 : Blk w1 w.heap.size #[.string s, .int .i64 row, .int .i64 col, .bool true, .bool true, .bool false] := ((Blk.new rfl).alloc).below hb1
  have k1 : Blk w1 (w.heap.size + 1) #[.string ⟨#[]⟩, .int .i64 0, .int .i64 0, .bool false, .bool false, .bool false] := (Blk.new (by simp)).below hb1
  have hb0 : Below w.heap.size w w1 := (by repeat' (first | with_reducible assumption | with_reducible exact Below.refl _ _ | with_reducible refine allocB ?_ | with_reducible refine setB ?_ ?_ | with_reducible refine drewB ?_ | with_reducible refine after ?_ (by assumption) | (simp; omega) | omega))
  clear hb1
  obtain ⟨f0, g0, z0⟩ := k0.facts
  obtain ⟨f1, g1, z1⟩ := k1.facts
  rw [R1]
  cases R2 : rightB s.data.toList row col true true false
  · rw [R2, if_neg (by simp)] at Hv
    go_wp2_with fail
    refine (cR _ _ _ (by repeat' (first | with_reducible assumption | with_reducible exact Below.refl _ _ | with_reducible refine allocB ?_ | with_reducible refine setB ?_ ?_ | with_reducible refine drewB ?_ | with_reducible refine after ?_ (by assumption) | (simp; omega) | omega))).mono ?_; rintro e w2 ⟨rfl, hb2⟩
    rw [R2]
    have k2 : Blk w2 w.heap.size #[.string s, .int .i64 row, .int .i64 col, .bool true, .bool true, .bool false] := Blk.below (by apply Blk.eq; (repeat' (first | with_reducible assumption | with_reducible apply Blk.set | with_reducible apply Blk.other | with_reducible exact Blk.new rfl | with_reducible apply Blk.alloc | omega)); rfl) hb2
    have k3 : Blk w2 (w.heap.size + 1) #[.string ⟨#[]⟩, .int .i64 0, .int .i64 0, .bool false, .bool false, .bool false] := Blk.below (by apply Blk.eq; (repeat' (first | with_reducible assumption | with_reducible apply Blk.set | with_reducible apply Blk.other | with_reducible exact Blk.new rfl | with_reducible apply Blk.alloc | omega)); rfl) hb2
    have hb00 : Below w.heap.size w w2 := (by repeat' (first | with_reducible assumption | with_reducible exact Below.refl _ _ | with_reducible refine allocB ?_ | with_reducible refine setB ?_ ?_ | with_reducible refine drewB ?_ | with_reducible refine after ?_ (by assumption) | (simp; omega) | omega))
    clear hb2 hb0 f0 g0 f1 g1 k0 k1 cR z0 z1
    obtain ⟨f0, g0, z0⟩ := k2.facts
    obtain ⟨f1, g1, z1⟩ := k3.facts
    go_wp2
    exact bodyPost_ret (v := .tuple #[.agg #[.string ⟨#[]⟩, .int .i64 0, .int .i64 0, .bool false, .bool false, .bool false], .int .i64 20]) (by simp [results, Tryz.results18, go_sem, *]) rfl ⟨by rw [Hv.out]; rfl, (by repeat' (first | with_reducible assumption | with_reducible exact Below.refl _ _ | with_reducible refine allocB ?_ | with_reducible refine setB ?_ ?_ | with_reducible refine drewB ?_ | with_reducible refine after ?_ (by assumption) | (simp; omega) | omega))⟩
  · rw [R2, if_pos rfl] at Hv
    go_wp2_with fail
    refine (cR _ _ _ (by repeat' (first | with_reducible assumption | with_reducible exact Below.refl _ _ | with_reducible refine allocB ?_ | with_reducible refine setB ?_ ?_ | with_reducible refine drewB ?_ | with_reducible refine after ?_ (by assumption) | (simp; omega) | omega))).mono ?_; rintro e w2 ⟨rfl, hb2⟩
    rw [R2]
    have k2 : Blk w2 w.heap.size #[.string s, .int .i64 row, .int .i64 col, .bool true, .bool true, .bool false] := Blk.below (by apply Blk.eq; (repeat' (first | with_reducible assumption | with_reducible apply Blk.set | with_reducible apply Blk.other | with_reducible exact Blk.new rfl | with_reducible apply Blk.alloc | omega)); rfl) hb2
    have k3 : Blk w2 (w.heap.size + 1) #[.string ⟨#[]⟩, .int .i64 0, .int .i64 0, .bool false, .bool false, .bool false] := Blk.below (by apply Blk.eq; (repeat' (first | with_reducible assumption | with_reducible apply Blk.set | with_reducible apply Blk.other | with_reducible exact Blk.new rfl | with_reducible apply Blk.alloc | omega)); rfl) hb2
    have hb00 : Below w.heap.size w w2 := (by repeat' (first | with_reducible assumption | with_reducible exact Below.refl _ _ | with_reducible refine allocB ?_ | with_reducible refine setB ?_ ?_ | with_reducible refine drewB ?_ | with_reducible refine after ?_ (by assumption) | (simp; omega) | omega))
    clear hb2 hb0 f0 g0 f1 g1 k0 k1 cR z0 z1
    obtain ⟨f0, g0, z0⟩ := k2.facts
    obtain ⟨f1, g1, z1⟩ := k3.facts
    go_wp2
    exact bodyPost_ret (v := .tuple #[.agg #[.string s, .int .i64 row, .int .i64 col, .bool true, .bool true, .bool false], .int .i64 0]) (by simp [results, Tryz.results18, go_sem, *]) rfl ⟨by rw [Hv.out]; rfl, (by repeat' (first | with_reducible assumption | with_reducible exact Below.refl _ _ | with_reducible refine allocB ?_ | with_reducible refine setB ?_ ?_ | with_reducible refine drewB ?_ | with_reducible refine after ?_ (by assumption) | (simp; omega) | omega))⟩

set_option maxRecDepth 100000 in
set_option maxHeartbeats 1000000 in
theorem Moved_true_false (s : ByteArray) (row col : Int) (m n : Int) (w : World) (hg : Good w) (l1 : s.size ≤ 9223372036854775807) (R1 : rightB s.data.toList row col true false false = true) :
    Calls Tryz.prog 18 #[.agg #[.string s, .int .i64 row, .int .i64 col, .bool true, .bool false, .bool false], .int .i64 m, .int .i64 n] w (Ret (.tuple #[refV (movedOf ⟨s, row, col, true, false, false⟩ m n).1, .int .i64 (movedOf ⟨s, row, col, true, false, false⟩ m n).2]) w) := by
  have cR : ∀ r c W, Below w.heap.size w W → Calls Tryz.prog 16 #[.agg #[.string s, .int .i64 r, .int .i64 c, .bool true, .bool false, .bool false]] W (Ret (.bool (rightB s.data.toList r c true false false)) W) := fun r c W hb => Right_any s r c true false false W (hg.below hb) l1
  clear hg l1
  obtain ⟨b1, b2, b3, b4⟩ := right_range (r := ⟨s, row, col, true, false, false⟩) R1
  simp only at b1 b2 b3 b4
  have Hv : Hid (movedOf ⟨s, row, col, true, false, false⟩ m n = if rightB s.data.toList row (col + clamp n 52) true false false = true then (⟨s, row, (col + clamp n 52), true, false, false⟩, 0) else (RefD.zero, 20)) := by
    show _ = _
    simp [movedOf, RefD.right, RefD.shifted, R1]
  obtain ⟨p1, p2⟩ := clamp_range m 200 (by omega)
  obtain ⟨q1, q2⟩ := clamp_range n 52 (by omega)
  have e1 : max (min m 200) (-200) = clamp m 200 := rfl
  have e2 : max (min n 52) (-52) = clamp n 52 := rfl
  generalize clamp m 200 = P at *
  generalize clamp n 52 = Q at *
  go_enter Tryz.func18, Tryz.ntmps18
  go_wp2_with fail
  refine (cR _ _ _ (by repeat' (first | with_reducible assumption | with_reducible exact Below.refl _ _ | with_reducible refine allocB ?_ | with_reducible refine setB ?_ ?_ | with_reducible refine drewB ?_ | with_reducible refine after ?_ (by assumption) | (simp; omega) | omega))).mono ?_; rintro e w1 ⟨rfl, hb1⟩
  have k0 : Blk w1 w.heap.size #[.string s, .int .i64 row, .int .i64 col, .bool true, .bool false, .bool false] := ((Blk.new rfl).alloc).below hb1
  have k1 : Blk w1 (w.heap.size + 1) #[.string ⟨#[]⟩, .int .i64 0, .int .i64 0, .bool false, .bool false, .bool false] := (Blk.new (by simp)).below hb1
  have hb0 : Below w.heap.size w w1 := (by repeat' (first | with_reducible assumption | with_reducible exact Below.refl _ _ | with_reducible refine allocB ?_ | with_reducible refine setB ?_ ?_ | with_reducible refine drewB ?_ | with_reducible refine after ?_ (by assumption) | (simp; omega) | omega))
  clear hb1
  obtain ⟨f0, g0, z0⟩ := k0.facts
  obtain ⟨f1, g1, z1⟩ := k1.facts
  rw [R1]
  cases R2 : rightB s.data.toList row (col + Q) true false false
  · rw [R2, if_neg (by simp)] at Hv
    go_wp2_with fail
    refine (cR _ _ _ (by repeat' (first | with_reducible assumption | with_reducible exact Below.refl _ _ | with_reducible refine allocB ?_ | with_reducible refine setB ?_ ?_ | with_reducible refine drewB ?_ | with_reducible refine after ?_ (by assumption) | (simp; omega) | omega))).mono ?_; rintro e w2 ⟨rfl, hb2⟩
    rw [R2]
    have k2 : Blk w2 w.heap.size #[.string s, .int .i64 row, .int .i64 (col + Q), .bool true, .bool false, .bool false] := Blk.below (by apply Blk.eq; (repeat' (first | with_reducible assumption | with_reducible apply Blk.set | with_reducible apply Blk.other | with_reducible exact Blk.new rfl | with_reducible apply Blk.alloc | omega)); rfl) hb2
    have k3 : Blk w2 (w.heap.size + 1) #[.string ⟨#[]⟩, .int .i64 0, .int .i64 0, .bool false, .bool false, .bool false] := Blk.below (by apply Blk.eq; (repeat' (first | with_reducible assumption | with_reducible apply Blk.set | with_reducible apply Blk.other | with_reducible exact Blk.new rfl | with_reducible apply Blk.alloc | omega)); rfl) hb2
    have hb00 : Below w.heap.size w w2 := (by repeat' (first | with_reducible assumption | with_reducible exact Below.refl _ _ | with_reducible refine allocB ?_ | with_reducible refine setB ?_ ?_ | with_reducible refine drewB ?_ | with_reducible refine after ?_ (by assumption) | (simp; omega) | omega))
    clear hb2 hb0 f0 g0 f1 g1 k0 k1 cR z0 z1
    obtain ⟨f0, g0, z0⟩ := k2.facts
    obtain ⟨f1, g1, z1⟩ := k3.facts
    go_wp2
    exact bodyPost_ret (v := .tuple #[.agg #[.string ⟨#[]⟩, .int .i64 0, .int .i64 0, .bool false, .bool false, .bool false], .int .i64 20]) (by simp [results, Tryz.results18, go_sem, *]) rfl ⟨by rw [Hv.out]; rfl, (by repeat' (first | with_reducible assumption | with_reducible exact Below.refl _ _ | with_reducible refine allocB ?_ | with_reducible refine setB ?_ ?_ | with_reducible refine drewB ?_ | with_reducible refine after ?_ (by assumption) | (simp; omega) | omega))⟩
  · rw [R2, if_pos rfl] at Hv
    go_wp2_with fail
    refine (cR _ _ _ (by repeat' (first | with_reducible assumption | with_reducible exact Below.refl _ _ | with_reducible refine allocB ?_ | with_reducible refine setB ?_ ?_ | with_reducible refine drewB ?_ | with_reducible refine after ?_ (by assumption) | (simp; omega) | omega))).mono ?_; rintro e w2 ⟨rfl, hb2⟩
    rw [R2]
    have k2 : Blk w2 w.heap.size #[.string s, .int .i64 row, .int .i64 (col + Q), .bool true, .bool false, .bool false] := Blk.below (by apply Blk.eq; (repeat' (first | with_reducible assumption | with_reducible apply Blk.set | with_reducible apply Blk.other | with_reducible exact Blk.new rfl | with_reducible apply Blk.alloc | omega)); rfl) hb2
    have k3 : Blk w2 (w.heap.size + 1) #[.string ⟨#[]⟩, .int .i64 0, .int .i64 0, .bool false, .bool false, .bool false] := Blk.below (by apply Blk.eq; (repeat' (first | with_reducible assumption | with_reducible apply Blk.set | with_reducible apply Blk.other | with_reducible exact Blk.new rfl | with_reducible apply Blk.alloc | omega)); rfl) hb2
    have hb00 : Below w.heap.size w w2 := (by repeat' (first | with_reducible assumption | with_reducible exact Below.refl _ _ | with_reducible refine allocB ?_ | with_reducible refine setB ?_ ?_ | with_reducible refine drewB ?_ | with_reducible refine after ?_ (by assumption) | (simp; omega) | omega))
    clear hb2 hb0 f0 g0 f1 g1 k0 k1 cR z0 z1
    obtain ⟨f0, g0, z0⟩ := k2.facts
    obtain ⟨f1, g1, z1⟩ := k3.facts
    go_wp2
    exact bodyPost_ret (v := .tuple #[.agg #[.string s, .int .i64 row, .int .i64 (col + Q), .bool true, .bool false, .bool false], .int .i64 0]) (by simp [results, Tryz.results18, go_sem, *]) rfl ⟨by rw [Hv.out]; rfl, (by repeat' (first | with_reducible assumption | with_reducible exact Below.refl _ _ | with_reducible refine allocB ?_ | with_reducible refine setB ?_ ?_ | with_reducible refine drewB ?_ | with_reducible refine after ?_ (by assumption) | (simp; omega) | omega))⟩

set_option maxRecDepth 100000 in
set_option maxHeartbeats 1000000 in
theorem Moved_false_true (s : ByteArray) (row col : Int) (m n : Int) (w : World) (hg : Good w) (l1 : s.size ≤ 9223372036854775807) (R1 : rightB s.data.toList row col false true false = true) :
    Calls Tryz.prog 18 #[.agg #[.string s, .int .i64 row, .int .i64 col, .bool false, .bool true, .bool false], .int .i64 m, .int .i64 n] w (Ret (.tuple #[refV (movedOf ⟨s, row, col, false, true, false⟩ m n).1, .int .i64 (movedOf ⟨s, row, col, false, true, false⟩ m n).2]) w) := by
  have cR : ∀ r c W, Below w.heap.size w W → Calls Tryz.prog 16 #[.agg #[.string s, .int .i64 r, .int .i64 c, .bool false, .bool true, .bool false]] W (Ret (.bool (rightB s.data.toList r c false true false)) W) := fun r c W hb => Right_any s r c false true false W (hg.below hb) l1
  clear hg l1
  obtain ⟨b1, b2, b3, b4⟩ := right_range (r := ⟨s, row, col, false, true, false⟩) R1
  simp only at b1 b2 b3 b4
  have Hv : Hid (movedOf ⟨s, row, col, false, true, false⟩ m n = if rightB s.data.toList (row + clamp m 200) col false true false = true then (⟨s, (row + clamp m 200), col, false, true, false⟩, 0) else (RefD.zero, 20)) := by
    show _ = _
    simp [movedOf, RefD.right, RefD.shifted, R1]
  obtain ⟨p1, p2⟩ := clamp_range m 200 (by omega)
  obtain ⟨q1, q2⟩ := clamp_range n 52 (by omega)
  have e1 : max (min m 200) (-200) = clamp m 200 := rfl
  have e2 : max (min n 52) (-52) = clamp n 52 := rfl
  generalize clamp m 200 = P at *
  generalize clamp n 52 = Q at *
  go_enter Tryz.func18, Tryz.ntmps18
  go_wp2_with fail
  refine (cR _ _ _ (by repeat' (first | with_reducible assumption | with_reducible exact Below.refl _ _ | with_reducible refine allocB ?_ | with_reducible refine setB ?_ ?_ | with_reducible refine drewB ?_ | with_reducible refine after ?_ (by assumption) | (simp; omega) | omega))).mono ?_; rintro e w1 ⟨rfl, hb1⟩
  have k0 : Blk w1 w.heap.size #[.string s, .int .i64 row, .int .i64 col, .bool false, .bool true, .bool false] := ((Blk.new rfl).alloc).below hb1
  have k1 : Blk w1 (w.heap.size + 1) #[.string ⟨#[]⟩, .int .i64 0, .int .i64 0, .bool false, .bool false, .bool false] := (Blk.new (by simp)).below hb1
  have hb0 : Below w.heap.size w w1 := (by repeat' (first | with_reducible assumption | with_reducible exact Below.refl _ _ | with_reducible refine allocB ?_ | with_reducible refine setB ?_ ?_ | with_reducible refine drewB ?_ | with_reducible refine after ?_ (by assumption) | (simp; omega) | omega))
  clear hb1
  obtain ⟨f0, g0, z0⟩ := k0.facts
  obtain ⟨f1, g1, z1⟩ := k1.facts
  rw [R1]
  cases R2 : rightB s.data.toList (row + P) col false true false
  · rw [R2, if_neg (by simp)] at Hv
    go_wp2_with fail
    refine (cR _ _ _ (by repeat' (first | with_reducible assumption | with_reducible exact Below.refl _ _ | with_reducible refine allocB ?_ | with_reducible refine setB ?_ ?_ | with_reducible refine drewB ?_ | with_reducible refine after ?_ (by assumption) | (simp; omega) | omega))).mono ?_; rintro e w2 ⟨rfl, hb2⟩
    rw [R2]
    have k2 : Blk w2 w.heap.size #[.string s, .int .i64 (row + P), .int .i64 col, .bool false, .bool true, .bool false] := Blk.below (by apply Blk.eq; (repeat' (first | with_reducible assumption | with_reducible apply Blk.set | with_reducible apply Blk.other | with_reducible exact Blk.new rfl | with_reducible apply Blk.alloc | omega)); rfl) hb2
    have k3 : Blk w2 (w.heap.size + 1) #[.string ⟨#[]⟩, .int .i64 0, .int .i64 0, .bool false, .bool false, .bool false] := Blk.below (by apply Blk.eq; (repeat' (first | with_reducible assumption | with_reducible apply Blk.set | with_reducible apply Blk.other | with_reducible exact Blk.new rfl | with_reducible apply Blk.alloc | omega)); rfl) hb2
    have hb00 : Below w.heap.size w w2 := (by repeat' (first | with_reducible assumption | with_reducible exact Below.refl _ _ | with_reducible refine allocB ?_ | with_reducible refine setB ?_ ?_ | with_reducible refine drewB ?_ | with_reducible refine after ?_ (by assumption) | (simp; omega) | omega))
    clear hb2 hb0 f0 g0 f1 g1 k0 k1 cR z0 z1
    obtain ⟨f0, g0, z0⟩ := k2.facts
    obtain ⟨f1, g1, z1⟩ := k3.facts
    go_wp2
    exact bodyPost_ret (v := .tuple #[.agg #[.string ⟨#[]⟩, .int .i64 0, .int .i64 0, .bool false, .bool false, .bool false], .int .i64 20]) (by simp [results, Tryz.results18, go_sem, *]) rfl ⟨by rw [Hv.out]; rfl, (by repeat' (first | with_reducible assumption | with_reducible exact Below.refl _ _ | with_reducible refine allocB ?_ | with_reducible refine setB ?_ ?_ | with_reducible refine drewB ?_ | with_reducible refine after ?_ (by assumption) | (simp; omega) | omega))⟩
  · rw [R2, if_pos rfl] at Hv
    go_wp2_with fail
    refine (cR _ _ _ (by repeat' (first | with_reducible assumption | with_reducible exact Below.refl _ _ | with_reducible refine allocB ?_ | with_reducible refine setB ?_ ?_ | with_reducible refine drewB ?_ | with_reducible refine after ?_ (by assumption) | (simp; omega) | omega))).mono ?_; rintro e w2 ⟨rfl, hb2⟩
    rw [R2]
    have k2 : Blk w2 w.heap.size #[.string s, .int .i64 (row + P), .int .i64 col, .bool false, .bool true, .bool false] := Blk.below (by apply Blk.eq; (repeat' (first | with_reducible assumption | with_reducible apply Blk.set | with_reducible apply Blk.other | with_reducible exact Blk.new rfl | with_reducible apply Blk.alloc | omega)); rfl) hb2
    have k3 : Blk w2 (w.heap.size + 1) #[.string ⟨#[]⟩, .int .i64 0, .int .i64 0, .bool false, .bool false, .bool false] := Blk.below (by apply Blk.eq; (repeat' (first | with_reducible assumption | with_reducible apply Blk.set | with_reducible apply Blk.other | with_reducible exact Blk.new rfl | with_reducible apply Blk.alloc | omega)); rfl) hb2
    have hb00 : Below w.heap.size w w2 := (by repeat' (first | with_reducible assumption | with_reducible exact Below.refl _ _ | with_reducible refine allocB ?_ | with_reducible refine setB ?_ ?_ | with_reducible refine drewB ?_ | with_reducible refine after ?_ (by assumption) | (simp; omega) | omega))
    clear hb2 hb0 f0 g0 f1 g1 k0 k1 cR z0 z1
    obtain ⟨f0, g0, z0⟩ := k2.facts
    obtain ⟨f1, g1, z1⟩ := k3.facts
    go_wp2
    exact bodyPost_ret (v := .tuple #[.agg #[.string s, .int .i64 (row + P), .int .i64 col, .bool false, .bool true, .bool false], .int .i64 0]) (by simp [results, Tryz.results18, go_sem, *]) rfl ⟨by rw [Hv.out]; rfl, (by repeat' (first | with_reducible assumption | with_reducible exact Below.refl _ _ | with_reducible refine allocB ?_ | with_reducible refine setB ?_ ?_ | with_reducible refine drewB ?_ | with_reducible refine after ?_ (by assumption) | (simp; omega) | omega))⟩

set_option maxRecDepth 100000 in
set_option maxHeartbeats 1000000 in
theorem Moved_false_false (s : ByteArray) (row col : Int) (m n : Int) (w : World) (hg : Good w) (l1 : s.size ≤ 9223372036854775807) (R1 : rightB s.data.toList row col false false false = true) :
    Calls Tryz.prog 18 #[.agg #[.string s, .int .i64 row, .int .i64 col, .bool false, .bool false, .bool false], .int .i64 m, .int .i64 n] w (Ret (.tuple #[refV (movedOf ⟨s, row, col, false, false, false⟩ m n).1, .int .i64 (movedOf ⟨s, row, col, false, false, false⟩ m n).2]) w) := by
  have cR : ∀ r c W, Below w.heap.size w W → Calls Tryz.prog 16 #[.agg #[.string s, .int .i64 r, .int .i64 c, .bool false, .bool false, .bool false]] W (Ret (.bool (rightB s.data.toList r c false false false)) W) := fun r c W hb => Right_any s r c false false false W (hg.below hb) l1
  clear hg l1
  obtain ⟨b1, b2, b3, b4⟩ := right_range (r := ⟨s, row, col, false, false, false⟩) R1
  simp only at b1 b2 b3 b4
  have Hv : Hid (movedOf ⟨s, row, col, false, false, false⟩ m n = if rightB s.data.toList (row + clamp m 200) (col + clamp n 52) false false false = true then (⟨s, (row + clamp m 200), (col + clamp n 52), false, false, false⟩, 0) else (RefD.zero, 20)) := by
    show _ = _
    simp [movedOf, RefD.right, RefD.shifted, R1]
  obtain ⟨p1, p2⟩ := clamp_range m 200 (by omega)
  obtain ⟨q1, q2⟩ := clamp_range n 52 (by omega)
  have e1 : max (min m 200) (-200) = clamp m 200 := rfl
  have e2 : max (min n 52) (-52) = clamp n 52 := rfl
  generalize clamp m 200 = P at *
  generalize clamp n 52 = Q at *
  go_enter Tryz.func18, Tryz.ntmps18
  go_wp2_with fail
  refine (cR _ _ _ (by repeat' (first | with_reducible assumption | with_reducible exact Below.refl _ _ | with_reducible refine allocB ?_ | with_reducible refine setB ?_ ?_ | with_reducible refine drewB ?_ | with_reducible refine after ?_ (by assumption) | (simp; omega) | omega))).mono ?_; rintro e w1 ⟨rfl, hb1⟩
  have k0 : Blk w1 w.heap.size #[.string s, .int .i64 row, .int .i64 col, .bool false, .bool false, .bool false] := ((Blk.new rfl).alloc).below hb1
  have k1 : Blk w1 (w.heap.size + 1) #[.string ⟨#[]⟩, .int .i64 0, .int .i64 0, .bool false, .bool false, .bool false] := (Blk.new (by simp)).below hb1
  have hb0 : Below w.heap.size w w1 := (by repeat' (first | with_reducible assumption | with_reducible exact Below.refl _ _ | with_reducible refine allocB ?_ | with_reducible refine setB ?_ ?_ | with_reducible refine drewB ?_ | with_reducible refine after ?_ (by assumption) | (simp; omega) | omega))
  clear hb1
  obtain ⟨f0, g0, z0⟩ := k0.facts
  obtain ⟨f1, g1, z1⟩ := k1.facts
  rw [R1]
  cases R2 : rightB s.data.toList (row + P) (col + Q) false false false
  · rw [R2, if_neg (by simp)] at Hv
    go_wp2_with fail
    refine (cR _ _ _ (by repeat' (first | with_reducible assumption | with_reducible exact Below.refl _ _ | with_reducible refine allocB ?_ | with_reducible refine setB ?_ ?_ | with_reducible refine drewB ?_ | with_reducible refine after ?_ (by assumption) | (simp; omega) | omega))).mono ?_; rintro e w2 ⟨rfl, hb2⟩
    rw [R2]
    have k2 : Blk w2 w.heap.size #[.string s, .int .i64 (row + P), .int .i64 (col + Q), .bool false, .bool false, .bool false] := Blk.below (by apply Blk.eq; (repeat' (first | with_reducible assumption | with_reducible apply Blk.set | with_reducible apply Blk.other | with_reducible exact Blk.new rfl | with_reducible apply Blk.alloc | omega)); rfl) hb2
    have k3 : Blk w2 (w.heap.size + 1) #[.string ⟨#[]⟩, .int .i64 0, .int .i64 0, .bool false, .bool false, .bool false] := Blk.below (by apply Blk.eq; (repeat' (first | with_reducible assumption | with_reducible apply Blk.set | with_reducible apply Blk.other | with_reducible exact Blk.new rfl | with_reducible apply Blk.alloc | omega)); rfl) hb2
    have hb00 : Below w.heap.size w w2 := (by repeat' (first | with_reducible assumption | with_reducible exact Below.refl _ _ | with_reducible refine allocB ?_ | with_reducible refine setB ?_ ?_ | with_reducible refine drewB ?_ | with_reducible refine after ?_ (by assumption) | (simp; omega) | omega))
    clear hb2 hb0 f0 g0 f1 g1 k0 k1 cR z0 z1
    obtain ⟨f0, g0, z0⟩ := k2.facts
    obtain ⟨f1, g1, z1⟩ := k3.facts
    go_wp2
    exact bodyPost_ret (v := .tuple #[.agg #[.string ⟨#[]⟩, .int .i64 0, .int .i64 0, .bool false, .bool false, .bool false], .int .i64 20]) (by simp [results, Tryz.results18, go_sem, *]) rfl ⟨by rw [Hv.out]; rfl, (by repeat' (first | with_reducible assumption | with_reducible exact Below.refl _ _ | with_reducible refine allocB ?_ | with_reducible refine setB ?_ ?_ | with_reducible refine drewB ?_ | with_reducible refine after ?_ (by assumption) | (simp; omega) | omega))⟩
  · rw [R2, if_pos rfl] at Hv
    go_wp2_with fail
    refine (cR _ _ _ (by repeat' (first | with_reducible assumption | with_reducible exact Below.refl _ _ | with_reducible refine allocB ?_ | with_reducible refine setB ?_ ?_ | with_reducible refine drewB ?_ | with_reducible refine after ?_ (by assumption) | (simp; omega) | omega))).mono ?_; rintro e w2 ⟨rfl, hb2⟩
    rw [R2]
    have k2 : Blk w2 w.heap.size #[.string s, .int .i64 (row + P), .int .i64 (col + Q), .bool false, .bool false, .bool false] := Blk.below (by apply Blk.eq; (repeat' (first | with_reducible assumption | with_reducible apply Blk.set | with_reducible apply Blk.other | with_reducible exact Blk.new rfl | with_reducible apply Blk.alloc | omega)); rfl) hb2
    have k3 : Blk w2 (w.heap.size + 1) #[.string ⟨#[]⟩, .int .i64 0, .int .i64 0, .bool false, .bool false, .bool false] := Blk.below (by apply Blk.eq; (repeat' (first | with_reducible assumption | with_reducible apply Blk.set | with_reducible apply Blk.other | with_reducible exact Blk.new rfl | with_reducible apply Blk.alloc | omega)); rfl) hb2
    have hb00 : Below w.heap.size w w2 := (by repeat' (first | with_reducible assumption | with_reducible exact Below.refl _ _ | with_reducible refine allocB ?_ | with_reducible refine setB ?_ ?_ | with_reducible refine drewB ?_ | with_reducible refine after ?_ (by assumption) | (simp; omega) | omega))
    clear hb2 hb0 f0 g0 f1 g1 k0 k1 cR z0 z1
    obtain ⟨f0, g0, z0⟩ := k2.facts
    obtain ⟨f1, g1, z1⟩ := k3.facts
    go_wp2
    exact bodyPost_ret (v := .tuple #[.agg #[.string s, .int .i64 (row + P), .int .i64 (col + Q), .bool false, .bool false, .bool false], .int .i64 0]) (by simp [results, Tryz.results18, go_sem, *]) rfl ⟨by rw [Hv.out]; rfl, (by repeat' (first | with_reducible assumption | with_reducible exact Below.refl _ _ | with_reducible refine allocB ?_ | with_reducible refine setB ?_ ?_ | with_reducible refine drewB ?_ | with_reducible refine after ?_ (by assumption) | (simp; omega) | omega))⟩


theorem Moved_any (a : RefD) (m n : Int) (w : World) (hg : Good w) (ha : RefIn a) : Calls Tryz.prog 18 #[refV a, .int .i64 m, .int .i64 n] w (Ret (.tuple #[refV (movedOf a m n).1, .int .i64 (movedOf a m n).2]) w) := by
  obtain ⟨s, row, col, fr, fc, bad⟩ := a
  have l1 := ha.1
  cases R1 : rightB s.data.toList row col fr fc bad
  · exact Moved_no _ _ _ _ _ _ _ _ w hg l1 R1
  cases bad
  · cases fr <;> cases fc
    · exact Moved_false_false _ _ _ _ _ w hg l1 R1
    · exact Moved_false_true _ _ _ _ _ w hg l1 R1
    · exact Moved_true_false _ _ _ _ _ w hg l1 R1
    · exact Moved_true_true _ _ _ _ _ w hg l1 R1
  · exact Moved_bad _ _ _ _ _ _ _ w hg l1 R1
end Go.Proofs.YtmeiboajpbflcaaGreatDoor
