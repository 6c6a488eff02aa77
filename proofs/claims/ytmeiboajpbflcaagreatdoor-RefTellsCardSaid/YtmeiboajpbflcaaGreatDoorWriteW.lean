/- The walk of Text. -/
import Derived.Test.YtmeiboajpbflcaaGreatDoorWrite
import Derived.Test.YtmeiboajpbflcaaGreatDoorArea
import Derived.Test.YtmeiboajpbflcaaGreatDoorMakers
import Derived.Test.YtmeiboajpbflcaaGreatDoorRepl
import Derived.Lib.AppendIntMem
namespace Go.Proofs.YtmeiboajpbflcaaGreatDoor
open Go.RowKit Tab

theorem Itoa_ret (n : Int) (h0 : -9223372036854775808 ≤ n) (h1 : n ≤ 9223372036854775807) (w : World) (hg : Good w) : Calls Tryz.prog 38 #[.int .i64 n] w (Ret (.string ⟨(Lib.itoa n).toArray⟩) w) :=
  (Tryz.strconv_Itoa n h0 h1 w hg.pow).mono fun e w' ⟨he, k, os, hw⟩ => ⟨he, by rw [hw]; exact Lib.below_grow _ w (Nat.le_refl _) k os⟩
theorem fixed_ret (b : Bool) (w : World) : Calls Tryz.prog 44 #[.bool b] w (Ret (.string ⟨(fixD b).toArray⟩) w) := (fixed_any b w).mono fun e w' h => by
  obtain ⟨rfl, rfl⟩ := h; exact ⟨by cases b <;> rfl, Below.refl _ _⟩
theorem fixD_len (b : Bool) : (fixD b).length ≤ 1 := by cases b <;> simp [fixD]
theorem colL_len (n : Int) : (colL n).length ≤ 2 := by unfold colL; split <;> (try split) <;> simp
theorem ba_mk (l : Bs) : (ByteArray.mk l.toArray).data.toList = l := rfl

set_option maxRecDepth 100000 in
set_option maxHeartbeats 1000000 in
theorem Text_no (s : ByteArray) (row col : Int) (x y z : Bool) (w : World) (hg : Good w) (l1 : s.size ≤ 9223372036854775807) (R1 : rightB s.data.toList row col x y z = false) :
    Calls Tryz.prog 15 #[.agg #[.string s, .int .i64 row, .int .i64 col, .bool x, .bool y, .bool z]] w (Ret (.tuple #[strV (textD ⟨s, row, col, x, y, z⟩).1, .int .i64 (textD ⟨s, row, col, x, y, z⟩).2]) w) := by
  have cR : ∀ W, Below w.heap.size w W → Calls Tryz.prog 16 #[.agg #[.string s, .int .i64 row, .int .i64 col, .bool x, .bool y, .bool z]] W (Ret (.bool (rightB s.data.toList row col x y z)) W) := fun W hb => Right_any s row col x y z W (hg.below hb) l1
  have Hv : Hid (textD ⟨s, row, col, x, y, z⟩ = ([], 20)) := textD_no R1
  clear hg l1
  go_enter Tryz.func15, Tryz.ntmps15
  go_wp2_with fail
  refine (cR _ (by repeat' (first | with_reducible assumption | with_reducible exact Below.refl _ _ | with_reducible refine allocB ?_ | with_reducible refine setB ?_ ?_ | with_reducible refine drewB ?_ | with_reducible refine after ?_ (by assumption) | (simp; omega) | omega))).mono ?_; rintro e w1 ⟨rfl, hb1⟩
  have k0 : Blk w1 w.heap.size #[.string s, .int .i64 row, .int .i64 col, .bool x, .bool y, .bool z] := (Blk.new rfl).below hb1
  have hb0 : Below w.heap.size w w1 := (by repeat' (first | with_reducible assumption | with_reducible exact Below.refl _ _ | with_reducible refine allocB ?_ | with_reducible refine setB ?_ ?_ | with_reducible refine drewB ?_ | with_reducible refine after ?_ (by assumption) | (simp; omega) | omega))
  clear hb1
  obtain ⟨f0, g0, z0⟩ := k0.facts
  rw [R1]
  clear cR
  go_wp2
  go_ret2; exact Ret.mk2 (by rw [Hv.out]; rfl) (by rw [Hv.out]; rfl) (by repeat' (first | with_reducible assumption | with_reducible exact Below.refl _ _ | with_reducible refine allocB ?_ | with_reducible refine setB ?_ ?_ | with_reducible refine drewB ?_ | with_reducible refine after ?_ (by assumption) | (simp; omega) | omega))

set_option maxRecDepth 100000 in
set_option maxHeartbeats 1000000 in
theorem Text_gone (s : ByteArray) (row col : Int) (x y : Bool) (w : World) (hg : Good w) (l1 : s.size ≤ 9223372036854775807) (R1 : rightB s.data.toList row col x y true = true) :
    Calls Tryz.prog 15 #[.agg #[.string s, .int .i64 row, .int .i64 col, .bool x, .bool y, .bool true]] w (Ret (.tuple #[strV (textD ⟨s, row, col, x, y, true⟩).1, .int .i64 (textD ⟨s, row, col, x, y, true⟩).2]) w) := by
  have cR : ∀ W, Below w.heap.size w W → Calls Tryz.prog 16 #[.agg #[.string s, .int .i64 row, .int .i64 col, .bool x, .bool y, .bool true]] W (Ret (.bool (rightB s.data.toList row col x y true)) W) := fun W hb => Right_any s row col x y true W (hg.below hb) l1
  have Hv : Hid (textD ⟨s, row, col, x, y, true⟩ = ([35, 82, 69, 70, 33], 0)) := textD_gone R1 rfl
  clear hg l1
  go_enter Tryz.func15, Tryz.ntmps15
  go_wp2_with fail
  refine (cR _ (by repeat' (first | with_reducible assumption | with_reducible exact Below.refl _ _ | with_reducible refine allocB ?_ | with_reducible refine setB ?_ ?_ | with_reducible refine drewB ?_ | with_reducible refine after ?_ (by assumption) | (simp; omega) | omega))).mono ?_; rintro e w1 ⟨rfl, hb1⟩
  have k0 : Blk w1 w.heap.size #[.string s, .int .i64 row, .int .i64 col, .bool x, .bool y, .bool true] := (Blk.new rfl).below hb1
  have hb0 : Below w.heap.size w w1 := (by repeat' (first | with_reducible assumption | with_reducible exact Below.refl _ _ | with_reducible refine allocB ?_ | with_reducible refine setB ?_ ?_ | with_reducible refine drewB ?_ | with_reducible refine after ?_ (by assumption) | (simp; omega) | omega))
  clear hb1
  obtain ⟨f0, g0, z0⟩ := k0.facts
  rw [R1]
  clear cR
  go_wp2
  go_ret2; exact Ret.mk2 (by rw [Hv.out]; rfl) (by rw [Hv.out]; rfl) (by repeat' (first | with_reducible assumption | with_reducible exact Below.refl _ _ | with_reducible refine allocB ?_ | with_reducible refine setB ?_ ?_ | with_reducible refine drewB ?_ | with_reducible refine after ?_ (by assumption) | (simp; omega) | omega))

set_option maxRecDepth 100000 in
set_option maxHeartbeats 1000000 in
theorem Text_bare (row col : Int) (x y : Bool) (w : World) (hg : Good w) (R1 : rightB [] row col x y false = true) :
    Calls Tryz.prog 15 #[.agg #[.string ⟨#[]⟩, .int .i64 row, .int .i64 col, .bool x, .bool y, .bool false]] w (Ret (.tuple #[strV (textD ⟨⟨#[]⟩, row, col, x, y, false⟩).1, .int .i64 (textD ⟨⟨#[]⟩, row, col, x, y, false⟩).2]) w) := by
  have cR : ∀ W, Below w.heap.size w W → Calls Tryz.prog 16 #[.agg #[.string ⟨#[]⟩, .int .i64 row, .int .i64 col, .bool x, .bool y, .bool false]] W (Ret (.bool (rightB [] row col x y false)) W) := fun W hb => Right_any ⟨#[]⟩ row col x y false W (hg.below hb) (by decide)
  have Hv : Hid (textD ⟨⟨#[]⟩, row, col, x, y, false⟩ = (shortD ⟨⟨#[]⟩, row, col, x, y, false⟩, 0)) := textD_yes (r := ⟨⟨#[]⟩, row, col, x, y, false⟩) R1 rfl
  obtain ⟨q1, q2, q3, q4⟩ := right_range (r := ⟨⟨#[]⟩, row, col, x, y, false⟩) R1
  dsimp only at q1 q2 q3 q4
  have cI : ∀ W, Below w.heap.size w W → Calls Tryz.prog 38 #[.int .i64 (row + 1)] W (Ret (.string ⟨(Lib.itoa (row + 1)).toArray⟩) W) := fun W hb => Itoa_ret _ (by omega) (by omega) W (hg.below hb)
  clear hg
  go_enter Tryz.func15, Tryz.ntmps15
  go_wp2_with fail
  refine (cR _ (by repeat' (first | with_reducible assumption | with_reducible exact Below.refl _ _ | with_reducible refine allocB ?_ | with_reducible refine setB ?_ ?_ | with_reducible refine drewB ?_ | with_reducible refine after ?_ (by assumption) | (simp; omega) | omega))).mono ?_; rintro e w1 ⟨rfl, hb1⟩
  have k0 : Blk w1 w.heap.size #[.string ⟨#[]⟩, .int .i64 row, .int .i64 col, .bool x, .bool y, .bool false] := (Blk.new rfl).below hb1
  have hb0 : Below w.heap.size w w1 := (by repeat' (first | with_reducible assumption | with_reducible exact Below.refl _ _ | with_reducible refine allocB ?_ | with_reducible refine setB ?_ ?_ | with_reducible refine drewB ?_ | with_reducible refine after ?_ (by assumption) | (simp; omega) | omega))
  clear hb1
  obtain ⟨f0, g0, z0⟩ := k0.facts
  rw [R1]
  clear cR
  go_wp2_with fail
  refine (Column_any col _ (by omega) (by omega)).mono ?_; rintro e w2 ⟨rfl, hb2⟩
  replace k0 := k0.below hb2
  replace hb0 : Below w.heap.size w w2 := (by repeat' (first | with_reducible assumption | with_reducible exact Below.refl _ _ | with_reducible refine allocB ?_ | with_reducible refine setB ?_ ?_ | with_reducible refine drewB ?_ | with_reducible refine after ?_ (by assumption) | (simp; omega) | omega))
  clear hb2 f0 g0 z0
  obtain ⟨f0, g0, z0⟩ := k0.facts
  unfold strV
  go_wp2_with fail
  have n1 := fixD_len y
  have n2 := colL_len col
  have n3 := fixD_len x
  have n4 := Lib.itoa_length_le (row + 1) (by omega) (by omega)
  have e1 : ¬ 9223372036854775807 < (fixD y).length + (colL col).length := by omega
  have e2 : ¬ 9223372036854775807 < (fixD y).length + (colL col).length + (fixD x).length := by omega
  have e3 : ¬ 9223372036854775807 < (fixD y).length + (colL col).length + (fixD x).length + (Lib.itoa (row + 1)).length := by omega
  have e0 : IntKind.i64.wrap (row + 1) = row + 1 := IntWalk.i64_in _ (by omega)
  have kc := gcell w2
  refine region_below (by kernel_rfl) (by kernel_rfl) ?_
  repeat (quiet_step (first | exact Ret.grown (fun W _ => fixed_ret _ W) | exact Ret.grown (fun W hb => cI W (after hb0 hb))))
  refine wpQuiet_nil ?_
  intro w3 hb3
  replace k0 := k0.below hb3
  replace hb0 : Below w.heap.size w w3 := (by repeat' (first | with_reducible assumption | with_reducible exact Below.refl _ _ | with_reducible refine allocB ?_ | with_reducible refine setB ?_ ?_ | with_reducible refine drewB ?_ | with_reducible refine after ?_ (by assumption) | (simp; omega) | omega))
  clear hb3 f0 g0 z0 kc cI
  obtain ⟨f0, g0, z0⟩ := k0.facts
  obtain ⟨u, hu⟩ : ∃ u, ((⟨(fixD y).toArray⟩ ++ ⟨(colL col).toArray⟩ ++ ⟨(fixD x).toArray⟩ ++ ⟨(Lib.itoa (row + 1)).toArray⟩ : ByteArray)) = u := ⟨_, rfl⟩
  have us : u.size ≤ 25 := by rw [← hu]; simp only [ByteArray.size_append]; rw [← ba_size, ← ba_size, ← ba_size, ← ba_size, ba_mk, ba_mk, ba_mk, ba_mk]; omega
  have Hu : Hid (u.data.toList = shortD ⟨⟨#[]⟩, row, col, x, y, false⟩) := by
    show _ = _
    rw [← hu, ba_append, ba_append, ba_append]; rfl
  rw [hu]
  clear hu n1 n2 n3 n4 e0 e1 e2 e3
  go_wp2
  go_ret2
  refine Ret.mk2 ?_ ?_ (by repeat' (first | with_reducible assumption | with_reducible exact Below.refl _ _ | with_reducible refine allocB ?_ | with_reducible refine setB ?_ ?_ | with_reducible refine drewB ?_ | with_reducible refine after ?_ (by assumption) | (simp; omega) | omega))
  · rw [Hv.out]
    exact strV_eq (Hu.out)
  · rw [Hv.out]; rfl

set_option maxRecDepth 100000 in
set_option maxHeartbeats 1000000 in
theorem Text_plain (s : ByteArray) (row col : Int) (x y : Bool) (w : World) (hg : Good w) (l1 : s.size ≤ 9223372036854775807) (l2 : s.size ≤ 30) (R1 : rightB s.data.toList row col x y false = true) (he : s.toList.isEmpty = false) (P1 : plainB s.data.toList = true) :
    Calls Tryz.prog 15 #[.agg #[.string s, .int .i64 row, .int .i64 col, .bool x, .bool y, .bool false]] w (Ret (.tuple #[strV (textD ⟨s, row, col, x, y, false⟩).1, .int .i64 (textD ⟨s, row, col, x, y, false⟩).2]) w) := by
  have cR : ∀ W, Below w.heap.size w W → Calls Tryz.prog 16 #[.agg #[.string s, .int .i64 row, .int .i64 col, .bool x, .bool y, .bool false]] W (Ret (.bool (rightB s.data.toList row col x y false)) W) := fun W hb => Right_any s row col x y false W (hg.below hb) l1
  have Hv : Hid (textD ⟨s, row, col, x, y, false⟩ = (s.data.toList ++ [33] ++ shortD ⟨s, row, col, x, y, false⟩, 0)) := by
    show _ = _
    rw [textD_yes (r := ⟨s, row, col, x, y, false⟩) R1 rfl, longD, if_neg (by rw [← ByteArray.toList_eq]; simpa using he), if_pos P1]
  obtain ⟨q1, q2, q3, q4⟩ := right_range (r := ⟨s, row, col, x, y, false⟩) R1
  dsimp only at q1 q2 q3 q4
  have cI : ∀ W, Below w.heap.size w W → Calls Tryz.prog 38 #[.int .i64 (row + 1)] W (Ret (.string ⟨(Lib.itoa (row + 1)).toArray⟩) W) := fun W hb => Itoa_ret _ (by omega) (by omega) W (hg.below hb)
  have cP : ∀ W, Below w.heap.size w W → Calls Tryz.prog 45 #[.string s] W (Ret (.bool (plainB s.data.toList)) W) := fun W hb => plain_any s W l1
  clear hg l1
  go_enter Tryz.func15, Tryz.ntmps15
  go_wp2_with fail
  refine (cR _ (by repeat' (first | with_reducible assumption | with_reducible exact Below.refl _ _ | with_reducible refine allocB ?_ | with_reducible refine setB ?_ ?_ | with_reducible refine drewB ?_ | with_reducible refine after ?_ (by assumption) | (simp; omega) | omega))).mono ?_; rintro e w1 ⟨rfl, hb1⟩
  have k0 : Blk w1 w.heap.size #[.string s, .int .i64 row, .int .i64 col, .bool x, .bool y, .bool false] := (Blk.new rfl).below hb1
  have hb0 : Below w.heap.size w w1 := (by repeat' (first | with_reducible assumption | with_reducible exact Below.refl _ _ | with_reducible refine allocB ?_ | with_reducible refine setB ?_ ?_ | with_reducible refine drewB ?_ | with_reducible refine after ?_ (by assumption) | (simp; omega) | omega))
  clear hb1
  obtain ⟨f0, g0, z0⟩ := k0.facts
  rw [R1]
  clear cR
  go_wp2_with fail
  refine (Column_any col _ (by omega) (by omega)).mono ?_; rintro e w2 ⟨rfl, hb2⟩
  replace k0 := k0.below hb2
  replace hb0 : Below w.heap.size w w2 := (by repeat' (first | with_reducible assumption | with_reducible exact Below.refl _ _ | with_reducible refine allocB ?_ | with_reducible refine setB ?_ ?_ | with_reducible refine drewB ?_ | with_reducible refine after ?_ (by assumption) | (simp; omega) | omega))
  clear hb2 f0 g0 z0
  obtain ⟨f0, g0, z0⟩ := k0.facts
  unfold strV
  go_wp2_with fail
  have n1 := fixD_len y
  have n2 := colL_len col
  have n3 := fixD_len x
  have n4 := Lib.itoa_length_le (row + 1) (by omega) (by omega)
  have e1 : ¬ 9223372036854775807 < (fixD y).length + (colL col).length := by omega
  have e2 : ¬ 9223372036854775807 < (fixD y).length + (colL col).length + (fixD x).length := by omega
  have e3 : ¬ 9223372036854775807 < (fixD y).length + (colL col).length + (fixD x).length + (Lib.itoa (row + 1)).length := by omega
  have e0 : IntKind.i64.wrap (row + 1) = row + 1 := IntWalk.i64_in _ (by omega)
  have kc := gcell w2
  refine region_below (by kernel_rfl) (by kernel_rfl) ?_
  repeat (quiet_step (first | exact Ret.grown (fun W _ => fixed_ret _ W) | exact Ret.grown (fun W hb => cI W (after hb0 hb))))
  refine wpQuiet_nil ?_
  intro w3 hb3
  replace k0 := k0.below hb3
  replace hb0 : Below w.heap.size w w3 := (by repeat' (first | with_reducible assumption | with_reducible exact Below.refl _ _ | with_reducible refine allocB ?_ | with_reducible refine setB ?_ ?_ | with_reducible refine drewB ?_ | with_reducible refine after ?_ (by assumption) | (simp; omega) | omega))
  clear hb3 f0 g0 z0 kc cI
  obtain ⟨f0, g0, z0⟩ := k0.facts
  obtain ⟨u, hu⟩ : ∃ u, ((⟨(fixD y).toArray⟩ ++ ⟨(colL col).toArray⟩ ++ ⟨(fixD x).toArray⟩ ++ ⟨(Lib.itoa (row + 1)).toArray⟩ : ByteArray)) = u := ⟨_, rfl⟩
  have us : u.size ≤ 25 := by rw [← hu]; simp only [ByteArray.size_append]; rw [← ba_size, ← ba_size, ← ba_size, ← ba_size, ba_mk, ba_mk, ba_mk, ba_mk]; omega
  have Hu : Hid (u.data.toList = shortD ⟨s, row, col, x, y, false⟩) := by
    show _ = _
    rw [← hu, ba_append, ba_append, ba_append]; rfl
  rw [hu]
  clear hu n1 n2 n3 n4 e0 e1 e2 e3
  go_wp2_with fail
  refine (cP _ (by repeat' (first | with_reducible assumption | with_reducible exact Below.refl _ _ | with_reducible refine allocB ?_ | with_reducible refine setB ?_ ?_ | with_reducible refine drewB ?_ | with_reducible refine after ?_ (by assumption) | (simp; omega) | omega))).mono ?_; rintro e w4 ⟨rfl, hb4⟩
  replace k0 := k0.below hb4
  replace hb0 : Below w.heap.size w w4 := (by repeat' (first | with_reducible assumption | with_reducible exact Below.refl _ _ | with_reducible refine allocB ?_ | with_reducible refine setB ?_ ?_ | with_reducible refine drewB ?_ | with_reducible refine after ?_ (by assumption) | (simp; omega) | omega))
  clear hb4 f0 g0 z0
  obtain ⟨f0, g0, z0⟩ := k0.facts
  rw [P1]
  clear cP
  go_wp2
  go_ret2
  refine Ret.mk2 ?_ ?_ (by repeat' (first | with_reducible assumption | with_reducible exact Below.refl _ _ | with_reducible refine allocB ?_ | with_reducible refine setB ?_ ?_ | with_reducible refine drewB ?_ | with_reducible refine after ?_ (by assumption) | (simp; omega) | omega))
  · rw [Hv.out]
    exact strV_eq (by rw [ba_append, ba_append, Hu.out])
  · rw [Hv.out]; rfl

set_option maxRecDepth 100000 in
set_option maxHeartbeats 1000000 in
theorem Text_quoted (s : ByteArray) (row col : Int) (x y : Bool) (w : World) (hg : Good w) (l1 : s.size ≤ 9223372036854775807) (l2 : s.size ≤ 30) (R1 : rightB s.data.toList row col x y false = true) (he : s.toList.isEmpty = false) (P1 : plainB s.data.toList = false) :
    Calls Tryz.prog 15 #[.agg #[.string s, .int .i64 row, .int .i64 col, .bool x, .bool y, .bool false]] w (Ret (.tuple #[strV (textD ⟨s, row, col, x, y, false⟩).1, .int .i64 (textD ⟨s, row, col, x, y, false⟩).2]) w) := by
  have cR : ∀ W, Below w.heap.size w W → Calls Tryz.prog 16 #[.agg #[.string s, .int .i64 row, .int .i64 col, .bool x, .bool y, .bool false]] W (Ret (.bool (rightB s.data.toList row col x y false)) W) := fun W hb => Right_any s row col x y false W (hg.below hb) l1
  have Hv : Hid (textD ⟨s, row, col, x, y, false⟩ = ([39] ++ Lib.replaceAll s.data.toList [39] [39, 39] ++ [39] ++ [33] ++ shortD ⟨s, row, col, x, y, false⟩, 0)) := by
    show _ = _
    rw [textD_yes (r := ⟨s, row, col, x, y, false⟩) R1 rfl, longD, if_neg (by rw [← ByteArray.toList_eq]; simpa using he), if_neg (by rw [P1]; exact Bool.false_ne_true)]
  obtain ⟨q1, q2, q3, q4⟩ := right_range (r := ⟨s, row, col, x, y, false⟩) R1
  dsimp only at q1 q2 q3 q4
  have cI : ∀ W, Below w.heap.size w W → Calls Tryz.prog 38 #[.int .i64 (row + 1)] W (Ret (.string ⟨(Lib.itoa (row + 1)).toArray⟩) W) := fun W hb => Itoa_ret _ (by omega) (by omega) W (hg.below hb)
  have cP : ∀ W, Below w.heap.size w W → Calls Tryz.prog 45 #[.string s] W (Ret (.bool (plainB s.data.toList)) W) := fun W hb => plain_any s W l1
  have hcb : Lib.countB s ⟨#[39]⟩ ≤ s.size := Lib.countB_le ⟨#[39]⟩ (by decide) s.size s (Nat.le_refl _)
  have cA : ∀ W, Below w.heap.size w W → Calls Tryz.prog 46 #[.string s, .string ⟨#[39]⟩, .string ⟨#[39, 39]⟩] W (Ret (.string ⟨(Lib.replaceAll s.data.toList [39] [39, 39]).toArray⟩) W) := fun W hb => Tryz.strings_ReplaceAll_shaped s ⟨#[39]⟩ ⟨#[39, 39]⟩ W (hg.below hb).shaped (by omega) (by decide) (by rw [show (ByteArray.mk #[39, 39]).size = 2 from rfl]; omega)
  clear hg l1
  go_enter Tryz.func15, Tryz.ntmps15
  go_wp2_with fail
  refine (cR _ (by repeat' (first | with_reducible assumption | with_reducible exact Below.refl _ _ | with_reducible refine allocB ?_ | with_reducible refine setB ?_ ?_ | with_reducible refine drewB ?_ | with_reducible refine after ?_ (by assumption) | (simp; omega) | omega))).mono ?_; rintro e w1 ⟨rfl, hb1⟩
  have k0 : Blk w1 w.heap.size #[.string s, .int .i64 row, .int .i64 col, .bool x, .bool y, .bool false] := (Blk.new rfl).below hb1
  have hb0 : Below w.heap.size w w1 := (by repeat' (first | with_reducible assumption | with_reducible exact Below.refl _ _ | with_reducible refine allocB ?_ | with_reducible refine setB ?_ ?_ | with_reducible refine drewB ?_ | with_reducible refine after ?_ (by assumption) | (simp; omega) | omega))
  clear hb1
  obtain ⟨f0, g0, z0⟩ := k0.facts
  rw [R1]
  clear cR
  go_wp2_with fail
  refine (Column_any col _ (by omega) (by omega)).mono ?_; rintro e w2 ⟨rfl, hb2⟩
  replace k0 := k0.below hb2
  replace hb0 : Below w.heap.size w w2 := (by repeat' (first | with_reducible assumption | with_reducible exact Below.refl _ _ | with_reducible refine allocB ?_ | with_reducible refine setB ?_ ?_ | with_reducible refine drewB ?_ | with_reducible refine after ?_ (by assumption) | (simp; omega) | omega))
  clear hb2 f0 g0 z0
  obtain ⟨f0, g0, z0⟩ := k0.facts
  unfold strV
  go_wp2_with fail
  have n1 := fixD_len y
  have n2 := colL_len col
  have n3 := fixD_len x
  have n4 := Lib.itoa_length_le (row + 1) (by omega) (by omega)
  have e1 : ¬ 9223372036854775807 < (fixD y).length + (colL col).length := by omega
  have e2 : ¬ 9223372036854775807 < (fixD y).length + (colL col).length + (fixD x).length := by omega
  have e3 : ¬ 9223372036854775807 < (fixD y).length + (colL col).length + (fixD x).length + (Lib.itoa (row + 1)).length := by omega
  have e0 : IntKind.i64.wrap (row + 1) = row + 1 := IntWalk.i64_in _ (by omega)
  have kc := gcell w2
  refine region_below (by kernel_rfl) (by kernel_rfl) ?_
  repeat (quiet_step (first | exact Ret.grown (fun W _ => fixed_ret _ W) | exact Ret.grown (fun W hb => cI W (after hb0 hb))))
  refine wpQuiet_nil ?_
  intro w3 hb3
  replace k0 := k0.below hb3
  replace hb0 : Below w.heap.size w w3 := (by repeat' (first | with_reducible assumption | with_reducible exact Below.refl _ _ | with_reducible refine allocB ?_ | with_reducible refine setB ?_ ?_ | with_reducible refine drewB ?_ | with_reducible refine after ?_ (by assumption) | (simp; omega) | omega))
  clear hb3 f0 g0 z0 kc cI
  obtain ⟨f0, g0, z0⟩ := k0.facts
  obtain ⟨u, hu⟩ : ∃ u, ((⟨(fixD y).toArray⟩ ++ ⟨(colL col).toArray⟩ ++ ⟨(fixD x).toArray⟩ ++ ⟨(Lib.itoa (row + 1)).toArray⟩ : ByteArray)) = u := ⟨_, rfl⟩
  have us : u.size ≤ 25 := by rw [← hu]; simp only [ByteArray.size_append]; rw [← ba_size, ← ba_size, ← ba_size, ← ba_size, ba_mk, ba_mk, ba_mk, ba_mk]; omega
  have Hu : Hid (u.data.toList = shortD ⟨s, row, col, x, y, false⟩) := by
    show _ = _
    rw [← hu, ba_append, ba_append, ba_append]; rfl
  rw [hu]
  clear hu n1 n2 n3 n4 e0 e1 e2 e3
  go_wp2_with fail
  refine (cP _ (by repeat' (first | with_reducible assumption | with_reducible exact Below.refl _ _ | with_reducible refine allocB ?_ | with_reducible refine setB ?_ ?_ | with_reducible refine drewB ?_ | with_reducible refine after ?_ (by assumption) | (simp; omega) | omega))).mono ?_; rintro e w4 ⟨rfl, hb4⟩
  replace k0 := k0.below hb4
  replace hb0 : Below w.heap.size w w4 := (by repeat' (first | with_reducible assumption | with_reducible exact Below.refl _ _ | with_reducible refine allocB ?_ | with_reducible refine setB ?_ ?_ | with_reducible refine drewB ?_ | with_reducible refine after ?_ (by assumption) | (simp; omega) | omega))
  clear hb4 f0 g0 z0
  obtain ⟨f0, g0, z0⟩ := k0.facts
  rw [P1]
  clear cP
  go_wp2_with fail
  refine (cA _ (by repeat' (first | with_reducible assumption | with_reducible exact Below.refl _ _ | with_reducible refine allocB ?_ | with_reducible refine setB ?_ ?_ | with_reducible refine drewB ?_ | with_reducible refine after ?_ (by assumption) | (simp; omega) | omega))).mono ?_; rintro e w5 ⟨rfl, hb5⟩
  replace k0 := k0.below hb5
  replace hb0 : Below w.heap.size w w5 := (by repeat' (first | with_reducible assumption | with_reducible exact Below.refl _ _ | with_reducible refine allocB ?_ | with_reducible refine setB ?_ ?_ | with_reducible refine drewB ?_ | with_reducible refine after ?_ (by assumption) | (simp; omega) | omega))
  clear hb5 f0 g0 z0 cA
  obtain ⟨f0, g0, z0⟩ := k0.facts
  rw [repl_dbl] at *
  have hl := dbl_len s.data.toList
  rw [ba_size] at hl
  generalize dbl s.data.toList = D at *
  go_wp2
  go_ret2
  refine Ret.mk2 ?_ ?_ (by repeat' (first | with_reducible assumption | with_reducible exact Below.refl _ _ | with_reducible refine allocB ?_ | with_reducible refine setB ?_ ?_ | with_reducible refine drewB ?_ | with_reducible refine after ?_ (by assumption) | (simp; omega) | omega))
  · rw [Hv.out]
    exact strV_eq (by rw [ba_append, ba_append, ba_append, ba_append, Hu.out])
  · rw [Hv.out]; rfl

theorem right_size {r : RefD} (h : r.right = true) : r.s.size ≤ 30 := by
  obtain ⟨s, row, col, fr, fc, bad⟩ := r
  show s.size ≤ 30
  rw [← ba_size]
  unfold RefD.right rightB at h
  dsimp only at h
  generalize s.data.toList = l at *
  cases bad
  · rw [if_neg Bool.false_ne_true, Bool.and_eq_true, Bool.or_eq_true] at h
    rcases h.1 with h | h
    · rw [List.isEmpty_iff] at h; subst h; simp
    · simp only [nameB, Bool.and_eq_true, decide_eq_true_eq] at h; exact h.2.1.2
  · rw [if_pos rfl] at h
    simp only [Bool.and_eq_true, List.isEmpty_iff] at h
    rw [h.1.1.1.1]; simp
theorem Text_any (r : RefD) (w : World) (hg : Good w) (l1 : r.s.size ≤ 9223372036854775807) : Calls Tryz.prog 15 #[refV r] w (Ret (.tuple #[strV (textD r).1, .int .i64 (textD r).2]) w) := by
  obtain ⟨s, row, col, x, y, bad⟩ := r
  by_cases R : rightB s.data.toList row col x y bad = true
  · cases bad
    · have l2 : s.size ≤ 30 := right_size (r := ⟨s, row, col, x, y, false⟩) R
      by_cases he : s.toList.isEmpty = true
      · have e : s = ⟨#[]⟩ := by
          rw [ByteArray.toList_eq, List.isEmpty_iff] at he
          obtain ⟨⟨l⟩⟩ := s; exact congrArg (fun l => ByteArray.mk ⟨l⟩) he
        subst e
        exact Text_bare row col x y w hg R
      · rw [Bool.not_eq_true] at he
        by_cases P : plainB s.data.toList = true
        · exact Text_plain s row col x y w hg l1 l2 R he P
        · exact Text_quoted s row col x y w hg l1 l2 R he (by simpa using P)
    · exact Text_gone s row col x y w hg l1 R
  · exact Text_no s row col x y bad w hg l1 (by simpa using R)
end Go.Proofs.YtmeiboajpbflcaaGreatDoor
