/- The law RefColumns. -/
import Derived.Test.YtmeiboajpbflcaaDoorAwake
namespace Tab
open Go
/-- how two columns' letters stand to each other. -/
def colPair (i j : Fin 52) : Bool :=
  let x := colL i.val
  let y := colL j.val
  if x.length < y.length then decide (i.val < j.val)
  else if x.length = y.length then (if Op.bytesLess x y then decide (i.val < j.val) && !(x == y) else decide (j.val ≤ i.val) && ((x == y) == decide (i = j)))
  else decide (j.val < i.val)
theorem colPair_all : ∀ i j : Fin 52, colPair i j = true := by decide +kernel
theorem colRead_all : ∀ i : Fin 52, colOf (colL i.val) = some i.val := by decide +kernel
end Tab
namespace Go.Proofs.YtmeiboajpbflcaaDoor
open Go.RowKit Tab

theorem Columns_pre (m : Int) (w : World) (hg : Good w) (rm : 0 ≤ m ∧ m < 52) : (∀ W, Calls Tryd.prog 17 #[.int .i64 m] W (Ret (.tuple #[.string ⟨(colL m).toArray⟩, .int .i64 0]) W)) ∧
    (∀ W, Below w.heap.size w W → Calls Tryd.prog 18 #[.string ⟨(colL m).toArray⟩] W (Ret (.tuple #[.int .i64 m, .int .i64 0]) W)) ∧
    (∀ W, Calls Tryd.prog 17 #[.int .i64 (52 + m)] W (Ret (.tuple #[.string ⟨#[]⟩, .int .i64 20]) W)) ∧ (∀ W, Calls Tryd.prog 17 #[.int .i64 (-1 - m)] W (Ret (.tuple #[.string ⟨#[]⟩, .int .i64 20]) W)) := by
  refine ⟨fun W => ?_, fun W hb => ?_, fun W => ?_, fun W => ?_⟩
  · have := Column_any m W (by omega) (by omega)
    rw [colE_in m (by omega) (by omega)] at this; exact this
  · have hl := colL_len m
    have := ReadColumn_any ⟨(colL m).toArray⟩ W (hg.below hb) (by show (colL m).toArray.size ≤ _; rw [List.size_toArray]; omega)
    obtain ⟨i, rfl⟩ : ∃ i : Fin 52, m = (i.val : Int) := ⟨⟨m.toNat, by omega⟩, by show m = ((m.toNat : Nat) : Int); omega⟩
    have e : colV (colOf (colL (i.val : Int))) = .tuple #[.int .i64 i.val, .int .i64 0] := by rw [colRead_all i]; rfl
    rw [show (ByteArray.mk (colL (i.val : Int)).toArray).data.toList = colL i.val from rfl, e] at this; exact this
  · have := Column_any (52 + m) W (by omega) (by omega)
    rw [colE_out _ (by omega), colL_out _ (by omega)] at this; exact this
  · have := Column_any (-1 - m) W (by omega) (by omega)
    rw [colE_out _ (by omega), colL_out _ (by omega)] at this; exact this

set_option maxRecDepth 100000 in
set_option maxHeartbeats 4000000 in
theorem Columns_less (a b m n : Int) (w : World) (hg : Good w) (rm : 0 ≤ m ∧ m < 52)
    (c1 : ∀ W, Calls Tryd.prog 15 #[.int .i64 a, .int .i64 52] W (Still (.int .i64 m) W)) (c2 : ∀ W, Calls Tryd.prog 15 #[.int .i64 b, .int .i64 52] W (Still (.int .i64 n) W))
    (x y : Bs) (lx : x.length ≤ 2) (ly : y.length ≤ 2) (c3 : ∀ W, Calls Tryd.prog 17 #[.int .i64 m] W (Ret (.tuple #[.string ⟨x.toArray⟩, .int .i64 0]) W)) (c4 : ∀ W, Calls Tryd.prog 17 #[.int .i64 n] W (Ret (.tuple #[.string ⟨y.toArray⟩, .int .i64 0]) W))
    (c5 : ∀ W, Below w.heap.size w W → Calls Tryd.prog 18 #[.string ⟨x.toArray⟩] W (Ret (.tuple #[.int .i64 m, .int .i64 0]) W))
    (c6 : ∀ W, Calls Tryd.prog 17 #[.int .i64 (52 + m)] W (Ret (.tuple #[.string ⟨#[]⟩, .int .i64 20]) W)) (c7 : ∀ W, Calls Tryd.prog 17 #[.int .i64 (-1 - m)] W (Ret (.tuple #[.string ⟨#[]⟩, .int .i64 20]) W))
    (k1 : decide (x.length < y.length) = true) (k2 : decide (m < n) = true) (k3 : (x == y) = false) (k4 : (m == n) = false) :
    Calls Tryd.prog 5 #[.int .i64 a, .int .i64 b] w (Ret (.bool true) w) := by
  have e1 : IntKind.i64.wrap (52 + m) = 52 + m := IntWalk.i64_in _ (by omega)
  have e2 : IntKind.i64.wrap (-1 - m) = -1 - m := IntWalk.i64_in _ (by omega)
  go_enter Tryd.func5, Tryd.ntmps5
  go_wp2_with fail
  refine (awake_any w hg).mono ?_; rintro e w1 ⟨rfl, hb1⟩
  go_wp2_with fail
  refine (c1 w1).mono ?_; rintro e w2 ⟨rfl, rfl⟩
  go_wp2_with fail
  refine (c2 w1).mono ?_; rintro e w2 ⟨rfl, rfl⟩
  go_wp2_with fail
  refine (c3 w1).mono ?_; rintro e w2 ⟨rfl, hb2⟩
  replace hb1 := after hb1 hb2
  clear hb2
  go_wp2_with fail
  refine (c4 w2).mono ?_; rintro e w3 ⟨rfl, hb2⟩
  replace hb1 := after hb1 hb2
  clear hb2
  go_wp2_with fail
  refine (c5 w3 hb1).mono ?_; rintro e w4 ⟨rfl, hb2⟩
  replace hb1 := after hb1 hb2
  clear hb2 c1 c2 c3 c4 c5 hg
  go_wp2_with fail
  refine (c6 w4).mono ?_; rintro e w5 ⟨rfl, hb2⟩
  replace hb1 := after hb1 hb2
  clear hb2 c6
  go_wp2_with fail
  refine (c7 w5).mono ?_; rintro e w6 ⟨rfl, hb2⟩
  replace hb1 := after hb1 hb2
  clear hb2 c7
  go_wp2
  go_ret; exact Ret.mk' rfl hb1

set_option maxRecDepth 100000 in
set_option maxHeartbeats 4000000 in
theorem Columns_sless (a b m n : Int) (w : World) (hg : Good w) (rm : 0 ≤ m ∧ m < 52)
    (c1 : ∀ W, Calls Tryd.prog 15 #[.int .i64 a, .int .i64 52] W (Still (.int .i64 m) W)) (c2 : ∀ W, Calls Tryd.prog 15 #[.int .i64 b, .int .i64 52] W (Still (.int .i64 n) W))
    (x y : Bs) (lx : x.length ≤ 2) (ly : y.length ≤ 2) (c3 : ∀ W, Calls Tryd.prog 17 #[.int .i64 m] W (Ret (.tuple #[.string ⟨x.toArray⟩, .int .i64 0]) W)) (c4 : ∀ W, Calls Tryd.prog 17 #[.int .i64 n] W (Ret (.tuple #[.string ⟨y.toArray⟩, .int .i64 0]) W))
    (c5 : ∀ W, Below w.heap.size w W → Calls Tryd.prog 18 #[.string ⟨x.toArray⟩] W (Ret (.tuple #[.int .i64 m, .int .i64 0]) W))
    (c6 : ∀ W, Calls Tryd.prog 17 #[.int .i64 (52 + m)] W (Ret (.tuple #[.string ⟨#[]⟩, .int .i64 20]) W)) (c7 : ∀ W, Calls Tryd.prog 17 #[.int .i64 (-1 - m)] W (Ret (.tuple #[.string ⟨#[]⟩, .int .i64 20]) W))
    (k0 : decide (x.length < y.length) = false) (k1 : x.length = y.length) (kb : Op.bytesLess x y = true) (k2 : decide (m < n) = true) (k3 : (x == y) = false) (k4 : (m == n) = false) :
    Calls Tryd.prog 5 #[.int .i64 a, .int .i64 b] w (Ret (.bool true) w) := by
  have e1 : IntKind.i64.wrap (52 + m) = 52 + m := IntWalk.i64_in _ (by omega)
  have e2 : IntKind.i64.wrap (-1 - m) = -1 - m := IntWalk.i64_in _ (by omega)
  go_enter Tryd.func5, Tryd.ntmps5
  go_wp2_with fail
  refine (awake_any w hg).mono ?_; rintro e w1 ⟨rfl, hb1⟩
  go_wp2_with fail
  refine (c1 w1).mono ?_; rintro e w2 ⟨rfl, rfl⟩
  go_wp2_with fail
  refine (c2 w1).mono ?_; rintro e w2 ⟨rfl, rfl⟩
  go_wp2_with fail
  refine (c3 w1).mono ?_; rintro e w2 ⟨rfl, hb2⟩
  replace hb1 := after hb1 hb2
  clear hb2
  go_wp2_with fail
  refine (c4 w2).mono ?_; rintro e w3 ⟨rfl, hb2⟩
  replace hb1 := after hb1 hb2
  clear hb2
  go_wp2_with fail
  refine (c5 w3 hb1).mono ?_; rintro e w4 ⟨rfl, hb2⟩
  replace hb1 := after hb1 hb2
  clear hb2 c1 c2 c3 c4 c5 hg
  go_wp2_with fail
  refine (c6 w4).mono ?_; rintro e w5 ⟨rfl, hb2⟩
  replace hb1 := after hb1 hb2
  clear hb2 c6
  go_wp2_with fail
  refine (c7 w5).mono ?_; rintro e w6 ⟨rfl, hb2⟩
  replace hb1 := after hb1 hb2
  clear hb2 c7
  go_wp2
  go_ret; exact Ret.mk' rfl hb1

set_option maxRecDepth 100000 in
set_option maxHeartbeats 4000000 in
theorem Columns_same (a b m n : Int) (w : World) (hg : Good w) (rm : 0 ≤ m ∧ m < 52)
    (c1 : ∀ W, Calls Tryd.prog 15 #[.int .i64 a, .int .i64 52] W (Still (.int .i64 m) W)) (c2 : ∀ W, Calls Tryd.prog 15 #[.int .i64 b, .int .i64 52] W (Still (.int .i64 n) W))
    (x y : Bs) (lx : x.length ≤ 2) (ly : y.length ≤ 2) (c3 : ∀ W, Calls Tryd.prog 17 #[.int .i64 m] W (Ret (.tuple #[.string ⟨x.toArray⟩, .int .i64 0]) W)) (c4 : ∀ W, Calls Tryd.prog 17 #[.int .i64 n] W (Ret (.tuple #[.string ⟨y.toArray⟩, .int .i64 0]) W))
    (c5 : ∀ W, Below w.heap.size w W → Calls Tryd.prog 18 #[.string ⟨x.toArray⟩] W (Ret (.tuple #[.int .i64 m, .int .i64 0]) W))
    (c6 : ∀ W, Calls Tryd.prog 17 #[.int .i64 (52 + m)] W (Ret (.tuple #[.string ⟨#[]⟩, .int .i64 20]) W)) (c7 : ∀ W, Calls Tryd.prog 17 #[.int .i64 (-1 - m)] W (Ret (.tuple #[.string ⟨#[]⟩, .int .i64 20]) W))
    (k0 : decide (x.length < y.length) = false) (k1 : x.length = y.length) (kb : Op.bytesLess x y = false) (k2 : decide (m < n) = false) (k3 : (x == y) = true) (k4 : (m == n) = true) :
    Calls Tryd.prog 5 #[.int .i64 a, .int .i64 b] w (Ret (.bool true) w) := by
  have e1 : IntKind.i64.wrap (52 + m) = 52 + m := IntWalk.i64_in _ (by omega)
  have e2 : IntKind.i64.wrap (-1 - m) = -1 - m := IntWalk.i64_in _ (by omega)
  go_enter Tryd.func5, Tryd.ntmps5
  go_wp2_with fail
  refine (awake_any w hg).mono ?_; rintro e w1 ⟨rfl, hb1⟩
  go_wp2_with fail
  refine (c1 w1).mono ?_; rintro e w2 ⟨rfl, rfl⟩
  go_wp2_with fail
  refine (c2 w1).mono ?_; rintro e w2 ⟨rfl, rfl⟩
  go_wp2_with fail
  refine (c3 w1).mono ?_; rintro e w2 ⟨rfl, hb2⟩
  replace hb1 := after hb1 hb2
  clear hb2
  go_wp2_with fail
  refine (c4 w2).mono ?_; rintro e w3 ⟨rfl, hb2⟩
  replace hb1 := after hb1 hb2
  clear hb2
  go_wp2_with fail
  refine (c5 w3 hb1).mono ?_; rintro e w4 ⟨rfl, hb2⟩
  replace hb1 := after hb1 hb2
  clear hb2 c1 c2 c3 c4 c5 hg
  go_wp2_with fail
  refine (c6 w4).mono ?_; rintro e w5 ⟨rfl, hb2⟩
  replace hb1 := after hb1 hb2
  clear hb2 c6
  go_wp2_with fail
  refine (c7 w5).mono ?_; rintro e w6 ⟨rfl, hb2⟩
  replace hb1 := after hb1 hb2
  clear hb2 c7
  go_wp2
  go_ret; exact Ret.mk' rfl hb1

set_option maxRecDepth 100000 in
set_option maxHeartbeats 4000000 in
theorem Columns_smore (a b m n : Int) (w : World) (hg : Good w) (rm : 0 ≤ m ∧ m < 52)
    (c1 : ∀ W, Calls Tryd.prog 15 #[.int .i64 a, .int .i64 52] W (Still (.int .i64 m) W)) (c2 : ∀ W, Calls Tryd.prog 15 #[.int .i64 b, .int .i64 52] W (Still (.int .i64 n) W))
    (x y : Bs) (lx : x.length ≤ 2) (ly : y.length ≤ 2) (c3 : ∀ W, Calls Tryd.prog 17 #[.int .i64 m] W (Ret (.tuple #[.string ⟨x.toArray⟩, .int .i64 0]) W)) (c4 : ∀ W, Calls Tryd.prog 17 #[.int .i64 n] W (Ret (.tuple #[.string ⟨y.toArray⟩, .int .i64 0]) W))
    (c5 : ∀ W, Below w.heap.size w W → Calls Tryd.prog 18 #[.string ⟨x.toArray⟩] W (Ret (.tuple #[.int .i64 m, .int .i64 0]) W))
    (c6 : ∀ W, Calls Tryd.prog 17 #[.int .i64 (52 + m)] W (Ret (.tuple #[.string ⟨#[]⟩, .int .i64 20]) W)) (c7 : ∀ W, Calls Tryd.prog 17 #[.int .i64 (-1 - m)] W (Ret (.tuple #[.string ⟨#[]⟩, .int .i64 20]) W))
    (k0 : decide (x.length < y.length) = false) (k1 : x.length = y.length) (kb : Op.bytesLess x y = false) (k2 : decide (m < n) = false) (k3 : (x == y) = false) (k4 : (m == n) = false) :
    Calls Tryd.prog 5 #[.int .i64 a, .int .i64 b] w (Ret (.bool true) w) := by
  have e1 : IntKind.i64.wrap (52 + m) = 52 + m := IntWalk.i64_in _ (by omega)
  have e2 : IntKind.i64.wrap (-1 - m) = -1 - m := IntWalk.i64_in _ (by omega)
  go_enter Tryd.func5, Tryd.ntmps5
  go_wp2_with fail
  refine (awake_any w hg).mono ?_; rintro e w1 ⟨rfl, hb1⟩
  go_wp2_with fail
  refine (c1 w1).mono ?_; rintro e w2 ⟨rfl, rfl⟩
  go_wp2_with fail
  refine (c2 w1).mono ?_; rintro e w2 ⟨rfl, rfl⟩
  go_wp2_with fail
  refine (c3 w1).mono ?_; rintro e w2 ⟨rfl, hb2⟩
  replace hb1 := after hb1 hb2
  clear hb2
  go_wp2_with fail
  refine (c4 w2).mono ?_; rintro e w3 ⟨rfl, hb2⟩
  replace hb1 := after hb1 hb2
  clear hb2
  go_wp2_with fail
  refine (c5 w3 hb1).mono ?_; rintro e w4 ⟨rfl, hb2⟩
  replace hb1 := after hb1 hb2
  clear hb2 c1 c2 c3 c4 c5 hg
  go_wp2_with fail
  refine (c6 w4).mono ?_; rintro e w5 ⟨rfl, hb2⟩
  replace hb1 := after hb1 hb2
  clear hb2 c6
  go_wp2_with fail
  refine (c7 w5).mono ?_; rintro e w6 ⟨rfl, hb2⟩
  replace hb1 := after hb1 hb2
  clear hb2 c7
  go_wp2
  go_ret; exact Ret.mk' rfl hb1

set_option maxRecDepth 100000 in
set_option maxHeartbeats 4000000 in
theorem Columns_more (a b m n : Int) (w : World) (hg : Good w) (rm : 0 ≤ m ∧ m < 52)
    (c1 : ∀ W, Calls Tryd.prog 15 #[.int .i64 a, .int .i64 52] W (Still (.int .i64 m) W)) (c2 : ∀ W, Calls Tryd.prog 15 #[.int .i64 b, .int .i64 52] W (Still (.int .i64 n) W))
    (x y : Bs) (lx : x.length ≤ 2) (ly : y.length ≤ 2) (c3 : ∀ W, Calls Tryd.prog 17 #[.int .i64 m] W (Ret (.tuple #[.string ⟨x.toArray⟩, .int .i64 0]) W)) (c4 : ∀ W, Calls Tryd.prog 17 #[.int .i64 n] W (Ret (.tuple #[.string ⟨y.toArray⟩, .int .i64 0]) W))
    (c5 : ∀ W, Below w.heap.size w W → Calls Tryd.prog 18 #[.string ⟨x.toArray⟩] W (Ret (.tuple #[.int .i64 m, .int .i64 0]) W))
    (c6 : ∀ W, Calls Tryd.prog 17 #[.int .i64 (52 + m)] W (Ret (.tuple #[.string ⟨#[]⟩, .int .i64 20]) W)) (c7 : ∀ W, Calls Tryd.prog 17 #[.int .i64 (-1 - m)] W (Ret (.tuple #[.string ⟨#[]⟩, .int .i64 20]) W))
    (k0 : decide (x.length < y.length) = false) (k1 : ((x.length : Int) == (y.length : Int)) = false) (k2 : decide (m < n) = false) (k3 : (x == y) = false) (k4 : (m == n) = false) :
    Calls Tryd.prog 5 #[.int .i64 a, .int .i64 b] w (Ret (.bool true) w) := by
  have e1 : IntKind.i64.wrap (52 + m) = 52 + m := IntWalk.i64_in _ (by omega)
  have e2 : IntKind.i64.wrap (-1 - m) = -1 - m := IntWalk.i64_in _ (by omega)
  go_enter Tryd.func5, Tryd.ntmps5
  go_wp2_with fail
  refine (awake_any w hg).mono ?_; rintro e w1 ⟨rfl, hb1⟩
  go_wp2_with fail
  refine (c1 w1).mono ?_; rintro e w2 ⟨rfl, rfl⟩
  go_wp2_with fail
  refine (c2 w1).mono ?_; rintro e w2 ⟨rfl, rfl⟩
  go_wp2_with fail
  refine (c3 w1).mono ?_; rintro e w2 ⟨rfl, hb2⟩
  replace hb1 := after hb1 hb2
  clear hb2
  go_wp2_with fail
  refine (c4 w2).mono ?_; rintro e w3 ⟨rfl, hb2⟩
  replace hb1 := after hb1 hb2
  clear hb2
  go_wp2_with fail
  refine (c5 w3 hb1).mono ?_; rintro e w4 ⟨rfl, hb2⟩
  replace hb1 := after hb1 hb2
  clear hb2 c1 c2 c3 c4 c5 hg
  go_wp2_with fail
  refine (c6 w4).mono ?_; rintro e w5 ⟨rfl, hb2⟩
  replace hb1 := after hb1 hb2
  clear hb2 c6
  go_wp2_with fail
  refine (c7 w5).mono ?_; rintro e w6 ⟨rfl, hb2⟩
  replace hb1 := after hb1 hb2
  clear hb2 c7
  go_wp2
  go_ret; exact Ret.mk' rfl hb1

theorem law_RefColumns (a b : Int) (w : World) (hg : Good w) (ha : Int64 a) (hb : Int64 b) : Calls Tryd.prog 5 #[.int .i64 a, .int .i64 b] w (Ret (.bool true) w) := by
  obtain ⟨m, hm⟩ : ∃ m, pickI a 52 = m := ⟨_, rfl⟩
  obtain ⟨n, hn⟩ : ∃ n, pickI b 52 = n := ⟨_, rfl⟩
  have rm := pickI_range a 52 (by omega)
  have rn := pickI_range b 52 (by omega)
  have c1 : ∀ W, Calls Tryd.prog 15 #[.int .i64 a, .int .i64 52] W (Still (.int .i64 m) W) := fun W => by rw [← hm]; exact pick_any a 52 W ha.1 ha.2 (by omega) (by omega)
  have c2 : ∀ W, Calls Tryd.prog 15 #[.int .i64 b, .int .i64 52] W (Still (.int .i64 n) W) := fun W => by rw [← hn]; exact pick_any b 52 W hb.1 hb.2 (by omega) (by omega)
  rw [hm] at rm
  rw [hn] at rn
  obtain ⟨p1, p2, p3, p4⟩ := Columns_pre m w hg rm
  obtain ⟨q1, _, _, _⟩ := Columns_pre n w hg rn
  obtain ⟨i, rfl⟩ : ∃ i : Fin 52, m = (i.val : Int) := ⟨⟨m.toNat, by omega⟩, by show m = ((m.toNat : Nat) : Int); omega⟩
  obtain ⟨j, rfl⟩ : ∃ j : Fin 52, n = (j.val : Int) := ⟨⟨n.toNat, by omega⟩, by show n = ((n.toNat : Nat) : Int); omega⟩
  have hp := colPair_all i j
  have lx := colL_len i.val
  have ly := colL_len j.val
  unfold colPair at hp
  dsimp only at hp
  have hij : ∀ B, (decide (i = j) = B) → (((i.val : Int) == (j.val : Int)) = B) := fun B h => by
    rw [← h, Bool.eq_iff_iff, beq_iff_eq, decide_eq_true_iff, Fin.ext_iff]; omega
  by_cases h1 : (colL (i.val : Int)).length < (colL (j.val : Int)).length
  · rw [if_pos h1, decide_eq_true_iff] at hp
    refine Columns_less a b _ _ w hg rm c1 c2 _ _ lx ly p1 q1 p2 p3 p4 (decide_eq_true h1) (decide_eq_true (by omega)) ?_ (by rw [beq_eq_false_iff_ne]; omega)
    rw [beq_eq_false_iff_ne]; intro e; rw [e] at h1; omega
  · rw [if_neg h1] at hp
    by_cases h2 : (colL (i.val : Int)).length = (colL (j.val : Int)).length
    · rw [if_pos h2] at hp
      by_cases h3 : Op.bytesLess (colL (i.val : Int)) (colL (j.val : Int)) = true
      · rw [if_pos h3, Bool.and_eq_true, decide_eq_true_iff, Bool.not_eq_true'] at hp
        exact Columns_sless a b _ _ w hg rm c1 c2 _ _ lx ly p1 q1 p2 p3 p4 (decide_eq_false h1) h2 h3 (decide_eq_true (by omega)) hp.2 (by rw [beq_eq_false_iff_ne]; omega)
      · rw [if_neg h3, Bool.and_eq_true, decide_eq_true_iff, beq_iff_eq] at hp
        rw [Bool.not_eq_true] at h3
        by_cases h4 : i = j
        · rw [decide_eq_true h4] at hp
          exact Columns_same a b _ _ w hg rm c1 c2 _ _ lx ly p1 q1 p2 p3 p4 (decide_eq_false h1) h2 h3 (decide_eq_false (by omega)) hp.2 (hij _ (decide_eq_true h4))
        · rw [decide_eq_false h4] at hp
          exact Columns_smore a b _ _ w hg rm c1 c2 _ _ lx ly p1 q1 p2 p3 p4 (decide_eq_false h1) h2 h3 (decide_eq_false (by omega)) hp.2 (hij _ (decide_eq_false h4))
    · rw [if_neg h2, decide_eq_true_iff] at hp
      refine Columns_more a b _ _ w hg rm c1 c2 _ _ lx ly p1 q1 p2 p3 p4 (decide_eq_false h1) (by rw [beq_eq_false_iff_ne]; omega) (decide_eq_false (by omega)) ?_ (by rw [beq_eq_false_iff_ne]; omega)
      rw [beq_eq_false_iff_ne]; intro e; rw [e] at h2; exact h2 rfl
end Go.Proofs.YtmeiboajpbflcaaDoor
