/- The functions that reckon with numbers alone: pick, letter, fixed, Column, right, Meet, Has. -/
import Derived.Test.YtmeiboajpbflcaaGreatDoorBase
namespace Go.Proofs.YtmeiboajpbflcaaGreatDoor
open Go.RowKit Tab

set_option maxHeartbeats 400000 in
theorem fixed_any (b : Bool) (w : World) : Calls Tryz.prog 44 #[.bool b] w (Still (.string ⟨if b then #[36] else #[]⟩) w) := by
  cases b
  · go_enter Tryz.func44, Tryz.ntmps44
    go_wp2
    go_ret
    exact Still.mk' rfl
  · go_enter Tryz.func44, Tryz.ntmps44
    go_wp2
    go_ret
    exact Still.mk' rfl

set_option maxHeartbeats 400000 in
theorem letter_any (c : Int) (w : World) : Calls Tryz.prog 35 #[.int .i32 c] w (Still (.bool (isLetter c)) w) := by
  go_enter Tryz.func35, Tryz.ntmps35
  go_wp2
  all_goals (go_ret; refine Still.mk' (congrArg Value.bool ?_); simp only [isLetter]; rw [Bool.eq_iff_iff]; simp; omega)

theorem pick_neg (c n : Int) (hc : c < 0) : -(c + 1).tmod n = pickI c n := by
  unfold pickI
  rw [if_pos hc, ← Int.neg_tmod, Int.tmod_eq_emod_of_nonneg (by omega)]

theorem pick_pos (c n : Int) (hc : 0 ≤ c) : c % n = pickI c n := by
  unfold pickI
  rw [if_neg (by omega)]

set_option maxHeartbeats 400000 in
theorem pick_any (c n : Int) (w : World) (h0 : -9223372036854775808 ≤ c) (h1 : c ≤ 9223372036854775807) (hn : 1 ≤ n) (hn1 : n ≤ 1000000) : Calls Tryz.prog 7 #[.int .i64 c, .int .i64 n] w (Still (.int .i64 (pickI c n)) w) := by
  by_cases hc : c < 0
  · go_enter Tryz.func7, Tryz.ntmps7
    go_wp2
    go_ret
    exact Still.mk' (congrArg _ (pick_neg c n hc))
  · go_enter Tryz.func7, Tryz.ntmps7
    go_wp2
    go_ret
    exact Still.mk' (congrArg _ (pick_pos c n (by omega)))

/-- string(bytes) of a new block of one byte, of two. -/
theorem conv1 (w : World) (x : Int) : (convert 73 9 (.slice (some ⟨w.heap.size, 0, none⟩) 1 1)).run Tryz.prog (w.alloc (.cells #[.int .u8 x] 5)) = .ok (.string ⟨#[x.toNat.toUInt8]⟩) (w.alloc (.cells #[.int .u8 x] 5)) := by
  rw [run_convert_bytes_string _ _ _ 5 _ _ _ Tryz.underlying73 Tryz.underlying5 Tryz.underlying9]
  have hl := run_loadCells_list (P := Tryz.prog) (w.alloc (.cells #[.int .u8 x] 5)) ⟨w.heap.size, 0, none⟩ ([x].map (Value.int .u8)) (fun j v hj => by
    match j, hj with
    | 0, hj => simp at hj; subst hj; simp [Addr.add])
  rw [run_bytesToString _ _ 1 _ [x] hl]
  rfl
theorem conv2 (w : World) (x y : Int) : (convert 73 9 (.slice (some ⟨w.heap.size, 0, none⟩) 2 2)).run Tryz.prog (w.alloc (.cells #[.int .u8 x, .int .u8 y] 5)) = .ok (.string ⟨#[x.toNat.toUInt8, y.toNat.toUInt8]⟩) (w.alloc (.cells #[.int .u8 x, .int .u8 y] 5)) := by
  rw [run_convert_bytes_string _ _ _ 5 _ _ _ Tryz.underlying73 Tryz.underlying5 Tryz.underlying9]
  have hl := run_loadCells_list (P := Tryz.prog) (w.alloc (.cells #[.int .u8 x, .int .u8 y] 5)) ⟨w.heap.size, 0, none⟩ ([x, y].map (Value.int .u8)) (fun j v hj => by
    match j, hj with
    | 0, hj => simp at hj; subst hj; simp [Addr.add]
    | 1, hj => simp at hj; subst hj; simp [Addr.add])
  rw [run_bytesToString _ _ 2 _ [x, y] hl]
  rfl

set_option maxRecDepth 100000 in
set_option maxHeartbeats 400000 in
theorem Column_any (n : Int) (w : World) (h0 : -9223372036854775808 ≤ n) (h1 : n ≤ 9223372036854775807) : Calls Tryz.prog 13 #[.int .i64 n] w (Ret (.tuple #[strV (colL n), .int .i64 (colE n)]) w) := by
  by_cases h : n < 0
  · go_enter Tryz.func13, Tryz.ntmps13
    go_wp2
    go_ret2
    exact Ret.mk2 (congrArg strV (colL_out n (by omega)).symm) (congrArg (Value.int .i64) (colE_out n (by omega)).symm) (Below.refl _ _)
  by_cases h2 : 52 ≤ n
  · go_enter Tryz.func13, Tryz.ntmps13
    go_wp2
    go_ret2
    exact Ret.mk2 (congrArg strV (colL_out n (by omega)).symm) (congrArg (Value.int .i64) (colE_out n (by omega)).symm) (Below.refl _ _)
  have k1 := conv1
  have k2 := conv2
  by_cases h3 : n < 26
  · go_enter Tryz.func13, Tryz.ntmps13
    go_wp2
    go_ret2
    exact Ret.mk2 (congrArg strV (colL_one n (by omega) (by omega)).symm) (congrArg (Value.int .i64) (colE_in n (by omega) (by omega)).symm) (allocB (Below.refl _ _))
  · go_enter Tryz.func13, Tryz.ntmps13
    go_wp2
    go_ret2
    exact Ret.mk2 (congrArg strV (colL_two n (by omega) (by omega)).symm) (congrArg (Value.int .i64) (colE_in n (by omega) (by omega)).symm) (allocB (Below.refl _ _))
end Go.Proofs.YtmeiboajpbflcaaGreatDoor
