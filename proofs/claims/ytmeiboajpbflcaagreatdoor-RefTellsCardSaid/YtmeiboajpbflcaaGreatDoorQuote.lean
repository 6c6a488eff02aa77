/- The walk of tabularef02.Quoted. -/
import Derived.Test.YtmeiboajpbflcaaGreatDoorGood
import Derived.Test.YtmeiboajpbflcaaGreatDoorRepl
namespace Go.Proofs.YtmeiboajpbflcaaGreatDoor
open Go.RowKit Tab

set_option maxRecDepth 100000 in
set_option maxHeartbeats 1000000 in
theorem Quoted_any (s : ByteArray) (w : World) (hm : s.size ≤ 4611686018427387904 - 10) : Calls Tryz.prog 8 #[.string s] w (Still (strV (39 :: dbl s.data.toList ++ [39])) w) := by
  go_enter Tryz.func8, Tryz.ntmps8
  go_wp2
  go_loop [3, 4] (fun o i => ∃ k : Nat, k ≤ s.size ∧ i = .int .i64 k ∧ o = strV (39 :: dbl (s.data.toList.take k))) (fun _ i => s.size - (intOf i).toNat)
  case atStart => exact ⟨0, by omega, rfl, rfl⟩
  case round =>
    obtain ⟨k, hk, rfl, rfl⟩ := hrel
    have hl := dbl_len (s.data.toList.take k)
    rw [List.length_take] at hl
    by_cases hlt : k < s.size
    · have hsn := dbl_snoc (s.data.toList.take k) s[k]
      rw [← take_snoc s k hlt] at hsn
      have HS := Lib.hid hsn; clear hsn
      generalize dbl (s.data.toList.take k) = D at *
      unfold strV
      have hl2 : D.length ≤ 2 * k := by omega
      clear hl
      by_cases hb : s[k] = 39
      · have hb' : ((s[k].toNat : Int) == 39) = true := by rw [hb]; rfl
        have HB := Lib.hid hb; clear hb
        go_wp2
        go_round
        case rel => exact ⟨k + 1, by omega, by go_num, (strV_eq (by rw [ba_append, ba_append, ba_extract, one_ext s k hlt, HS.out, HB.out, if_pos rfl, List.append_assoc]; rfl))⟩
        case measure => simp [intOf]; omega
      · have hb' : ((s[k].toNat : Int) == 39) = false := by
          rw [beq_eq_false_iff_ne]; intro e; exact hb (UInt8.toNat_inj.1 (by have : s[k].toNat = 39 := by omega
                                                                             rw [this]; rfl))
        have HB := Lib.hid hb; clear hb
        go_wp2
        go_round
        case rel => exact ⟨k + 1, by omega, by go_num, (strV_eq (by rw [ba_append, ba_extract, one_ext s k hlt, HS.out, if_neg HB.out]; rfl))⟩
        case measure => simp [intOf]; omega
    · unfold strV
      go_wp2
      go_ret
      exact Still.mk' (strV_eq (by rw [ba_append, List.take_of_length_le (by rw [← Lib.size_eq]; omega)]; rfl))
end Go.Proofs.YtmeiboajpbflcaaGreatDoor
