/- The walk of tabulalaw02.RefName. -/
import Derived.Test.YtmeiboajpbflcaaGreatDoorSheet
namespace Go.Proofs.YtmeiboajpbflcaaGreatDoor
open Go.RowKit Tab

theorem ne_empty {t : ByteArray} (h : t.toList.isEmpty = false) : t ≠ ⟨#[]⟩ := by
  rintro rfl
  rw [ByteArray.toList_eq] at h
  cases h

set_option maxRecDepth 100000 in
set_option maxHeartbeats 1000000 in
theorem RefName_any (s : ByteArray) (w : World) (hm : s.size ≤ 9223372036854775807) : Calls Tryz.prog 29 #[.string s] w (fun e w' => ∃ t : ByteArray, nameB t.data.toList = true ∧ e = .returned (.string t) ∧ w' = w) := by
  have cS : ∀ k, Calls Tryz.prog 53 #[.string (s.extract k s.size)] w (Still (.int .i64 (signN (s.data.toList.drop k))) w) := fun k => by
    have := Sign_any (s.extract k s.size) w (by rw [ByteArray.size_extract]; omega)
    rwa [drop_ext] at this
  go_enter Tryz.func29, Tryz.ntmps29
  go_wp2
  go_loop [3, 4] (fun o i => ∃ (k : Nat) (t : ByteArray), k ≤ s.size ∧ i = .int .i64 k ∧ o = .string t ∧ (t = ⟨#[]⟩ ∨ nameB t.data.toList = true)) (fun _ i => s.size - (intOf i).toNat)
  case atStart => exact ⟨0, ⟨#[]⟩, by omega, rfl, rfl, .inl rfl⟩
  case round =>
    obtain ⟨k, t, hk, rfl, rfl, hI⟩ := hrel
    have HI := Lib.hid hI; clear hI
    by_cases hlt : k < s.size
    · by_cases ht : t.size < 20
      · have hl4 := sign_le4 (s.data.toList.drop k)
        have hle := sign_le (s.data.toList.drop k)
        rw [List.length_drop, ba_size] at hle
        have cS := cS k
        generalize signN (s.data.toList.drop k) = n at *
        obtain ⟨m, hm1, hm2, hm4, hm3⟩ : ∃ m : Nat, max (n : Int) 1 = m ∧ 1 ≤ m ∧ m ≤ 4 ∧ k + m ≤ s.size := by
          by_cases h : n = 0
          · exact ⟨1, by omega, by omega, by omega, by omega⟩
          · exact ⟨n, by omega, by omega, by omega, by omega⟩
        have cN := IsSheet_any (t ++ s.extract k (k + m)) w (by rw [ByteArray.size_append, ByteArray.size_extract]; omega)
        by_cases hB : nameB (t ++ s.extract k (k + m)).data.toList = true
        · rw [hB] at cN
          have HB := Lib.hid hB; clear hB
          go_wp2_with (go_at_call 53; refine cS.mono ?_; rintro e w1 ⟨rfl, rfl⟩)
          go_wp2_with (go_at_call 48; refine cN.mono ?_; rintro e w1 ⟨rfl, rfl⟩)
          go_round
          case rel => exact ⟨k + m, _, by omega, by go_num, rfl, .inr HB.out⟩
          case measure => simp [intOf]; omega
        · rw [Bool.not_eq_true] at hB
          rw [hB] at cN
          clear hB
          go_wp2_with (go_at_call 53; refine cS.mono ?_; rintro e w1 ⟨rfl, rfl⟩)
          go_wp2_with (go_at_call 48; refine cN.mono ?_; rintro e w1 ⟨rfl, rfl⟩)
          go_round
          case rel => exact ⟨k + m, t, by omega, by go_num, rfl, HI.out⟩
          case measure => simp [intOf]; omega
      · have e1 : decide ((t.size : Int) < 20) = false := dF (by omega)
        go_wp2
        · go_ret; exact ⟨⟨#[83]⟩, by decide, rfl, rfl⟩
        · go_ret; exact ⟨t, HI.out.resolve_left (ne_empty (by assumption)), rfl, rfl⟩
    · have e1 : decide ((k : Int) < s.size) = false := dF (by omega)
      go_wp2
      · go_ret; exact ⟨⟨#[83]⟩, by decide, rfl, rfl⟩
      · go_ret; exact ⟨t, HI.out.resolve_left (ne_empty (by assumption)), rfl, rfl⟩
end Go.Proofs.YtmeiboajpbflcaaGreatDoor
