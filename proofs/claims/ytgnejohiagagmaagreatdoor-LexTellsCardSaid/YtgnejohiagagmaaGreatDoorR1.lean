/- The walks of tabularef04's digit, letter, wordy. The walk of tabularef04.run. The walks of tabularef04's at, callable, isRef, IsName. The walk of tabularef04.quoted. -/
import Derived.Test.YtgnejohiagagmaaGreatDoorG2
import Derived.Test.YtgnejohiagagmaaGreatDoorI3
import Derived.Test.YtgnejohiagagmaaGreatDoorHTells11
import Derived.Test.YtgnejohiagagmaaGreatDoorG11
import Derived.Test.YtgnejohiagagmaaGreatDoorG6
import Derived.BigQuiet
namespace Go.Proofs.YtgnejohiagagmaaGreatDoor
open Go.RowKit Tab

set_option maxRecDepth 100000 in
set_option maxHeartbeats 1000000 in
theorem rDigit_any (x : Nat) (w : World) : Calls Tryz.prog 65 #[.int .u8 (x : Int)] w (Still (.bool (digR x)) w) := by
  unfold digR
  by_cases h1 : 48 ≤ x
  · have e1 : decide (48 ≤ (x : Int)) = true := decide_eq_true (by omega)
    by_cases h2 : x ≤ 57
    · rw [show decide (48 ≤ x ∧ x ≤ 57) = true from decide_eq_true ⟨h1, h2⟩]
      have e2 : decide ((x : Int) ≤ 57) = true := decide_eq_true (by omega)
      go_enter Tryz.func65, Tryz.ntmps65
      go_wp2
      go_ret; exact Still.mk' rfl
    · rw [show decide (48 ≤ x ∧ x ≤ 57) = false from decide_eq_false (by omega)]
      have e2 : decide ((x : Int) ≤ 57) = false := decide_eq_false (by omega)
      go_enter Tryz.func65, Tryz.ntmps65
      go_wp2
      go_ret; exact Still.mk' rfl
  · rw [show decide (48 ≤ x ∧ x ≤ 57) = false from decide_eq_false (by omega)]
    have e1 : decide (48 ≤ (x : Int)) = false := decide_eq_false (by omega)
    go_enter Tryz.func65, Tryz.ntmps65
    go_wp2
    go_ret; exact Still.mk' rfl

set_option maxRecDepth 100000 in
set_option maxHeartbeats 2000000 in
theorem rLetter_any (x : Nat) (w : World) : Calls Tryz.prog 106 #[.int .u8 (x : Int)] w (Still (.bool (letR x)) w) := by
  have hc : x < 65 ∨ (65 ≤ x ∧ x ≤ 90) ∨ (90 < x ∧ x < 97) ∨ (97 ≤ x ∧ x ≤ 122) ∨ 122 < x := by omega
  rcases hc with h | h | h | h | h
  · have hv : letR x = false := decide_eq_false (by omega)
    have e1 : decide (65 ≤ (x : Int)) = false := decide_eq_false (by omega)
    have e2 : decide ((x : Int) ≤ 90) = true := decide_eq_true (by omega)
    have e3 : decide (97 ≤ (x : Int)) = false := decide_eq_false (by omega)
    have e4 : decide ((x : Int) ≤ 122) = true := decide_eq_true (by omega)
    rw [hv]
    clear hv
    go_enter Tryz.func106, Tryz.ntmps106
    go_wp2
    go_ret; exact Still.mk' rfl
  · have hv : letR x = true := decide_eq_true (by omega)
    have e1 : decide (65 ≤ (x : Int)) = true := decide_eq_true (by omega)
    have e2 : decide ((x : Int) ≤ 90) = true := decide_eq_true (by omega)
    have e3 : decide (97 ≤ (x : Int)) = false := decide_eq_false (by omega)
    have e4 : decide ((x : Int) ≤ 122) = true := decide_eq_true (by omega)
    rw [hv]
    clear hv
    go_enter Tryz.func106, Tryz.ntmps106
    go_wp2
    go_ret; exact Still.mk' rfl
  · have hv : letR x = false := decide_eq_false (by omega)
    have e1 : decide (65 ≤ (x : Int)) = true := decide_eq_true (by omega)
    have e2 : decide ((x : Int) ≤ 90) = false := decide_eq_false (by omega)
    have e3 : decide (97 ≤ (x : Int)) = false := decide_eq_false (by omega)
    have e4 : decide ((x : Int) ≤ 122) = true := decide_eq_true (by omega)
    rw [hv]
    clear hv
    go_enter Tryz.func106, Tryz.ntmps106
    go_wp2
    go_ret; exact Still.mk' rfl
  · have hv : letR x = true := decide_eq_true (by omega)
    have e1 : decide (65 ≤ (x : Int)) = true := decide_eq_true (by omega)
    have e2 : decide ((x : Int) ≤ 90) = false := decide_eq_false (by omega)
    have e3 : decide (97 ≤ (x : Int)) = true := decide_eq_true (by omega)
    have e4 : decide ((x : Int) ≤ 122) = true := decide_eq_true (by omega)
    rw [hv]
    clear hv
    go_enter Tryz.func106, Tryz.ntmps106
    go_wp2
    go_ret; exact Still.mk' rfl
  · have hv : letR x = false := decide_eq_false (by omega)
    have e1 : decide (65 ≤ (x : Int)) = true := decide_eq_true (by omega)
    have e2 : decide ((x : Int) ≤ 90) = false := decide_eq_false (by omega)
    have e3 : decide (97 ≤ (x : Int)) = true := decide_eq_true (by omega)
    have e4 : decide ((x : Int) ≤ 122) = false := decide_eq_false (by omega)
    rw [hv]
    clear hv
    go_enter Tryz.func106, Tryz.ntmps106
    go_wp2
    go_ret; exact Still.mk' rfl

set_option maxRecDepth 100000 in
set_option maxHeartbeats 2000000 in
theorem rWordy_any (x : Nat) (w : World) : Calls Tryz.prog 100 #[.int .u8 (x : Int)] w (Still (.bool (wordR x)) w) := by
  have cD := rDigit_any x w
  have cL := rLetter_any x w
  unfold wordR
  obtain ⟨A, hA⟩ : ∃ A, (x == 95) = A := ⟨_, rfl⟩
  obtain ⟨B, hB⟩ : ∃ B, (x == 46) = B := ⟨_, rfl⟩
  obtain ⟨C, hC⟩ : ∃ C, (x == 36) = C := ⟨_, rfl⟩
  have e1 : ((x : Int) == 95) = A := by rw [← hA, Bool.eq_iff_iff, beq_iff_eq, beq_iff_eq]; omega
  have e2 : ((x : Int) == 46) = B := by rw [← hB, Bool.eq_iff_iff, beq_iff_eq, beq_iff_eq]; omega
  have e3 : ((x : Int) == 36) = C := by rw [← hC, Bool.eq_iff_iff, beq_iff_eq, beq_iff_eq]; omega
  rw [hA, hB, hC]
  clear hA hB hC
  generalize digR x = D at *
  generalize letR x = L at *
  cases D <;> cases L <;> cases A <;> cases B <;> cases C
  all_goals (
    go_enter Tryz.func100, Tryz.ntmps100
    go_wp2_with (first | (go_at_call 65; refine cD.mono ?_; rintro e w1 ⟨rfl, rfl⟩) | (go_at_call 106; refine cL.mono ?_; rintro e w1 ⟨rfl, rfl⟩))
    go_ret; exact Still.mk' rfl)

end Go.Proofs.YtgnejohiagagmaaGreatDoor

namespace Go.Proofs.YtgnejohiagagmaaGreatDoor
open Go.RowKit Tab

set_option maxRecDepth 100000 in
set_option maxHeartbeats 8000000 in
theorem runDigits_any (s : ByteArray) (a : Nat) (ha : a ≤ s.size) (hs : s.size ≤ 1000000) (w : World) : Calls Tryz.prog 66 #[.string s, .int .i64 (a : Int), .int .i64 0] w (Still (.int .i64 ((whileD digR (s.data.toList.drop a)).length : Nat)) w) := by
  obtain ⟨V, hV⟩ : ∃ V, (whileD digR (s.data.toList.drop a)).length = V := ⟨_, rfl⟩
  rw [hV]
  have HV := Lib.hid hV
  clear hV
  go_enter Tryz.func66, Tryz.ntmps66
  go_wp2
  go_loop [7] (fun n => ∃ j : Nat, n = .int .i64 (j : Int) ∧ a + j ≤ s.size ∧ j + (whileD digR (s.data.toList.drop (a + j))).length = V) (fun n => s.size - (intOf n).toNat)
  case atStart => exact ⟨0, rfl, ha, by rw [Nat.zero_add]; exact HV.out⟩
  case round =>
    clear HV
    obtain ⟨j, rfl, hj, hI⟩ := hrel
    have HI := Lib.hid hI
    clear hI
    have ew1 : IntKind.i64.wrap ((a : Int) + (j : Int)) = ((a + j : Nat) : Int) := by rw [IntWalk.i64_in _ (by omega)]; omega
    have ew2 : IntKind.i64.wrap ((j : Int) + 1) = ((j + 1 : Nat) : Int) := by rw [IntWalk.i64_in _ (by omega)]; omega
    by_cases hlt : a + j < s.size
    · have e1 : decide (((a + j : Nat) : Int) < (s.size : Int)) = true := decide_eq_true (by omega)
      have hst := while_step digR s.data.toList (a + j) (by rw [ba_size]; exact hlt)
      have hg : s.data.toList[a + j]'(by rw [ba_size]; exact hlt) = s[a + j] := rfl
      rw [hg] at hst
      have hI := HI.out
      rw [hst] at hI
      have cD := fun W => rDigit_any s[a + j].toNat W
      clear hst hg HI
      cases hk : digR s[a + j].toNat
      · rw [hk] at cD hI
        rw [if_neg Bool.false_ne_true] at hI
        clear hk
        have hI2 : j = V := hI
        subst hI2
        clear hI
        go_wp2_with ((go_at_call 65; refine (cD _).mono ?_; rintro e w1 ⟨rfl, rfl⟩))
        go_ret; exact Still.mk' rfl
      · rw [hk] at cD hI
        rw [if_pos rfl, List.length_cons] at hI
        clear hk
        have HI := Lib.hid hI
        clear hI
        go_wp2_with ((go_at_call 65; refine (cD _).mono ?_; rintro e w1 ⟨rfl, rfl⟩))
        go_round
        case rel => exact ⟨j + 1, rfl, by omega, by have := HI.out; rw [← Nat.add_assoc]; omega⟩
        case measure => simp [intOf]; omega
    · have e1 : decide (((a + j : Nat) : Int) < (s.size : Int)) = false := decide_eq_false (by omega)
      have hI := HI.out
      rw [while_end digR _ _ (by rw [ba_size]; omega)] at hI
      have hI2 : j = V := hI
      subst hI2
      clear hI HI
      go_wp2
      go_ret; exact Still.mk' rfl

set_option maxRecDepth 100000 in
set_option maxHeartbeats 8000000 in
theorem runWords_any (s : ByteArray) (a : Nat) (ha : a ≤ s.size) (hs : s.size ≤ 1000000) (w : World) : Calls Tryz.prog 66 #[.string s, .int .i64 (a : Int), .int .i64 1] w (Still (.int .i64 ((whileD wordR (s.data.toList.drop a)).length : Nat)) w) := by
  obtain ⟨V, hV⟩ : ∃ V, (whileD wordR (s.data.toList.drop a)).length = V := ⟨_, rfl⟩
  rw [hV]
  have HV := Lib.hid hV
  clear hV
  go_enter Tryz.func66, Tryz.ntmps66
  go_wp2
  go_loop [7] (fun n => ∃ j : Nat, n = .int .i64 (j : Int) ∧ a + j ≤ s.size ∧ j + (whileD wordR (s.data.toList.drop (a + j))).length = V) (fun n => s.size - (intOf n).toNat)
  case atStart => exact ⟨0, rfl, ha, by rw [Nat.zero_add]; exact HV.out⟩
  case round =>
    clear HV
    obtain ⟨j, rfl, hj, hI⟩ := hrel
    have HI := Lib.hid hI
    clear hI
    have ew1 : IntKind.i64.wrap ((a : Int) + (j : Int)) = ((a + j : Nat) : Int) := by rw [IntWalk.i64_in _ (by omega)]; omega
    have ew2 : IntKind.i64.wrap ((j : Int) + 1) = ((j + 1 : Nat) : Int) := by rw [IntWalk.i64_in _ (by omega)]; omega
    by_cases hlt : a + j < s.size
    · have e1 : decide (((a + j : Nat) : Int) < (s.size : Int)) = true := decide_eq_true (by omega)
      have hst := while_step wordR s.data.toList (a + j) (by rw [ba_size]; exact hlt)
      have hg : s.data.toList[a + j]'(by rw [ba_size]; exact hlt) = s[a + j] := rfl
      rw [hg] at hst
      have hI := HI.out
      rw [hst] at hI
      have cD := fun W => rDigit_any s[a + j].toNat W
      clear hst hg HI
      have cX := fun W => rWordy_any s[a + j].toNat W
      generalize digR s[a + j].toNat = D at cD
      cases hk : wordR s[a + j].toNat
      · rw [hk] at cX hI
        rw [if_neg Bool.false_ne_true] at hI
        clear hk
        have hI2 : j = V := hI
        subst hI2
        clear hI
        go_wp2_with (first | (go_at_call 65; refine (cD _).mono ?_; rintro e w1 ⟨rfl, rfl⟩) | (go_at_call 100; refine (cX _).mono ?_; rintro e w1 ⟨rfl, rfl⟩))
        go_ret; exact Still.mk' rfl
      · rw [hk] at cX hI
        rw [if_pos rfl, List.length_cons] at hI
        clear hk
        have HI := Lib.hid hI
        clear hI
        go_wp2_with (first | (go_at_call 65; refine (cD _).mono ?_; rintro e w1 ⟨rfl, rfl⟩) | (go_at_call 100; refine (cX _).mono ?_; rintro e w1 ⟨rfl, rfl⟩))
        go_round
        case rel => exact ⟨j + 1, rfl, by omega, by have := HI.out; rw [← Nat.add_assoc]; omega⟩
        case measure => simp [intOf]; omega
    · have e1 : decide (((a + j : Nat) : Int) < (s.size : Int)) = false := decide_eq_false (by omega)
      have hI := HI.out
      rw [while_end wordR _ _ (by rw [ba_size]; omega)] at hI
      have hI2 : j = V := hI
      subst hI2
      clear hI HI
      go_wp2
      go_ret; exact Still.mk' rfl

set_option maxRecDepth 100000 in
set_option maxHeartbeats 8000000 in
theorem runCells_any (s : ByteArray) (a : Nat) (ha : a ≤ s.size) (hs : s.size ≤ 1000000) (w : World) : Calls Tryz.prog 66 #[.string s, .int .i64 (a : Int), .int .i64 2] w (Still (.int .i64 ((whileD cellR (s.data.toList.drop a)).length : Nat)) w) := by
  obtain ⟨V, hV⟩ : ∃ V, (whileD cellR (s.data.toList.drop a)).length = V := ⟨_, rfl⟩
  rw [hV]
  have HV := Lib.hid hV
  clear hV
  go_enter Tryz.func66, Tryz.ntmps66
  go_wp2
  go_loop [7] (fun n => ∃ j : Nat, n = .int .i64 (j : Int) ∧ a + j ≤ s.size ∧ j + (whileD cellR (s.data.toList.drop (a + j))).length = V) (fun n => s.size - (intOf n).toNat)
  case atStart => exact ⟨0, rfl, ha, by rw [Nat.zero_add]; exact HV.out⟩
  case round =>
    clear HV
    obtain ⟨j, rfl, hj, hI⟩ := hrel
    have HI := Lib.hid hI
    clear hI
    have ew1 : IntKind.i64.wrap ((a : Int) + (j : Int)) = ((a + j : Nat) : Int) := by rw [IntWalk.i64_in _ (by omega)]; omega
    have ew2 : IntKind.i64.wrap ((j : Int) + 1) = ((j + 1 : Nat) : Int) := by rw [IntWalk.i64_in _ (by omega)]; omega
    by_cases hlt : a + j < s.size
    · have e1 : decide (((a + j : Nat) : Int) < (s.size : Int)) = true := decide_eq_true (by omega)
      have hst := while_step cellR s.data.toList (a + j) (by rw [ba_size]; exact hlt)
      have hg : s.data.toList[a + j]'(by rw [ba_size]; exact hlt) = s[a + j] := rfl
      rw [hg] at hst
      have hI := HI.out
      rw [hst] at hI
      have cD := fun W => rDigit_any s[a + j].toNat W
      clear hst hg HI
      have cX := fun W => rLetter_any s[a + j].toNat W
      rw [show cellR s[a + j].toNat = (digR s[a + j].toNat || letR s[a + j].toNat || s[a + j].toNat == 36) from rfl] at hI
      have e36 : ((s[a + j].toNat : Int) == 36) = (s[a + j].toNat == 36) := by
        rw [Bool.eq_iff_iff, beq_iff_eq, beq_iff_eq]; omega
      generalize (s[a + j].toNat == 36) = E at *
      generalize digR s[a + j].toNat = D at *
      generalize letR s[a + j].toNat = L at *
      cases D
      · cases L
        · cases E
          · rw [if_neg (by decide)] at hI
            have hI2 : j = V := hI
            subst hI2
            clear hI
            go_wp2_with (first | (go_at_call 65; refine (cD _).mono ?_; rintro e w1 ⟨rfl, rfl⟩) | (go_at_call 106; refine (cX _).mono ?_; rintro e w1 ⟨rfl, rfl⟩))
            go_ret; exact Still.mk' rfl
          · rw [if_pos (by decide), List.length_cons] at hI
            have HI := Lib.hid hI
            clear hI
            go_wp2_with (first | (go_at_call 65; refine (cD _).mono ?_; rintro e w1 ⟨rfl, rfl⟩) | (go_at_call 106; refine (cX _).mono ?_; rintro e w1 ⟨rfl, rfl⟩))
            go_round
            case rel => exact ⟨j + 1, rfl, by omega, by have := HI.out; rw [← Nat.add_assoc]; omega⟩
            case measure => simp [intOf]; omega
        · rw [if_pos (by simp), List.length_cons] at hI
          have HI := Lib.hid hI
          clear hI
          go_wp2_with (first | (go_at_call 65; refine (cD _).mono ?_; rintro e w1 ⟨rfl, rfl⟩) | (go_at_call 106; refine (cX _).mono ?_; rintro e w1 ⟨rfl, rfl⟩))
          go_round
          case rel => exact ⟨j + 1, rfl, by omega, by have := HI.out; rw [← Nat.add_assoc]; omega⟩
          case measure => simp [intOf]; omega
      · rw [if_pos (by simp), List.length_cons] at hI
        have HI := Lib.hid hI
        clear hI
        go_wp2_with (first | (go_at_call 65; refine (cD _).mono ?_; rintro e w1 ⟨rfl, rfl⟩) | (go_at_call 106; refine (cX _).mono ?_; rintro e w1 ⟨rfl, rfl⟩))
        go_round
        case rel => exact ⟨j + 1, rfl, by omega, by have := HI.out; rw [← Nat.add_assoc]; omega⟩
        case measure => simp [intOf]; omega
    · have e1 : decide (((a + j : Nat) : Int) < (s.size : Int)) = false := decide_eq_false (by omega)
      have hI := HI.out
      rw [while_end cellR _ _ (by rw [ba_size]; omega)] at hI
      have hI2 : j = V := hI
      subst hI2
      clear hI HI
      go_wp2
      go_ret; exact Still.mk' rfl
end Go.Proofs.YtgnejohiagagmaaGreatDoor

namespace Tab
open Go Go.Lib
theorem pre_take (l p : Bs) : hasPrefix l p = (l.take p.length == p) := by
  unfold hasPrefix
  rw [Bool.eq_iff_iff, List.isPrefixOf_iff_prefix, List.prefix_iff_eq_take, beq_iff_eq]
  exact ⟨fun h => h.symm, fun h => h.symm⟩
theorem pre_short (l p : Bs) (h : l.length < p.length) : hasPrefix l p = false := by
  cases hp : hasPrefix l p with
  | false => rfl
  | true => have := pre_len l p hp; omega
theorem has_one (d b : UInt8) (l : Bs) : contains (b :: l) [d] = (b == d || contains l [d]) := by
  unfold contains
  rw [idx_cons]
  have h3 := index_ge l [d]
  by_cases hb : (d == b) = true
  · rw [if_pos hb]
    have : (b == d) = true := by rw [beq_iff_eq] at hb ⊢; exact hb.symm
    rw [this]; rfl
  · rw [if_neg hb]
    have : (b == d) = false := by
      rw [beq_eq_false_iff_ne]; intro e; exact hb (by rw [e]; simp)
    rw [this, Bool.false_or]
    by_cases h1 : (index l [d] == -1) = true
    · rw [if_pos h1]
      have h2 : index l [d] = -1 := by simpa using h1
      rw [h2]
    · rw [if_neg h1, decide_eq_decide]
      have h2 : index l [d] ≠ -1 := by simpa using h1
      omega
theorem truth_bytes (l : Bs) (h : ∀ b ∈ l, b.toNat < 128) : truthD l = (l.map upB == [84, 82, 85, 69] || l.map upB == [70, 65, 76, 83, 69]) := by
  unfold truthD
  rw [up_low l h]
theorem call_low {l : Bs} (h : callD l = true) : ∀ b ∈ l, b.toNat < 128 := by
  unfold callD at h
  simp only [Bool.and_eq_true, beq_iff_eq] at h
  intro b hb
  rw [← h.2.2.1] at hb
  exact word_low b (while_all wordR l b hb)
end Tab
namespace Go.Proofs.YtgnejohiagagmaaGreatDoor
open Go.RowKit Tab

set_option maxRecDepth 100000 in
set_option maxHeartbeats 2000000 in
theorem refAt_any (s : ByteArray) (i : Nat) (hi : i ≤ s.size) (hs : s.size ≤ 1000000) (t : ByteArray) (ht : t.size ≤ 1000) (w : World) : Calls Tryz.prog 148 #[.string s, .int .i64 (i : Int), .string t] w (Still (.bool (Lib.hasPrefix (s.data.toList.drop i) t.data.toList)) w) := by
  have ew : IntKind.i64.wrap ((i : Int) + (t.size : Int)) = ((i + t.size : Nat) : Int) := by rw [IntWalk.i64_in _ (by omega)]; omega
  by_cases hle : i + t.size ≤ s.size
  · have e1 : decide (((i + t.size : Nat) : Int) ≤ (s.size : Int)) = true := decide_eq_true (by omega)
    obtain ⟨V, hV⟩ : ∃ V, Lib.hasPrefix (s.data.toList.drop i) t.data.toList = V := ⟨_, rfl⟩
    rw [hV]
    have hx : ((s.extract i (i + t.size)).data.toList == t.data.toList) = V := by
      rw [← hV, pre_take, ba_extract, ba_size, List.drop_take, Nat.add_sub_cancel_left]
    have hy := ba_beq _ _ _ hx
    clear hx hV
    go_enter Tryz.func148, Tryz.ntmps148
    go_wp2
    go_ret; exact Still.mk' rfl
  · have e1 : decide (((i + t.size : Nat) : Int) ≤ (s.size : Int)) = false := decide_eq_false (by omega)
    rw [pre_short _ _ (by rw [List.length_drop, ba_size, ba_size]; omega)]
    go_enter Tryz.func148, Tryz.ntmps148
    go_wp2
    go_ret; exact Still.mk' rfl

set_option maxRecDepth 100000 in
set_option maxHeartbeats 4000000 in
theorem refCallable_any (s : ByteArray) (hs : s.size ≤ 1000000) (w : World) : Calls Tryz.prog 38 #[.string s] w (Still (.bool (callD s.data.toList)) w) := by
  obtain ⟨V, hV⟩ : ∃ V, callD s.data.toList = V := ⟨_, rfl⟩
  rw [hV]
  unfold callD at hV
  rw [ba_size] at hV
  by_cases h1 : 1 ≤ s.size
  rotate_left
  · rw [decide_eq_false h1, Bool.false_and] at hV
    subst hV
    have e1 : decide ((s.size : Int) < 1) = true := decide_eq_true (by omega)
    go_enter Tryz.func38, Tryz.ntmps38
    go_wp2
    go_ret; exact Still.mk' rfl
  rw [decide_eq_true h1, Bool.true_and] at hV
  have e1 : decide ((s.size : Int) < 1) = false := decide_eq_false (by omega)
  by_cases h2 : s.size ≤ 30
  rotate_left
  · rw [decide_eq_false h2, Bool.false_and] at hV
    subst hV
    have e2 : decide (30 < (s.size : Int)) = true := decide_eq_true (by omega)
    go_enter Tryz.func38, Tryz.ntmps38
    go_wp2
    go_ret; exact Still.mk' rfl
  rw [decide_eq_true h2, Bool.true_and] at hV
  have e2 : decide (30 < (s.size : Int)) = false := decide_eq_false (by omega)
  have h0 : s.data.toList.getD 0 0 = s[0] := by rw [List.getD_eq_getElem?_getD, List.getElem?_eq_getElem (by rw [ba_size]; omega)]; rfl
  rw [h0] at hV
  have hs0 : 0 < s.size := h1
  have cD := fun W => rDigit_any s[0].toNat W
  have h3 : ((s[0].toNat : Int) == 46) = (s[0] == 46) := byte_beq s[0] 46
  have cR := fun W => runWords_any s 0 (by omega) hs W
  rw [List.drop_zero] at cR
  have hwl : (whileD wordR s.data.toList).length ≤ s.size := by rw [← ba_size]; exact tw_len _ _
  have hweq : (whileD wordR s.data.toList == s.data.toList) = decide ((whileD wordR s.data.toList).length = s.size) := by
    rw [Bool.eq_iff_iff, beq_iff_eq, decide_eq_true_eq]
    constructor
    · intro h; rw [h, ba_size]
    · intro h
      have hp : whileD wordR s.data.toList <+: s.data.toList := List.takeWhile_prefix _
      exact hp.eq_of_length (by rw [h, ba_size])
  rw [hweq] at hV
  clear h0 hweq
  generalize digR s[0].toNat = D at *
  generalize (s[0] == 46) = P at *
  generalize (whileD wordR s.data.toList).length = n at *
  cases D
  rotate_left
  · rw [show (!true) = false from rfl, Bool.false_and, Bool.and_false, Bool.and_false] at hV
    subst hV
    clear cR h3
    go_enter Tryz.func38, Tryz.ntmps38
    go_wp2_with fail
    refine (cD _).mono ?_; rintro e w1 ⟨rfl, rfl⟩
    go_wp2
    go_ret; exact Still.mk' rfl
  cases P
  rotate_left
  · rw [show (!true) = false from rfl, Bool.and_false, Bool.and_false, Bool.and_false] at hV
    subst hV
    clear cR
    go_enter Tryz.func38, Tryz.ntmps38
    go_wp2_with fail
    refine (cD _).mono ?_; rintro e w1 ⟨rfl, rfl⟩
    go_wp2
    go_ret; exact Still.mk' rfl
  rw [show (!false && !false) = true from rfl, Bool.and_true] at hV
  by_cases hn : n = s.size
  rotate_left
  · rw [decide_eq_false hn, Bool.false_and] at hV
    subst hV
    have e4 : ((n : Int) != (s.size : Int)) = true := by rw [bne_iff_ne]; omega
    go_enter Tryz.func38, Tryz.ntmps38
    go_wp2_with fail
    refine (cD _).mono ?_; rintro e w1 ⟨rfl, rfl⟩
    go_wp2_with fail
    refine (cR _).mono ?_; rintro e w1 ⟨rfl, rfl⟩
    go_wp2
    go_ret; exact Still.mk' rfl
  rw [decide_eq_true hn, Bool.true_and] at hV
  have e4 : ((n : Int) != (s.size : Int)) = false := by rw [hn]; simp
  have HV := Lib.hid hV
  clear hV hn hwl
  go_enter Tryz.func38, Tryz.ntmps38
  go_wp2_with fail
  refine (cD _).mono ?_; rintro e w1 ⟨rfl, rfl⟩
  go_wp2_with fail
  refine (cR _).mono ?_; rintro e w1 ⟨rfl, rfl⟩
  clear cR cD
  go_wp2
  go_loop [3] (fun i => ∃ j : Nat, i = .int .i64 (j : Int) ∧ j ≤ s.size ∧ (!Lib.contains (s.data.toList.drop j) [36]) = V) (fun i => s.size - (intOf i).toNat)
  case atStart => exact ⟨0, rfl, by omega, HV.out⟩
  case round =>
    clear HV
    obtain ⟨j, rfl, hj, hI⟩ := hrel
    have HI := Lib.hid hI
    clear hI
    by_cases hlt : j < s.size
    · have ew : IntKind.i64.wrap ((j : Int) + 1) = ((j + 1 : Nat) : Int) := by rw [IntWalk.i64_in _ (by omega)]; omega
      have hI := HI.out
      rw [drop_at s j hlt, has_one] at hI
      have e5 : ((s[j].toNat : Int) == 36) = (s[j] == 36) := byte_beq s[j] 36
      clear HI
      generalize (s[j] == 36) = E at *
      cases E
      · rw [Bool.false_or] at hI
        have HI := Lib.hid hI
        clear hI
        go_wp2
        go_round
        case rel => exact ⟨j + 1, rfl, hlt, HI.out⟩
        case measure => simp [intOf]; omega
      · have hI2 : false = V := hI
        subst hI2
        clear hI
        go_wp2
        go_ret; exact Still.mk' rfl
    · have hI := HI.out
      rw [List.drop_eq_nil_of_le (by rw [ba_size]; omega)] at hI
      have hI2 : true = V := hI
      subst hI2
      clear hI HI
      go_wp2
      go_ret; exact Still.mk' rfl

set_option maxRecDepth 100000 in
set_option maxHeartbeats 2000000 in
theorem refIsRef_any (s : ByteArray) (hs : s.size ≤ 1000000) (w : World) : Calls Tryz.prog 39 #[.string s] w (Ret (.bool (isRefD s.data.toList)) w) := by
  have cR := TRead_any s w hs
  rw [tread_is] at cR
  unfold isRefD
  rw [ba_eta]
  generalize readD s = r at *
  obtain ⟨⟨r0, r1, r2, r3, r4, r5⟩, e⟩ := r
  unfold refV at cR
  dsimp only at *
  go_enter Tryz.func39, Tryz.ntmps39
  go_wp2_with fail
  refine cR.mono ?_; rintro e' w1 ⟨rfl, hb⟩
  go_wp2
  go_ret; exact Ret.mk' rfl (by repeat' (first | with_reducible assumption | with_reducible exact Below.refl _ _ | with_reducible refine allocB ?_ | with_reducible refine setB ?_ ?_ | with_reducible refine drewB ?_ | with_reducible refine after ?_ (by assumption) | (simp; omega) | omega))

set_option maxRecDepth 100000 in
set_option maxHeartbeats 4000000 in
theorem refIsName_any (s : ByteArray) (hs : s.size ≤ 1000000) (w : World) : Calls Tryz.prog 15 #[.string s] w (Ret (.bool (isNameD s.data.toList)) w) := by
  have cU := Upper_any s w (by omega)
  have cC := fun W => refCallable_any s hs W
  have cR := fun W => refIsRef_any s hs W
  obtain ⟨V, hV⟩ : ∃ V, isNameD s.data.toList = V := ⟨_, rfl⟩
  rw [hV]
  unfold isNameD at hV
  have hlow := @call_low s.data.toList
  have htr := truth_bytes s.data.toList
  cases hc : callD s.data.toList
  · rw [hc] at cC hV
    rw [Bool.false_and] at hV
    subst hV
    clear hlow htr hc cR
    go_enter Tryz.func15, Tryz.ntmps15
    go_wp2_with fail
    refine cU.mono ?_; rintro e w1 ⟨rfl, hb⟩
    go_wp2_with fail
    refine (cC _).mono ?_; rintro e w2 ⟨rfl, rfl⟩
    go_wp2
    go_ret; exact Ret.mk' rfl hb
  · rw [htr (hlow hc)] at hV
    rw [hc] at cC hV
    rw [Bool.true_and] at hV
    clear hlow htr hc
    generalize s.data.toList.map upB = U at *
    generalize isRefD s.data.toList = R at *
    cases R
    · rw [Bool.not_false, Bool.true_and] at hV
      cases h1 : (U == [84, 82, 85, 69])
      · cases h2 : (U == [70, 65, 76, 83, 69])
        all_goals (
          rw [h1, h2] at hV
          subst hV
          go_enter Tryz.func15, Tryz.ntmps15
          go_wp2_with fail
          refine cU.mono ?_; rintro e w1 ⟨rfl, hb⟩
          go_wp2_with fail
          refine (cC _).mono ?_; rintro e w2 ⟨rfl, rfl⟩
          go_wp2_with fail
          refine (cR _).mono ?_; rintro e w3 ⟨rfl, hb2⟩
          replace hb := after hb hb2
          go_wp2
          go_ret; exact Ret.mk' rfl hb)
      · rw [h1, Bool.true_or] at hV
        subst hV
        go_enter Tryz.func15, Tryz.ntmps15
        go_wp2_with fail
        refine cU.mono ?_; rintro e w1 ⟨rfl, hb⟩
        go_wp2_with fail
        refine (cC _).mono ?_; rintro e w2 ⟨rfl, rfl⟩
        go_wp2_with fail
        refine (cR _).mono ?_; rintro e w3 ⟨rfl, hb2⟩
        replace hb := after hb hb2
        go_wp2
        go_ret; exact Ret.mk' rfl hb
    · have hv : V = false := hV.symm
      subst hv
      go_enter Tryz.func15, Tryz.ntmps15
      go_wp2_with fail
      refine cU.mono ?_; rintro e w1 ⟨rfl, hb⟩
      go_wp2_with fail
      refine (cC _).mono ?_; rintro e w2 ⟨rfl, rfl⟩
      go_wp2_with fail
      refine (cR _).mono ?_; rintro e w3 ⟨rfl, hb2⟩
      replace hb := after hb hb2
      go_wp2
      go_ret; exact Ret.mk' rfl hb
end Go.Proofs.YtgnejohiagagmaaGreatDoor

namespace Tab
/-- the place behind so many bytes from a place on; 0: none. -/
def endQ (a n : Nat) : Nat := if n = 0 then 0 else a + n
end Tab
namespace Go.Proofs.YtgnejohiagagmaaGreatDoor
open Go.RowKit Tab

set_option maxRecDepth 100000 in
set_option maxHeartbeats 8000000 in
theorem refQuoted_any (s : ByteArray) (a : Nat) (ha : a < s.size) (hs : s.size ≤ 1000000) (w : World) : Calls Tryz.prog 98 #[.string s, .int .i64 (a : Int)] w (Ret (.tuple #[strV (quotedD (s.data.toList.drop a)).1, .int .i64 ((endQ a (quotedD (s.data.toList.drop a)).2 : Nat) : Int)]) w) := by
  obtain ⟨V, n, hV⟩ : ∃ V n, quotedD (s.data.toList.drop a) = (V, n) := ⟨_, _, rfl⟩
  rw [hV]
  dsimp only
  have hd := drop_at s a ha
  obtain ⟨q, hq⟩ : ∃ q, s[a] = q := ⟨_, rfl⟩
  have hF : quoFrom q (s.data.toList.drop (a + 1)) [] 1 = (V, n) := by
    rw [hd] at hV
    rw [← hV, hq]
    unfold quoFrom quotedD
    dsimp only
    cases quoF q (s.data.toList.drop (a + 1)) <;> rfl
  clear hV hd
  have HF := Lib.hid hF
  clear hF
  have ew0 : IntKind.i64.wrap ((a : Int) + 1) = ((a + 1 : Nat) : Int) := by rw [IntWalk.i64_in _ (by omega)]; omega
  have hai : (a : Int) < (s.size : Int) := by omega
  go_enter Tryz.func98, Tryz.ntmps98
  go_wp2_with fail
  go_loopw [6, 7] (fun o k w' => ∃ (c m : Nat) (xs : Bs), o = strV xs ∧ k = .int .i64 (c : Int) ∧ c = a + m ∧ 1 ≤ m ∧ c ≤ s.size ∧ xs.length ≤ m ∧ quoFrom q (s.data.toList.drop c) xs m = (V, n) ∧ Below w.heap.size w w') (fun _ k _ => s.size - (intOf k).toNat)
  case atStart => exact ⟨a + 1, 1, [], rfl, rfl, rfl, by omega, by omega, by simp, HF.out, Below.refl _ _⟩
  case round =>
    clear HF
    obtain ⟨c, m, xs, rfl, rfl, hcm, hm1, hcs, hxl, hI, hb⟩ := hrel
    have HI := Lib.hid hI
    clear hI
    have HC := Lib.hid hcm
    clear hcm
    unfold strV
    by_cases hlt : c < s.size
    · have hd := drop_at s c hlt
      have hci : (c : Int) < (s.size : Int) := by omega
      have ew : IntKind.i64.wrap ((c : Int) + 1) = ((c + 1 : Nat) : Int) := by rw [IntWalk.i64_in _ (by omega)]; omega
      have a1 : ¬ 9223372036854775807 < xs.length + 1 := by have := HC.out; omega
      by_cases hb6 : s[c] = q
      · have e6 : ((s[c].toNat : Int) != (s[a].toNat : Int)) = false := by rw [byte_bne, hb6, hq]; simp
        by_cases hl2 : c + 1 < s.size
        · have hd2 := drop_at s (c + 1) hl2
          have e7 : (((c + 1 : Nat) : Int) == (s.size : Int)) = false := beq_eq_false_iff_ne.2 (by omega)
          have e7b : ((c : Int) + 1 == (s.size : Int)) = false := beq_eq_false_iff_ne.2 (by omega)
          have en : ((c : Int) + 1).toNat = c + 1 := by omega
          have en1 : (0 : Int) ≤ (c : Int) + 1 := by omega
          have en2 : (c : Int) + 1 < (s.size : Int) := by omega
          have ew2 : IntKind.i64.wrap (((c + 1 : Nat) : Int) + 1) = ((c + 2 : Nat) : Int) := by rw [IntWalk.i64_in _ (by omega)]; omega
          have ew3 : IntKind.i64.wrap ((c : Int) + 1 + 1) = ((c + 2 : Nat) : Int) := by rw [IntWalk.i64_in _ (by omega)]; omega
          by_cases hb7 : s[c + 1] = q
          · have e8 : ((s[c + 1].toNat : Int) != (s[a].toNat : Int)) = false := by rw [byte_bne, hb7, hq]; simp
            have hI := HI.out
            rw [hd, hd2, hb6, hb7, from_two] at hI
            have HI := Lib.hid hI
            have H6 := Lib.hid hb6
            clear hI hd hd2 hb6 hb7 hq
            go_upto_region 5 with fail
            refine region_below (by kernel_rfl) (by kernel_rfl) ?_
            repeat (go_big_quiet_step (fail))
            refine wpQuiet_nil ?_
            intro wq hbq
            replace hb := after hb hbq
            clear hbq
            go_upto_region 7 with fail
            refine region_below (by kernel_rfl) (by kernel_rfl) ?_
            repeat (go_big_quiet_step (fail))
            refine wpQuiet_nil ?_
            intro wq2 hbq
            replace hb := after hb hbq
            clear hbq
            go_wp2
            go_roundw
            case rel => exact ⟨c + 2, m + 2, xs ++ [s[c]], (strV_eq (by rw [ba_append, ba_extract, one_ext s c hlt])), rfl, by have := HC.out; omega, by omega, by omega, by rw [List.length_append]; simp only [List.length_cons, List.length_nil]; omega, by rw [H6.out]; exact HI.out, hb⟩
            case measure => simp [intOf]; omega
          · have e8 : ((s[c + 1].toNat : Int) != (s[a].toNat : Int)) = true := by rw [byte_bne, hq, beq_eq_false_iff_ne.2 hb7]; rfl
            have hI := HI.out
            rw [hd, hd2, hb6, from_end _ _ _ _ (fun b l h => by injection h with h1 _; rw [← h1]; exact hb7)] at hI
            injection hI with hI1 hI2
            subst hI1 hI2
            clear hd hd2 hb6 hb7 hq HI
            go_upto_region 5 with fail
            refine region_below (by kernel_rfl) (by kernel_rfl) ?_
            repeat (go_big_quiet_step (fail))
            refine wpQuiet_nil ?_
            intro wq hbq
            replace hb := after hb hbq
            clear hbq
            go_upto_region 7 with fail
            refine region_below (by kernel_rfl) (by kernel_rfl) ?_
            repeat (go_big_quiet_step (fail))
            refine wpQuiet_nil ?_
            intro wq2 hbq
            replace hb := after hb hbq
            clear hbq
            go_wp2
            go_ret2
            exact Ret.mk2 rfl (by rw [show endQ a (m + 1) = c + 1 by unfold endQ; rw [if_neg (by omega)]; have := HC.out; omega]; rfl) hb
        · have e7 : (((c + 1 : Nat) : Int) == (s.size : Int)) = true := beq_iff_eq.2 (by omega)
          have e7b : ((c : Int) + 1 == (s.size : Int)) = true := beq_iff_eq.2 (by omega)
          have hI := HI.out
          rw [hd, hb6, from_end _ _ _ _ (fun b l h => by rw [List.drop_eq_nil_of_le (by rw [ba_size]; omega)] at h; cases h)] at hI
          injection hI with hI1 hI2
          subst hI1 hI2
          clear hd hb6 hq HI
          go_upto_region 5 with fail
          refine region_below (by kernel_rfl) (by kernel_rfl) ?_
          repeat (go_big_quiet_step (fail))
          refine wpQuiet_nil ?_
          intro wq hbq
          replace hb := after hb hbq
          clear hbq
          go_upto_region 7 with fail
          refine region_below (by kernel_rfl) (by kernel_rfl) ?_
          repeat (go_big_quiet_step (fail))
          refine wpQuiet_nil ?_
          intro wq2 hbq
          replace hb := after hb hbq
          clear hbq
          go_wp2
          go_ret2
          exact Ret.mk2 rfl (by rw [show endQ a (m + 1) = c + 1 by unfold endQ; rw [if_neg (by omega)]; have := HC.out; omega]; rfl) hb
      · have e6 : ((s[c].toNat : Int) != (s[a].toNat : Int)) = true := by rw [byte_bne, hq, beq_eq_false_iff_ne.2 hb6]; rfl
        have hI := HI.out
        rw [hd, from_other _ _ _ _ _ hb6] at hI
        have HI := Lib.hid hI
        clear hI hd hb6 hq
        go_upto_region 5 with fail
        refine region_below (by kernel_rfl) (by kernel_rfl) ?_
        repeat (go_big_quiet_step (fail))
        refine wpQuiet_nil ?_
        intro wq hbq
        replace hb := after hb hbq
        clear hbq
        go_wp2
        go_roundw
        case rel => exact ⟨c + 1, m + 1, xs ++ [s[c]], (strV_eq (by rw [ba_append, ba_extract, one_ext s c hlt])), rfl, by have := HC.out; omega, by omega, by omega, by rw [List.length_append]; simp only [List.length_cons, List.length_nil]; omega, HI.out, hb⟩
        case measure => simp [intOf]; omega
    · have hI := HI.out
      rw [List.drop_eq_nil_of_le (by rw [ba_size]; omega), from_nil] at hI
      injection hI with hI1 hI2
      subst hI1 hI2
      clear HI
      go_wp2
      go_ret2
      exact Ret.mk2 rfl rfl hb
end Go.Proofs.YtgnejohiagagmaaGreatDoor
