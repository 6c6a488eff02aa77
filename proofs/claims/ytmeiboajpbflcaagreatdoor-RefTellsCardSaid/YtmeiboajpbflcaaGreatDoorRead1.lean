/- The walks of Read's own functions. -/
import Derived.Test.YtmeiboajpbflcaaGreatDoorGood
import Derived.Test.YtmeiboajpbflcaaGreatDoorInts
namespace Go.Proofs.YtmeiboajpbflcaaGreatDoor
open Go.RowKit Tab

set_option maxRecDepth 100000 in
set_option maxHeartbeats 1000000 in
theorem Read3_any (b : UInt8) (w : World) : Calls Tryz.prog 34 #[.int .u8 (b.toNat : Int)] w (Still (.bool (isLetterB b)) w) := by
  have hb := b.toNat_lt
  have cL := letter_any (b.toNat : Int) w
  unfold isLetterB
  generalize b.toNat = x at *
  generalize isLetter (x : Int) = B at *
  go_enter Tryz.func34, Tryz.ntmps34
  go_wp2_with fail
  refine cL.mono ?_; rintro e w1 ⟨rfl, rfl⟩
  go_wp2
  go_ret; exact Still.mk' rfl

set_option maxRecDepth 100000 in
set_option maxHeartbeats 1000000 in
theorem Read4_any (b : UInt8) (w : World) : Calls Tryz.prog 36 #[.int .u8 (b.toNat : Int)] w (Still (.bool (isDigitB b)) w) := by
  have hb := b.toNat_lt
  unfold isDigitB
  generalize b.toNat = x at *
  by_cases h1 : 48 ≤ x
  · have e1 : decide (48 ≤ (x : Int)) = true := decide_eq_true (by omega)
    by_cases h2 : x ≤ 57
    · rw [show decide (48 ≤ x ∧ x ≤ 57) = true from decide_eq_true ⟨h1, h2⟩]
      have e2 : decide ((x : Int) ≤ 57) = true := decide_eq_true (by omega)
      go_enter Tryz.func36, Tryz.ntmps36
      go_wp2
      go_ret; exact Still.mk' rfl
    · rw [show decide (48 ≤ x ∧ x ≤ 57) = false from decide_eq_false (by omega)]
      have e2 : decide ((x : Int) ≤ 57) = false := decide_eq_false (by omega)
      go_enter Tryz.func36, Tryz.ntmps36
      go_wp2
      go_ret; exact Still.mk' rfl
  · rw [show decide (48 ≤ x ∧ x ≤ 57) = false from decide_eq_false (by omega)]
    have e1 : decide (48 ≤ (x : Int)) = false := decide_eq_false (by omega)
    go_enter Tryz.func36, Tryz.ntmps36
    go_wp2
    go_ret; exact Still.mk' rfl

set_option maxRecDepth 100000 in
set_option maxHeartbeats 1000000 in
theorem Read2_any (s : ByteArray) (w : World) (b : Nat) (hb : Blk w b #[.string s]) : Calls Tryz.prog 32 #[.pointer (some ⟨b, 0, none⟩)] w (fun e w' => e = .returned (.bool (Lib.hasPrefix s.data.toList [36])) ∧ w' = w.setCell ⟨b, 0, none⟩ (.string ⟨(Lib.trimPrefix s.data.toList [36]).toArray⟩)) := by
  obtain ⟨f0, g0, z0⟩ := hb.facts
  have cC := Tryz.strings_CutPrefix s ⟨#[36]⟩ w
  go_enter Tryz.func32, Tryz.ntmps32
  go_wp2_with fail
  refine cC.mono ?_; rintro e w1 ⟨rfl, rfl⟩
  go_wp2
  go_ret; exact ⟨rfl, rfl⟩

theorem drop_cons (s : ByteArray) (k : Nat) (h : k < s.size) : s.data.toList.drop k = s[k] :: s.data.toList.drop (k + 1) := by
  rw [List.drop_eq_getElem_cons (by rw [ba_size]; exact h)]; rfl
theorem drop_ext' (s : ByteArray) (k : Nat) : (s.extract k s.size).data.toList = s.data.toList.drop k := by
  rw [ba_extract, List.take_of_length_le (by rw [ba_size]; omega)]
set_option maxRecDepth 100000 in
set_option maxHeartbeats 1000000 in
theorem Read1_letters (s : ByteArray) (hs : s.size ≤ 1000000) (w : World) (b : Nat) (hb : Blk w b #[.string s]) :
    Calls Tryz.prog 31 #[.func (.func 34) #[] #[], .pointer (some ⟨b, 0, none⟩)] w (fun e w' => e = .returned (.string ⟨(s.data.toList.takeWhile isLetterB).toArray⟩) ∧ w' = w.setCell ⟨b, 0, none⟩ (.string ⟨(s.data.toList.dropWhile isLetterB).toArray⟩)) := by
  obtain ⟨f0, g0, z0⟩ := hb.facts
  clear hb
  have hP := Read3_any
  generalize isLetterB = P at *
  go_enter Tryz.func31, Tryz.ntmps31
  go_wp2
  go_loop [4] (fun i => ∃ k : Nat, k ≤ s.size ∧ i = .int .i64 k ∧ s.data.toList.takeWhile P = s.data.toList.take k ++ (s.data.toList.drop k).takeWhile P ∧ s.data.toList.dropWhile P = (s.data.toList.drop k).dropWhile P) (fun i => s.size - (intOf i).toNat)
  case atStart => exact ⟨0, by omega, rfl, rfl, rfl⟩
  case round =>
    obtain ⟨k, hk, rfl, h1, h2⟩ := hrel
    by_cases hlt : k < s.size
    · have hd := drop_cons s k hlt
      have hp := hP s[k] w
      have ht := take_snoc s k hlt
      cases hPk : P s[k]
      · rw [hPk] at hp
        rw [hd, List.takeWhile_cons, hPk, if_neg Bool.false_ne_true, List.append_nil] at h1
        rw [hd, List.dropWhile_cons, hPk, if_neg Bool.false_ne_true, ← hd] at h2
        have H1 := Lib.hid h1; clear h1
        have H2 := Lib.hid h2; clear h2 hd ht hPk
        go_wp2_with fail
        refine hp.mono ?_; rintro e w1 ⟨rfl, rfl⟩
        go_wp2
        go_ret; exact ⟨congrArg Ending.returned (strV_eq (by rw [ba_extract, H1.out]; rfl)), congrArg (World.setCell w ⟨b, 0, none⟩) (strV_eq (by rw [drop_ext', H2.out]))⟩
      · rw [hPk] at hp
        rw [hd, List.takeWhile_cons, hPk, if_pos rfl, List.append_cons, ← ht] at h1
        rw [hd, List.dropWhile_cons, hPk, if_pos rfl] at h2
        have H1 := Lib.hid h1; clear h1
        have H2 := Lib.hid h2; clear h2 hd ht hPk
        go_wp2_with fail
        refine hp.mono ?_; rintro e w1 ⟨rfl, rfl⟩
        go_wp2
        go_round
        case rel => exact ⟨k + 1, by omega, by go_num, H1.out, H2.out⟩
        case measure => simp [intOf]; omega
    · have hk2 : k = s.size := by omega
      subst hk2
      have hd : s.data.toList.drop s.size = [] := List.drop_eq_nil_of_le (by rw [ba_size]; omega)
      rw [hd, List.takeWhile_nil, List.append_nil] at h1
      rw [hd, List.dropWhile_nil] at h2
      have H1 := Lib.hid h1; clear h1
      have H2 := Lib.hid h2; clear h2 hd
      go_wp2
      go_ret; exact ⟨congrArg Ending.returned (strV_eq (by rw [H1.out, List.take_of_length_le (by rw [ba_size]; omega)])), congrArg (World.setCell w ⟨b, 0, none⟩) (strV_eq (by rw [H2.out]; rfl))⟩
set_option maxRecDepth 100000 in
set_option maxHeartbeats 1000000 in
theorem Read1_digits (s : ByteArray) (hs : s.size ≤ 1000000) (w : World) (b : Nat) (hb : Blk w b #[.string s]) :
    Calls Tryz.prog 31 #[.func (.func 36) #[] #[], .pointer (some ⟨b, 0, none⟩)] w (fun e w' => e = .returned (.string ⟨(s.data.toList.takeWhile isDigitB).toArray⟩) ∧ w' = w.setCell ⟨b, 0, none⟩ (.string ⟨(s.data.toList.dropWhile isDigitB).toArray⟩)) := by
  obtain ⟨f0, g0, z0⟩ := hb.facts
  clear hb
  have hP := Read4_any
  generalize isDigitB = P at *
  go_enter Tryz.func31, Tryz.ntmps31
  go_wp2
  go_loop [4] (fun i => ∃ k : Nat, k ≤ s.size ∧ i = .int .i64 k ∧ s.data.toList.takeWhile P = s.data.toList.take k ++ (s.data.toList.drop k).takeWhile P ∧ s.data.toList.dropWhile P = (s.data.toList.drop k).dropWhile P) (fun i => s.size - (intOf i).toNat)
  case atStart => exact ⟨0, by omega, rfl, rfl, rfl⟩
  case round =>
    obtain ⟨k, hk, rfl, h1, h2⟩ := hrel
    by_cases hlt : k < s.size
    · have hd := drop_cons s k hlt
      have hp := hP s[k] w
      have ht := take_snoc s k hlt
      cases hPk : P s[k]
      · rw [hPk] at hp
        rw [hd, List.takeWhile_cons, hPk, if_neg Bool.false_ne_true, List.append_nil] at h1
        rw [hd, List.dropWhile_cons, hPk, if_neg Bool.false_ne_true, ← hd] at h2
        have H1 := Lib.hid h1; clear h1
        have H2 := Lib.hid h2; clear h2 hd ht hPk
        go_wp2_with fail
        refine hp.mono ?_; rintro e w1 ⟨rfl, rfl⟩
        go_wp2
        go_ret; exact ⟨congrArg Ending.returned (strV_eq (by rw [ba_extract, H1.out]; rfl)), congrArg (World.setCell w ⟨b, 0, none⟩) (strV_eq (by rw [drop_ext', H2.out]))⟩
      · rw [hPk] at hp
        rw [hd, List.takeWhile_cons, hPk, if_pos rfl, List.append_cons, ← ht] at h1
        rw [hd, List.dropWhile_cons, hPk, if_pos rfl] at h2
        have H1 := Lib.hid h1; clear h1
        have H2 := Lib.hid h2; clear h2 hd ht hPk
        go_wp2_with fail
        refine hp.mono ?_; rintro e w1 ⟨rfl, rfl⟩
        go_wp2
        go_round
        case rel => exact ⟨k + 1, by omega, by go_num, H1.out, H2.out⟩
        case measure => simp [intOf]; omega
    · have hk2 : k = s.size := by omega
      subst hk2
      have hd : s.data.toList.drop s.size = [] := List.drop_eq_nil_of_le (by rw [ba_size]; omega)
      rw [hd, List.takeWhile_nil, List.append_nil] at h1
      rw [hd, List.dropWhile_nil] at h2
      have H1 := Lib.hid h1; clear h1
      have H2 := Lib.hid h2; clear h2 hd
      go_wp2
      go_ret; exact ⟨congrArg Ending.returned (strV_eq (by rw [H1.out, List.take_of_length_le (by rw [ba_size]; omega)])), congrArg (World.setCell w ⟨b, 0, none⟩) (strV_eq (by rw [H2.out]; rfl))⟩
end Go.Proofs.YtmeiboajpbflcaaGreatDoor
