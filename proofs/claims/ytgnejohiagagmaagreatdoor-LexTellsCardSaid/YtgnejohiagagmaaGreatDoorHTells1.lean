/- Walks of the reference's small functions: Letter, Digit, Plain, Column, Right, IsArea, Has. -/
import Derived.Test.YtgnejohiagagmaaGreatDoorG4
import Derived.Test.YtgnejohiagagmaaGreatDoorG9
namespace Go.Proofs.YtgnejohiagagmaaGreatDoor
open Go.RowKit Tab

set_option maxHeartbeats 400000 in
theorem Letter_any (c : Int) (w : World) : Calls Tryz.prog 108 #[.int .u8 c] w (Still (.bool (isLetter c)) w) := by
  go_enter Tryz.func108, Tryz.ntmps108
  go_wp2
  all_goals (go_ret; refine Still.mk' (congrArg Value.bool ?_); simp only [isLetter]; rw [Bool.eq_iff_iff]; simp; omega)
set_option maxHeartbeats 400000 in
theorem Digit_any (c : Int) (w : World) : Calls Tryz.prog 190 #[.int .u8 c] w (Still (.bool (decide (48 ≤ c ∧ c ≤ 57))) w) := by
  go_enter Tryz.func190, Tryz.ntmps190
  go_wp2
  all_goals (go_ret; refine Still.mk' (congrArg Value.bool ?_); rw [Bool.eq_iff_iff]; simp; omega)

theorem plain_cons (f : Bool) (b : UInt8) (r : Bs) (L D U : Bool) (hL : isLetter (b.toNat : Int) = L) (hD : decide (48 ≤ (b.toNat : Int) ∧ (b.toNat : Int) ≤ 57) = D) (hU : ((b.toNat : Int) == 95) = U) :
    plainFrom f (b :: r) = ((L || U || (D && !f)) && plainFrom false r) := by
  have h1 : (b == 95) = U := by
    rw [← hU, Bool.eq_iff_iff, beq_iff_eq, beq_iff_eq]
    constructor
    · rintro rfl; rfl
    · intro h
      have e : b.toNat = 95 := by omega
      exact UInt8.toNat_inj.1 (e.trans rfl)
  have h2 : isDigitB b = D := by rw [← hD]; unfold isDigitB; rw [decide_eq_decide]; omega
  show ((isLetterB b || b == 95 || (isDigitB b && !f)) && plainFrom false r) = _
  rw [h1, h2, show isLetterB b = L from hL]

set_option maxRecDepth 100000 in
set_option maxHeartbeats 2000000 in
theorem Plain_any (s : ByteArray) (w : World) (hm : s.size ≤ 9223372036854775807) : Calls Tryz.prog 154 #[.string s] w (Still (.bool (plainB s.data.toList)) w) := by
  have Hv : Hid (plainB s.data.toList = (plainFrom true s.data.toList && decide (0 < (s.size : Int)))) := by
    show _ = _
    unfold plainB
    congr 1
    rw [← ba_size]; cases s.data.toList with
    | nil => rfl
    | cons a l => rw [dT (by simp only [List.length_cons]; omega)]; rfl
  go_enter Tryz.func154, Tryz.ntmps154
  go_wp2
  go_loop [3] (fun i => ∃ k : Nat, k ≤ s.size ∧ i = .int .i64 k ∧ plainFrom true s.data.toList = plainFrom (k == 0) (s.data.toList.drop k)) (fun i => s.size - (intOf i).toNat)
  case atStart => exact ⟨0, by omega, rfl, rfl⟩
  case round =>
    obtain ⟨k, hk, rfl, hP⟩ := hrel
    by_cases hlt : k < s.size
    · have hd := drop_at s k hlt
      have cL := fun W => Letter_any (s[k].toNat : Int) W
      have cD := fun W => Digit_any (s[k].toNat : Int) W
      obtain ⟨L, hL⟩ : ∃ L, isLetter (s[k].toNat : Int) = L := ⟨_, rfl⟩
      obtain ⟨D, hD⟩ : ∃ D, decide (48 ≤ (s[k].toNat : Int) ∧ (s[k].toNat : Int) ≤ 57) = D := ⟨_, rfl⟩
      obtain ⟨U, hU⟩ : ∃ U, ((s[k].toNat : Int) == 95) = U := ⟨_, rfl⟩
      obtain ⟨Z, hZ⟩ : ∃ Z, ((k : Int) == 0) = Z := ⟨_, rfl⟩
      have hZ' : (k == 0) = Z := by rw [← hZ, Bool.eq_iff_iff, beq_iff_eq, beq_iff_eq]; omega
      have hZ2 : (k + 1 == 0) = false := by rw [beq_eq_false_iff_ne]; omega
      rw [hd, hZ', plain_cons Z _ _ L D U hL hD hU] at hP
      rw [hL] at cL
      rw [hD] at cD
      have HP := Lib.hid (And.intro hP hZ2); clear hP hd hL hD hZ' hZ2
      have HV := Lib.hid Hv; clear Hv
      have hUZ : (U = true ∧ (s[k].toNat : Int) = 95) ∨ (U = false ∧ ¬ (s[k].toNat : Int) = 95) := by
        rw [← hU]
        by_cases h : (s[k].toNat : Int) = 95
        · left; exact ⟨by rw [h]; rfl, h⟩
        · right; exact ⟨by rw [beq_eq_false_iff_ne]; exact h, h⟩
      clear hU
      have cLD : ∀ v, (s[k].toNat : Int) = v → (∀ W, Calls Tryz.prog 108 #[.int .u8 v] W (Still (.bool L) W)) ∧ ∀ W, Calls Tryz.prog 190 #[.int .u8 v] W (Still (.bool D) W) := fun v h => by rw [← h]; exact ⟨cL, cD⟩
      have cLD' : (∀ W, Calls Tryz.prog 108 #[.int .u8 (if U = true then 95 else (s[k].toNat : Int))] W (Still (.bool L) W)) ∧ ∀ W, Calls Tryz.prog 190 #[.int .u8 (if U = true then 95 else (s[k].toNat : Int))] W (Still (.bool D) W) := cLD _ (by rcases hUZ with ⟨h, h2⟩ | ⟨h, h2⟩ <;> rw [h] <;> simp [h2])
      clear cL cD cLD
      obtain ⟨cL, cD⟩ := cLD'
      rcases hUZ with ⟨rfl, hu⟩ | ⟨rfl, hu⟩ <;> cases L <;> cases D <;> cases Z
      all_goals simp only [if_true, Bool.false_eq_true, if_false] at cL cD
      all_goals (go_wp2_with (first | (go_at_call 108; refine (cL _).mono ?_; rintro e w1 ⟨rfl, rfl⟩) | (go_at_call 190; refine (cD _).mono ?_; rintro e w1 ⟨rfl, rfl⟩)))
      all_goals first
        | (go_ret; exact Still.mk' (by rw [HV.out.out, HP.out.1]; rfl))
        | go_round
      all_goals first
        | (exact ⟨k + 1, by omega, by go_num, by rw [HP.out.1, HP.out.2]; simp only [Bool.or_true, Bool.or_false, Bool.true_and, Bool.and_true, Bool.and_false, Bool.not_false, Bool.not_true]⟩)
        | (simp [intOf]; omega)
    · have hP' : plainFrom true s.data.toList = true := by rw [hP, List.drop_eq_nil_of_le (by rw [ba_size]; omega)]; rfl
      have HP := Lib.hid hP'; clear hP hP'
      by_cases h0 : 0 < s.size
      · go_wp2
        go_ret; exact Still.mk' (by rw [Hv.out, HP.out, dT (by omega)]; rfl)
      · go_wp2
        go_ret; exact Still.mk' (by rw [Hv.out, HP.out, dF (by omega)]; rfl)

theorem great_at : ∀ i : Fin 26, (ByteArray.mk #[65, 66, 67, 68, 69, 70, 71, 72, 73, 74, 75, 76, 77, 78, 79, 80, 81, 82, 83, 84, 85, 86, 87, 88, 89, 90]).extract i.val (i.val + 1) = ⟨#[UInt8.ofNat (65 + i.val)]⟩ := by decide +kernel
theorem colL_plain (n : Int) (h0 : 0 ≤ n) (h1 : n < 52) (k : Nat) (hk : n % 26 = k) : colL n = if n < 26 then [UInt8.ofNat (65 + k)] else [65, UInt8.ofNat (65 + k)] := by
  unfold colL
  rw [if_neg (by omega)]
  by_cases h : n < 26
  · rw [if_pos h, if_pos h]
    have : (65 + n).toNat = 65 + k := by omega
    rw [this]
  · rw [if_neg h, if_neg h]
    have e1 : (65 + n / 26 - 1).toNat = 65 := by omega
    have e2 : (65 + n % 26).toNat = 65 + k := by omega
    rw [e1, e2]; rfl
set_option maxRecDepth 100000 in
set_option maxHeartbeats 1000000 in
theorem TColumn_any (n : Int) (w : World) (h0 : -9223372036854775808 ≤ n) (h1 : n ≤ 9223372036854775807) : Calls Tryz.prog 156 #[.int .i64 n] w (Still (.tuple #[strV (colL n), .int .i64 (colE n)]) w) := by
  by_cases h : n < 0
  · go_enter Tryz.func156, Tryz.ntmps156
    go_wp2
    go_ret2
    exact ⟨by rw [colL_out n (by omega), colE_out n (by omega)]; rfl, rfl⟩
  by_cases h2 : 51 < n
  · go_enter Tryz.func156, Tryz.ntmps156
    go_wp2
    go_ret2
    exact ⟨by rw [colL_out n (by omega), colE_out n (by omega)]; rfl, rfl⟩
  obtain ⟨k, hk⟩ : ∃ k : Nat, n % 26 = k := ⟨(n % 26).toNat, by omega⟩
  have hk2 : n.tmod 26 = k := by rw [Int.tmod_eq_emod_of_nonneg (by omega)]; exact hk
  have hlt : k < 26 := by omega
  have hx := great_at ⟨k, hlt⟩
  dsimp only at hx
  have Hc := Lib.hid (colL_plain n (by omega) (by omega) k hk)
  have He := Lib.hid (colE_in n (by omega) (by omega))
  by_cases h3 : n < 26
  · go_enter Tryz.func156, Tryz.ntmps156
    go_wp2
    go_ret2
    exact ⟨by rw [Hc.out, He.out, if_pos (by omega), UInt8.ofNat_add]; rfl, rfl⟩
  · go_enter Tryz.func156, Tryz.ntmps156
    go_wp2
    go_ret2
    exact ⟨by rw [Hc.out, He.out, if_neg (by omega), UInt8.ofNat_add]; exact congrArg (fun v => Ending.returned (.tuple #[v, .int .i64 0])) (strV_eq (l := [65, UInt8.ofNat 65 + UInt8.ofNat k]) (by rw [ba_append]; rfl)), rfl⟩

end Go.Proofs.YtgnejohiagagmaaGreatDoor
