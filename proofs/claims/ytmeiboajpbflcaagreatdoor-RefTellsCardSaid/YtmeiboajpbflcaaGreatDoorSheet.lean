/- The walks of tabularef02.IsText and IsSheet. -/
import Derived.Test.YtmeiboajpbflcaaGreatDoorGood
import Derived.Test.YtmeiboajpbflcaaGreatDoorSign
namespace Tab
open Go.Lib
/-- may bytes stand in a text? -/
def textB (l : Bs) : Bool := l.all okByte && validD l
theorem textB_nil : textB [] = true := rfl
theorem sign_le (l : Bs) : signN l ≤ l.length := by
  rw [signN]
  split
  · omega
  · split
    · omega
    · exact decodeL_le l (by assumption)
theorem width4 (l : Bs) : (decodeL l).2 ≤ 4 := by
  rw [decodeL_N]
  rcases decodeN_shape l.length (l.getD 0 0).toNat (l.getD 1 0).toNat (l.getD 2 0).toNat (l.getD 3 0).toNat with ⟨c, e⟩ | ⟨c1, c2, c3, cv, e⟩ | ⟨c1, c2, c3, c4, cv, cs, e⟩ | ⟨c1, c2, c3, c4, c5, cv, cw, e⟩ | e <;> (rw [e]; dsimp only; try omega)
theorem sign_le4 (l : Bs) : signN l ≤ 4 := by
  rw [signN]
  split
  · omega
  · split
    · omega
    · exact width4 l
theorem text_bad (l : Bs) (hne : l ≠ []) (h : signN l = 0) : textB l = false := by
  rw [signN, if_neg hne] at h
  have hw := decodeL_width l
  have e : decodeL l = (65533, 1) := by
    by_cases e : decodeL l = (65533, 1)
    · exact e
    · rw [if_neg e] at h; omega
  rw [textB, validD_step l hne, e, if_pos ⟨rfl, rfl⟩, Bool.and_false]
theorem text_step (b : UInt8) (r : Bs) (h : signN (b :: r) ≠ 0) : textB (b :: r) = (okByte b && textB ((b :: r).drop (signN (b :: r)))) := by
  have hne : b :: r ≠ [] := by simp
  have hd : decodeL (b :: r) ≠ (65533, 1) := by
    intro e; rw [signN, if_neg hne, if_pos e] at h; exact h rfl
  have hs : signN (b :: r) = (decodeL (b :: r)).2 := by rw [signN, if_neg hne, if_neg hd]
  have hv : validD (b :: r) = validD ((b :: r).drop (decodeL (b :: r)).2) := by
    rw [validD_step _ hne, if_neg]
    rintro ⟨h1, h2⟩; exact hd (Prod.ext h1 h2)
  rw [hs, textB, textB, hv]
  rcases decode_facts b r with ⟨hb, e⟩ | ⟨hb, hr, ha⟩
  · rw [e]
    simp only [List.drop_succ_cons, List.drop_zero, List.all_cons, Bool.and_assoc]
  · have h1 : ((b :: r).take (decodeL (b :: r)).2).all okByte = true := by
      rw [List.all_eq_true]; intro x hx; exact ok_high x (ha x hx)
    have h3 : (b :: r).all okByte = ((b :: r).drop (decodeL (b :: r)).2).all okByte := by
      conv => lhs; rw [← List.take_append_drop (decodeL (b :: r)).2 (b :: r)]
      rw [List.all_append, h1, Bool.true_and]
    rw [h3, ok_high b hb, Bool.true_and]
theorem nameB_text (l : Bs) : nameB l = (textB l && (!l.isEmpty && decide (l.length ≤ 30))) := by
  simp only [nameB, textB]
  cases l.all okByte <;> cases validD l <;> simp
end Tab
namespace Go.Proofs.YtmeiboajpbflcaaGreatDoor
open Go.RowKit Tab

theorem drop_ext (s : ByteArray) (k : Nat) : (s.extract k s.size).data.toList = s.data.toList.drop k := by
  rw [ba_extract, List.take_of_length_le (by rw [ba_size]; omega)]
theorem drop_at (s : ByteArray) (k : Nat) (h : k < s.size) : s.data.toList.drop k = s[k] :: s.data.toList.drop (k + 1) := by
  rw [List.drop_eq_getElem_cons (by rw [ba_size]; exact h)]; rfl

set_option maxRecDepth 100000 in
set_option maxHeartbeats 1000000 in
theorem IsText_any (s : ByteArray) (w : World) (hm : s.size ≤ 9223372036854775807) : Calls Tryz.prog 71 #[.string s] w (Still (.bool (textB s.data.toList)) w) := by
  have cS : ∀ k, Calls Tryz.prog 53 #[.string (s.extract k s.size)] w (Still (.int .i64 (signN (s.data.toList.drop k))) w) := fun k => by
    have := Sign_any (s.extract k s.size) w (by rw [ByteArray.size_extract]; omega)
    rwa [drop_ext] at this
  generalize hV : textB s.data.toList = V at *
  go_enter Tryz.func71, Tryz.ntmps71
  go_wp2
  go_loop [3] (fun i => ∃ k : Nat, k ≤ s.size ∧ i = .int .i64 k ∧ textB (s.data.toList.drop k) = V) (fun i => s.size - (intOf i).toNat)
  case atStart => exact ⟨0, by omega, rfl, hV⟩
  case round =>
    obtain ⟨k, hk, rfl, hI⟩ := hrel
    clear hV
    by_cases hlt : k < s.size
    · have hd := drop_at s k hlt
      have hle := sign_le (s.data.toList.drop k)
      rw [List.length_drop, ba_size] at hle
      by_cases h0 : signN (s.data.toList.drop k) = 0
      · have Hf : Hid (V = false) := by
          show _ = _
          rw [← hI]; exact text_bad _ (by rw [hd]; simp) h0
        have cS := cS k
        rw [h0] at cS
        clear hI hd hle h0
        go_wp2_with (go_at_call 53; refine cS.mono ?_; rintro e w1 ⟨rfl, rfl⟩)
        go_ret; exact Still.mk' (by rw [Hf.out]; rfl)
      · have hs := text_step s[k] (s.data.toList.drop (k + 1)) (by rw [← hd]; exact h0)
        rw [← hd, hI, List.drop_drop] at hs
        have cS := cS k
        generalize signN (s.data.toList.drop k) = n at *
        have e0 : ((n : Int) == 0) = false := by rw [beq_eq_false_iff_ne]; omega
        by_cases hb : 32 ≤ s[k].toNat ∧ s[k].toNat ≠ 127
        · have Hf : Hid (textB (s.data.toList.drop (k + n)) = V) := by
            show _ = _
            rw [hs, show okByte s[k] = true from decide_eq_true hb, Bool.true_and]
          have e1 : decide ((s[k].toNat : Int) < 32) = false := dF (by omega)
          have e2 : ((s[k].toNat : Int) == 127) = false := by rw [beq_eq_false_iff_ne]; omega
          clear hI hd hs hb
          go_wp2_with (go_at_call 53; refine cS.mono ?_; rintro e w1 ⟨rfl, rfl⟩)
          go_round
          case rel => exact ⟨k + n, by omega, by go_num, Hf.out⟩
          case measure => simp [intOf]; omega
        · have Hf : Hid (V = false) := by
            show _ = _
            rw [hs, show okByte s[k] = false from decide_eq_false hb, Bool.false_and]
          by_cases h1 : s[k].toNat < 32
          · have e1 : decide ((s[k].toNat : Int) < 32) = true := dT (by omega)
            clear hI hd hs hb
            go_wp2_with (go_at_call 53; refine cS.mono ?_; rintro e w1 ⟨rfl, rfl⟩)
            go_ret; exact Still.mk' (by rw [Hf.out]; rfl)
          · have e1 : decide ((s[k].toNat : Int) < 32) = false := dF (by omega)
            have e2 : ((s[k].toNat : Int) == 127) = true := by rw [beq_iff_eq]; omega
            clear hI hd hs hb
            go_wp2_with (go_at_call 53; refine cS.mono ?_; rintro e w1 ⟨rfl, rfl⟩)
            go_ret; exact Still.mk' (by rw [Hf.out]; rfl)
    · have Hf : Hid (V = true) := by
        show _ = _
        rw [← hI, List.drop_eq_nil_of_le (by rw [ba_size]; omega), textB_nil]
      clear hI
      go_wp2
      go_ret; exact Still.mk' (by rw [Hf.out]; rfl)

set_option maxRecDepth 100000 in
theorem IsSheet_any (s : ByteArray) (w : World) (hm : s.size ≤ 9223372036854775807) : Calls Tryz.prog 48 #[.string s] w (Still (.bool (nameB s.data.toList)) w) := by
  have cT := IsText_any s w hm
  have hN := nameB_text s.data.toList
  have e0 : s.data.toList.isEmpty = !decide (0 < (s.size : Int)) := by
    rw [← ba_size]; cases s.data.toList with
    | nil => rfl
    | cons a l => simp only [List.isEmpty_cons, List.length_cons]; rw [dT (by omega)]; rfl
  have e1 : decide (s.data.toList.length ≤ 30) = decide ((s.size : Int) ≤ 30) := by
    rw [← ba_size, decide_eq_decide]; omega
  rw [e0, e1, Bool.not_not] at hN
  clear e0 e1
  generalize textB s.data.toList = V at *
  generalize nameB s.data.toList = N at *
  have HN := Lib.hid hN; clear hN
  cases V
  · go_enter Tryz.func48, Tryz.ntmps48
    go_wp2_with (go_at_call 71; refine cT.mono ?_; rintro e w1 ⟨rfl, rfl⟩)
    go_ret; exact Still.mk' (by rw [HN.out]; rfl)
  · by_cases h0 : 0 < s.size
    · have e0 : decide (0 < (s.size : Int)) = true := dT (by omega)
      go_enter Tryz.func48, Tryz.ntmps48
      go_wp2_with (go_at_call 71; refine cT.mono ?_; rintro e w1 ⟨rfl, rfl⟩)
      go_ret; exact Still.mk' (by rw [HN.out, e0]; rfl)
    · have e0 : decide (0 < (s.size : Int)) = false := dF (by omega)
      go_enter Tryz.func48, Tryz.ntmps48
      go_wp2_with (go_at_call 71; refine cT.mono ?_; rintro e w1 ⟨rfl, rfl⟩)
      go_ret; exact Still.mk' (by rw [HN.out, e0]; rfl)

end Go.Proofs.YtmeiboajpbflcaaGreatDoor
