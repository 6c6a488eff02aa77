/- The walks of name, plain, Right. -/
import Derived.Test.YtmeiboajpbflcaaGreatDoorGood
import Derived.Test.YtmeiboajpbflcaaGreatDoorInts
namespace Go.Proofs.YtmeiboajpbflcaaGreatDoor
open Go.RowKit Tab

theorem width_at (s : ByteArray) (pos : Nat) (h : pos < s.size) : s.data.toList.drop pos ≠ [] ∧ pos + (Utf8.decode s pos).2 ≤ s.size ∧ 1 ≤ (Utf8.decode s pos).2 := by
  have hne : s.data.toList.drop pos ≠ [] := by
    intro h0
    have := congrArg List.length h0
    rw [List.length_drop, ← Lib.size_eq] at this
    simp at this
    omega
  have hw := Lib.decodeL_le _ hne
  rw [Lib.decodeL_drop, List.length_drop, ← Lib.size_eq] at hw
  exact ⟨hne, by omega, Lib.width_pos s pos⟩

theorem iterB (w : World) (s : ByteArray) (p : Nat) : Below w.heap.size w (w.iter s p) := (Below.refl _ _).alloc (Nat.le_refl _) _

theorem name_end {l : Bs} {V : Bool} {c d : Bool} (h : l.all okByte = true) (hV : Lib.validD l = V) (hc : (!l.isEmpty) = c) (hd : decide (l.length ≤ 30) = d) : nameB l = (c && d && V) := by
  simp only [nameB, h, hV, hc, hd, Bool.true_and]

set_option maxRecDepth 100000 in
set_option maxHeartbeats 1000000 in
theorem name_any (s : ByteArray) (w : World) (hg : Good w) (hs : s.size ≤ 9223372036854775807) : Calls Tryz.prog 47 #[.string s] w (Ret (.bool (nameB s.data.toList)) w) := by
  have cV : ∀ W, Below w.heap.size w W → Calls Tryz.prog 70 #[.string s] W (Ret (.bool (Lib.validD s.data.toList)) W) := fun W hb => Tryz.utf8_ValidString s W hs (hg.below hb).u8
  have hbad : (s.data.toList.all okByte = false) → nameB s.data.toList = false := fun h => by simp [nameB, h]
  have hend : s.data.toList.all okByte = true → nameB s.data.toList = (!s.data.toList.isEmpty && decide (s.data.toList.length ≤ 30) && Lib.validD s.data.toList) := fun h => by simp only [nameB, h, Bool.true_and]
  rw [← Lib.size_eq] at hend
  generalize Lib.validD s.data.toList = V at *
  generalize hN : nameB s.data.toList = N at *
  have Hbad := Lib.hid hbad; clear hbad
  have Hend := Lib.hid hend; clear hend
  clear hN
  have hg' := Lib.hid hg; clear hg
  go_enter Tryz.func47, Tryz.ntmps47
  go_wp2
  go_loopw [] (fun w' => ∃ pos : Nat, w' = w.iter s pos ∧ pos ≤ s.size ∧ (s.data.toList.drop pos).all okByte = s.data.toList.all okByte) (fun w' => s.size - w'.iterPos w.heap.size)
  case atStart => exact ⟨0, rfl, by omega, rfl⟩
  case round =>
    obtain ⟨pos, rfl, hp, hI⟩ := hrel
    have HI := Lib.hid hI; clear hI
    by_cases hlt : pos < s.size
    · obtain ⟨hne, hw2, hw1⟩ := width_at s pos hlt
      have hst := ok_step _ hne
      rw [Lib.decodeL_drop, List.drop_drop] at hst
      have Hst := Lib.hid hst; clear hst
      have hnx : ∀ ty, (Instr.next (.pointer (some ⟨w.heap.size, 0, none⟩)) true ty).run Tryz.prog (w.iter s pos) = _ := fun ty => run_next_any w s pos ty hlt
      by_cases hb : ((Utf8.decode s pos).1 : Int) < 32 ∨ ((Utf8.decode s pos).1 : Int) = 127
      · have Hf : Hid (N = false) := Hbad.out (by rw [← HI.out, Hst.out, decide_eq_false (fun h => h hb)]; rfl)
        have Hb := Lib.hid hb; clear hb
        go_wp2
        · go_ret; exact Ret.mk' (congrArg Value.bool Hf.out.symm) (iterB _ _ _)
        · exact absurd Hb.out (by rename_i h1 h2; simp only [beq_eq_false_iff_ne] at h2; omega)
        · go_ret; exact Ret.mk' (congrArg Value.bool Hf.out.symm) (iterB _ _ _)
      · have Hst2 : Hid ((s.data.toList.drop pos).all okByte = (s.data.toList.drop (pos + (Utf8.decode s pos).2)).all okByte) := by
          show _ = _
          rw [Hst.out, decide_eq_true hb, Bool.true_and]
        have Hb := Lib.hid hb; clear hb
        go_wp2
        · exact absurd (by rename_i h1 h2; simp only [beq_iff_eq] at h2; exact h2) Hb.out
        · go_roundw
          case rel => exact ⟨_, rfl, hw2, Hst2.out.symm.trans HI.out⟩
          case measure => simp; omega
        · exact absurd (.inl (by assumption)) Hb.out
    · have hnx : ∀ ty, (Instr.next (.pointer (some ⟨w.heap.size, 0, none⟩)) true ty).run Tryz.prog (w.iter s pos) = _ := fun ty => run_next_end w s pos ty hlt
      have hall : s.data.toList.all okByte = true := by
        rw [← HI.out, List.drop_eq_nil_of_le (by rw [← Lib.size_eq]; omega)]; rfl
      have Hn := Lib.hid (Hend.out hall)
      go_wp2_with (go_at_call 70; refine (cV _ (iterB _ _ _)).mono ?_; rintro e w1 ⟨rfl, hb1⟩)
      · have h1 : s.toList = [] := by assumption
        rw [ByteArray.toList_eq] at h1
        go_ret; exact Ret.mk' (congrArg Value.bool (by rw [Hn.out, h1]; rfl)) (iterB _ _ _)
      · have h2 : (s.size : Int) ≤ 30 := by assumption
        go_ret; exact Ret.mk' (congrArg Value.bool (by rw [Hn.out, decide_eq_true (by omega), Bool.and_true, ByteArray.toList_eq])) (after (iterB _ _ _) hb1)
      · have h2 : 30 < (s.size : Int) := by assumption
        go_ret; exact Ret.mk' (congrArg Value.bool (by rw [Hn.out, decide_eq_false (by omega), Bool.and_false]; rfl)) (iterB _ _ _)

theorem plain_end {l : Bs} (h : plainFrom true l = true) : plainB l = !l.isEmpty := by simp [plainB, h]

set_option maxRecDepth 100000 in
set_option maxHeartbeats 1000000 in
theorem plain_any (s : ByteArray) (w : World) (hs : s.size ≤ 9223372036854775807) : Calls Tryz.prog 45 #[.string s] w (Ret (.bool (plainB s.data.toList)) w) := by
  have hbad : (plainFrom true s.data.toList = false) → plainB s.data.toList = false := fun h => by simp [plainB, h]
  have hend : plainFrom true s.data.toList = true → plainB s.data.toList = !s.data.toList.isEmpty := plain_end
  generalize hN : plainB s.data.toList = N at *
  have Hbad := Lib.hid hbad; clear hbad
  have Hend := Lib.hid hend; clear hend
  clear hN
  go_enter Tryz.func45, Tryz.ntmps45
  go_wp2
  go_loopw [] (fun w' => ∃ pos : Nat, w' = w.iter s pos ∧ pos ≤ s.size ∧ plainFrom (pos == 0) (s.data.toList.drop pos) = plainFrom true s.data.toList) (fun w' => s.size - w'.iterPos w.heap.size)
  case atStart => exact ⟨0, rfl, by omega, rfl⟩
  case round =>
    obtain ⟨pos, rfl, hp, hI⟩ := hrel
    have HI := Lib.hid hI; clear hI
    by_cases hlt : pos < s.size
    · obtain ⟨hne, hw2, hw1⟩ := width_at s pos hlt
      have hst := plain_step (pos == 0) _ hne
      rw [Lib.decodeL_drop, List.drop_drop] at hst
      have Hst := Lib.hid hst; clear hst
      have hnx : ∀ ty, (Instr.next (.pointer (some ⟨w.heap.size, 0, none⟩)) true ty).run Tryz.prog (w.iter s pos) = _ := fun ty => run_next_any w s pos ty hlt
      generalize hr : (Utf8.decode s pos).1 = r at *
      have Hr := Lib.hid hr; clear hr
      cases hk : okRune (pos == 0) r
      · have Hf : Hid (N = false) := Hbad.out (by rw [← HI.out, Hst.out, hk]; rfl)
        have Hk := Lib.hid hk; clear hk
        go_wp2_with (go_at_call 35; refine (letter_any _ _).mono ?_; rintro e w1 ⟨rfl, rfl⟩)
        all_goals first
          | (go_ret; exact Ret.mk' (congrArg Value.bool Hf.out.symm) (iterB _ _ _))
          | (exfalso; have hh := Hk.out; simp [okRune, *] at hh; done)
          | (exfalso; have hh := Hk.out; simp [okRune, *] at hh; omega)
      · have Hs2 : Hid (plainFrom (pos + (Utf8.decode s pos).2 == 0) (s.data.toList.drop (pos + (Utf8.decode s pos).2)) = plainFrom true s.data.toList) := by
          show _ = _
          rw [← HI.out, Hst.out, hk, Bool.true_and, show (pos + (Utf8.decode s pos).2 == 0) = false from by rw [beq_eq_false_iff_ne]; omega]
        have Hk := Lib.hid hk; clear hk
        go_wp2_with (go_at_call 35; refine (letter_any _ _).mono ?_; rintro e w1 ⟨rfl, rfl⟩)
        all_goals first
          | (go_roundw; (case rel => exact ⟨_, rfl, hw2, Hs2.out⟩); (case measure => (simp; omega)))
          | (exfalso; have hh := Hk.out; have h5 : ((r : Int) == 95) = false := by assumption
             have h6 : isLetter (r : Int) = false := by assumption
             rw [okRune, h5, h6] at hh; simp at hh; omega)
          | (exfalso; have h7 : isLetter (r : Int) = true := by assumption
             have h6 : isLetter (r : Int) = false := by assumption
             rw [h7] at h6; cases h6)
    · have hnx : ∀ ty, (Instr.next (.pointer (some ⟨w.heap.size, 0, none⟩)) true ty).run Tryz.prog (w.iter s pos) = _ := fun ty => run_next_end w s pos ty hlt
      have hall : plainFrom true s.data.toList = true := by
        rw [← HI.out, List.drop_eq_nil_of_le (by rw [← Lib.size_eq]; omega)]; rfl
      have Hn := Lib.hid (Hend.out hall)
      go_wp2
      go_ret; exact Ret.mk' (congrArg Value.bool (by rw [Hn.out, ByteArray.toList_eq])) (iterB _ _ _)

/-- how a call's contract serves in whatever later world. -/
def AtAll (w : World) (p : World → Prop) : Prop := ∀ W, Below w.heap.size w W → p W

set_option maxRecDepth 100000 in
set_option maxHeartbeats 1000000 in
theorem Right_any (s : ByteArray) (row col : Int) (fr fc bad : Bool) (w : World) (hg : Good w) (hs : s.size ≤ 9223372036854775807) : Calls Tryz.prog 16 #[.agg #[.string s, .int .i64 row, .int .i64 col, .bool fr, .bool fc, .bool bad]] w (Ret (.bool (rightB s.data.toList row col fr fc bad)) w) := by
  have cN : ∀ W, Below w.heap.size w W → Calls Tryz.prog 47 #[.string s] W (Ret (.bool (nameB s.data.toList)) W) := fun W hb => name_any s W (hg.below hb) hs
  have hgd := Lib.hid hg; clear hg
  have He := ByteArray.toList_eq s
  cases bad
  · have Hv : rightB s.data.toList row col fr fc false = ((s.data.toList.isEmpty || nameB s.data.toList) && decide (0 ≤ row ∧ row < 200 ∧ 0 ≤ col ∧ col < 52)) := rfl
    generalize nameB s.data.toList = nb at *
    rw [Hv, ← He]; clear Hv
    have He2 := Lib.hid He; clear He
    generalize hN : ((s.toList.isEmpty || nb) && decide (0 ≤ row ∧ row < 200 ∧ 0 ≤ col ∧ col < 52)) = N
    have HN := Lib.hid hN; clear hN
    go_enter Tryz.func16, Tryz.ntmps16
    go_wp2_with (go_at_call 47; refine (cN _ (allocB (Below.refl _ _))).mono ?_; rintro e w1 ⟨rfl, hb1⟩; obtain ⟨hc1, hf1⟩ := bcell hb1)
    all_goals go_ret
    all_goals refine Ret.mk' (congrArg Value.bool ?_) (by first | exact allocB (Below.refl _ _) | exact after (allocB (Below.refl _ _)) (by assumption))
    all_goals (rw [← HN.out]; simp [*]; try omega)
  · have Hv : rightB s.data.toList row col fr fc true = (s.data.toList.isEmpty && row == 0 && col == 0 && !fr && !fc) := rfl
    rw [Hv, ← He]; clear Hv
    clear cN
    have He2 := Lib.hid He; clear He
    generalize hN : (s.toList.isEmpty && row == 0 && col == 0 && !fr && !fc) = N
    have HN := Lib.hid hN; clear hN
    go_enter Tryz.func16, Tryz.ntmps16
    go_wp2
    all_goals go_ret
    all_goals refine Ret.mk' (congrArg Value.bool ?_) (allocB (Below.refl _ _))
    all_goals (rw [← HN.out]; simp [*])
end Go.Proofs.YtmeiboajpbflcaaGreatDoor
