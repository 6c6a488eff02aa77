import Derived.Test.YtlpgigdegnbkmaaGreatDoorM01
import Derived.Test.YtlpgigdegnbkmaaGreatDoorShelf
import Derived.ChangeAgain
import Derived.Lib.LaidTab
set_option maxRecDepth 100000
set_option maxHeartbeats 2000000
namespace Go.Proofs.YtlpgigdegnbkmaaGreatDoor
open Go.RowKit Go.Shelf
structure Good (w : World) : Prop where
 shaped : w.ShapedOpen Tryz.prog
 low : 10 <= w.heap.size
 u8 : Lib.Utf8Tabs 0 1 w
 pow : Lib.TabIs Tryz.prog w "internal/strconv.uint64pow10" .u64 Lib.pow10Tab
 syn : ∃ tp p, w.var? Tryz.prog "strconv.ErrSyntax" = some #[.iface tp p]
 rng : ∃ tp p, w.var? Tryz.prog "strconv.ErrRange" = some #[.iface tp p]
theorem gPow : Tryz.prog.globalNamed "internal/strconv.uint64pow10" = some 3 := by kernel_rfl
theorem gSyn : Tryz.prog.globalNamed "strconv.ErrSyntax" = some 8 := by kernel_rfl
theorem gRng : Tryz.prog.globalNamed "strconv.ErrRange" = some 9 := by kernel_rfl
theorem Good.below {w W : World} (h : Good w) (hb : Below w.heap.size w W) : Good W where
 shaped := h.shaped.keptBut (hb.frame (fun _ => False)) (fun _ hf => hf.elim)
 low := Nat.le_trans h.low hb.size
 u8 := Utf8Tabs_below h.u8 hb
 pow := var?_below hb gPow (Nat.lt_of_lt_of_le (by decide) h.low) h.pow
 syn := let ⟨t, p, e⟩ := h.syn; ⟨t, p, var?_below hb gSyn (Nat.lt_of_lt_of_le (by decide) h.low) e⟩
 rng := let ⟨t, p, e⟩ := h.rng; ⟨t, p, var?_below hb gRng (Nat.lt_of_lt_of_le (by decide) h.low) e⟩
end Go.Proofs.YtlpgigdegnbkmaaGreatDoor
namespace Go.Proofs.YtlpgigdegnbkmaaGreatDoor
open Go.RowKit Tab Tryz
theorem fixed_any (b : Bool) (w : World) : Calls prog 116 #[.bool b] w (Still (.string ⟨if b then #[36] else #[]⟩) w) := by
 cases b
 ·go_enter func116, ntmps116
  go_wp2
  go_ret
  exact Still.mk' rfl
 ·go_enter func116, ntmps116
  go_wp2
  go_ret
  exact Still.mk' rfl
theorem letter_any (c : Int) (w : World) : Calls prog 155 #[.int .i32 c] w (Still (.bool (isLetter c)) w) := by
 go_enter func155, ntmps155
 go_wp2
 all_goals (go_ret; refine Still.mk' (congrArg Value.bool ?_); simp only [isLetter]; rw [Bool.eq_iff_iff]; simp; omega)
theorem pick_neg (c n : Int) (hc : c < 0) : -(c + 1).tmod n = pickI c n := by
 unfold pickI
 rw [if_pos hc, <- Int.neg_tmod, Int.tmod_eq_emod_of_nonneg (by omega)]
theorem pick_pos (c n : Int) (hc : 0 <= c) : c % n = pickI c n := by
 unfold pickI
 rw [if_neg (by omega)]
theorem pick_any (c n : Int) (w : World) (h0 : -9223372036854775808 <= c) (h1 : c <= 9223372036854775807) (hn : 1 <= n) (hn1 : n <= 1000000) : Calls prog 125 #[.int .i64 c, .int .i64 n] w (Still (.int .i64 (pickI c n)) w) := by
 by_cases hc : c < 0
 ·go_enter func125, ntmps125
  go_wp2
  go_ret
  exact Still.mk' (congrArg _ (pick_neg c n hc))
 ·go_enter func125, ntmps125
  go_wp2
  go_ret
  exact Still.mk' (congrArg _ (pick_pos c n (by omega)))
theorem conv1 (w : World) (x : Int) : (convert 80 9 (.slice (some ⟨w.heap.size, 0, none⟩) 1 1)).run prog (w.alloc (.cells #[.int .u8 x] 5)) = .ok (.string ⟨#[x.toNat.toUInt8]⟩) (w.alloc (.cells #[.int .u8 x] 5)) := by
 rw [run_convert_bytes_string _ _ _ 5 _ _ _ underlying80 underlying5 underlying9]
 have hl := run_loadCells_list (P := prog) (w.alloc (.cells #[.int .u8 x] 5)) ⟨w.heap.size, 0, none⟩ ([x].map (Value.int .u8)) (fun j v hj => by
  match j, hj with
  | 0, hj => simp at hj; subst hj; simp [Addr.add])
 rw [run_bytesToString _ _ 1 _ [x] hl]
 rfl
theorem conv2 (w : World) (x y : Int) : (convert 80 9 (.slice (some ⟨w.heap.size, 0, none⟩) 2 2)).run prog (w.alloc (.cells #[.int .u8 x, .int .u8 y] 5)) = .ok (.string ⟨#[x.toNat.toUInt8, y.toNat.toUInt8]⟩) (w.alloc (.cells #[.int .u8 x, .int .u8 y] 5)) := by
 rw [run_convert_bytes_string _ _ _ 5 _ _ _ underlying80 underlying5 underlying9]
 have hl := run_loadCells_list (P := prog) (w.alloc (.cells #[.int .u8 x, .int .u8 y] 5)) ⟨w.heap.size, 0, none⟩ ([x, y].map (Value.int .u8)) (fun j v hj => by
  match j, hj with
  | 0, hj => simp at hj; subst hj; simp [Addr.add]
  | 1, hj => simp at hj; subst hj; simp [Addr.add])
 rw [run_bytesToString _ _ 2 _ [x, y] hl]
 rfl
theorem Column_any (n : Int) (w : World) (h0 : -9223372036854775808 <= n) (h1 : n <= 9223372036854775807) : Calls prog 115 #[.int .i64 n] w (Ret (.tuple #[strV (colL n), .int .i64 (colE n)]) w) := by
 by_cases h : n < 0
 ·go_enter func115, ntmps115
  go_wp2
  go_ret2
  exact Ret.mk2 (congrArg strV (colL_out n (by omega)).symm) (congrArg (Value.int .i64) (colE_out n (by omega)).symm) (Below.refl _ _)
 by_cases h2 : 52 <= n
 ·go_enter func115, ntmps115
  go_wp2
  go_ret2
  exact Ret.mk2 (congrArg strV (colL_out n (by omega)).symm) (congrArg (Value.int .i64) (colE_out n (by omega)).symm) (Below.refl _ _)
 have k1 := conv1
 have k2 := conv2
 by_cases h3 : n < 26
 ·go_enter func115, ntmps115
  go_wp2
  go_ret2
  exact Ret.mk2 (congrArg strV (colL_one n (by omega) (by omega)).symm) (congrArg (Value.int .i64) (colE_in n (by omega) (by omega)).symm) (allocB (Below.refl _ _))
 ·go_enter func115, ntmps115
  go_wp2
  go_ret2
  exact Ret.mk2 (congrArg strV (colL_two n (by omega) (by omega)).symm) (congrArg (Value.int .i64) (colE_in n (by omega) (by omega)).symm) (allocB (Below.refl _ _))
theorem width_at (s : ByteArray) (pos : Nat) (h : pos < s.size) : s.data.toList.drop pos ≠ [] /\ pos + (Utf8.decode s pos).2 <= s.size /\ 1 <= (Utf8.decode s pos).2 := by
 have hne : s.data.toList.drop pos ≠ [] := by
  intro h0
  have := congrArg List.length h0
  rw [List.length_drop, <- Lib.size_eq] at this
  simp at this
  omega
 have hw := Lib.decodeL_le _ hne
 rw [Lib.decodeL_drop, List.length_drop, <- Lib.size_eq] at hw
 exact ⟨hne, by omega, Lib.width_pos s pos⟩
theorem iterB (w : World) (s : ByteArray) (p : Nat) : Below w.heap.size w (w.iter s p) := (Below.refl _ _).alloc (Nat.le_refl _) _
theorem name_any (s : ByteArray) (w : World) (hg : Good w) (hs : s.size <= 9223372036854775807) : Calls prog 107 #[.string s] w (Ret (.bool (nameB s.data.toList)) w) := by
 have cV : ∀ W, Below w.heap.size w W -> Calls prog 59 #[.string s] W (Ret (.bool (Lib.validD s.data.toList)) W) := fun W hb => Tryz.utf8_ValidString s W hs (hg.below hb).u8
 have hbad : (s.data.toList.all okByte = false) -> nameB s.data.toList = false := fun h => by simp [nameB, h]
 have hend : s.data.toList.all okByte = true -> nameB s.data.toList = (!s.data.toList.isEmpty && decide (s.data.toList.length <= 30) && Lib.validD s.data.toList) := fun h => by simp only [nameB, h, Bool.true_and]
 rw [<- Lib.size_eq] at hend
 generalize Lib.validD s.data.toList = V at *
 generalize hN : nameB s.data.toList = N at *
 have Hbad := Lib.hid hbad; clear hbad
 have Hend := Lib.hid hend; clear hend
 clear hN
 have hg' := Lib.hid hg; clear hg
 go_enter func107, ntmps107
 go_wp2
 go_loopw [] (fun w' => ∃ pos : Nat, w' = w.iter s pos /\ pos <= s.size /\ (s.data.toList.drop pos).all okByte = s.data.toList.all okByte) (fun w' => s.size - w'.iterPos w.heap.size)
 case atStart => exact ⟨0, rfl, by omega, rfl⟩
 case round =>
  obtain ⟨pos, rfl, hp, hI⟩ := hrel
  have HI := Lib.hid hI; clear hI
  by_cases hlt : pos < s.size
  ·obtain ⟨hne, hw2, hw1⟩ := width_at s pos hlt
   have hst := ok_step _ hne
   rw [Lib.decodeL_drop, List.drop_drop] at hst
   have Hst := Lib.hid hst; clear hst
   have hnx : ∀ ty, (Instr.next (.pointer (some ⟨w.heap.size, 0, none⟩)) true ty).run prog (w.iter s pos) = _ := fun ty => run_next_any w s pos ty hlt
   by_cases hb : ((Utf8.decode s pos).1 : Int) < 32 \/ ((Utf8.decode s pos).1 : Int) = 127
   ·have Hf : Hid (N = false) := Hbad.out (by rw [<- HI.out, Hst.out, decide_eq_false (fun h => h hb)]; rfl)
    have Hb := Lib.hid hb; clear hb
    go_wp2
    ·go_ret; exact Ret.mk' (congrArg Value.bool Hf.out.symm) (iterB _ _ _)
    ·exact absurd Hb.out (by rename_i h1 h2; simp only [beq_eq_false_iff_ne] at h2; omega)
    ·go_ret; exact Ret.mk' (congrArg Value.bool Hf.out.symm) (iterB _ _ _)
   ·have Hst2 : Hid ((s.data.toList.drop pos).all okByte = (s.data.toList.drop (pos + (Utf8.decode s pos).2)).all okByte) := by
     show _ = _
     rw [Hst.out, decide_eq_true hb, Bool.true_and]
    have Hb := Lib.hid hb; clear hb
    go_wp2
    ·exact absurd (by rename_i h1 h2; simp only [beq_iff_eq] at h2; exact h2) Hb.out
    ·go_roundw
     case rel => exact ⟨_, rfl, hw2, Hst2.out.symm.trans HI.out⟩
     case measure => simp; omega
    ·exact absurd (.inl (by assumption)) Hb.out
  ·have hnx : ∀ ty, (Instr.next (.pointer (some ⟨w.heap.size, 0, none⟩)) true ty).run prog (w.iter s pos) = _ := fun ty => run_next_end w s pos ty hlt
   have hall : s.data.toList.all okByte = true := by
    rw [<- HI.out, List.drop_eq_nil_of_le (by rw [<- Lib.size_eq]; omega)]; rfl
   have Hn := Lib.hid (Hend.out hall)
   go_wp2_with (go_at_call 59; refine (cV _ (iterB _ _ _)).mono ?_; rintro e w1 ⟨rfl, hb1⟩)
   ·have h1 : s.toList = [] := by assumption
    rw [ByteArray.toList_eq] at h1
    go_ret; exact Ret.mk' (congrArg Value.bool (by rw [Hn.out, h1]; rfl)) (iterB _ _ _)
   ·have h2 : (s.size : Int) <= 30 := by assumption
    go_ret; exact Ret.mk' (congrArg Value.bool (by rw [Hn.out, decide_eq_true (by omega), Bool.and_true, ByteArray.toList_eq])) (after (iterB _ _ _) hb1)
   ·have h2 : 30 < (s.size : Int) := by assumption
    go_ret; exact Ret.mk' (congrArg Value.bool (by rw [Hn.out, decide_eq_false (by omega), Bool.and_false]; rfl)) (iterB _ _ _)
theorem plain_end {l : Bs} (h : plainFrom true l = true) : plainB l = !l.isEmpty := by simp [plainB, h]
theorem plain_any (s : ByteArray) (w : World) (hs : s.size <= 9223372036854775807) : Calls prog 117 #[.string s] w (Ret (.bool (plainB s.data.toList)) w) := by
  have hbad : (plainFrom true s.data.toList = false) -> plainB s.data.toList = false := fun h => by simp [plainB, h]
  have hend : plainFrom true s.data.toList = true -> plainB s.data.toList = !s.data.toList.isEmpty := plain_end
  generalize hN : plainB s.data.toList = N at *
  have Hbad := Lib.hid hbad; clear hbad
  have Hend := Lib.hid hend; clear hend
  clear hN
  go_enter func117, ntmps117
  go_wp2
  go_loopw [] (fun w' => ∃ pos : Nat, w' = w.iter s pos /\ pos <= s.size /\ plainFrom (pos == 0) (s.data.toList.drop pos) = plainFrom true s.data.toList) (fun w' => s.size - w'.iterPos w.heap.size)
  case atStart => exact ⟨0, rfl, by omega, rfl⟩
  case round =>
    obtain ⟨pos, rfl, hp, hI⟩ := hrel
    have HI := Lib.hid hI; clear hI
    by_cases hlt : pos < s.size
    · obtain ⟨hne, hw2, hw1⟩ := width_at s pos hlt
      have hst := plain_step (pos == 0) _ hne
      rw [Lib.decodeL_drop, List.drop_drop] at hst
      have Hst := Lib.hid hst; clear hst
      have hnx : ∀ ty, (Instr.next (.pointer (some ⟨w.heap.size, 0, none⟩)) true ty).run prog (w.iter s pos) = _ := fun ty => run_next_any w s pos ty hlt
      generalize hr : (Utf8.decode s pos).1 = r at *
      have Hr := Lib.hid hr; clear hr
      cases hk : okRune (pos == 0) r
      · have Hf : Hid (N = false) := Hbad.out (by rw [<- HI.out, Hst.out, hk]; rfl)
        have Hk := Lib.hid hk; clear hk
        go_wp2_with (go_at_call 155; refine (letter_any _ _).mono ?_; rintro e w1 ⟨rfl, rfl⟩)
        all_goals first
          | (go_ret; exact Ret.mk' (congrArg Value.bool Hf.out.symm) (iterB _ _ _))
          | (exfalso; have hh := Hk.out; simp [okRune, *] at hh; done)
          | (exfalso; have hh := Hk.out; simp [okRune, *] at hh; omega)
      · have Hs2 : Hid (plainFrom (pos + (Utf8.decode s pos).2 == 0) (s.data.toList.drop (pos + (Utf8.decode s pos).2)) = plainFrom true s.data.toList) := by
          show _ = _
          rw [<- HI.out, Hst.out, hk, Bool.true_and, show (pos + (Utf8.decode s pos).2 == 0) = false from by rw [beq_eq_false_iff_ne]; omega]
        have Hk := Lib.hid hk; clear hk
        go_wp2_with (go_at_call 155; refine (letter_any _ _).mono ?_; rintro e w1 ⟨rfl, rfl⟩)
        all_goals first
          | (go_roundw; (case rel => exact ⟨_, rfl, hw2, Hs2.out⟩); (case measure => (simp; omega)))
          | (exfalso; have hh := Hk.out; have h5 : ((r : Int) == 95) = false := by assumption
             have h6 : isLetter (r : Int) = false := by assumption
             rw [okRune, h5, h6] at hh; simp at hh; omega)
          | (exfalso; have h7 : isLetter (r : Int) = true := by assumption
             have h6 : isLetter (r : Int) = false := by assumption
             rw [h7] at h6; cases h6)
    · have hnx : ∀ ty, (Instr.next (.pointer (some ⟨w.heap.size, 0, none⟩)) true ty).run prog (w.iter s pos) = _ := fun ty => run_next_end w s pos ty hlt
      have hall : plainFrom true s.data.toList = true := by
        rw [<- HI.out, List.drop_eq_nil_of_le (by rw [<- Lib.size_eq]; omega)]; rfl
      have Hn := Lib.hid (Hend.out hall)
      go_wp2
      go_ret; exact Ret.mk' (congrArg Value.bool (by rw [Hn.out, ByteArray.toList_eq])) (iterB _ _ _)
theorem Right_any (s : ByteArray) (row col : Int) (fr fc bad : Bool) (w : World) (hg : Good w) (hs : s.size <= 9223372036854775807) : Calls prog 61 #[.agg #[.string s, .int .i64 row, .int .i64 col, .bool fr, .bool fc, .bool bad]] w (Ret (.bool (rightB s.data.toList row col fr fc bad)) w) := by
 have cN : ∀ W, Below w.heap.size w W -> Calls prog 107 #[.string s] W (Ret (.bool (nameB s.data.toList)) W) := fun W hb => name_any s W (hg.below hb) hs
 have hgd := Lib.hid hg; clear hg
 have He := ByteArray.toList_eq s
 cases bad
 ·have Hv : rightB s.data.toList row col fr fc false = ((s.data.toList.isEmpty || nameB s.data.toList) && decide (0 <= row /\ row < 200 /\ 0 <= col /\ col < 52)) := rfl
  generalize nameB s.data.toList = nb at *
  rw [Hv, <- He]; clear Hv
  have He2 := Lib.hid He; clear He
  generalize hN : ((s.toList.isEmpty || nb) && decide (0 <= row /\ row < 200 /\ 0 <= col /\ col < 52)) = N
  have HN := Lib.hid hN; clear hN
  go_enter func61, ntmps61
  go_wp2_with (go_at_call 107; refine (cN _ (allocB (Below.refl _ _))).mono ?_; rintro e w1 ⟨rfl, hb1⟩; obtain ⟨hc1, hf1⟩ := bcell hb1)
  all_goals go_ret
  all_goals refine Ret.mk' (congrArg Value.bool ?_) (by first | exact allocB (Below.refl _ _) | exact after (allocB (Below.refl _ _)) (by assumption))
  all_goals (rw [<- HN.out]; simp [*]; try omega)
 ·have Hv : rightB s.data.toList row col fr fc true = (s.data.toList.isEmpty && row == 0 && col == 0 && !fr && !fc) := rfl
  rw [Hv, <- He]; clear Hv
  clear cN
  have He2 := Lib.hid He; clear He
  generalize hN : (s.toList.isEmpty && row == 0 && col == 0 && !fr && !fc) = N
  have HN := Lib.hid hN; clear hN
  go_enter func61, ntmps61
  go_wp2
  all_goals go_ret
  all_goals refine Ret.mk' (congrArg Value.bool ?_) (allocB (Below.refl _ _))
  all_goals (rw [<- HN.out]; simp [*])
theorem up_any (x : Nat) (hx : x <= 1114111) (w : World) : Calls prog 217 #[.int .i32 (x : Int)] w (Still (.int .i32 (upI x)) w) := by
 by_cases h : 97 <= (x : Int) /\ (x : Int) <= 122
 ·have H : Hid (upI x = (x : Int) - 97 + 65) := by
   show _ = _
   rw [upI, if_pos h]; omega
  obtain ⟨h1, h2⟩ := h
  go_enter func217, ntmps217
  go_wp2
  go_ret
  exact Still.mk' (congrArg (Value.int .i32) H.out.symm)
 ·have H : Hid (upI x = (x : Int)) := by
   show _ = _
   rw [upI, if_neg h]
  have Hh := Lib.hid h; clear h
  go_enter func217, ntmps217
  go_wp2
  all_goals first
   | (go_ret; exact Still.mk' (congrArg (Value.int .i32) H.out.symm))
   | exact absurd ⟨by assumption, by assumption⟩ Hh.out
theorem enters_up : ∀ args w, (callFunc 217 args).run prog w = .ok (.enter 217 args) w := enters_of func217 (by kernel_rfl) rfl
theorem map_up (s : ByteArray) (w : World) (hg : Good w) (hs : s.size < 35184372088832) : Calls prog 131 #[.func (.func 217) #[] #[], .string s] w (Ret (strV (Lib.mapD upI s.data.toList)) w) :=
 Tryz.strings_Map_grows 217 #[] enters_up upI s w hs
  (fun W x hx _ => (up_any x hx W).mono fun _ _ h => h.ret)
  (fun x hx => by unfold upI; split <;> omega) hg.u8
theorem findCol_step (g : Bs) (n k : Nat) : findCol g (n + 1) k = if colL k == g then some k else findCol g n (k + 1) := rfl
def colV (o : Option Nat) : Value := .tuple #[.int .i64 (o.getD 0), .int .i64 (if o.isSome then 0 else 20)]
theorem ReadColumn_any (s : ByteArray) (w : World) (hg : Good w) (hs : s.size <= 9223372036854775807) : Calls prog 203 #[.string s] w (Ret (colV (colOf s.data.toList)) w) := by
 by_cases h2 : 2 < s.size
 ·have H : Hid (colOf s.data.toList = none) := by
   show _ = _
   rw [colOf, if_pos (by rw [<- Lib.size_eq]; exact h2)]
  clear hg
  go_enter func203, ntmps203
  go_wp2
  go_ret2
  exact ⟨by rw [H.out]; rfl, Below.refl _ _⟩
 ·have cM : ∀ W, Below w.heap.size w W -> Calls prog 131 #[.func (.func 217) #[] #[], .string s] W (Ret (strV (Lib.mapD upI s.data.toList)) W) := fun W hb => map_up s W (hg.below hb) (by omega)
  have H : colOf s.data.toList = findCol (Lib.mapD upI s.data.toList) 52 0 := by
   rw [colOf, if_neg (by rw [<- Lib.size_eq]; exact h2)]
  rw [H]; clear H
  generalize Lib.mapD upI s.data.toList = g at *
  clear hg
  go_enter func203, ntmps203
  go_wp2_with (go_at_call 131; refine (cM _ (Below.refl _ _)).mono ?_; rintro e w1 ⟨rfl, hb1⟩; unfold strV)
  go_loopw [13] (fun i w' => ∃ k : Nat, k <= 52 /\ i = .int .i64 k /\ Below w.heap.size w w' /\ findCol g (52 - k) k = findCol g 52 0) (fun i _ => 52 - (intOf i).toNat)
  case atStart => exact ⟨0, by omega, rfl, hb1, rfl⟩
  case round =>
   obtain ⟨k, hk, rfl, hb, hI⟩ := hrel
   have HI := Lib.hid hI; clear hI
   by_cases hlt : k < 52
   ·have hst := findCol_step g (52 - (k + 1)) k
    rw [show 52 - (k + 1) + 1 = 52 - k from by omega] at hst
    have Hst := Lib.hid hst; clear hst
    cases he : (colL k == g)
    ·have Hn : Hid (findCol g (52 - (k + 1)) (k + 1) = findCol g 52 0) := by
      show _ = _
      rw [<- HI.out, Hst.out, he]; rfl
     go_wp2_with (go_at_call 115; refine (Column_any _ _ (by omega) (by omega)).mono ?_; rintro e w2 ⟨rfl, hb2⟩; unfold strV)
     go_roundw
     case rel => exact ⟨k + 1, by omega, by go_num, after hb hb2, Hn.out⟩
     case measure => simp [intOf]; omega
    ·have Hn : Hid (findCol g 52 0 = some k) := by
      show _ = _
      rw [<- HI.out, Hst.out, he]; rfl
     go_wp2_with (go_at_call 115; refine (Column_any _ _ (by omega) (by omega)).mono ?_; rintro e w2 ⟨rfl, hb2⟩; unfold strV)
     go_ret2
     exact ⟨by rw [Hn.out]; rfl, after hb hb2⟩
   ·have Hn : Hid (findCol g 52 0 = none) := by
     show _ = _
     rw [<- HI.out, show 52 - k = 0 from by omega]; rfl
    go_wp2
    go_ret2
    exact ⟨by rw [Hn.out]; rfl, hb⟩
theorem Read3_any (b : UInt8) (w : World) : Calls prog 204 #[.int .u8 (b.toNat : Int)] w (Still (.bool (isLetterB b)) w) := by
 have hb := b.toNat_lt
 have cL := letter_any (b.toNat : Int) w
 unfold isLetterB
 generalize b.toNat = x at *
 generalize isLetter (x : Int) = B at *
 go_enter func204, ntmps204
 go_wp2_with fail
 refine cL.mono ?_; rintro e w1 ⟨rfl, rfl⟩
 go_wp2
 go_ret; exact Still.mk' rfl
theorem Read4_any (b : UInt8) (w : World) : Calls prog 205 #[.int .u8 (b.toNat : Int)] w (Still (.bool (isDigitB b)) w) := by
 have hb := b.toNat_lt
 unfold isDigitB
 generalize b.toNat = x at *
 by_cases h1 : 48 <= x
 ·have e1 : decide (48 <= (x : Int)) = true := decide_eq_true (by omega)
  by_cases h2 : x <= 57
  ·rw [show decide (48 <= x /\ x <= 57) = true from decide_eq_true ⟨h1, h2⟩]
   have e2 : decide ((x : Int) <= 57) = true := decide_eq_true (by omega)
   go_enter func205, ntmps205
   go_wp2
   go_ret; exact Still.mk' rfl
  ·rw [show decide (48 <= x /\ x <= 57) = false from decide_eq_false (by omega)]
   have e2 : decide ((x : Int) <= 57) = false := decide_eq_false (by omega)
   go_enter func205, ntmps205
   go_wp2
   go_ret; exact Still.mk' rfl
 ·rw [show decide (48 <= x /\ x <= 57) = false from decide_eq_false (by omega)]
  have e1 : decide (48 <= (x : Int)) = false := decide_eq_false (by omega)
  go_enter func205, ntmps205
  go_wp2
  go_ret; exact Still.mk' rfl
theorem Read2_any (s : ByteArray) (w : World) (b : Nat) (hb : Blk w b #[.string s]) : Calls prog 201 #[.pointer (some ⟨b, 0, none⟩)] w (fun e w' => e = .returned (.bool (Lib.hasPrefix s.data.toList [36])) /\ w' = w.setCell ⟨b, 0, none⟩ (.string ⟨(Lib.trimPrefix s.data.toList [36]).toArray⟩)) := by
 obtain ⟨f0, g0, z0⟩ := hb.facts
 have cC := Tryz.strings_CutPrefix s ⟨#[36]⟩ w
 go_enter func201, ntmps201
 go_wp2_with fail
 refine cC.mono ?_; rintro e w1 ⟨rfl, rfl⟩
 go_wp2
 go_ret; exact ⟨rfl, rfl⟩
theorem drop_cons (s : ByteArray) (k : Nat) (h : k < s.size) : s.data.toList.drop k = s[k] :: s.data.toList.drop (k + 1) := by
 rw [List.drop_eq_getElem_cons (by rw [ba_size]; exact h)]; rfl
theorem drop_ext' (s : ByteArray) (k : Nat) : (s.extract k s.size).data.toList = s.data.toList.drop k := by
 rw [ba_extract, List.take_of_length_le (by rw [ba_size]; omega)]
theorem Read1_letters (s : ByteArray) (hs : s.size <= 1000000) (w : World) (b : Nat) (hb : Blk w b #[.string s]) :
  Calls prog 200 #[.func (.func 204) #[] #[], .pointer (some ⟨b, 0, none⟩)] w (fun e w' => e = .returned (.string ⟨(s.data.toList.takeWhile isLetterB).toArray⟩) /\ w' = w.setCell ⟨b, 0, none⟩ (.string ⟨(s.data.toList.dropWhile isLetterB).toArray⟩)) := by
 obtain ⟨f0, g0, z0⟩ := hb.facts
 clear hb
 have hP := Read3_any
 generalize isLetterB = P at *
 go_enter func200, ntmps200
 go_wp2
 go_loop [4] (fun i => ∃ k : Nat, k <= s.size /\ i = .int .i64 k /\ s.data.toList.takeWhile P = s.data.toList.take k ++ (s.data.toList.drop k).takeWhile P /\ s.data.toList.dropWhile P = (s.data.toList.drop k).dropWhile P) (fun i => s.size - (intOf i).toNat)
 case atStart => exact ⟨0, by omega, rfl, rfl, rfl⟩
 case round =>
  obtain ⟨k, hk, rfl, h1, h2⟩ := hrel
  by_cases hlt : k < s.size
  ·have hd := drop_cons s k hlt
   have hp := hP s[k] w
   have ht := take_snoc s k hlt
   cases hPk : P s[k]
   ·rw [hPk] at hp
    rw [hd, List.takeWhile_cons, hPk, if_neg Bool.false_ne_true, List.append_nil] at h1
    rw [hd, List.dropWhile_cons, hPk, if_neg Bool.false_ne_true, <- hd] at h2
    have H1 := Lib.hid h1; clear h1
    have H2 := Lib.hid h2; clear h2 hd ht hPk
    go_wp2_with fail
    refine hp.mono ?_; rintro e w1 ⟨rfl, rfl⟩
    go_wp2
    go_ret; exact ⟨congrArg Ending.returned (strV_eq (by rw [ba_extract, H1.out]; rfl)), congrArg (World.setCell w ⟨b, 0, none⟩) (strV_eq (by rw [drop_ext', H2.out]))⟩
   ·rw [hPk] at hp
    rw [hd, List.takeWhile_cons, hPk, if_pos rfl, List.append_cons, <- ht] at h1
    rw [hd, List.dropWhile_cons, hPk, if_pos rfl] at h2
    have H1 := Lib.hid h1; clear h1
    have H2 := Lib.hid h2; clear h2 hd ht hPk
    go_wp2_with fail
    refine hp.mono ?_; rintro e w1 ⟨rfl, rfl⟩
    go_wp2
    go_round
    case rel => exact ⟨k + 1, by omega, by go_num, H1.out, H2.out⟩
    case measure => simp [intOf]; omega
  ·have hk2 : k = s.size := by omega
   subst hk2
   have hd : s.data.toList.drop s.size = [] := List.drop_eq_nil_of_le (by rw [ba_size]; omega)
   rw [hd, List.takeWhile_nil, List.append_nil] at h1
   rw [hd, List.dropWhile_nil] at h2
   have H1 := Lib.hid h1; clear h1
   have H2 := Lib.hid h2; clear h2 hd
   go_wp2
   go_ret; exact ⟨congrArg Ending.returned (strV_eq (by rw [H1.out, List.take_of_length_le (by rw [ba_size]; omega)])), congrArg (World.setCell w ⟨b, 0, none⟩) (strV_eq (by rw [H2.out]; rfl))⟩
theorem Read1_digits (s : ByteArray) (hs : s.size <= 1000000) (w : World) (b : Nat) (hb : Blk w b #[.string s]) :
  Calls prog 200 #[.func (.func 205) #[] #[], .pointer (some ⟨b, 0, none⟩)] w (fun e w' => e = .returned (.string ⟨(s.data.toList.takeWhile isDigitB).toArray⟩) /\ w' = w.setCell ⟨b, 0, none⟩ (.string ⟨(s.data.toList.dropWhile isDigitB).toArray⟩)) := by
 obtain ⟨f0, g0, z0⟩ := hb.facts
 clear hb
 have hP := Read4_any
 generalize isDigitB = P at *
 go_enter func200, ntmps200
 go_wp2
 go_loop [4] (fun i => ∃ k : Nat, k <= s.size /\ i = .int .i64 k /\ s.data.toList.takeWhile P = s.data.toList.take k ++ (s.data.toList.drop k).takeWhile P /\ s.data.toList.dropWhile P = (s.data.toList.drop k).dropWhile P) (fun i => s.size - (intOf i).toNat)
 case atStart => exact ⟨0, by omega, rfl, rfl, rfl⟩
 case round =>
  obtain ⟨k, hk, rfl, h1, h2⟩ := hrel
  by_cases hlt : k < s.size
  ·have hd := drop_cons s k hlt
   have hp := hP s[k] w
   have ht := take_snoc s k hlt
   cases hPk : P s[k]
   ·rw [hPk] at hp
    rw [hd, List.takeWhile_cons, hPk, if_neg Bool.false_ne_true, List.append_nil] at h1
    rw [hd, List.dropWhile_cons, hPk, if_neg Bool.false_ne_true, <- hd] at h2
    have H1 := Lib.hid h1; clear h1
    have H2 := Lib.hid h2; clear h2 hd ht hPk
    go_wp2_with fail
    refine hp.mono ?_; rintro e w1 ⟨rfl, rfl⟩
    go_wp2
    go_ret; exact ⟨congrArg Ending.returned (strV_eq (by rw [ba_extract, H1.out]; rfl)), congrArg (World.setCell w ⟨b, 0, none⟩) (strV_eq (by rw [drop_ext', H2.out]))⟩
   ·rw [hPk] at hp
    rw [hd, List.takeWhile_cons, hPk, if_pos rfl, List.append_cons, <- ht] at h1
    rw [hd, List.dropWhile_cons, hPk, if_pos rfl] at h2
    have H1 := Lib.hid h1; clear h1
    have H2 := Lib.hid h2; clear h2 hd ht hPk
    go_wp2_with fail
    refine hp.mono ?_; rintro e w1 ⟨rfl, rfl⟩
    go_wp2
    go_round
    case rel => exact ⟨k + 1, by omega, by go_num, H1.out, H2.out⟩
    case measure => simp [intOf]; omega
  ·have hk2 : k = s.size := by omega
   subst hk2
   have hd : s.data.toList.drop s.size = [] := List.drop_eq_nil_of_le (by rw [ba_size]; omega)
   rw [hd, List.takeWhile_nil, List.append_nil] at h1
   rw [hd, List.dropWhile_nil] at h2
   have H1 := Lib.hid h1; clear h1
   have H2 := Lib.hid h2; clear h2 hd
   go_wp2
   go_ret; exact ⟨congrArg Ending.returned (strV_eq (by rw [H1.out, List.take_of_length_le (by rw [ba_size]; omega)])), congrArg (World.setCell w ⟨b, 0, none⟩) (strV_eq (by rw [H2.out]; rfl))⟩
end Go.Proofs.YtlpgigdegnbkmaaGreatDoor
namespace Tab
def digR (x : Nat) : Bool := decide (48 <= x /\ x <= 57)
def letR (x : Nat) : Bool := decide ((65 <= x /\ x <= 90) \/ (97 <= x /\ x <= 122))
def wordR (x : Nat) : Bool := digR x || letR x || x == 95 || x == 46 || x == 36
def whileD (P : Nat -> Bool) (l : Bs) : Bs := l.takeWhile fun b => P b.toNat
end Tab
namespace Go.Proofs.YtlpgigdegnbkmaaGreatDoor
open Go.RowKit Tab Tryz
theorem lexDigit_any (x : Nat) (w : World) : Calls prog 173 #[.int .i32 (x : Int)] w (Still (.bool (digR x)) w) := by
 unfold digR
 by_cases h1 : 48 <= x
 ·have e1 : decide (48 <= (x : Int)) = true := decide_eq_true (by omega)
  by_cases h2 : x <= 57
  ·rw [show decide (48 <= x /\ x <= 57) = true from decide_eq_true ⟨h1, h2⟩]
   have e2 : decide ((x : Int) <= 57) = true := decide_eq_true (by omega)
   go_enter func173, ntmps173
   go_wp2
   go_ret; exact Still.mk' rfl
  ·rw [show decide (48 <= x /\ x <= 57) = false from decide_eq_false (by omega)]
   have e2 : decide ((x : Int) <= 57) = false := decide_eq_false (by omega)
   go_enter func173, ntmps173
   go_wp2
   go_ret; exact Still.mk' rfl
 ·rw [show decide (48 <= x /\ x <= 57) = false from decide_eq_false (by omega)]
  have e1 : decide (48 <= (x : Int)) = false := decide_eq_false (by omega)
  go_enter func173, ntmps173
  go_wp2
  go_ret; exact Still.mk' rfl
theorem lexLetter_any (x : Nat) (w : World) : Calls prog 198 #[.int .i32 (x : Int)] w (Still (.bool (letR x)) w) := by
 have hc : x < 65 \/ (65 <= x /\ x <= 90) \/ (90 < x /\ x < 97) \/ (97 <= x /\ x <= 122) \/ 122 < x := by omega
 rcases hc with h | h | h | h | h
 ·have hv : letR x = false := decide_eq_false (by omega)
  have e1 : decide (65 <= (x : Int)) = false := decide_eq_false (by omega)
  have e2 : decide ((x : Int) <= 90) = true := decide_eq_true (by omega)
  have e3 : decide (97 <= (x : Int)) = false := decide_eq_false (by omega)
  have e4 : decide ((x : Int) <= 122) = true := decide_eq_true (by omega)
  rw [hv]
  clear hv
  go_enter func198, ntmps198
  go_wp2
  go_ret; exact Still.mk' rfl
 ·have hv : letR x = true := decide_eq_true (by omega)
  have e1 : decide (65 <= (x : Int)) = true := decide_eq_true (by omega)
  have e2 : decide ((x : Int) <= 90) = true := decide_eq_true (by omega)
  have e3 : decide (97 <= (x : Int)) = false := decide_eq_false (by omega)
  have e4 : decide ((x : Int) <= 122) = true := decide_eq_true (by omega)
  rw [hv]
  clear hv
  go_enter func198, ntmps198
  go_wp2
  go_ret; exact Still.mk' rfl
 ·have hv : letR x = false := decide_eq_false (by omega)
  have e1 : decide (65 <= (x : Int)) = true := decide_eq_true (by omega)
  have e2 : decide ((x : Int) <= 90) = false := decide_eq_false (by omega)
  have e3 : decide (97 <= (x : Int)) = false := decide_eq_false (by omega)
  have e4 : decide ((x : Int) <= 122) = true := decide_eq_true (by omega)
  rw [hv]
  clear hv
  go_enter func198, ntmps198
  go_wp2
  go_ret; exact Still.mk' rfl
 ·have hv : letR x = true := decide_eq_true (by omega)
  have e1 : decide (65 <= (x : Int)) = true := decide_eq_true (by omega)
  have e2 : decide ((x : Int) <= 90) = false := decide_eq_false (by omega)
  have e3 : decide (97 <= (x : Int)) = true := decide_eq_true (by omega)
  have e4 : decide ((x : Int) <= 122) = true := decide_eq_true (by omega)
  rw [hv]
  clear hv
  go_enter func198, ntmps198
  go_wp2
  go_ret; exact Still.mk' rfl
 ·have hv : letR x = false := decide_eq_false (by omega)
  have e1 : decide (65 <= (x : Int)) = true := decide_eq_true (by omega)
  have e2 : decide ((x : Int) <= 90) = false := decide_eq_false (by omega)
  have e3 : decide (97 <= (x : Int)) = true := decide_eq_true (by omega)
  have e4 : decide ((x : Int) <= 122) = false := decide_eq_false (by omega)
  rw [hv]
  clear hv
  go_enter func198, ntmps198
  go_wp2
  go_ret; exact Still.mk' rfl
theorem lexWordy_any (x : Nat) (w : World) : Calls prog 172 #[.int .i32 (x : Int)] w (Still (.bool (wordR x)) w) := by
 have cD := lexDigit_any x w
 have cL := lexLetter_any x w
 unfold wordR
 obtain ⟨A, hA⟩ : ∃ A, (x == 95) = A := ⟨_, rfl⟩
 obtain ⟨B, hB⟩ : ∃ B, (x == 46) = B := ⟨_, rfl⟩
 obtain ⟨C, hC⟩ : ∃ C, (x == 36) = C := ⟨_, rfl⟩
 have e1 : ((x : Int) == 95) = A := by rw [<- hA, Bool.eq_iff_iff, beq_iff_eq, beq_iff_eq]; omega
 have e2 : ((x : Int) == 46) = B := by rw [<- hB, Bool.eq_iff_iff, beq_iff_eq, beq_iff_eq]; omega
 have e3 : ((x : Int) == 36) = C := by rw [<- hC, Bool.eq_iff_iff, beq_iff_eq, beq_iff_eq]; omega
 rw [hA, hB, hC]
 clear hA hB hC
 generalize digR x = D at *
 generalize letR x = L at *
 cases D <;> cases L <;> cases A <;> cases B <;> cases C
 all_goals (
  go_enter func172, ntmps172
  go_wp2_with (first | (go_at_call 173; refine cD.mono ?_; rintro e w1 ⟨rfl, rfl⟩) | (go_at_call 198; refine cL.mono ?_; rintro e w1 ⟨rfl, rfl⟩))
  go_ret; exact Still.mk' rfl)
theorem while_any (P : Nat -> Bool) (g : Nat) (eg : ∀ args w, (callFunc g args).run prog w = .ok (.enter g args) w) (hP : ∀ (x : Nat) W, Calls prog g #[.int .i32 (x : Int)] W (Still (.bool (P x)) W)) (hh : ∀ x, 128 <= x -> P x = false) (s : ByteArray) (w : World) :
  Calls prog 171 #[.string s, .func (.func g) #[] #[]] w (Ret (strV (whileD P s.data.toList)) w) := by
 obtain ⟨V, hV⟩ : ∃ V, whileD P s.data.toList = V := ⟨_, rfl⟩
 rw [hV]
 go_enter func171, ntmps171
 go_wp2
 go_loopw [] (fun w' => ∃ pos : Nat, w' = w.iter s pos /\ pos <= s.size /\ V = s.data.toList.take pos ++ whileD P (s.data.toList.drop pos)) (fun w' => s.size - w'.iterPos w.heap.size)
 case atStart => exact ⟨0, rfl, by omega, by rw [<- hV]; rfl⟩
 case round =>
  clear hV
  obtain ⟨pos, rfl, hp, hI⟩ := hrel
  by_cases hlt : pos < s.size
  ·obtain ⟨hne, hw2, hw1⟩ := width_at s pos hlt
   have hd := drop_cons s pos hlt
   have hf := decode_facts s[pos] (s.data.toList.drop (pos + 1))
   rw [<- hd, Lib.decodeL_drop] at hf
   have hc := hP (Utf8.decode s pos).1 (w.iter s (pos + (Utf8.decode s pos).2))
   have ht := take_snoc s pos hlt
   have hst : whileD P (s.data.toList.drop pos) = if P s[pos].toNat = true then s[pos] :: whileD P (s.data.toList.drop (pos + 1)) else [] := by
    rw [hd]; unfold whileD; rw [List.takeWhile_cons]
   have hnx : ∀ ty, (Instr.next (.pointer (some ⟨w.heap.size, 0, none⟩)) true ty).run prog (w.iter s pos) = _ := fun ty => run_next_any w s pos ty hlt
   clear hne hd
   rcases hf with ⟨h8, hdec⟩ | ⟨h8, hr8, _⟩
   ·rw [hdec] at hc hw2
    simp only [hdec] at hnx
    dsimp only at hc hw2
    cases hk : P s[pos].toNat
    ·rw [hk] at hc hst
     rw [hst, if_neg Bool.false_ne_true, List.append_nil] at hI
     have HI := Lib.hid hI
     clear hI hst hk ht hdec hw1
     go_wp2_with fail
     refine hc.mono ?_; rintro e w1 ⟨rfl, rfl⟩
     go_wp2
     go_ret; exact Ret.mk' (strV_eq (by rw [ba_extract, HI.out]; rfl)) (iterB _ _ _)
    ·rw [hk] at hc hst
     rw [hst, if_pos rfl, List.append_cons, <- ht] at hI
     have HI := Lib.hid hI
     clear hI hst hk ht hdec hw1
     go_wp2_with fail
     refine hc.mono ?_; rintro e w1 ⟨rfl, rfl⟩
     go_wp2
     go_roundw
     case rel => exact ⟨_, rfl, hw2, HI.out⟩
     case measure => simp; omega
   ·rw [hh _ hr8] at hc
    rw [hst, hh _ h8, if_neg Bool.false_ne_true, List.append_nil] at hI
    have HI := Lib.hid hI
    clear hI hst ht
    go_wp2_with fail
    refine hc.mono ?_; rintro e w1 ⟨rfl, rfl⟩
    go_wp2
    go_ret; exact Ret.mk' (strV_eq (by rw [ba_extract, HI.out]; rfl)) (iterB _ _ _)
  ·have hnx : ∀ ty, (Instr.next (.pointer (some ⟨w.heap.size, 0, none⟩)) true ty).run prog (w.iter s pos) = _ := fun ty => run_next_end w s pos ty hlt
   rw [List.drop_eq_nil_of_le (by rw [ba_size]; omega), List.take_of_length_le (by rw [ba_size]; omega)] at hI
   have HI := Lib.hid hI
   clear hI
   go_wp2
   go_ret; exact Ret.mk' (strV_eq (by rw [HI.out]; simp [whileD])) (iterB _ _ _)
theorem enters_wordy : ∀ args w, (callFunc 172 args).run prog w = .ok (.enter 172 args) w := enters_of func172 (by kernel_rfl) rfl
theorem digR_high (x : Nat) (h : 128 <= x) : digR x = false := decide_eq_false (by omega)
theorem wordR_high (x : Nat) (h : 128 <= x) : wordR x = false := by
 unfold wordR
 rw [digR_high x h, show letR x = false from decide_eq_false (by omega), beq_eq_false_iff_ne.2 (by omega), beq_eq_false_iff_ne.2 (by omega), beq_eq_false_iff_ne.2 (by omega)]; rfl
theorem while_wordy (s : ByteArray) (w : World) : Calls prog 171 #[.string s, .func (.func 172) #[] #[]] w (Ret (strV (whileD wordR s.data.toList)) w) := while_any wordR _ enters_wordy lexWordy_any wordR_high s w
end Go.Proofs.YtlpgigdegnbkmaaGreatDoor
