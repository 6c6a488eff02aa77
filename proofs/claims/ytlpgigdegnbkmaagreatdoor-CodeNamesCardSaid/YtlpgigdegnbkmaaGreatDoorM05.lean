import Derived.Test.YtlpgigdegnbkmaaGreatDoorM04
import Derived.Laws.IdiomStrings
set_option maxRecDepth 100000
set_option maxHeartbeats 2000000
namespace Tab
open Go Go.Lib
def upperD (l : Bs) : Bs := mapD upI l
def callD (l : Bs) : Bool := decide (1 <= l.length) && (decide (l.length <= 30) && ((whileD wordR l == l) && (!contains l [36] && (!digR (l.getD 0 0).toNat && !((l.getD 0 0) == 46)))))
def isRefD (l : Bs) : Bool := (readD ⟨l.toArray⟩).2 == 0
def truthD (l : Bs) : Bool := upperD l == [84, 82, 85, 69] || upperD l == [70, 65, 76, 83, 69]
def isNameD (l : Bs) : Bool := callD l && (!isRefD l && !truthD l)
def lowR (x : Nat) : Bool := decide (x < 32) || x == 127
theorem low_idx (s : ByteArray) : ∀ (f pos : Nat), s.size - pos <= f -> decide (0 <= idxFuncFrom lowR true s f pos) = !((s.data.toList.drop pos).all okByte) := by
 intro f
 induction f with
 | zero =>
  intro pos h
  rw [List.drop_eq_nil_of_le (by rw [<- Lib.size_eq]; omega)]; rfl
 | succ f ih =>
  intro pos h
  by_cases hlt : pos < s.size
  ·have hne : s.data.toList.drop pos ≠ [] := by
    intro h0
    have := congrArg List.length h0
    rw [List.length_drop, <- Lib.size_eq] at this
    simp at this; omega
   have hst := ok_step _ hne
   rw [Lib.decodeL_drop, List.drop_drop] at hst
   have hw := Lib.width_pos s pos
   unfold idxFuncFrom
   rw [if_pos hlt, hst]
   by_cases hb : ((Utf8.decode s pos).1 : Int) < 32 \/ ((Utf8.decode s pos).1 : Int) = 127
   ·rw [if_pos (by unfold lowR; rw [Bool.or_eq_true, decide_eq_true_iff, beq_iff_eq]; omega), show (decide ¬(((Utf8.decode s pos).1 : Int) < 32 \/ ((Utf8.decode s pos).1 : Int) = 127)) = false from decide_eq_false (fun h => h hb)]
    simp
   ·rw [if_neg (by unfold lowR; rw [Bool.or_eq_true, decide_eq_true_iff, beq_iff_eq]; omega), show (decide ¬(((Utf8.decode s pos).1 : Int) < 32 \/ ((Utf8.decode s pos).1 : Int) = 127)) = true from decide_eq_true hb, Bool.true_and]
    exact ih _ (by omega)
  ·rw [idxFuncFrom_end _ _ _ _ _ hlt, List.drop_eq_nil_of_le (by rw [<- Lib.size_eq]; omega)]; rfl
theorem low_is (s : ByteArray) : decide (0 <= idxFunc lowR true s) = !(s.data.toList.all okByte) := by
 unfold idxFunc
 exact low_idx s s.size 0 (by omega)
end Tab
namespace Go.Proofs.YtlpgigdegnbkmaaGreatDoor
open Go.RowKit Tab Tryz
theorem lexUp_any (x : Nat) (hx : x <= 1114111) (w : World) : Calls prog 207 #[.int .i32 (x : Int)] w (Still (.int .i32 (upI x)) w) := by
 by_cases h : 97 <= (x : Int) /\ (x : Int) <= 122
 ·have H : Hid (upI x = (x : Int) - 97 + 65) := by
   show _ = _
   rw [upI, if_pos h]; omega
  obtain ⟨h1, h2⟩ := h
  go_enter func207, ntmps207
  go_wp2
  go_ret
  exact Still.mk' (congrArg (Value.int .i32) H.out.symm)
 ·have H : Hid (upI x = (x : Int)) := by
   show _ = _
   rw [upI, if_neg h]
  have Hh := Lib.hid h; clear h
  go_enter func207, ntmps207
  go_wp2
  all_goals first
   | (go_ret; exact Still.mk' (congrArg (Value.int .i32) H.out.symm))
   | exact absurd ⟨by assumption, by assumption⟩ Hh.out
theorem enters_lexup : ∀ args w, (callFunc 207 args).run prog w = .ok (.enter 207 args) w := enters_of func207 (by kernel_rfl) rfl
theorem map_lexup (s : ByteArray) (w : World) (hg : Good w) (hs : s.size < 35184372088832) : Calls prog 131 #[.func (.func 207) #[] #[], .string s] w (Ret (strV (upperD s.data.toList)) w) :=
 Tryz.strings_Map_grows 207 #[] enters_lexup upI s w hs
  (fun W x hx _ => (lexUp_any x hx W).mono fun _ _ h => h.ret)
  (fun x hx => by unfold upI; split <;> omega) hg.u8
theorem upper_any (s : ByteArray) (w : World) (hg : Good w) (hs : s.size <= 1000000) : Calls prog 175 #[.string s] w (Ret (strV (upperD s.data.toList)) w) := by
 have cM := map_lexup s w hg (by omega)
 unfold strV at *
 generalize upperD s.data.toList = U at *
 go_enter func175, ntmps175
 go_wp2_with fail
 refine cM.mono ?_; rintro e w1 ⟨rfl, hb⟩
 go_wp2
 go_ret; exact Ret.mk' rfl hb
theorem isRef_any (s : ByteArray) (w : World) (hg : Good w) (hs : s.size <= 1000000) : Calls prog 136 #[.string s] w (Ret (.bool (isRefD s.data.toList)) w) := by
 have cR := Read_any s w hg hs
 unfold isRefD
 rw [ba_eta]
 generalize readD s = r at *
 obtain ⟨⟨r0, r1, r2, r3, r4, r5⟩, e⟩ := r
 unfold refV at cR
 dsimp only at *
 go_enter func136, ntmps136
 go_wp2_with fail
 refine cR.mono ?_; rintro e' w1 ⟨rfl, hb⟩
 go_wp2
 go_ret; exact Ret.mk' rfl belx
theorem isTruth_any (s : ByteArray) (w : World) (hg : Good w) (hs : s.size <= 1000000) : Calls prog 137 #[.string s] w (Ret (.bool (truthD s.data.toList)) w) := by
 have cU := upper_any s w hg hs
 unfold truthD
 unfold strV at cU
 generalize upperD s.data.toList = U at *
 cases h1 : (U == [84, 82, 85, 69]) <;> cases h2 : (U == [70, 65, 76, 83, 69])
 all_goals (
  go_enter func137, ntmps137
  go_wp2_with fail
  refine cU.mono ?_; rintro e' w1 ⟨rfl, hb⟩
  go_wp2
  go_ret; exact Ret.mk' rfl hb)
theorem byte_bne (b c : UInt8) : ((b.toNat : Int) != (c.toNat : Int)) = !(b == c) := by
 by_cases e : b = c
 ·subst e; simp
 ·rw [beq_eq_false_iff_ne.2 e, Bool.not_false, bne_iff_ne]
  intro h; exact e (UInt8.toNat_inj.1 (by omega))
theorem byte_w32 (b : UInt8) : wrap32 (b.toNat : Int) = (b.toNat : Int) := by
 have := b.toNat_lt
 unfold wrap32
 omega
theorem ba_beq (U s : ByteArray) (B : Bool) (h : (U.data.toList == s.data.toList) = B) : (U.toList == s.toList) = B := by
 rw [ByteArray.toList_eq, ByteArray.toList_eq]; exact h
theorem callable_any (s : ByteArray) (w : World) (hg : Good w) (hs : s.size <= 1000000) : Calls prog 135 #[.string s] w (Ret (.bool (callD s.data.toList)) w) := by
 obtain ⟨V, hV⟩ : ∃ V, callD s.data.toList = V := ⟨_, rfl⟩
 rw [hV]
 unfold callD at hV
 rw [ba_size] at hV
 by_cases h1 : 1 <= s.size
 ·rw [decide_eq_true h1, Bool.true_and] at hV
  have e1 : decide (1 <= (s.size : Int)) = true := decide_eq_true (by omega)
  by_cases h2 : s.size <= 30
  ·rw [decide_eq_true h2, Bool.true_and] at hV
   have e2 : decide ((s.size : Int) <= 30) = true := decide_eq_true (by omega)
   have cW := while_wordy s w
   unfold strV at cW
   have hB := fun B => ba_beq ⟨(whileD wordR s.data.toList).toArray⟩ s B
   dsimp only at hB
   obtain ⟨U, hU⟩ : ∃ U : ByteArray, ⟨(whileD wordR s.data.toList).toArray⟩ = U := ⟨_, rfl⟩
   rw [hU] at hB cW
   clear hU
   cases hw : (whileD wordR s.data.toList == s.data.toList)
   ·have hE := hB _ hw
    rw [hw, Bool.false_and] at hV
    subst hV
    clear hw hB
    go_enter func135, ntmps135
    go_wp2_with fail
    refine cW.mono ?_; rintro e w1 ⟨rfl, hb⟩
    go_wp2
    go_ret; exact Ret.mk' rfl hb
   ·have hE := hB _ hw
    rw [hw, Bool.true_and] at hV
    clear hw hB
    have cC : ∀ W, Below w.heap.size w W -> Calls prog 138 #[.string s, .string ⟨#[36]⟩] W (Still (.bool (Lib.contains s.data.toList [36])) W) := fun W hb => (Tryz.strings_Contains_shaped s ⟨#[36]⟩ W (hg.below hb).shaped (by omega)).mono fun e w' h => ⟨h.1, h.2.symm⟩
    generalize Lib.contains s.data.toList [36] = C at *
    cases C
    ·rw [Bool.not_false, Bool.true_and] at hV
     have h0 : s.data.toList.getD 0 0 = s[0] := by rw [List.getD_eq_getElem?_getD, List.getElem?_eq_getElem (by rw [ba_size]; omega)]; rfl
     rw [h0] at hV
     have cD := fun W => lexDigit_any s[0].toNat W
     have ew := byte_w32 s[0]
     have h3 : ((s[0].toNat : Int) != 46) = !(s[0] == 46) := byte_bne s[0] 46
     generalize digR s[0].toNat = D at *
     generalize (s[0] == 46) = P at *
     cases D
     ·cases P
      all_goals (
       simp only [Bool.not_false, Bool.not_true, Bool.true_and, Bool.and_false] at hV h3
       subst hV
       go_enter func135, ntmps135
       go_wp2_with fail
       refine cW.mono ?_; rintro e w1 ⟨rfl, hb⟩
       go_wp2_with (first | (go_at_call 138; refine (cC _ hb).mono ?_; rintro e w2 ⟨rfl, rfl⟩) | (go_at_call 173; refine (cD _).mono ?_; rintro e w2 ⟨rfl, rfl⟩))
       go_ret; exact Ret.mk' rfl hb)
     ·simp only [Bool.not_true, Bool.false_and] at hV
      subst hV
      clear h3
      go_enter func135, ntmps135
      go_wp2_with fail
      refine cW.mono ?_; rintro e w1 ⟨rfl, hb⟩
      go_wp2_with (first | (go_at_call 138; refine (cC _ hb).mono ?_; rintro e w2 ⟨rfl, rfl⟩) | (go_at_call 173; refine (cD _).mono ?_; rintro e w2 ⟨rfl, rfl⟩))
      go_ret; exact Ret.mk' rfl hb
    ·rw [Bool.not_true, Bool.false_and] at hV
     subst hV
     go_enter func135, ntmps135
     go_wp2_with fail
     refine cW.mono ?_; rintro e w1 ⟨rfl, hb⟩
     go_wp2_with (go_at_call 138; refine (cC _ hb).mono ?_; rintro e w2 ⟨rfl, rfl⟩)
     go_ret; exact Ret.mk' rfl hb
  ·rw [decide_eq_false h2, Bool.false_and] at hV
   subst hV
   have e2 : decide ((s.size : Int) <= 30) = false := decide_eq_false (by omega)
   go_enter func135, ntmps135
   go_wp2
   go_ret; exact Ret.mk' rfl (Below.refl _ _)
 ·rw [decide_eq_false h1, Bool.false_and] at hV
  subst hV
  have e1 : decide (1 <= (s.size : Int)) = false := decide_eq_false (by omega)
  go_enter func135, ntmps135
  go_wp2
  go_ret; exact Ret.mk' rfl (Below.refl _ _)
theorem isName_any (s : ByteArray) (w : World) (hg : Good w) (hs : s.size <= 1000000) : Calls prog 90 #[.string s] w (Ret (.bool (isNameD s.data.toList)) w) := by
 have c1 := callable_any s w hg hs
 have c2 := fun W (hb : Below w.heap.size w W) => isRef_any s W (hg.below hb) hs
 have c3 := fun W (hb : Below w.heap.size w W) => isTruth_any s W (hg.below hb) hs
 unfold isNameD
 generalize callD s.data.toList = A at *
 generalize isRefD s.data.toList = B at *
 generalize truthD s.data.toList = C at *
 cases A
 ·go_enter func90, ntmps90
  go_wp2_with fail
  refine c1.mono ?_; rintro e w1 ⟨rfl, hb⟩
  go_wp2
  go_ret; exact Ret.mk' rfl hb
 ·cases B
  ·cases C
   all_goals (
    go_enter func90, ntmps90
    go_wp2_with fail
    refine c1.mono ?_; rintro e w1 ⟨rfl, hb⟩
    go_wp2_with fail
    refine (c2 _ hb).mono ?_; rintro e w2 ⟨rfl, hb2⟩
    replace hb := after hb hb2
    clear hb2
    go_wp2_with fail
    refine (c3 _ hb).mono ?_; rintro e w3 ⟨rfl, hb2⟩
    replace hb := after hb hb2
    go_wp2
    go_ret; exact Ret.mk' rfl hb)
  ·go_enter func90, ntmps90
   go_wp2_with fail
   refine c1.mono ?_; rintro e w1 ⟨rfl, hb⟩
   go_wp2_with fail
   refine (c2 _ hb).mono ?_; rintro e w2 ⟨rfl, hb2⟩
   replace hb := after hb hb2
   go_wp2
   go_ret; exact Ret.mk' rfl hb
end Go.Proofs.YtlpgigdegnbkmaaGreatDoor
namespace Tab
end Tab
namespace Go.Proofs.YtlpgigdegnbkmaaGreatDoor
open Go.RowKit Tab Tryz
end Go.Proofs.YtlpgigdegnbkmaaGreatDoor
namespace Tab
end Tab
namespace Go.Proofs.YtlpgigdegnbkmaaGreatDoor
open Go.RowKit Tab Tryz
end Go.Proofs.YtlpgigdegnbkmaaGreatDoor
