import Derived.Test.YtlpgigdegnbkmaaGreatDoorM02
import Derived.Test.YtlpgigdegnbkmaaGreatDoorM03
import Derived.Lib.ReplaceLaws
import Derived.Lib.CountLaws
import Derived.Lib.IndexLaws
import Derived.Lib.Strings
import Derived.Deep.QuietTactic
import Derived.BigQuiet
import Derived.Lib.ItoaLen
import Derived.Eval
import Derived.Barred
import Derived.Deep.Cut
import Derived.Lib.AppendIntMem
set_option maxRecDepth 100000
set_option maxHeartbeats 4000000
namespace Tab
open Go.Lib
def textB (l : Bs) : Bool := l.all okByte && validD l
theorem textB_nil : textB [] = true := rfl
theorem sign_le (l : Bs) : signN l <= l.length := by
 rw [signN]
 split
 ·omega
 ·split
  ·omega
  ·exact decodeL_le l (by assumption)
theorem width4 (l : Bs) : (decodeL l).2 <= 4 := by
 rw [decodeL_N]
 rcases decodeN_shape l.length (l.getD 0 0).toNat (l.getD 1 0).toNat (l.getD 2 0).toNat (l.getD 3 0).toNat with ⟨c, e⟩ | ⟨c1, c2, c3, cv, e⟩ | ⟨c1, c2, c3, c4, cv, cs, e⟩ | ⟨c1, c2, c3, c4, c5, cv, cw, e⟩ | e <;> (rw [e]; dsimp only; try omega)
theorem sign_le4 (l : Bs) : signN l <= 4 := by
 rw [signN]
 split
 ·omega
 ·split
  ·omega
  ·exact width4 l
theorem text_bad (l : Bs) (hne : l ≠ []) (h : signN l = 0) : textB l = false := by
 rw [signN, if_neg hne] at h
 have hw := decodeL_width l
 have e : decodeL l = (65533, 1) := by
  by_cases e : decodeL l = (65533, 1)
  ·exact e
  ·rw [if_neg e] at h; omega
 rw [textB, validD_step l hne, e, if_pos ⟨rfl, rfl⟩, Bool.and_false]
theorem text_step (b : UInt8) (r : Bs) (h : signN (b :: r) ≠ 0) : textB (b :: r) = (okByte b && textB ((b :: r).drop (signN (b :: r)))) := by
 have hne : b :: r ≠ [] := by simp
 have hd : decodeL (b :: r) ≠ (65533, 1) := by
  intro e; rw [signN, if_neg hne, if_pos e] at h; exact h rfl
 have hs : signN (b :: r) = (decodeL (b :: r)).2 := by rw [signN, if_neg hne, if_neg hd]
 have hv : validD (b :: r) = validD ((b :: r).drop (decodeL (b :: r)).2) := by
  rw [validD_step _ hne, if_neg]
  rintro ⟨h1, h2⟩; exact hd (Prod.ext h1 h2)
 rw [hs, textB, textB, hv]
 rcases decode_facts b r with ⟨hb, e⟩ | ⟨hb, hr, ha⟩
 ·rw [e]
  simp only [List.drop_succ_cons, List.drop_zero, List.all_cons, Bool.and_assoc]
 ·have h1 : ((b :: r).take (decodeL (b :: r)).2).all okByte = true := by
   rw [List.all_eq_true]; intro x hx; exact ok_high x (ha x hx)
  have h3 : (b :: r).all okByte = ((b :: r).drop (decodeL (b :: r)).2).all okByte := by
   conv => lhs; rw [<- List.take_append_drop (decodeL (b :: r)).2 (b :: r)]
   rw [List.all_append, h1, Bool.true_and]
  rw [h3, ok_high b hb, Bool.true_and]
theorem nameB_text (l : Bs) : nameB l = (textB l && (!l.isEmpty && decide (l.length <= 30))) := by
 simp only [nameB, textB]
 cases l.all okByte <;> cases validD l <;> simp
end Tab
namespace Go.Proofs.YtlpgigdegnbkmaaGreatDoor
open Go.RowKit Tab Tryz
theorem drop_ext (s : ByteArray) (k : Nat) : (s.extract k s.size).data.toList = s.data.toList.drop k := by
 rw [ba_extract, List.take_of_length_le (by rw [ba_size]; omega)]
theorem drop_at (s : ByteArray) (k : Nat) (h : k < s.size) : s.data.toList.drop k = s[k] :: s.data.toList.drop (k + 1) := by
 rw [List.drop_eq_getElem_cons (by rw [ba_size]; exact h)]; rfl
theorem IsText_any (s : ByteArray) (w : World) (hm : s.size <= 9223372036854775807) : Calls prog 128 #[.string s] w (Still (.bool (textB s.data.toList)) w) := by
 have cS : ∀ k, Calls prog 127 #[.string (s.extract k s.size)] w (Still (.int .i64 (signN (s.data.toList.drop k))) w) := fun k => by
  have := Sign_any (s.extract k s.size) w (by rw [ByteArray.size_extract]; omega)
  rwa [drop_ext] at this
 generalize hV : textB s.data.toList = V at *
 go_enter func128, ntmps128
 go_wp2
 go_loop [3] (fun i => ∃ k : Nat, k <= s.size /\ i = .int .i64 k /\ textB (s.data.toList.drop k) = V) (fun i => s.size - (intOf i).toNat)
 case atStart => exact ⟨0, by omega, rfl, hV⟩
 case round =>
  obtain ⟨k, hk, rfl, hI⟩ := hrel
  clear hV
  by_cases hlt : k < s.size
  ·have hd := drop_at s k hlt
   have hle := sign_le (s.data.toList.drop k)
   rw [List.length_drop, ba_size] at hle
   by_cases h0 : signN (s.data.toList.drop k) = 0
   ·have Hf : Hid (V = false) := by
     show _ = _
     rw [<- hI]; exact text_bad _ (by rw [hd]; simp) h0
    have cS := cS k
    rw [h0] at cS
    clear hI hd hle h0
    go_wp2_with (go_at_call 127; refine cS.mono ?_; rintro e w1 ⟨rfl, rfl⟩)
    go_ret; exact Still.mk' (by rw [Hf.out]; rfl)
   ·have hs := text_step s[k] (s.data.toList.drop (k + 1)) (by rw [<- hd]; exact h0)
    rw [<- hd, hI, List.drop_drop] at hs
    have cS := cS k
    generalize signN (s.data.toList.drop k) = n at *
    have e0 : ((n : Int) == 0) = false := by rw [beq_eq_false_iff_ne]; omega
    by_cases hb : 32 <= s[k].toNat /\ s[k].toNat ≠ 127
    ·have Hf : Hid (textB (s.data.toList.drop (k + n)) = V) := by
      show _ = _
      rw [hs, show okByte s[k] = true from decide_eq_true hb, Bool.true_and]
     have e1 : decide ((s[k].toNat : Int) < 32) = false := dF (by omega)
     have e2 : ((s[k].toNat : Int) == 127) = false := by rw [beq_eq_false_iff_ne]; omega
     clear hI hd hs hb
     go_wp2_with (go_at_call 127; refine cS.mono ?_; rintro e w1 ⟨rfl, rfl⟩)
     go_round
     case rel => exact ⟨k + n, by omega, by go_num, Hf.out⟩
     case measure => simp [intOf]; omega
    ·have Hf : Hid (V = false) := by
      show _ = _
      rw [hs, show okByte s[k] = false from decide_eq_false hb, Bool.false_and]
     by_cases h1 : s[k].toNat < 32
     ·have e1 : decide ((s[k].toNat : Int) < 32) = true := dT (by omega)
      clear hI hd hs hb
      go_wp2_with (go_at_call 127; refine cS.mono ?_; rintro e w1 ⟨rfl, rfl⟩)
      go_ret; exact Still.mk' (by rw [Hf.out]; rfl)
     ·have e1 : decide ((s[k].toNat : Int) < 32) = false := dF (by omega)
      have e2 : ((s[k].toNat : Int) == 127) = true := by rw [beq_iff_eq]; omega
      clear hI hd hs hb
      go_wp2_with (go_at_call 127; refine cS.mono ?_; rintro e w1 ⟨rfl, rfl⟩)
      go_ret; exact Still.mk' (by rw [Hf.out]; rfl)
  ·have Hf : Hid (V = true) := by
    show _ = _
    rw [<- hI, List.drop_eq_nil_of_le (by rw [ba_size]; omega), textB_nil]
   clear hI
   go_wp2
   go_ret; exact Still.mk' (by rw [Hf.out]; rfl)
theorem IsSheet_any (s : ByteArray) (w : World) (hm : s.size <= 9223372036854775807) : Calls prog 159 #[.string s] w (Still (.bool (nameB s.data.toList)) w) := by
 have cT := IsText_any s w hm
 have hN := nameB_text s.data.toList
 have e0 : s.data.toList.isEmpty = !decide (0 < (s.size : Int)) := by
  rw [<- ba_size]; cases s.data.toList with
  | nil => rfl
  | cons a l => simp only [List.isEmpty_cons, List.length_cons]; rw [dT (by omega)]; rfl
 have e1 : decide (s.data.toList.length <= 30) = decide ((s.size : Int) <= 30) := by
  rw [<- ba_size, decide_eq_decide]; omega
 rw [e0, e1, Bool.not_not] at hN
 clear e0 e1
 generalize textB s.data.toList = V at *
 generalize nameB s.data.toList = N at *
 have HN := Lib.hid hN; clear hN
 cases V
 ·go_enter func159, ntmps159
  go_wp2_with (go_at_call 128; refine cT.mono ?_; rintro e w1 ⟨rfl, rfl⟩)
  go_ret; exact Still.mk' (by rw [HN.out]; rfl)
 ·by_cases h0 : 0 < s.size
  ·have e0 : decide (0 < (s.size : Int)) = true := dT (by omega)
   go_enter func159, ntmps159
   go_wp2_with (go_at_call 128; refine cT.mono ?_; rintro e w1 ⟨rfl, rfl⟩)
   go_ret; exact Still.mk' (by rw [HN.out, e0]; rfl)
  ·have e0 : decide (0 < (s.size : Int)) = false := dF (by omega)
   go_enter func159, ntmps159
   go_wp2_with (go_at_call 128; refine cT.mono ?_; rintro e w1 ⟨rfl, rfl⟩)
   go_ret; exact Still.mk' (by rw [HN.out, e0]; rfl)
end Go.Proofs.YtlpgigdegnbkmaaGreatDoor
namespace Tab
open Go.Lib
section
variable {old new : Bs}
theorem repl_eq (h : (old == new) = false) (s : Bs) : replaceAll s old new = replaceK old new (count s old) s := by
 unfold replaceAll replace replaceNum
 rw [h, if_neg Bool.false_ne_true, if_pos (.inl (by decide))]
theorem index_at (s : Bs) (h : old.isPrefixOf s = true) : index s old = 0 := by
 cases s with
 | nil => cases old with
  | nil => rfl
  | cons a l => cases h
 | cons b l => unfold index; rw [if_pos h]
theorem repl_nil (h : (old == new) = false) (hn : old ≠ []) : replaceAll [] old new = [] := by
 rw [repl_eq h, count_miss (by unfold index; cases old <;> first | exact absurd rfl hn | rfl)]; rfl
theorem repl_at (h : (old == new) = false) (hn : old ≠ []) (s : Bs) (hp : old.isPrefixOf s = true) : replaceAll s old new = new ++ replaceAll (s.drop old.length) old new := by
 have hi : index s old = ((0 : Nat) : Int) := index_at s hp
 rw [repl_eq h, repl_eq h, count_hit hn hi, Nat.add_comm 1, replaceK_hit _ _ _ _ _ hi, Nat.zero_add]; rfl
theorem repl_off (h : (old == new) = false) (hn : old ≠ []) (b : UInt8) (l : Bs) (hp : old.isPrefixOf (b :: l) = false) : replaceAll (b :: l) old new = b :: replaceAll l old new := by
 have hi : index (b :: l) old = if index l old == -1 then -1 else index l old + 1 := by
  conv => lhs; unfold index
  rw [if_neg (by rw [hp]; exact Bool.false_ne_true)]
 have hge := index_ge l old
 rw [repl_eq h, repl_eq h]
 by_cases hm : index l old = -1
 ·rw [hm] at hi
  rw [count_miss hm, count_miss (hi.trans rfl)]; rfl
 ·obtain ⟨i, e⟩ : ∃ i : Nat, index l old = i := ⟨(index l old).toNat, by omega⟩
  have hi' : index (b :: l) old = ((i + 1 : Nat) : Int) := by
   rw [hi, if_neg (by rw [beq_iff_eq]; exact hm), e]; rfl
  rw [count_hit hn hi', count_hit hn e, Nat.add_comm 1, replaceK_hit _ _ _ _ _ hi', Nat.add_comm 1, replaceK_hit _ _ _ _ _ e, show i + 1 + old.length = (i + old.length) + 1 from by omega]; rfl
end
def dbl (l : Bs) : Bs := l.flatMap fun b => if b = 39 then [39, 39] else [b]
theorem dbl_cons (b : UInt8) (l : Bs) : dbl (b :: l) = (if b = 39 then [39, 39] else [b]) ++ dbl l := rfl
theorem dbl_len (l : Bs) : (dbl l).length <= 2 * l.length := by
 induction l with
 | nil => simp [dbl]
 | cons b l ih => rw [dbl_cons]; split <;> simp <;> omega
theorem pre1 (b : UInt8) (l : Bs) : [39].isPrefixOf (b :: l) = (39 == b) := by simp [List.isPrefixOf]
theorem repl_dbl (s : Bs) : replaceAll s [39] [39, 39] = dbl s := by
 induction s with
 | nil => exact repl_nil rfl (by simp)
 | cons b l ih =>
  by_cases hb : b = 39
  ·subst hb
   rw [repl_at rfl (by simp) _ (by rw [pre1]; rfl), dbl_cons, if_pos rfl]
   show [39, 39] ++ replaceAll l _ _ = _
   rw [ih]
  ·rw [repl_off rfl (by simp) b l (by rw [pre1, beq_eq_false_iff_ne]; exact fun e => hb e.symm), ih, dbl_cons, if_neg hb]; rfl
def und : Bs -> Bs
 | [] => []
 | [b] => [b]
 | a :: b :: l => if a = 39 /\ b = 39 then 39 :: und l else a :: und (b :: l)
def non : Bs -> Bs
 | [] => []
 | [b] => [b]
 | a :: b :: l => if a = 39 /\ b = 39 then non l else a :: non (b :: l)
theorem pre2 (a b : UInt8) (l : Bs) : [39, 39].isPrefixOf (a :: b :: l) = decide (a = 39 /\ b = 39) := by
 show ((39 == a) && ((39 == b) && true)) = _
 rw [Bool.eq_iff_iff, Bool.and_true, Bool.and_eq_true, beq_iff_eq, beq_iff_eq, decide_eq_true_eq]
 exact ⟨fun h => ⟨h.1.symm, h.2.symm⟩, fun h => ⟨h.1.symm, h.2.symm⟩⟩
theorem repl_und : ∀ s : Bs, replaceAll s [39, 39] [39] = und s
 | [] => repl_nil rfl (by simp)
 | [b] => by rw [repl_off rfl (by simp) b [] (by simp [List.isPrefixOf]), repl_nil rfl (by simp)]; rfl
 | a :: b :: l => by
  by_cases h : a = 39 /\ b = 39
  ·rw [repl_at rfl (by simp) _ (by rw [pre2]; exact decide_eq_true h), und, if_pos h]
   show [39] ++ replaceAll l _ _ = _
   rw [repl_und l]; rfl
  ·rw [repl_off rfl (by simp) a _ (by rw [pre2]; exact decide_eq_false h), repl_und (b :: l), und, if_neg h]
theorem repl_non : ∀ s : Bs, replaceAll s [39, 39] [] = non s
 | [] => repl_nil rfl (by simp)
 | [b] => by rw [repl_off rfl (by simp) b [] (by simp [List.isPrefixOf]), repl_nil rfl (by simp)]; rfl
 | a :: b :: l => by
  by_cases h : a = 39 /\ b = 39
  ·rw [repl_at rfl (by simp) _ (by rw [pre2]; exact decide_eq_true h), non, if_pos h]
   show [] ++ replaceAll l _ _ = _
   rw [repl_non l]; rfl
  ·rw [repl_off rfl (by simp) a _ (by rw [pre2]; exact decide_eq_false h), repl_non (b :: l), non, if_neg h]
theorem und_len : ∀ s : Bs, (und s).length <= s.length
 | [] => by simp [und]
 | [b] => by simp [und]
 | a :: b :: l => by
  have h1 := und_len l
  have h2 := und_len (b :: l)
  rw [und]; split <;> simp at * <;> omega
theorem non_len : ∀ s : Bs, (non s).length <= s.length
 | [] => by simp [non]
 | [b] => by simp [non]
 | a :: b :: l => by
  have h1 := non_len l
  have h2 := non_len (b :: l)
  rw [non]; split <;> simp at * <;> omega
def partD (n rest : Bs) : Bs × Bs × Bool :=
 if plainB n then (n, rest, nameB n)
 else if n.length < 3 \/ n.head? ≠ some 39 \/ n.getLast? ≠ some 39 then ([], [], false)
 else (und ((n.take (n.length - 1)).drop 1), rest, !contains (non ((n.take (n.length - 1)).drop 1)) [39] && nameB (und ((n.take (n.length - 1)).drop 1)))
def sheetD (s : ByteArray) : Bs × Bs × Bool :=
 if lastIndexByte s 33 < 0 then ([], s.data.toList, true)
 else partD (s.data.toList.take (lastIndexByte s 33).toNat) (s.data.toList.drop ((lastIndexByte s 33).toNat + 1))
end Tab
namespace Go.Proofs.YtlpgigdegnbkmaaGreatDoor
open Go.RowKit Tab Tryz
theorem sheet_none (s : ByteArray) (w : World) (hs : s.size <= 1000000) (hi : Lib.lastIndexByte s 33 < 0) : Calls prog 199 #[.string s] w (Ret (.tuple #[strV (sheetD s).1, strV (sheetD s).2.1, .bool (sheetD s).2.2]) w) := by
 have cL := Tryz.strings_LastIndexByte s 33 (by omega) w
 have Hv : Hid (sheetD s = ([], s.data.toList, true)) := by show _ = _; rw [sheetD, if_pos hi]
 have e1 : decide (Lib.lastIndexByte s 33 < 0) = true := decide_eq_true hi
 clear hi
 generalize Lib.lastIndexByte s 33 = i at *
 go_enter func199, ntmps199
 go_wp2_with fail
 refine cL.mono ?_; rintro e w1 ⟨rfl, rfl⟩
 go_wp2
 go_ret3
 exact Ret.mk3 (by rw [Hv.out]; rfl) (by rw [Hv.out]; rfl) (by rw [Hv.out]; rfl) (Below.refl _ _)
theorem sheet_at (s : ByteArray) (k : Nat) (hi : Lib.lastIndexByte s 33 = k) : sheetD s = partD (s.extract 0 k).data.toList (s.extract (k + 1) s.size).data.toList := by
 rw [sheetD, hi, if_neg (by omega), ba_extract, ba_extract, List.drop_zero, List.take_of_length_le (l := s.data.toList) (i := s.size) (by rw [ba_size]; omega)]; rfl
theorem head_of (n : ByteArray) (h : 0 < n.size) : n.data.toList.head? = some n[0] := by
 have : n.data.toList ≠ [] := by
  intro e
  have hz := congrArg List.length e
  rw [ba_size] at hz; simp only [List.length_nil] at hz; omega
 rw [List.head?_eq_getElem?, List.getElem?_eq_getElem (by rw [ba_size]; exact h)]; rfl
theorem last_of (n : ByteArray) (m : Nat) (h : m < n.size) (hm : n.size = m + 1) : n.data.toList.getLast? = some n[m] := by
 rw [List.getLast?_eq_getElem?, ba_size, hm, Nat.add_sub_cancel, List.getElem?_eq_getElem (by rw [ba_size]; exact h)]; rfl
theorem sheet_plain (s : ByteArray) (k : Nat) (w : World) (hg : Good w) (hs : s.size <= 1000000) (hi : Lib.lastIndexByte s 33 = k) (hk : k < s.size) (n r : ByteArray) (hn : s.extract 0 k = n) (hr : s.extract (k + 1) s.size = r) (P1 : plainB n.data.toList = true) : Calls prog 199 #[.string s] w (Ret (.tuple #[strV (sheetD s).1, strV (sheetD s).2.1, .bool (sheetD s).2.2]) w) := by
 have cL := Tryz.strings_LastIndexByte s 33 (by omega) w
 rw [sheet_at s k hi, hn, hr]
 rw [hi] at cL
 have e1 : decide ((k : Int) < 0) = false := decide_eq_false (by omega)
 have hns : n.size <= 1000000 := by rw [<- hn, ByteArray.size_extract]; omega
 clear hi
 have Hv : Hid (partD n.data.toList r.data.toList = (n.data.toList, r.data.toList, nameB n.data.toList)) := by show _ = _; rw [partD, if_pos P1]
 go_enter func199, ntmps199
 go_wp2_with fail
 refine cL.mono ?_; rintro e w1 ⟨rfl, rfl⟩
 go_wp2_with fail
 go_quiet (fail)
 clear hn hr
 obtain ⟨w3, hw3, hb3⟩ := drewN_abs w1 nq
 rw [hw3]
 clear hw3 cL
 go_wp2_with fail
 refine (plain_any n w3 (by omega)).mono ?_; rintro e w4 ⟨rfl, hb4⟩
 have hb0 : Below w1.heap.size w1 w4 := after hb3 hb4
 clear hb3 hb4
 rw [P1]
 go_wp2_with fail
 refine (name_any n w4 (hg.below hb0) (by omega)).mono ?_; rintro e w5 ⟨rfl, hb5⟩
 replace hb0 : Below w1.heap.size w1 w5 := after hb0 hb5
 clear hb5 hg
 go_wp2
 go_ret3
 exact Ret.mk3 (by rw [Hv.out]; rfl) (by rw [Hv.out]; rfl) (by rw [Hv.out]; rfl) hb0
theorem sheet_short (s : ByteArray) (k : Nat) (w : World) (hg : Good w) (hs : s.size <= 1000000) (hi : Lib.lastIndexByte s 33 = k) (hk : k < s.size) (n r : ByteArray) (hn : s.extract 0 k = n) (hr : s.extract (k + 1) s.size = r) (P1 : plainB n.data.toList = false) (h3 : n.size < 3) : Calls prog 199 #[.string s] w (Ret (.tuple #[strV (sheetD s).1, strV (sheetD s).2.1, .bool (sheetD s).2.2]) w) := by
 have cL := Tryz.strings_LastIndexByte s 33 (by omega) w
 rw [sheet_at s k hi, hn, hr]
 rw [hi] at cL
 have e1 : decide ((k : Int) < 0) = false := decide_eq_false (by omega)
 have hns : n.size <= 1000000 := by rw [<- hn, ByteArray.size_extract]; omega
 clear hi
 have Hv : Hid (partD n.data.toList r.data.toList = ([], [], false)) := by show _ = _; rw [partD, if_neg (by rw [P1]; exact Bool.false_ne_true), if_pos (.inl (by rw [ba_size]; exact h3))]
 have e3 : decide ((n.size : Int) < 3) = true := decide_eq_true (by omega)
 go_enter func199, ntmps199
 go_wp2_with fail
 refine cL.mono ?_; rintro e w1 ⟨rfl, rfl⟩
 go_wp2_with fail
 go_quiet (fail)
 clear hn hr
 obtain ⟨w3, hw3, hb3⟩ := drewN_abs w1 nq
 rw [hw3]
 clear hw3 cL
 go_wp2_with fail
 refine (plain_any n w3 (by omega)).mono ?_; rintro e w4 ⟨rfl, hb4⟩
 have hb0 : Below w1.heap.size w1 w4 := after hb3 hb4
 clear hb3 hb4
 rw [P1]
 go_wp2
 go_ret3
 exact Ret.mk3 (by rw [Hv.out]; rfl) (by rw [Hv.out]; rfl) (by rw [Hv.out]; rfl) hb0
theorem sheet_first (s : ByteArray) (k : Nat) (w : World) (hg : Good w) (hs : s.size <= 1000000) (hi : Lib.lastIndexByte s 33 = k) (hk : k < s.size) (n r : ByteArray) (hn : s.extract 0 k = n) (hr : s.extract (k + 1) s.size = r) (P1 : plainB n.data.toList = false) (h3 : 3 <= n.size) (hf : n[0].toNat ≠ 39) : Calls prog 199 #[.string s] w (Ret (.tuple #[strV (sheetD s).1, strV (sheetD s).2.1, .bool (sheetD s).2.2]) w) := by
 have cL := Tryz.strings_LastIndexByte s 33 (by omega) w
 rw [sheet_at s k hi, hn, hr]
 rw [hi] at cL
 have e1 : decide ((k : Int) < 0) = false := decide_eq_false (by omega)
 have hns : n.size <= 1000000 := by rw [<- hn, ByteArray.size_extract]; omega
 clear hi
 have Hv : Hid (partD n.data.toList r.data.toList = ([], [], false)) := by
  show _ = _; rw [partD, if_neg (by rw [P1]; exact Bool.false_ne_true), if_pos (.inr (.inl (by rw [head_of n (by omega)]; intro e; injection e with e; apply hf; rw [e]; rfl)))]
 have e3 : decide ((n.size : Int) < 3) = false := decide_eq_false (by omega)
 have e4 : ((n[0].toNat : Int) == 39) = false := by rw [beq_eq_false_iff_ne]; omega
 have i0 : 0 < n.size := by omega
 clear hf
 go_enter func199, ntmps199
 go_wp2_with fail
 refine cL.mono ?_; rintro e w1 ⟨rfl, rfl⟩
 go_wp2_with fail
 go_quiet (fail)
 clear hn hr
 obtain ⟨w3, hw3, hb3⟩ := drewN_abs w1 nq
 rw [hw3]
 clear hw3 cL
 go_wp2_with fail
 refine (plain_any n w3 (by omega)).mono ?_; rintro e w4 ⟨rfl, hb4⟩
 have hb0 : Below w1.heap.size w1 w4 := after hb3 hb4
 clear hb3 hb4
 rw [P1]
 go_wp2
 go_ret3
 exact Ret.mk3 (by rw [Hv.out]; rfl) (by rw [Hv.out]; rfl) (by rw [Hv.out]; rfl) hb0
theorem sheet_last (s : ByteArray) (k : Nat) (w : World) (hg : Good w) (hs : s.size <= 1000000) (hi : Lib.lastIndexByte s 33 = k) (hk : k < s.size) (n r : ByteArray) (hn : s.extract 0 k = n) (hr : s.extract (k + 1) s.size = r) (P1 : plainB n.data.toList = false) (m : Nat) (hm : n.size = m + 1) (h3 : 2 <= m) (hf : n[0].toNat = 39) (hl : n[m].toNat ≠ 39) : Calls prog 199 #[.string s] w (Ret (.tuple #[strV (sheetD s).1, strV (sheetD s).2.1, .bool (sheetD s).2.2]) w) := by
 have cL := Tryz.strings_LastIndexByte s 33 (by omega) w
 rw [sheet_at s k hi, hn, hr]
 rw [hi] at cL
 have e1 : decide ((k : Int) < 0) = false := decide_eq_false (by omega)
 have hns : n.size <= 1000000 := by rw [<- hn, ByteArray.size_extract]; omega
 clear hi
 have Hv : Hid (partD n.data.toList r.data.toList = ([], [], false)) := by
  show _ = _; rw [partD, if_neg (by rw [P1]; exact Bool.false_ne_true), if_pos (.inr (.inr (by rw [last_of n m (by omega) hm]; intro e; injection e with e; apply hl; rw [e]; rfl)))]
 have e3 : decide ((m : Int) + 1 < 3) = false := decide_eq_false (by omega)
 have e4 : ((n[0].toNat : Int) != 39) = false := by rw [bne_eq_false_iff_eq]; omega
 have e5 : ((n[m].toNat : Int) != 39) = true := by rw [bne_iff_ne]; omega
 have e6 : decide ((m : Int) < (m : Int) + 1) = true := decide_eq_true (by omega)
 have i0 : 0 < n.size := by omega
 have i1 : m < n.size := by omega
 have i2 : (m : Int) < (m : Int) + 1 := by omega
 clear hf hl
 go_enter func199, ntmps199
 go_wp2_with fail
 refine cL.mono ?_; rintro e w1 ⟨rfl, rfl⟩
 go_wp2_with fail
 go_quiet (fail)
 clear hn hr
 obtain ⟨w3, hw3, hb3⟩ := drewN_abs w1 nq
 rw [hw3]
 clear hw3 cL
 go_wp2_with fail
 refine (plain_any n w3 (by omega)).mono ?_; rintro e w4 ⟨rfl, hb4⟩
 have hb0 : Below w1.heap.size w1 w4 := after hb3 hb4
 clear hb3 hb4
 rw [P1]
 go_wp2
 go_ret3
 exact Ret.mk3 (by rw [Hv.out]; rfl) (by rw [Hv.out]; rfl) (by rw [Hv.out]; rfl) hb0
theorem sheet_quoted (s : ByteArray) (k : Nat) (w : World) (hg : Good w) (hs : s.size <= 1000000) (hi : Lib.lastIndexByte s 33 = k) (hk : k < s.size) (n r : ByteArray) (hn : s.extract 0 k = n) (hr : s.extract (k + 1) s.size = r) (P1 : plainB n.data.toList = false) (m : Nat) (hm : n.size = m + 1) (h3 : 2 <= m) (hf : n[0].toNat = 39) (hl : n[m].toNat = 39) (q : ByteArray) (hq : n.extract 1 m = q) (B : Bool) (C1 : Lib.contains (non q.data.toList) [39] = B) : Calls prog 199 #[.string s] w (Ret (.tuple #[strV (sheetD s).1, strV (sheetD s).2.1, .bool (sheetD s).2.2]) w) := by
 have cL := Tryz.strings_LastIndexByte s 33 (by omega) w
 rw [sheet_at s k hi, hn, hr]
 rw [hi] at cL
 have e1 : decide ((k : Int) < 0) = false := decide_eq_false (by omega)
 have hns : n.size <= 1000000 := by rw [<- hn, ByteArray.size_extract]; omega
 clear hi
 have Hv : Hid (partD n.data.toList r.data.toList = (und q.data.toList, r.data.toList, !B && nameB (und q.data.toList))) := by
  show _ = _
  rw [partD, if_neg (by rw [P1]; exact Bool.false_ne_true), if_neg (by rw [last_of n m (by omega) hm, head_of n (by omega), ba_size]; rintro (h | h | h); omega; exact h (congrArg some (UInt8.toNat_inj.1 hf)); exact h (congrArg some (UInt8.toNat_inj.1 hl))), <- C1, <- hq, ba_extract, ba_size, hm]; rfl
 have hqs : q.size <= 1000000 := by rw [<- hq, ByteArray.size_extract]; omega
 have e3 : decide ((m : Int) + 1 < 3) = false := decide_eq_false (by omega)
 have e4 : ((n[0].toNat : Int) != 39) = false := by rw [bne_eq_false_iff_eq]; omega
 have e5 : ((n[m].toNat : Int) != 39) = false := by rw [bne_eq_false_iff_eq]; omega
 have e6 : decide ((m : Int) < (m : Int) + 1) = true := decide_eq_true (by omega)
 have i0 : 0 < n.size := by omega
 have i1 : m < n.size := by omega
 have i2 : (m : Int) < (m : Int) + 1 := by omega
 have hcb : Lib.countB q ⟨#[39, 39]⟩ <= q.size := Lib.countB_le ⟨#[39, 39]⟩ (by decide) q.size q (Nat.le_refl _)
 have cA1 : ∀ W, Below w.heap.size w W -> Calls prog 118 #[.string q, .string ⟨#[39, 39]⟩, .string ⟨#[]⟩] W (Ret (.string ⟨(Lib.replaceAll q.data.toList [39, 39] []).toArray⟩) W) := fun W hb => Tryz.strings_ReplaceAll_shaped q ⟨#[39, 39]⟩ ⟨#[]⟩ W (hg.below hb).shaped (by omega) (by decide) (by rw [show (ByteArray.mk #[]).size = 0 from rfl]; omega)
 have cA2 : ∀ W, Below w.heap.size w W -> Calls prog 118 #[.string q, .string ⟨#[39, 39]⟩, .string ⟨#[39]⟩] W (Ret (.string ⟨(Lib.replaceAll q.data.toList [39, 39] [39]).toArray⟩) W) := fun W hb => Tryz.strings_ReplaceAll_shaped q ⟨#[39, 39]⟩ ⟨#[39]⟩ W (hg.below hb).shaped (by omega) (by decide) (by rw [show (ByteArray.mk #[39]).size = 1 from rfl]; omega)
 rw [repl_non] at cA1
 rw [repl_und] at cA2
 have hul := und_len q.data.toList
 have hnl := non_len q.data.toList
 rw [ba_size] at hul hnl
 have cC : ∀ W, Below w.heap.size w W -> Calls prog 138 #[.string ⟨(non q.data.toList).toArray⟩, .string ⟨#[39]⟩] W (Still (.bool B) W) := fun W hb => (Tryz.strings_Contains_shaped ⟨(non q.data.toList).toArray⟩ ⟨#[39]⟩ W (hg.below hb).shaped (by show (non q.data.toList).toArray.size < _; rw [List.size_toArray]; omega)).mono fun e w' h => ⟨by rw [<- C1]; exact h.1, h.2.symm⟩
 have cN : ∀ W, Below w.heap.size w W -> Calls prog 107 #[.string ⟨(und q.data.toList).toArray⟩] W (Ret (.bool (nameB (und q.data.toList))) W) := fun W hb => name_any ⟨(und q.data.toList).toArray⟩ W (hg.below hb) (by show (und q.data.toList).toArray.size <= _; rw [List.size_toArray]; omega)
 clear hf hl hcb C1
 go_enter func199, ntmps199
 go_wp2_with fail
 refine cL.mono ?_; rintro e w1 ⟨rfl, rfl⟩
 go_wp2_with fail
 go_quiet (fail)
 clear hn hr hg
 obtain ⟨w3, hw3, hb3⟩ := drewN_abs w1 nq
 rw [hw3]
 clear hw3 cL
 go_wp2_with fail
 refine (plain_any n w3 (by omega)).mono ?_; rintro e w4 ⟨rfl, hb4⟩
 have hb0 : Below w1.heap.size w1 w4 := after hb3 hb4
 clear hb3 hb4
 rw [P1]
 go_wp2_with fail
 refine (cA1 w4 hb0).mono ?_; rintro e w5 ⟨rfl, hb5⟩
 replace hb0 : Below w1.heap.size w1 w5 := after hb0 hb5
 clear hb5 cA1
 go_wp2_with fail
 refine (cA2 w5 hb0).mono ?_; rintro e w6 ⟨rfl, hb6⟩
 replace hb0 : Below w1.heap.size w1 w6 := after hb0 hb6
 clear hb6 cA2
 go_wp2_with fail
 refine (cC w6 hb0).mono ?_; rintro e w7 ⟨rfl, rfl⟩
 clear cC
 cases B
 ·go_wp2_with fail
  refine (cN w6 hb0).mono ?_; rintro e w7 ⟨rfl, hb7⟩
  replace hb0 : Below w1.heap.size w1 w7 := after hb0 hb7
  clear hb7
  go_wp2
  go_ret3
  exact Ret.mk3 (by rw [Hv.out]; rfl) (by rw [Hv.out]; rfl) (by rw [Hv.out]; rfl) hb0
 ·go_wp2
  go_ret3
  exact Ret.mk3 (by rw [Hv.out]; rfl) (by rw [Hv.out]; rfl) (by rw [Hv.out]; rfl) hb0
theorem sheet_any (s : ByteArray) (w : World) (hg : Good w) (hs : s.size <= 1000000) : Calls prog 199 #[.string s] w (Ret (.tuple #[strV (sheetD s).1, strV (sheetD s).2.1, .bool (sheetD s).2.2]) w) := by
 rcases Lib.lastIndexByte_spec s 33 with ⟨e, _⟩ | ⟨k, hk, hi, _, _⟩
 ·exact sheet_none s w hs (by rw [e]; decide)
 ·by_cases P : plainB (s.extract 0 k).data.toList = true
  ·exact sheet_plain s k w hg hs hi hk _ _ rfl rfl P
  rw [Bool.not_eq_true] at P
  by_cases h3 : (s.extract 0 k).size < 3
  ·exact sheet_short s k w hg hs hi hk _ _ rfl rfl P h3
  by_cases hf : (s.extract 0 k)[0].toNat = 39
  ·by_cases hl : (s.extract 0 k)[(s.extract 0 k).size - 1].toNat = 39
   ·exact sheet_quoted s k w hg hs hi hk _ _ rfl rfl P ((s.extract 0 k).size - 1) (by omega) (by omega) hf hl _ rfl _ rfl
   ·exact sheet_last s k w hg hs hi hk _ _ rfl rfl P ((s.extract 0 k).size - 1) (by omega) (by omega) hf hl
  ·exact sheet_first s k w hg hs hi hk _ _ rfl rfl P (by omega) hf
end Go.Proofs.YtlpgigdegnbkmaaGreatDoor
namespace Tab
open Go.Lib
def rowOf (D : Bs) : Option Int := match atoiAll D with
 | .ok v => if itoa v = D then some v else none
 | _ => none
def readOf (n : Bs) (is fc fr : Bool) (L D r4 : Bs) : RefD × Int :=
 match is, colOf L, rowOf D with
 | true, some c, some v => if r4 = [] /\ RefD.right ⟨⟨n.toArray⟩, v - 1, c, fr, fc, false⟩ = true then (⟨⟨n.toArray⟩, v - 1, c, fr, fc, false⟩, 0) else (RefD.zero, 20)
 | _, _, _ => (RefD.zero, 20)
def RefD.gone : RefD := ⟨⟨#[]⟩, 0, 0, false, false, true⟩
def unD (l : Bs) : Bs := trimPrefix l [36]
def restD (rest : Bs) : Bs := (unD rest).dropWhile isLetterB
def readRest (n rest : Bs) (is : Bool) : RefD × Int :=
 readOf n is (hasPrefix rest [36]) (hasPrefix (restD rest) [36]) ((unD rest).takeWhile isLetterB) ((unD (restD rest)).takeWhile isDigitB) ((unD (restD rest)).dropWhile isDigitB)
def readD (s : ByteArray) : RefD × Int :=
 if s.data.toList = [35, 82, 69, 70, 33] then (RefD.gone, 0) else readRest (sheetD s).1 (sheetD s).2.1 (sheetD s).2.2
theorem readOf_is (n : Bs) (fc fr : Bool) (L D r4 : Bs) : readOf n false fc fr L D r4 = (RefD.zero, 20) := by unfold readOf; rfl
theorem readOf_col (n : Bs) (is fc fr : Bool) (L D r4 : Bs) (h : colOf L = none) : readOf n is fc fr L D r4 = (RefD.zero, 20) := by unfold readOf; rw [h]; cases is <;> rfl
theorem readOf_row (n : Bs) (is fc fr : Bool) (L D r4 : Bs) (h : rowOf D = none) : readOf n is fc fr L D r4 = (RefD.zero, 20) := by unfold readOf; rw [h]; cases is <;> cases colOf L <;> rfl
theorem readOf_more (n : Bs) (is fc fr : Bool) (L D r4 : Bs) (h : r4 ≠ []) : readOf n is fc fr L D r4 = (RefD.zero, 20) := by
 unfold readOf
 cases is <;> cases colOf L <;> cases rowOf D <;> first | rfl | exact if_neg (fun e => h e.1)
theorem readOf_yes (n : Bs) (fc fr : Bool) (L D : Bs) (c : Nat) (v : Int) (hc : colOf L = some c) (hv : rowOf D = some v) : readOf n true fc fr L D [] = if RefD.right ⟨⟨n.toArray⟩, v - 1, c, fr, fc, false⟩ = true then (⟨⟨n.toArray⟩, v - 1, c, fr, fc, false⟩, 0) else (RefD.zero, 20) := by
 unfold readOf; rw [hc, hv]; simp
theorem rowOf_bad {D : Bs} (h : ∀ v, atoiAll D ≠ .ok v) : rowOf D = none := by
 unfold rowOf; rcases e : atoiAll D with v | _ | _
 ·exact absurd e (h v)
 ·rfl
 ·rfl
theorem rowOf_odd {D : Bs} {v : Int} (h : atoiAll D = .ok v) (hn : itoa v ≠ D) : rowOf D = none := by unfold rowOf; rw [h]; exact if_neg hn
theorem rowOf_ok {D : Bs} {v : Int} (h : atoiAll D = .ok v) (hn : itoa v = D) : rowOf D = some v := by unfold rowOf; rw [h]; exact if_pos hn
theorem atoi_digits {D : Bs} {v : Int} (hD : D.all isDigitB = true) (h : atoiAll D = .ok v) : 0 <= v /\ v <= 9223372036854775807 := by
 cases D with
 | nil => cases h
 | cons c r =>
  have hc : 48 <= c.toNat /\ c.toNat <= 57 := by
   rw [List.all_cons, Bool.and_eq_true] at hD
   have := hD.1; unfold isDigitB at this; exact of_decide_eq_true this
  unfold atoiAll at h
  dsimp only at h
  rw [if_neg (by omega)] at h
  split at h
  ·cases h
  ·cases h
  ·split at h
   ·cases h
   ·split at h
    ·cases h
    ·rw [if_neg (by omega)] at h; injection h with h; omega
theorem tw_all (P : UInt8 -> Bool) : ∀ l : Bs, (l.takeWhile P).all P = true
 | [] => rfl
 | b :: l => by
  rw [List.takeWhile_cons]
  cases h : P b
  ·rfl
  ·rw [if_pos rfl, List.all_cons, h, tw_all P l]; rfl
theorem tw_len (P : UInt8 -> Bool) (l : Bs) : (l.takeWhile P).length <= l.length := (List.takeWhile_sublist P).length_le
theorem dw_len (P : UInt8 -> Bool) (l : Bs) : (l.dropWhile P).length <= l.length := (List.dropWhile_sublist P).length_le
theorem unD_len (l : Bs) : (unD l).length <= l.length := by unfold unD trimPrefix; split <;> simp
theorem part_len (n rest : Bs) : (partD n rest).1.length <= n.length /\ (partD n rest).2.1.length <= rest.length := by
 unfold partD
 split
 ·exact ⟨Nat.le_refl _, Nat.le_refl _⟩
 ·split
  ·exact ⟨by simp, by simp⟩
  ·refine ⟨Nat.le_trans (und_len _) ?_, Nat.le_refl _⟩
   simp; omega
theorem sheet_len (s : ByteArray) : (sheetD s).1.length <= s.size /\ (sheetD s).2.1.length <= s.size := by
 have hs : s.data.toList.length = s.size := rfl
 unfold sheetD
 split
 ·exact ⟨by simp, Nat.le_of_eq hs⟩
 ·have := part_len (s.data.toList.take (lastIndexByte s 33).toNat) (s.data.toList.drop ((lastIndexByte s 33).toNat + 1))
  rw [List.length_take, List.length_drop] at this
  omega
end Tab
namespace Go.Proofs.YtlpgigdegnbkmaaGreatDoor
open Go.RowKit Tab Tryz
theorem Ret.area {a : AreaD} {t : Bool} {s r c n m : Int} {u : Bool} {w w' : World} (h : a = ⟨s, r, c, n, m⟩ /\ t = u) (hb : Below w.heap.size w w') : Ret (.tuple #[areaV a, .bool t]) w (.returned (.tuple #[.agg #[.int .i64 s, .int .i64 r, .int .i64 c, .int .i64 n, .int .i64 m], .bool u])) w' := by
 obtain ⟨rfl, rfl⟩ := h
 exact ⟨rfl, hb⟩
def refV (r : RefD) : Value := .agg #[.string r.s, .int .i64 r.row, .int .i64 r.col, .bool r.fr, .bool r.fc, .bool r.bad]
theorem right_range {r : RefD} (h : r.right = true) : 0 <= r.row /\ r.row < 200 /\ 0 <= r.col /\ r.col < 52 := by
 obtain ⟨s, row, col, fr, fc, bad⟩ := r
 unfold RefD.right rightB at h
 cases bad
 ·simp at h; show 0 <= row /\ row < 200 /\ 0 <= col /\ col < 52; omega
 ·simp at h; obtain ⟨⟨⟨⟨_, h1⟩, h2⟩, _⟩, _⟩ := h; show 0 <= row /\ row < 200 /\ 0 <= col /\ col < 52; omega
end Go.Proofs.YtlpgigdegnbkmaaGreatDoor
namespace Tab
open Go.Lib
def fixD (b : Bool) : Bs := if b then [36] else []
def shortD (r : RefD) : Bs := fixD r.fc ++ colL r.col ++ fixD r.fr ++ itoa (r.row + 1)
def longD (r : RefD) : Bs :=
 if r.s.data.toList.isEmpty then shortD r
 else if plainB r.s.data.toList then r.s.data.toList ++ [33] ++ shortD r
 else [39] ++ replaceAll r.s.data.toList [39] [39, 39] ++ [39] ++ [33] ++ shortD r
def textD (r : RefD) : Bs × Int := if r.right then (if r.bad then [35, 82, 69, 70, 33] else longD r, 0) else ([], 20)
theorem textD_no {r : RefD} (h : r.right = false) : textD r = ([], 20) := by rw [textD, h]; rfl
theorem textD_gone {r : RefD} (h : r.right = true) (hb : r.bad = true) : textD r = ([35, 82, 69, 70, 33], 0) := by rw [textD, h, hb]; rfl
theorem textD_yes {r : RefD} (h : r.right = true) (hb : r.bad = false) : textD r = (longD r, 0) := by rw [textD, h, hb]; rfl
end Tab
namespace Tab
open Go Go.RowKit
theorem same_value {P : Program} {f : FuncId} {args : Array Value} {w : World} {v v' : Value} {A B : World -> Prop}
  (h : Calls P f args w fun e w' => e = .returned v /\ A w') (h' : Calls P f args w fun e w' => e = .returned v' /\ B w') (hi : P.inits.idxOf? f = none) : v = v' := by
 obtain ⟨n, u, w1, _, _, e1, r1⟩ := Calls.done_lone (R := fun x _ => x = v) (h.mono fun e w' ⟨he, _⟩ => by rw [he]) hi
 obtain ⟨m, u', w2, _, _, e2, r2⟩ := Calls.done_lone (R := fun x _ => x = v') (h'.mono fun e w' ⟨he, _⟩ => by rw [he]) hi
 have a := runN_ended e1 (m + 1)
 have b := runN_ended e2 (n + 1)
 rw [Nat.add_comm, a] at b
 injection b with ho _
 injection ho with hv
 rw [<- r1, <- r2, hv]
abbrev XT := Nat -> Option (Nat × Obj)
def XT.set (X : XT) (k b : Nat) (O : Obj) : XT := fun i => if i = k then some (b, O) else X i
structure Yd where
 val : Nat -> Value
 obj : Option Obj
def Yd.out (y : Yd) (b : Nat) : Value := match y.obj with | none => y.val 0 | some _ => y.val b
def Yd.lay (y : Yd) (k b : Nat) (X : XT) : XT := match y.obj with | none => X | some O => X.set k b O
def GCall (P : Program) (f : FuncId) (args : Array Value) (w : World) (v : Value) : Prop :=
 P.inits.idxOf? f = none /\ Calls P f args w fun e w'' => e = .returned v /\ Below w.heap.size w w''
def mUpon (P : Program) (w : World) (y : Yd) : Result Next -> Prop
 | .ok (.value u) w' => match y.obj with | none => w' = w /\ u = y.val 0 | some O => w' = w.alloc O /\ u = y.val w.heap.size
 | .ok .skip w' => w' = w /\ y.obj = none /\ y.val 0 = undef
 | .ok (.enter f args) w' => w' = w /\ y.obj = none /\ GCall P f args w (y.val 0)
 | _ => False
section
variable {P : Program} {ops : Array Oper} {md : Region.Mode} {w0 : World} {β : Nat -> Nat}
def In (md : Region.Mode) (w0 : World) (o : Oper) (X : XT) (w : World) : Prop :=
 Below w0.heap.size w0 w /\ ∀ e ∈ o.after, Region.binds md e = true -> ∀ b O, X e.on = some (b, O) -> w.heap[b]? = some O
def mYields (P : Program) (md : Region.Mode) (w0 : World) (o : Oper) (a : Act) (X : XT) (y : Yd) : Prop := ∀ w, In md w0 o X w -> mUpon P w y ((execOp a.eval o).run P w)
def mOp (P : Program) (md : Region.Mode) (ops : Array Oper) (w0 : World) (β : Nat -> Nat) (i : Nat) (K : Act -> XT -> Prop) (a : Act) (X : XT) : Prop :=
 match ops[i]? with
 | none => K a X
 | some o => if Region.wanted o (yielded ops a.tmps) then ∃ y, mYields P md w0 o a X y /\ K (a.put o.dst (y.out (β i))) (y.lay i (β i) X) else K (a.put o.dst undef) X
def wpM (P : Program) (md : Region.Mode) (ops : Array Oper) (w0 : World) (β : Nat -> Nat) (Q : Act -> XT -> Prop) : List Oper -> Nat -> Act -> XT -> Prop
 | [], _, a, X => Q a X
 | o :: rest, k, a, X => if Region.wanted o (yielded ops a.tmps) then ∃ y, mYields P md w0 o a X y /\ wpM P md ops w0 β Q rest (k + 1) (a.put o.dst (y.out (β k))) (y.lay k (β k) X)
   else wpM P md ops w0 β Q rest (k + 1) (a.put o.dst undef) X
def HeadM (P : Program) (md : Region.Mode) (ops : Array Oper) (w0 : World) (β : Nat -> Nat) (n : Nat) (L : Array Bool -> Act -> XT -> Prop) : Nat -> Array Bool -> Act -> XT -> Prop
 | 0, done, a, X => L done a X
 | f + 1, done, a, X => Region.ready md ops done ≠ [] /\ ∀ i ∈ Region.ready md ops done, i < n /\ mOp P md ops w0 β i (HeadM P md ops w0 β n L f (done.setIfInBounds i true)) a X
theorem mOp.mono {i : Nat} {a : Act} {X : XT} {K K' : Act -> XT -> Prop} (h : ∀ a X, K a X -> K' a X) (hh : mOp P md ops w0 β i K a X) : mOp P md ops w0 β i K' a X := by
 unfold mOp at *
 split
 ·rename_i e; rw [e] at hh; exact h _ _ hh
 ·rename_i o e
  rw [e] at hh
  dsimp only at hh
  split
  ·rename_i hw; rw [if_pos hw] at hh; obtain ⟨y, h1, h2⟩ := hh; exact ⟨y, h1, h _ _ h2⟩
  ·rename_i hw; rw [if_neg hw] at hh; exact h _ _ hh
def YM (P : Program) (md : Region.Mode) (ops : Array Oper) (w0 : World) (o : Oper) (y : Yd) (a : Act) (X : XT) : Prop :=
 (Region.wanted o (yielded ops a.tmps) = true /\ mYields P md w0 o a X y) \/ (Region.wanted o (yielded ops a.tmps) = false /\ y = ⟨fun _ => undef, none⟩)
theorem YM.op {i : Nat} {o : Oper} {y : Yd} {a : Act} {X : XT} {K : Act -> XT -> Prop} (ho : ops[i]? = some o) (hy : YM P md ops w0 o y a X) (h : K (a.put o.dst (y.out (β i))) (y.lay i (β i) X)) : mOp P md ops w0 β i K a X := by
 unfold mOp
 rw [ho]
 dsimp only
 rcases hy with ⟨hw, hm⟩ | ⟨hw, e⟩
 ·rw [if_pos hw]; exact ⟨y, hm, h⟩
 ·rw [if_neg (by rw [hw]; exact Bool.false_ne_true)]; rw [e] at h; exact h
theorem YM.of_op {i : Nat} {o : Oper} {a : Act} {X : XT} {K : Act -> XT -> Prop} (ho : ops[i]? = some o) (h : mOp P md ops w0 β i K a X) : ∃ y, YM P md ops w0 o y a X /\ K (a.put o.dst (y.out (β i))) (y.lay i (β i) X) := by
 unfold mOp at h
 rw [ho] at h
 dsimp only at h
 by_cases hw : Region.wanted o (yielded ops a.tmps) = true
 ·rw [if_pos hw] at h; obtain ⟨y, h1, h2⟩ := h; exact ⟨y, .inl ⟨hw, h1⟩, h2⟩
 ·rw [if_neg hw] at h; exact ⟨⟨fun _ => undef, none⟩, .inr ⟨by simpa using hw, rfl⟩, h⟩
theorem YM.moved {o : Oper} {y : Yd} {a a' : Act} {X X' : XT} (hy : YM P md ops w0 o y a X) (he : execOp a'.eval o = execOp a.eval o) (hw : Region.wanted o (yielded ops a'.tmps) = Region.wanted o (yielded ops a.tmps))
  (hX : ∀ e ∈ o.after, Region.binds md e = true -> X' e.on = X e.on) : YM P md ops w0 o y a' X' := by
 unfold YM mYields at *
 rw [he, hw]
 refine hy.imp (fun ⟨h1, h2⟩ => ⟨h1, fun w hin => h2 w ⟨hin.1, fun e hm hb b O hx => hin.2 e hm hb b O (by rw [hX e hm hb]; exact hx)⟩⟩) id
theorem lay_other (y : Yd) {k b j : Nat} (X : XT) (h : j ≠ k) : y.lay k b X j = X j := by
 obtain ⟨v, o⟩ := y
 cases o with
 | none => rfl
 | some O => show (if j = k then _ else X j) = X j; rw [if_neg h]
theorem lay_comm (y z : Yd) {i j b c : Nat} (X : XT) (h : i ≠ j) : z.lay j c (y.lay i b X) = y.lay i b (z.lay j c X) := by
 obtain ⟨v, o⟩ := y
 obtain ⟨u, p⟩ := z
 cases o <;> cases p <;> first | rfl | skip
 funext k
 show (if k = j then _ else if k = i then _ else X k) = (if k = i then _ else if k = j then _ else X k)
 by_cases hk : k = j
 ·rw [if_pos hk, if_neg (fun e => h (e.symm.trans hk)), if_pos hk]
 ·rw [if_neg hk, if_neg hk]
theorem mOp.put {i j : Nat} {o x : Oper} {y : Yd} {b : Nat} (hij : i ≠ j) (hx : ops[j]? = some x) (hap : o.apart ops x = true) (ho : ∀ cs b, o.op ≠ .select cs b) (hxs : ∀ cs b, x.op ≠ .select cs b)
  (wi : ∀ e ∈ o.after, Region.binds md e = true -> e.on ≠ j) (wj : ∀ e ∈ x.after, Region.binds md e = true -> e.on ≠ i) {K : Act -> XT -> Prop} {a : Act} {X : XT}
  (hy : YM P md ops w0 o y a X) (h : mOp P md ops w0 β j K (a.put o.dst (y.out b)) (y.lay i b X)) :
  mOp P md ops w0 β j (fun a' X' => YM P md ops w0 o y a' X' /\ K (a'.put o.dst (y.out b)) (y.lay i b X')) a X := by
 obtain ⟨h1, h2, h3⟩ := Oper.apart_spec hap
 obtain ⟨z, hz, hK⟩ := YM.of_op hx h
 have hz' : YM P md ops w0 x z a X := hz.moved (execOp_put x hxs a o.dst _ h1).symm (wanted_put x a o.dst _ h1).symm (fun e he hb => (lay_other y X (wj e he hb)).symm)
 refine hz'.op hx ⟨?_, ?_⟩
 ·exact hy.moved (execOp_put o ho a x.dst _ h3) (wanted_put o a x.dst _ h3) (fun e he hb => lay_other z X (wi e he hb))
 ·rw [<- Act.put_comm a _ _ h2, <- lay_comm y z X hij]; exact hK
theorem HeadM.early {n i : Nat} {o : Oper} {y : Yd} {L : Array Bool -> Act -> XT -> Prop} (ho : ops[i]? = some o) (nosel : ∀ (j : Nat) (x : Oper) cs b, ops[j]? = some x -> x.op ≠ .select cs b)
  (hs : Region.sinkB md ops n = true) (hc : Region.chainB md ops n = true) (hn : n < ops.size) (hin : i < n) (hL : ∀ done a X, L done a X -> ∀ j ∈ Region.ready md ops done, n <= j) :
  ∀ (f : Nat) (done : Array Bool) (a : Act) (X : XT), HeadInv md ops n done ->
   (∀ j x, ops[j]? = some x -> j ≠ i -> done.getD j true = false -> (∀ e ∈ x.after, Region.binds md e = true -> e.on ≠ i) -> o.apart ops x = true) ->
   i ∈ Region.ready md ops done -> YM P md ops w0 o y a X -> HeadM P md ops w0 β n L f (done.setIfInBounds i true) (a.put o.dst (y.out (β i))) (y.lay i (β i) X) -> HeadM P md ops w0 β n L (f + 1) done a X := by
 intro f
 induction f with
 | zero =>
  intro done a X inv _ hr hy H
  have hun := (mem_ready.1 hr).1
  refine ⟨List.ne_nil_of_mem hr, fun j hj => ?_⟩
  have hjn : j < n := Nat.lt_of_not_le fun h => tail_waits hs hc hn inv _ i rfl hin hun j h hj
  refine ⟨hjn, ?_⟩
  by_cases e : j = i
  ·cases e; exact hy.op ho H
  ·exact absurd (hL _ _ _ H j (ready_mono hj e)) (by omega)
 | succ f ih =>
  intro done a X inv free hr hy H
  obtain ⟨hun, o', ho', hall'⟩ := mem_ready.1 hr
  have eo : o' = o := Option.some.inj (ho'.symm.trans ho)
  subst eo
  refine ⟨List.ne_nil_of_mem hr, fun j hj => ?_⟩
  have hjn : j < n := Nat.lt_of_not_le fun h => tail_waits hs hc hn inv _ i rfl hin hun j h hj
  refine ⟨hjn, ?_⟩
  by_cases e : j = i
  ·cases e; exact hy.op ho H
  obtain ⟨hju, x, hx, hall⟩ := mem_ready.1 hj
  have waits : ∀ e ∈ x.after, Region.binds md e = true -> e.on ≠ i := by
   intro e he hb heq
   have := hall e he hb
   rw [heq, getD_both hun] at this
   cases this
  have waits' : ∀ e ∈ o'.after, Region.binds md e = true -> e.on ≠ j := by
   intro e he hb heq
   have := hall' e he hb
   rw [heq, getD_both hju] at this
   cases this
  have moved := mOp.put (Ne.symm e) hx (free j x hx e hju waits) (fun cs b => nosel i o' cs b ho) (fun cs b => nosel j x cs b hx) waits' waits hy (H.2 j (ready_mono hj e)).2
  refine mOp.mono (fun a' X' k => ?_) moved
  refine ih _ a' X' (inv.set hj hjn) (fun m y' hm hmi hmu hw => ?_) (ready_mono hr (Ne.symm e)) k.1 ?_
  ·refine free m y' hm hmi ?_ hw
   by_cases hjm : j = m
   ·cases hjm; exact hju
   ·rwa [getD_set_ne true hjm] at hmu
  ·rw [Array.setIfInBounds_comm _ _ e]; exact k.2
theorem HeadM.lex {n g : Nat} {K : Act -> XT -> Prop} (nosel : Region.noSelect ops = true) (hs : Region.sinkB md ops n = true) (hc : Region.chainB md ops n = true) (hn : n < ops.size) :
  ∀ (l : List Oper) (k : Nat) (done : Array Bool) (a : Act) (X : XT), (∀ j, j < l.length -> l[j]? = ops[k + j]?) -> k + l.length = n -> HeadInv md ops n done ->
   Region.lexHead md ops g l.length k done = true -> wpM P md ops w0 β K l k a X -> HeadM P md ops w0 β n (fun d b Y => Region.seqB md ops g n d = true /\ K b Y) l.length done a X := by
 intro l
 induction l with
 | nil =>
  intro k done a X _ hk _ hB h
  have e : k = n := by simpa using hk
  rw [e] at hB
  exact ⟨by simpa [Region.lexHead] using hB, h⟩
 | cons o l ih =>
  intro k done a X hl hk inv hB h
  have ho : ops[k]? = some o := by have := hl 0 (by simp); simpa using this.symm
  simp only [List.length_cons, Region.lexHead, Bool.and_eq_true] at hB
  simp only [List.length_cons] at hk
  have hr : k ∈ Region.ready md ops done := by simpa using hB.1.1
  have hq : mOp P md ops w0 β k (wpM P md ops w0 β K l (k + 1)) a X := by unfold mOp; rw [ho]; exact h
  obtain ⟨y, hy, hK⟩ := YM.of_op ho hq
  refine HeadM.early ho (Region.noSelect_spec nosel) hs hc hn (by omega) (fun d b Y hd => seqB_ready hd.1) l.length done a X inv (Region.free_spec ho hB.1.2) hr hy ?_
  refine ih (k + 1) _ _ _ (fun j hj => ?_) (by omega) (inv.set hr (by omega)) hB.2 hK
  have := hl (j + 1) (by simp; omega)
  rw [List.getElem?_cons_succ] at this
  rw [this]; congr 1; omega
structure St (w0 : World) (β : Nat -> Nat) (done : Array Bool) (X : XT) (w : World) : Prop where
 below : Below w0.heap.size w0 w
 lies : ∀ k b O, X k = some (b, O) -> done.getD k false = true /\ b = β k /\ w0.heap.size <= b /\ w.heap[b]? = some O
 apart : ∀ k k' b O O', X k = some (b, O) -> X k' = some (b, O') -> k = k'
theorem not_alloc {w : World} {O : Obj} (h : w = w.alloc O) : False := by
 have := congrArg (fun x : World => x.heap.size) h
 simp at this
theorem alloc_inj {w : World} {O O' : Obj} (h : w.alloc O = w.alloc O') : O = O' := by
 have : (w.heap.push O)[w.heap.size]? = (w.heap.push O')[w.heap.size]? := congrArg (fun x : World => x.heap[w.heap.size]?) h
 rw [Array.getElem?_push_size, Array.getElem?_push_size] at this
 exact Option.some.inj this
theorem HeadM.any {n g : Nat} {L : (Nat -> Nat) -> Array Bool -> Act -> XT -> Prop} {R : Exit -> Act -> World -> Prop} (hnn : n <= ops.size)
    (hL : ∀ β done a X w, St w0 β done X w -> (∀ β', (∀ k, done.getD k false = true -> β k = β' k) -> L β' done a X) -> wpAny P md ops R g done a w) :
    ∀ (f : Nat) (β : Nat -> Nat) (done : Array Bool) (a : Act) (X : XT) (w : World), done.size = ops.size -> St w0 β done X w ->
      (∀ β', (∀ k, done.getD k false = true -> β k = β' k) -> HeadM P md ops w0 β' n (L β') f done a X) -> wpAny P md ops R (f + g) done a w := by
  intro f
  induction f with
  | zero => intro β done a X w _ st h; rw [Nat.zero_add]; exact hL β _ _ X _ st h
  | succ f ih =>
    intro β done a X w hsz st h
    rw [Nat.add_right_comm]
    have h0 := h β (fun _ _ => rfl)
    refine ⟨fun e => absurd e h0.1, fun i hi => ?_⟩
    have hin := (h0.2 i hi).1
    obtain ⟨hun, o, ho, hall⟩ := mem_ready.1 hi
    have hund : done.getD i false = false := getD_both hun
    have ext : ∀ {β' β'' : Nat -> Nat}, (∀ k, (done.setIfInBounds i true).getD k false = true -> β' k = β'' k) -> ∀ k, done.getD k false = true -> β' k = β'' k := by
      intro β' β'' hb k hk; exact hb k (getD_set_true hk)
    have hseti : (done.setIfInBounds i true).getD i false = true := by
      have : i < done.size := by omega
      simp [this]
    have hsz' : (done.setIfInBounds i true).size = ops.size := by simp [hsz]
    unfold wpOp
    rw [ho]
    dsimp only
    by_cases hw : Region.wanted o (yielded ops a.tmps) = true
    · rw [if_pos hw]
      left
      -- the choice that this order makes
      let γ : Nat -> Nat := fun k => if k = i then w.heap.size else β k
      have γdone : ∀ k, done.getD k false = true -> β k = γ k := by
        intro k hk
        have : k ≠ i := by intro e; rw [e, hund] at hk; cases hk
        simp [γ, this]
      have γi : γ i = w.heap.size := by simp [γ]
      have look : ∀ β', (∀ k, done.getD k false = true -> γ k = β' k) -> ∃ y, mUpon P w y ((execOp a.eval o).run P w) /\ HeadM P md ops w0 β' n (L β') f (done.setIfInBounds i true) (a.put o.dst (y.out (β' i))) (y.lay i (β' i) X) := by
        intro β' hb
        have hh := ((h β' (fun k hk => (γdone k hk).trans (hb k hk))).2 i hi).2
        unfold mOp at hh
        rw [ho] at hh
        dsimp only at hh
        rw [if_pos hw] at hh
        obtain ⟨y, h1, h2⟩ := hh
        exact ⟨y, h1 w ⟨st.below, fun e _ _ b O hx => (st.lies _ b O hx).2.2.2⟩, h2⟩
      have stay : ∀ w'', Below w.heap.size w w'' -> St w0 γ (done.setIfInBounds i true) X w'' := by
        intro w'' hb
        refine ⟨st.below.trans (hb.mono st.below.size), fun k b O hx => ?_, st.apart⟩
        obtain ⟨l1, l2, l3, l4⟩ := st.lies k b O hx
        refine ⟨getD_set_true l1, l2.trans (γdone k l1), l3, ?_⟩
        have hlt : b < w.heap.size := by
          rcases Nat.lt_or_ge b w.heap.size with h' | h'
          · exact h'
          · rw [Array.getElem?_eq_none h'] at l4; cases l4
        rw [hb.block b hlt]; exact l4
      obtain ⟨y, hy, hH⟩ := look γ (fun _ _ => rfl)
      unfold Oper.wp
      generalize (execOp a.eval o).run P w = r at *
      cases r with
      | halt x w' => exact hy.elim
      | ok nx w' =>
       cases nx with
       | value u =>
        simp only [mUpon] at hy
        cases hobj : y.obj with
        | none =>
          simp only [hobj] at hy
          obtain ⟨e1, e2⟩ := hy
          subst e1
          rw [Oper.upon_value]
          refine ih γ _ _ X _ hsz' (stay _ (Below.refl _ _)) fun β' hb => ?_
          obtain ⟨y', hy', hH'⟩ := look β' (ext hb)
          simp only [mUpon] at hy'
          cases hobj' : y'.obj with
          | none =>
            simp only [hobj'] at hy'
            simp only [Yd.out, Yd.lay, hobj'] at hH'
            rw [hy'.2]; exact hH'
          | some O' => simp only [hobj'] at hy'; exact absurd hy'.1 (fun e => not_alloc e)
        | some O =>
          simp only [hobj] at hy
          obtain ⟨e1, e2⟩ := hy
          rw [e1, Oper.upon_value]
          refine ih γ _ _ (X.set i w.heap.size O) _ hsz' ⟨st.below.trans ((Below.refl _ _).alloc st.below.size _), fun k b O2 hx => ?_, fun k k' b O2 O3 hx hx' => ?_⟩ fun β' hb => ?_
          · by_cases hk : k = i
            · subst hk
              simp only [XT.set, if_pos] at hx
              injection hx with hx; injection hx with hx1 hx2
              subst hx1 hx2
              exact ⟨hseti, γi.symm, st.below.size, Array.getElem?_push_size⟩
            · simp only [XT.set, if_neg hk] at hx
              obtain ⟨l1, l2, l3, l4⟩ := (stay _ ((Below.refl _ _).alloc (Nat.le_refl _) O)).lies k b O2 hx
              exact ⟨l1, l2, l3, l4⟩
          · have old : ∀ {k b O2}, X k = some (b, O2) -> b < w.heap.size := by
              intro k b O2 hx
              have l4 := (st.lies k b O2 hx).2.2.2
              rcases Nat.lt_or_ge b w.heap.size with h' | h'
              · exact h'
              · rw [Array.getElem?_eq_none h'] at l4; cases l4
            by_cases hk : k = i
            · by_cases hk' : k' = i
              · rw [hk, hk']
              · subst hk
                simp only [XT.set, if_pos] at hx
                simp only [XT.set, if_neg hk'] at hx'
                injection hx with hx; injection hx with hx1 hx2
                have := old hx'
                omega
            · by_cases hk' : k' = i
              · subst hk'
                simp only [XT.set, if_pos] at hx'
                simp only [XT.set, if_neg hk] at hx
                injection hx' with hx'; injection hx' with hx1 hx2
                have := old hx
                omega
              · simp only [XT.set, if_neg hk] at hx
                simp only [XT.set, if_neg hk'] at hx'
                exact st.apart _ _ _ _ _ hx hx'
          · obtain ⟨y', hy', hH'⟩ := look β' (ext hb)
            have hbi : β' i = w.heap.size := (hb i hseti).symm.trans γi
            simp only [mUpon] at hy'
            cases hobj' : y'.obj with
            | none => simp only [hobj'] at hy'; exact absurd (e1.symm.trans hy'.1).symm (fun e => not_alloc e)
            | some O' =>
              simp only [hobj'] at hy'
              have eO : O = O' := alloc_inj (e1.symm.trans hy'.1)
              simp only [Yd.out, Yd.lay, hobj', hbi] at hH'
              rw [hy'.2, eO]; exact hH'
       | skip =>
        simp only [mUpon] at hy
        obtain ⟨e1, e2, e3⟩ := hy
        subst e1
        rw [Oper.upon_skip]
        refine ih γ _ _ X _ hsz' (stay _ (Below.refl _ _)) fun β' hb => ?_
        obtain ⟨y', hy', hH'⟩ := look β' (ext hb)
        simp only [mUpon] at hy'
        simp only [Yd.out, Yd.lay, hy'.2.1, hy'.2.2] at hH'
        exact hH'
       | enter fn args =>
        simp only [mUpon] at hy
        obtain ⟨e1, e2, e3⟩ := hy
        subst e1
        rw [Oper.upon_enter]
        refine e3.2.mono fun e w'' ⟨he, hb⟩ => ?_
        subst he
        dsimp only
        refine ih γ _ _ X _ hsz' (stay _ hb) fun β' hb' => ?_
        obtain ⟨y', hy', hH'⟩ := look β' (ext hb')
        simp only [mUpon] at hy'
        simp only [Yd.out, Yd.lay, hy'.2.1] at hH'
        rw [same_value e3.2 hy'.2.2.2 e3.1]
        exact hH'
       | _ => exact hy.elim
    · rw [if_neg hw]
      refine ih β _ _ X _ hsz' ⟨st.below, fun k b O hx => ?_, st.apart⟩ fun β' hb => ?_
      · obtain ⟨l1, l2, l3, l4⟩ := st.lies k b O hx
        exact ⟨getD_set_true l1, l2, l3, l4⟩
      · have hh := ((h β' (ext hb)).2 i hi).2
        unfold mOp at hh
        rw [ho] at hh
        dsimp only at hh
        rw [if_neg hw] at hh
        exact hh
structure Laid (w : World) (X : XT) (w' : World) : Prop where
 below : Below w.heap.size w w'
 lies : ∀ k b O, X k = some (b, O) -> w.heap.size <= b /\ w'.heap[b]? = some O
 apart : ∀ k k' b O O', X k = some (b, O) -> X k' = some (b, O') -> k = k'
theorem region_made_tail {id : Nat} {Q : Exit -> Act -> World -> Prop} {a : Act} {w : World} {l : List Oper} (n : Nat) (hm : P.follows .mixedOrders = true) (hB : Region.lexTailB .any l.toArray n = true)
  (h : ∀ β, wpM P .any l.toArray w β (fun a' X => ∀ w', Laid w X w' -> wpList P l.toArray Q (l.drop n) a' w') (l.take n) 0 a (fun _ => none)) : (Code.region id l.toArray true).wp P Q a w := by
 simp only [Region.lexTailB, Bool.and_eq_true, decide_eq_true_eq] at hB
 obtain ⟨⟨⟨⟨nosel, hn⟩, hs⟩, hc⟩, hlex⟩ := hB
 have hnl : n < l.length := by simpa using hn
 have e1 : (l.take n).length = n := by rw [List.length_take]; omega
 have e2 : (l.drop n).length = l.toArray.size - n := by simp
 have start : HeadInv .any l.toArray n (Array.replicate l.toArray.size false) :=
  ⟨by simp, fun j _ _ hl => absurd hl (by rw [getD_replicate_false]; exact Bool.false_ne_true), fun t _ ht => getD_in (by simpa using ht) (getD_replicate_false _ _)⟩
 have H : ∀ β, HeadM P .any l.toArray w β n (fun d b Y => Region.seqB .any l.toArray (l.toArray.size - n) n d = true /\ ∀ w', Laid w Y w' -> wpList P l.toArray Q (l.drop n) b w') (l.take n).length (Array.replicate l.toArray.size false) a (fun _ => none) := fun β =>
  HeadM.lex nosel hs hc hn (l.take n) 0 _ a _ (fun j hj => by rw [e1] at hj; simp [hj]) (by simpa using e1) start (by rw [e1]; exact hlex) (h β)
 have A := HeadM.any (R := Q) (g := l.toArray.size - n) (L := fun _ d b Y => Region.seqB .any l.toArray (l.toArray.size - n) n d = true /\ ∀ w', Laid w Y w' -> wpList P l.toArray Q (l.drop n) b w') (Nat.le_of_lt hn)
  (fun β d b Y w' st hd => by
   obtain ⟨h1, h2⟩ := hd β (fun _ _ => rfl)
   have := wpAny_of_seq (md := .any) (Q' := Q) (l.drop n) n d b w' (fun j => by simp [List.getElem?_drop]) (by rw [e2]; exact h1) (h2 w' ⟨st.below, fun k b O hx => ⟨(st.lies k b O hx).2.2.1, (st.lies k b O hx).2.2.2⟩, st.apart⟩)
   rwa [e2] at this) _ (fun _ => 0) _ a (fun _ => none) { w with drawn := w.drawn + 1 } (by simp) ⟨(Below.refl _ _).drew, fun k b O hx => by simp at hx, fun k k' b O O' hx => by simp at hx⟩ (fun β' _ => H β')
 rw [e1, show n + (l.toArray.size - n) = l.toArray.size from by omega] at A
 exact wp_region_any hm A
def qmUpon (P : Program) (w : World) (v : Value) : Result Next -> Prop
 | .ok (.value u) w' => w' = w /\ u = v
 | .ok .skip w' => w' = w /\ v = undef
 | .ok (.enter f args) w' => w' = w /\ GCall P f args w v
 | _ => False
theorem qm_m {w : World} {v : Value} {r : Result Next} (h : qmUpon P w v r) : mUpon P w ⟨fun _ => v, none⟩ r := by
 cases r with
 | halt x w' => exact h.elim
 | ok nx w' =>
  cases nx with
  | value u => exact h
  | skip => exact ⟨h.1, rfl, h.2⟩
  | enter f args => exact ⟨h.1, rfl, h.2⟩
  | _ => exact h.elim
def qm (P : Program) (o : Oper) (a : Act) (w : World) (v : Value) : Prop := ∀ p : Regrown, qmUpon P (Sort.grow (redrawn w p.d) p.os) v ((execOp a.eval o).run P (Sort.grow (redrawn w p.d) p.os))
attribute [go_sem] qmUpon qm
variable {Q : Act -> XT -> Prop} {o : Oper} {rest : List Oper} {k : Nat} {a : Act} {X : XT} {w : World}
theorem wpM_nil (h : Q a X) : wpM P md ops w β Q [] k a X := h
theorem wpM_step (h : ∀ K : Act -> Prop, (∀ a, wpM P md ops w β Q rest (k + 1) a X -> K a) -> if Region.wanted o (yielded ops a.tmps) then ∃ v, qm P o a w v /\ K (a.put o.dst v) else K (a.put o.dst undef)) :
  wpM P md ops w β Q (o :: rest) k a X := by
 have hh := h _ (fun _ h => h)
 unfold wpM
 split
 ·rename_i hw
  rw [if_pos hw] at hh
  obtain ⟨v, h1, h2⟩ := hh
  refine ⟨⟨fun _ => v, none⟩, fun W hin => ?_, h2⟩
  obtain ⟨p, rfl⟩ := regrown_of_below hin.1
  exact qm_m (h1 p)
 ·rename_i hw
  rw [if_neg hw] at hh
  exact hh
theorem wpM_make (V : Nat -> Value) (O : Obj) (hw : Region.wanted o (yielded ops a.tmps) = true) (h : ∀ W, Below w.heap.size w W -> (execOp a.eval o).run P W = .ok (.value (V W.heap.size)) (W.alloc O))
  (h2 : wpM P md ops w β Q rest (k + 1) (a.put o.dst (V (β k))) (X.set k (β k) O)) : wpM P md ops w β Q (o :: rest) k a X := by
 unfold wpM
 rw [if_pos hw]
 refine ⟨⟨V, some O⟩, fun W hin => ?_, h2⟩
 rw [h W hin.1]
 exact ⟨rfl, rfl⟩
theorem wpM_uses (v : Value) (hw : Region.wanted o (yielded ops a.tmps) = true) (h : ∀ W, Below w.heap.size w W -> (∀ e ∈ o.after, Region.binds md e = true -> ∀ b O, X e.on = some (b, O) -> W.heap[b]? = some O) -> qmUpon P W v ((execOp a.eval o).run P W))
  (h2 : wpM P md ops w β Q rest (k + 1) (a.put o.dst v) X) : wpM P md ops w β Q (o :: rest) k a X := by
 unfold wpM
 rw [if_pos hw]
 exact ⟨⟨fun _ => v, none⟩, fun W hin => qm_m (h W hin.1 hin.2), h2⟩
theorem laid_cell {w' : World} {b : Nat} {C : Array Value} {T : TypeId} (h : w'.heap[b]? = some (.cells C T (0, 0))) : (∀ o, w'.cell? ⟨b, o, none⟩ = C[o]?) /\ (∀ o, w'.frozen? ⟨b, o, none⟩ = false) := by
 constructor
 ·intro o; unfold World.cell?; simp [h]
 ·intro o; unfold World.frozen?; simp [h]
end
end Tab
namespace Go.Proofs.YtlpgigdegnbkmaaGreatDoor
open Go.RowKit Tab Tryz
def Int64 (x : Int) : Prop := -9223372036854775808 <= x /\ x <= 9223372036854775807
theorem pickI_range (c n : Int) (hn : 1 <= n) : 0 <= pickI c n /\ pickI c n < n := by
 unfold pickI
 exact ⟨Int.emod_nonneg _ (by omega), Int.emod_lt_of_pos _ (by omega)⟩
theorem pick_ret (c n : Int) (h : Int64 c) (hn : 1 <= n) (hn1 : n <= 1000000) (w W : World) (_hb : Below w.heap.size w W) : Calls prog 125 #[.int .i64 c, .int .i64 n] W (Ret (.int .i64 (pickI c n)) W) :=
 (pick_any c n W h.1 h.2 hn hn1).mono fun _ _ h => h.ret
theorem Itoa_ret (n : Int) (h0 : -9223372036854775808 <= n) (h1 : n <= 9223372036854775807) (w : World) (hg : Good w) : Calls prog 31 #[.int .i64 n] w (Ret (.string ⟨(Lib.itoa n).toArray⟩) w) :=
 (Tryz.strconv_Itoa n h0 h1 w hg.pow).mono fun e w' ⟨he, k, os, hw⟩ => ⟨he, by rw [hw]; exact Lib.below_grow _ w (Nat.le_refl _) k os⟩
theorem fixed_ret (b : Bool) (w : World) : Calls prog 116 #[.bool b] w (Ret (.string ⟨(fixD b).toArray⟩) w) := (fixed_any b w).mono fun e w' h => by
 obtain ⟨rfl, rfl⟩ := h; exact ⟨by cases b <;> rfl, Below.refl _ _⟩
theorem fixD_len (b : Bool) : (fixD b).length <= 1 := by cases b <;> simp [fixD]
theorem colL_len (n : Int) : (colL n).length <= 2 := by unfold colL; split <;> (try split) <;> simp
theorem ba_mk (l : Bs) : (ByteArray.mk l.toArray).data.toList = l := rfl
theorem Text_no (s : ByteArray) (row col : Int) (x y z : Bool) (w : World) (hg : Good w) (l1 : s.size <= 9223372036854775807) (R1 : rightB s.data.toList row col x y z = false) :
  Calls prog 71 #[.agg #[.string s, .int .i64 row, .int .i64 col, .bool x, .bool y, .bool z]] w (Ret (.tuple #[strV (textD ⟨s, row, col, x, y, z⟩).1, .int .i64 (textD ⟨s, row, col, x, y, z⟩).2]) w) := by
 have cR : ∀ W, Below w.heap.size w W -> Calls prog 61 #[.agg #[.string s, .int .i64 row, .int .i64 col, .bool x, .bool y, .bool z]] W (Ret (.bool (rightB s.data.toList row col x y z)) W) := fun W hb => Right_any s row col x y z W (hg.below hb) l1
 have Hv : Hid (textD ⟨s, row, col, x, y, z⟩ = ([], 20)) := textD_no R1
 clear hg l1
 go_enter func71, ntmps71
 go_wp2_with fail
 refine (cR _ belx).mono ?_; rintro e w1 ⟨rfl, hb1⟩
 have k0 : Blk w1 w.heap.size #[.string s, .int .i64 row, .int .i64 col, .bool x, .bool y, .bool z] := (Blk.new rfl).below hb1
 have hb0 : Below w.heap.size w w1 := belx
 clear hb1
 obtain ⟨f0, g0, z0⟩ := k0.facts
 rw [R1]
 clear cR
 go_wp2
 go_ret2; exact Ret.mk2 (by rw [Hv.out]; rfl) (by rw [Hv.out]; rfl) belx
theorem Text_gone (s : ByteArray) (row col : Int) (x y : Bool) (w : World) (hg : Good w) (l1 : s.size <= 9223372036854775807) (R1 : rightB s.data.toList row col x y true = true) :
  Calls prog 71 #[.agg #[.string s, .int .i64 row, .int .i64 col, .bool x, .bool y, .bool true]] w (Ret (.tuple #[strV (textD ⟨s, row, col, x, y, true⟩).1, .int .i64 (textD ⟨s, row, col, x, y, true⟩).2]) w) := by
 have cR : ∀ W, Below w.heap.size w W -> Calls prog 61 #[.agg #[.string s, .int .i64 row, .int .i64 col, .bool x, .bool y, .bool true]] W (Ret (.bool (rightB s.data.toList row col x y true)) W) := fun W hb => Right_any s row col x y true W (hg.below hb) l1
 have Hv : Hid (textD ⟨s, row, col, x, y, true⟩ = ([35, 82, 69, 70, 33], 0)) := textD_gone R1 rfl
 clear hg l1
 go_enter func71, ntmps71
 go_wp2_with fail
 refine (cR _ belx).mono ?_; rintro e w1 ⟨rfl, hb1⟩
 have k0 : Blk w1 w.heap.size #[.string s, .int .i64 row, .int .i64 col, .bool x, .bool y, .bool true] := (Blk.new rfl).below hb1
 have hb0 : Below w.heap.size w w1 := belx
 clear hb1
 obtain ⟨f0, g0, z0⟩ := k0.facts
 rw [R1]
 clear cR
 go_wp2
 go_ret2; exact Ret.mk2 (by rw [Hv.out]; rfl) (by rw [Hv.out]; rfl) belx
theorem Text_bare (row col : Int) (x y : Bool) (w : World) (hg : Good w) (R1 : rightB [] row col x y false = true) :
  Calls prog 71 #[.agg #[.string ⟨#[]⟩, .int .i64 row, .int .i64 col, .bool x, .bool y, .bool false]] w (Ret (.tuple #[strV (textD ⟨⟨#[]⟩, row, col, x, y, false⟩).1, .int .i64 (textD ⟨⟨#[]⟩, row, col, x, y, false⟩).2]) w) := by
 have cR : ∀ W, Below w.heap.size w W -> Calls prog 61 #[.agg #[.string ⟨#[]⟩, .int .i64 row, .int .i64 col, .bool x, .bool y, .bool false]] W (Ret (.bool (rightB [] row col x y false)) W) := fun W hb => Right_any ⟨#[]⟩ row col x y false W (hg.below hb) (by decide)
 have Hv : Hid (textD ⟨⟨#[]⟩, row, col, x, y, false⟩ = (shortD ⟨⟨#[]⟩, row, col, x, y, false⟩, 0)) := textD_yes (r := ⟨⟨#[]⟩, row, col, x, y, false⟩) R1 rfl
 obtain ⟨q1, q2, q3, q4⟩ := right_range (r := ⟨⟨#[]⟩, row, col, x, y, false⟩) R1
 dsimp only at q1 q2 q3 q4
 have cI : ∀ W, Below w.heap.size w W -> Calls prog 31 #[.int .i64 (row + 1)] W (Ret (.string ⟨(Lib.itoa (row + 1)).toArray⟩) W) := fun W hb => Itoa_ret _ (by omega) (by omega) W (hg.below hb)
 clear hg
 go_enter func71, ntmps71
 go_wp2_with fail
 refine (cR _ belx).mono ?_; rintro e w1 ⟨rfl, hb1⟩
 have k0 : Blk w1 w.heap.size #[.string ⟨#[]⟩, .int .i64 row, .int .i64 col, .bool x, .bool y, .bool false] := (Blk.new rfl).below hb1
 have hb0 : Below w.heap.size w w1 := belx
 clear hb1
 obtain ⟨f0, g0, z0⟩ := k0.facts
 rw [R1]
 clear cR
 go_wp2_with fail
 refine (Column_any col _ (by omega) (by omega)).mono ?_; rintro e w2 ⟨rfl, hb2⟩
 replace k0 := k0.below hb2
 replace hb0 : Below w.heap.size w w2 := belx
 clear hb2 f0 g0 z0
 obtain ⟨f0, g0, z0⟩ := k0.facts
 unfold strV
 go_wp2_with fail
 have n1 := fixD_len y
 have n2 := colL_len col
 have n3 := fixD_len x
 have n4 := Lib.itoa_length_le (row + 1) (by omega) (by omega)
 have e1 : ¬ 9223372036854775807 < (fixD y).length + (colL col).length := by omega
 have e2 : ¬ 9223372036854775807 < (fixD y).length + (colL col).length + (fixD x).length := by omega
 have e3 : ¬ 9223372036854775807 < (fixD y).length + (colL col).length + (fixD x).length + (Lib.itoa (row + 1)).length := by omega
 have e0 : IntKind.i64.wrap (row + 1) = row + 1 := IntWalk.i64_in _ (by omega)
 have kc := gcell w2
 refine region_below (by kernel_rfl) (by kernel_rfl) ?_
 repeat (quiet_step (first | exact Ret.grown (fun W _ => fixed_ret _ W) | exact Ret.grown (fun W hb => cI W (after hb0 hb))))
 refine wpQuiet_nil ?_
 intro w3 hb3
 replace k0 := k0.below hb3
 replace hb0 : Below w.heap.size w w3 := belx
 clear hb3 f0 g0 z0 kc cI
 obtain ⟨f0, g0, z0⟩ := k0.facts
 obtain ⟨u, hu⟩ : ∃ u, ((⟨(fixD y).toArray⟩ ++ ⟨(colL col).toArray⟩ ++ ⟨(fixD x).toArray⟩ ++ ⟨(Lib.itoa (row + 1)).toArray⟩ : ByteArray)) = u := ⟨_, rfl⟩
 have us : u.size <= 25 := by rw [<- hu]; simp only [ByteArray.size_append]; rw [<- ba_size, <- ba_size, <- ba_size, <- ba_size, ba_mk, ba_mk, ba_mk, ba_mk]; omega
 have Hu : Hid (u.data.toList = shortD ⟨⟨#[]⟩, row, col, x, y, false⟩) := by
  show _ = _
  rw [<- hu, ba_append, ba_append, ba_append]; rfl
 rw [hu]
 clear hu n1 n2 n3 n4 e0 e1 e2 e3
 go_wp2
 go_ret2
 refine Ret.mk2 ?_ ?_ belx
 ·rw [Hv.out]
  exact strV_eq (Hu.out)
 ·rw [Hv.out]; rfl
theorem Text_plain (s : ByteArray) (row col : Int) (x y : Bool) (w : World) (hg : Good w) (l1 : s.size <= 9223372036854775807) (l2 : s.size <= 30) (R1 : rightB s.data.toList row col x y false = true) (he : s.toList.isEmpty = false) (P1 : plainB s.data.toList = true) :
  Calls prog 71 #[.agg #[.string s, .int .i64 row, .int .i64 col, .bool x, .bool y, .bool false]] w (Ret (.tuple #[strV (textD ⟨s, row, col, x, y, false⟩).1, .int .i64 (textD ⟨s, row, col, x, y, false⟩).2]) w) := by
 have cR : ∀ W, Below w.heap.size w W -> Calls prog 61 #[.agg #[.string s, .int .i64 row, .int .i64 col, .bool x, .bool y, .bool false]] W (Ret (.bool (rightB s.data.toList row col x y false)) W) := fun W hb => Right_any s row col x y false W (hg.below hb) l1
 have Hv : Hid (textD ⟨s, row, col, x, y, false⟩ = (s.data.toList ++ [33] ++ shortD ⟨s, row, col, x, y, false⟩, 0)) := by
  show _ = _
  rw [textD_yes (r := ⟨s, row, col, x, y, false⟩) R1 rfl, longD, if_neg (by rw [<- ByteArray.toList_eq]; simpa using he), if_pos P1]
 obtain ⟨q1, q2, q3, q4⟩ := right_range (r := ⟨s, row, col, x, y, false⟩) R1
 dsimp only at q1 q2 q3 q4
 have cI : ∀ W, Below w.heap.size w W -> Calls prog 31 #[.int .i64 (row + 1)] W (Ret (.string ⟨(Lib.itoa (row + 1)).toArray⟩) W) := fun W hb => Itoa_ret _ (by omega) (by omega) W (hg.below hb)
 have cP : ∀ W, Below w.heap.size w W -> Calls prog 117 #[.string s] W (Ret (.bool (plainB s.data.toList)) W) := fun W hb => plain_any s W l1
 clear hg l1
 go_enter func71, ntmps71
 go_wp2_with fail
 refine (cR _ belx).mono ?_; rintro e w1 ⟨rfl, hb1⟩
 have k0 : Blk w1 w.heap.size #[.string s, .int .i64 row, .int .i64 col, .bool x, .bool y, .bool false] := (Blk.new rfl).below hb1
 have hb0 : Below w.heap.size w w1 := belx
 clear hb1
 obtain ⟨f0, g0, z0⟩ := k0.facts
 rw [R1]
 clear cR
 go_wp2_with fail
 refine (Column_any col _ (by omega) (by omega)).mono ?_; rintro e w2 ⟨rfl, hb2⟩
 replace k0 := k0.below hb2
 replace hb0 : Below w.heap.size w w2 := belx
 clear hb2 f0 g0 z0
 obtain ⟨f0, g0, z0⟩ := k0.facts
 unfold strV
 go_wp2_with fail
 have n1 := fixD_len y
 have n2 := colL_len col
 have n3 := fixD_len x
 have n4 := Lib.itoa_length_le (row + 1) (by omega) (by omega)
 have e1 : ¬ 9223372036854775807 < (fixD y).length + (colL col).length := by omega
 have e2 : ¬ 9223372036854775807 < (fixD y).length + (colL col).length + (fixD x).length := by omega
 have e3 : ¬ 9223372036854775807 < (fixD y).length + (colL col).length + (fixD x).length + (Lib.itoa (row + 1)).length := by omega
 have e0 : IntKind.i64.wrap (row + 1) = row + 1 := IntWalk.i64_in _ (by omega)
 have kc := gcell w2
 refine region_below (by kernel_rfl) (by kernel_rfl) ?_
 repeat (quiet_step (first | exact Ret.grown (fun W _ => fixed_ret _ W) | exact Ret.grown (fun W hb => cI W (after hb0 hb))))
 refine wpQuiet_nil ?_
 intro w3 hb3
 replace k0 := k0.below hb3
 replace hb0 : Below w.heap.size w w3 := belx
 clear hb3 f0 g0 z0 kc cI
 obtain ⟨f0, g0, z0⟩ := k0.facts
 obtain ⟨u, hu⟩ : ∃ u, ((⟨(fixD y).toArray⟩ ++ ⟨(colL col).toArray⟩ ++ ⟨(fixD x).toArray⟩ ++ ⟨(Lib.itoa (row + 1)).toArray⟩ : ByteArray)) = u := ⟨_, rfl⟩
 have us : u.size <= 25 := by rw [<- hu]; simp only [ByteArray.size_append]; rw [<- ba_size, <- ba_size, <- ba_size, <- ba_size, ba_mk, ba_mk, ba_mk, ba_mk]; omega
 have Hu : Hid (u.data.toList = shortD ⟨s, row, col, x, y, false⟩) := by
  show _ = _
  rw [<- hu, ba_append, ba_append, ba_append]; rfl
 rw [hu]
 clear hu n1 n2 n3 n4 e0 e1 e2 e3
 go_wp2_with fail
 refine (cP _ belx).mono ?_; rintro e w4 ⟨rfl, hb4⟩
 replace k0 := k0.below hb4
 replace hb0 : Below w.heap.size w w4 := belx
 clear hb4 f0 g0 z0
 obtain ⟨f0, g0, z0⟩ := k0.facts
 rw [P1]
 clear cP
 go_wp2
 go_ret2
 refine Ret.mk2 ?_ ?_ belx
 ·rw [Hv.out]
  exact strV_eq (by rw [ba_append, ba_append, Hu.out])
 ·rw [Hv.out]; rfl
theorem Text_quoted (s : ByteArray) (row col : Int) (x y : Bool) (w : World) (hg : Good w) (l1 : s.size <= 9223372036854775807) (l2 : s.size <= 30) (R1 : rightB s.data.toList row col x y false = true) (he : s.toList.isEmpty = false) (P1 : plainB s.data.toList = false) :
  Calls prog 71 #[.agg #[.string s, .int .i64 row, .int .i64 col, .bool x, .bool y, .bool false]] w (Ret (.tuple #[strV (textD ⟨s, row, col, x, y, false⟩).1, .int .i64 (textD ⟨s, row, col, x, y, false⟩).2]) w) := by
 have cR : ∀ W, Below w.heap.size w W -> Calls prog 61 #[.agg #[.string s, .int .i64 row, .int .i64 col, .bool x, .bool y, .bool false]] W (Ret (.bool (rightB s.data.toList row col x y false)) W) := fun W hb => Right_any s row col x y false W (hg.below hb) l1
 have Hv : Hid (textD ⟨s, row, col, x, y, false⟩ = ([39] ++ Lib.replaceAll s.data.toList [39] [39, 39] ++ [39] ++ [33] ++ shortD ⟨s, row, col, x, y, false⟩, 0)) := by
  show _ = _
  rw [textD_yes (r := ⟨s, row, col, x, y, false⟩) R1 rfl, longD, if_neg (by rw [<- ByteArray.toList_eq]; simpa using he), if_neg (by rw [P1]; exact Bool.false_ne_true)]
 obtain ⟨q1, q2, q3, q4⟩ := right_range (r := ⟨s, row, col, x, y, false⟩) R1
 dsimp only at q1 q2 q3 q4
 have cI : ∀ W, Below w.heap.size w W -> Calls prog 31 #[.int .i64 (row + 1)] W (Ret (.string ⟨(Lib.itoa (row + 1)).toArray⟩) W) := fun W hb => Itoa_ret _ (by omega) (by omega) W (hg.below hb)
 have cP : ∀ W, Below w.heap.size w W -> Calls prog 117 #[.string s] W (Ret (.bool (plainB s.data.toList)) W) := fun W hb => plain_any s W l1
 have hcb : Lib.countB s ⟨#[39]⟩ <= s.size := Lib.countB_le ⟨#[39]⟩ (by decide) s.size s (Nat.le_refl _)
 have cA : ∀ W, Below w.heap.size w W -> Calls prog 118 #[.string s, .string ⟨#[39]⟩, .string ⟨#[39, 39]⟩] W (Ret (.string ⟨(Lib.replaceAll s.data.toList [39] [39, 39]).toArray⟩) W) := fun W hb => Tryz.strings_ReplaceAll_shaped s ⟨#[39]⟩ ⟨#[39, 39]⟩ W (hg.below hb).shaped (by omega) (by decide) (by rw [show (ByteArray.mk #[39, 39]).size = 2 from rfl]; omega)
 clear hg l1
 go_enter func71, ntmps71
 go_wp2_with fail
 refine (cR _ belx).mono ?_; rintro e w1 ⟨rfl, hb1⟩
 have k0 : Blk w1 w.heap.size #[.string s, .int .i64 row, .int .i64 col, .bool x, .bool y, .bool false] := (Blk.new rfl).below hb1
 have hb0 : Below w.heap.size w w1 := belx
 clear hb1
 obtain ⟨f0, g0, z0⟩ := k0.facts
 rw [R1]
 clear cR
 go_wp2_with fail
 refine (Column_any col _ (by omega) (by omega)).mono ?_; rintro e w2 ⟨rfl, hb2⟩
 replace k0 := k0.below hb2
 replace hb0 : Below w.heap.size w w2 := belx
 clear hb2 f0 g0 z0
 obtain ⟨f0, g0, z0⟩ := k0.facts
 unfold strV
 go_wp2_with fail
 have n1 := fixD_len y
 have n2 := colL_len col
 have n3 := fixD_len x
 have n4 := Lib.itoa_length_le (row + 1) (by omega) (by omega)
 have e1 : ¬ 9223372036854775807 < (fixD y).length + (colL col).length := by omega
 have e2 : ¬ 9223372036854775807 < (fixD y).length + (colL col).length + (fixD x).length := by omega
 have e3 : ¬ 9223372036854775807 < (fixD y).length + (colL col).length + (fixD x).length + (Lib.itoa (row + 1)).length := by omega
 have e0 : IntKind.i64.wrap (row + 1) = row + 1 := IntWalk.i64_in _ (by omega)
 have kc := gcell w2
 refine region_below (by kernel_rfl) (by kernel_rfl) ?_
 repeat (quiet_step (first | exact Ret.grown (fun W _ => fixed_ret _ W) | exact Ret.grown (fun W hb => cI W (after hb0 hb))))
 refine wpQuiet_nil ?_
 intro w3 hb3
 replace k0 := k0.below hb3
 replace hb0 : Below w.heap.size w w3 := belx
 clear hb3 f0 g0 z0 kc cI
 obtain ⟨f0, g0, z0⟩ := k0.facts
 obtain ⟨u, hu⟩ : ∃ u, ((⟨(fixD y).toArray⟩ ++ ⟨(colL col).toArray⟩ ++ ⟨(fixD x).toArray⟩ ++ ⟨(Lib.itoa (row + 1)).toArray⟩ : ByteArray)) = u := ⟨_, rfl⟩
 have us : u.size <= 25 := by rw [<- hu]; simp only [ByteArray.size_append]; rw [<- ba_size, <- ba_size, <- ba_size, <- ba_size, ba_mk, ba_mk, ba_mk, ba_mk]; omega
 have Hu : Hid (u.data.toList = shortD ⟨s, row, col, x, y, false⟩) := by
  show _ = _
  rw [<- hu, ba_append, ba_append, ba_append]; rfl
 rw [hu]
 clear hu n1 n2 n3 n4 e0 e1 e2 e3
 go_wp2_with fail
 refine (cP _ belx).mono ?_; rintro e w4 ⟨rfl, hb4⟩
 replace k0 := k0.below hb4
 replace hb0 : Below w.heap.size w w4 := belx
 clear hb4 f0 g0 z0
 obtain ⟨f0, g0, z0⟩ := k0.facts
 rw [P1]
 clear cP
 go_wp2_with fail
 refine (cA _ belx).mono ?_; rintro e w5 ⟨rfl, hb5⟩
 replace k0 := k0.below hb5
 replace hb0 : Below w.heap.size w w5 := belx
 clear hb5 f0 g0 z0 cA
 obtain ⟨f0, g0, z0⟩ := k0.facts
 rw [repl_dbl] at *
 have hl := dbl_len s.data.toList
 rw [ba_size] at hl
 generalize dbl s.data.toList = D at *
 go_wp2
 go_ret2
 refine Ret.mk2 ?_ ?_ belx
 ·rw [Hv.out]
  exact strV_eq (by rw [ba_append, ba_append, ba_append, ba_append, Hu.out])
 ·rw [Hv.out]; rfl
theorem right_size {r : RefD} (h : r.right = true) : r.s.size <= 30 := by
 obtain ⟨s, row, col, fr, fc, bad⟩ := r
 show s.size <= 30
 rw [<- ba_size]
 unfold RefD.right rightB at h
 dsimp only at h
 generalize s.data.toList = l at *
 cases bad
 ·rw [if_neg Bool.false_ne_true, Bool.and_eq_true, Bool.or_eq_true] at h
  rcases h.1 with h | h
  ·rw [List.isEmpty_iff] at h; subst h; simp
  ·simp only [nameB, Bool.and_eq_true, decide_eq_true_eq] at h; exact h.2.1.2
 ·rw [if_pos rfl] at h
  simp only [Bool.and_eq_true, List.isEmpty_iff] at h
  rw [h.1.1.1.1]; simp
theorem Text_any (r : RefD) (w : World) (hg : Good w) (l1 : r.s.size <= 9223372036854775807) : Calls prog 71 #[refV r] w (Ret (.tuple #[strV (textD r).1, .int .i64 (textD r).2]) w) := by
 obtain ⟨s, row, col, x, y, bad⟩ := r
 by_cases R : rightB s.data.toList row col x y bad = true
 ·cases bad
  ·have l2 : s.size <= 30 := right_size (r := ⟨s, row, col, x, y, false⟩) R
   by_cases he : s.toList.isEmpty = true
   ·have e : s = ⟨#[]⟩ := by
     rw [ByteArray.toList_eq, List.isEmpty_iff] at he
     obtain ⟨⟨l⟩⟩ := s; exact congrArg (fun l => ByteArray.mk ⟨l⟩) he
    subst e
    exact Text_bare row col x y w hg R
   ·rw [Bool.not_eq_true] at he
    by_cases P : plainB s.data.toList = true
    ·exact Text_plain s row col x y w hg l1 l2 R he P
    ·exact Text_quoted s row col x y w hg l1 l2 R he (by simpa using P)
  ·exact Text_gone s row col x y w hg l1 R
 ·exact Text_no s row col x y bad w hg l1 (by simpa using R)
theorem calls_abs {P : Program} {f : FuncId} {args : Array Value} {K : Ending -> World -> Prop} {W : World} (F : World -> Prop) (hF : F W) (h : ∀ w1, F w1 -> Calls P f args w1 K) : Calls P f args W K := h W hF
theorem Atoi_any (D : Bs) (hl : D.length <= 1000000) (w : World) (hg : Good w) : Calls prog 206 #[.string ⟨D.toArray⟩] w (fun e w' => ∃ v t, e = .returned (.tuple #[.int .i64 v, t]) /\ Below w.heap.size w w' /\ ((Lib.atoiAll D = .ok v /\ t = .nilIface) \/ (rowOf D = none /\ ∃ tp p, t = .iface tp p))) := by
 have hs : (ByteArray.mk D.toArray).size = D.length := rfl
 rcases h : Lib.atoiAll D with v | _ | _
 ·refine (Tryz.strconv_Atoi_ok ⟨D.toArray⟩ (by omega) v h w).mono fun e w' ⟨he, hw⟩ => ⟨v, _, he, ?_, .inl ⟨rfl, rfl⟩⟩
  rcases hw with rfl | ⟨t, rfl⟩
  ·exact Below.refl _ _
  ·exact Lib.bytesWorld_below _ _ _
 ·obtain ⟨tp, p, hv⟩ := hg.syn
  refine (Tryz.strconv_Atoi_syntax_var ⟨D.toArray⟩ (by omega) h tp p w hv).mono fun e w' ⟨N, he, _, _, hb⟩ => ⟨_, _, he, hb, .inr ⟨rowOf_bad (by rw [h]; intro v e; cases e), _, _, rfl⟩⟩
 ·obtain ⟨tp, p, hv⟩ := hg.rng
  refine (Tryz.strconv_Atoi_range_var ⟨D.toArray⟩ (by omega) h tp p w hv).mono fun e w' ⟨N, he, _, _, hb⟩ => ⟨_, _, he, hb, .inr ⟨rowOf_bad (by rw [h]; intro v e; cases e), _, _, rfl⟩⟩
theorem Read_go (s : ByteArray) (w : World) (hg : Good w) (hs : s.size <= 1000000) (n rest : Bs) (is : Bool) (hp : sheetD s = (n, rest, is)) (hne : (s.toList == [35, 82, 69, 70, 33]) = false)
  (fc fr : Bool) (r1 L r2 r3 D r4 : Bs) (h1 : Lib.hasPrefix rest [36] = fc) (h2 : Lib.trimPrefix rest [36] = r1) (h3 : r1.takeWhile isLetterB = L) (h4 : r1.dropWhile isLetterB = r2) (h5 : Lib.hasPrefix r2 [36] = fr) (h6 : Lib.trimPrefix r2 [36] = r3) (h7 : r3.takeWhile isDigitB = D) (h8 : r3.dropWhile isDigitB = r4) :
  Calls prog 174 #[.string s] w (Ret (.tuple #[refV (readOf n is fc fr L D r4).1, .int .i64 (readOf n is fc fr L D r4).2]) w) := by
 have cS : ∀ W, Below w.heap.size w W -> Calls prog 199 #[.string s] W (Ret (.tuple #[.string ⟨n.toArray⟩, .string ⟨rest.toArray⟩, .bool is]) W) := fun W hb => by
  have := sheet_any s W (hg.below hb) hs
  rw [hp] at this; exact this
 have l0 : rest.length <= 1000000 := by have := (sheet_len s).2; rw [hp] at this; exact Nat.le_trans this hs
 have l0' : n.length <= 1000000 := by have := (sheet_len s).1; rw [hp] at this; exact Nat.le_trans this hs
 have l1 : r1.length <= 1000000 := by have := unD_len rest; unfold unD at this; rw [h2] at this; omega
 have l2 : r2.length <= 1000000 := by have := dw_len isLetterB r1; rw [h4] at this; omega
 have lL : L.length <= 1000000 := by have := tw_len isLetterB r1; rw [h3] at this; omega
 have l3 : r3.length <= 1000000 := by have := unD_len r2; unfold unD at this; rw [h6] at this; omega
 have lD : D.length <= 1000000 := by have := tw_len isDigitB r3; rw [h7] at this; omega
 have aD : D.all isDigitB = true := by rw [<- h7]; exact tw_all _ _
 have c1 : ∀ W b, Blk W b #[.string ⟨rest.toArray⟩] -> Calls prog 201 #[.pointer (some ⟨b, 0, none⟩)] W (fun e w' => e = .returned (.bool fc) /\ w' = W.setCell ⟨b, 0, none⟩ (.string ⟨r1.toArray⟩)) := fun W b hb => by
  rw [<- h1, <- h2]; exact Read2_any ⟨rest.toArray⟩ W b hb
 have c2 : ∀ W b, Blk W b #[.string ⟨r1.toArray⟩] -> Calls prog 200 #[.func (.func 204) #[] #[], .pointer (some ⟨b, 0, none⟩)] W (fun e w' => e = .returned (.string ⟨L.toArray⟩) /\ w' = W.setCell ⟨b, 0, none⟩ (.string ⟨r2.toArray⟩)) := fun W b hb => by
  rw [<- h3, <- h4]; exact Read1_letters ⟨r1.toArray⟩ l1 W b hb
 have c3 : ∀ W b, Blk W b #[.string ⟨r2.toArray⟩] -> Calls prog 201 #[.pointer (some ⟨b, 0, none⟩)] W (fun e w' => e = .returned (.bool fr) /\ w' = W.setCell ⟨b, 0, none⟩ (.string ⟨r3.toArray⟩)) := fun W b hb => by
  rw [<- h5, <- h6]; exact Read2_any ⟨r2.toArray⟩ W b hb
 have c4 : ∀ W b, Blk W b #[.string ⟨r3.toArray⟩] -> Calls prog 200 #[.func (.func 205) #[] #[], .pointer (some ⟨b, 0, none⟩)] W (fun e w' => e = .returned (.string ⟨D.toArray⟩) /\ w' = W.setCell ⟨b, 0, none⟩ (.string ⟨r4.toArray⟩)) := fun W b hb => by
  rw [<- h7, <- h8]; exact Read1_digits ⟨r3.toArray⟩ l3 W b hb
 have cC : ∀ W, Below w.heap.size w W -> Calls prog 203 #[.string ⟨L.toArray⟩] W (Ret (colV (colOf L)) W) := fun W hb => ReadColumn_any ⟨L.toArray⟩ W (hg.below hb) (by show L.toArray.size <= _; rw [List.size_toArray]; omega)
 clear hp h1 h2 h3 h4 h5 h6 h7 h8 l0 l1 l2 l3 lL
 go_enter func174, ntmps174
 go_wp2_with fail
 refine (cS _ belx).mono ?_; rintro e w1 ⟨rfl, hb1⟩
 have k2 : Blk w1 w.heap.size #[.string ⟨#[]⟩, .int .i64 0, .int .i64 0, .bool false, .bool false, .bool false] := ((Blk.new rfl).alloc).below hb1
 have k4 : Blk w1 (w.heap.size + 1) #[.string ⟨#[]⟩, .int .i64 0, .int .i64 0, .bool false, .bool false, .bool false] := (Blk.new (by simp)).below hb1
 have hb0 : Below w.heap.size w w1 := belx
 clear hb1 cS
 obtain ⟨f2, g2, z2⟩ := k2.facts
 obtain ⟨f4, g4, z4⟩ := k4.facts
 have y4 := z4
 go_wp2_with fail
 refine calls_abs (fun W => Blk W w.heap.size #[.string ⟨#[]⟩, .int .i64 0, .int .i64 0, .bool false, .bool false, .bool false] /\ Blk W (w.heap.size + 1) #[.string ⟨n.toArray⟩, .int .i64 0, .int .i64 0, .bool false, .bool false, .bool false] /\ Blk W w1.heap.size #[.string ⟨rest.toArray⟩] /\ Below w.heap.size w W) ⟨blkx, blkx, (Blk.new (by simp [World.setCell])), belx⟩ ?_
 clear f2 g2 z2 f4 g4 z4 k2 k4 hb0
 rintro w2 ⟨k2, k4, k6, hb0⟩
 have q6 : w.heap.size + 1 < w1.heap.size := y4
 clear y4
 generalize w1.heap.size = b6 at *
 obtain ⟨f2, g2, z2⟩ := k2.facts
 obtain ⟨f4, g4, z4⟩ := k4.facts
 obtain ⟨f6, g6, z6⟩ := k6.facts
 refine (c1 w2 b6 k6).mono ?_; rintro e w3 ⟨rfl, rfl⟩
 go_wp2_with fail
 refine calls_abs (fun W => Blk W w.heap.size #[.string ⟨#[]⟩, .int .i64 0, .int .i64 0, .bool false, .bool false, .bool false] /\ Blk W (w.heap.size + 1) #[.string ⟨n.toArray⟩, .int .i64 0, .int .i64 0, .bool false, .bool fc, .bool false] /\ Blk W b6 #[.string ⟨r1.toArray⟩] /\ Below w.heap.size w W) ⟨blkx, blkx, blkx, belx⟩ ?_
 clear f2 g2 z2 f4 g4 z4 f6 g6 z6
 clear k2 k4 k6 hb0
 rintro w3 ⟨k2, k4, k6, hb0⟩
 obtain ⟨f2, g2, z2⟩ := k2.facts
 obtain ⟨f4, g4, z4⟩ := k4.facts
 obtain ⟨f6, g6, z6⟩ := k6.facts
 refine (c2 w3 b6 k6).mono ?_; rintro e w4 ⟨rfl, rfl⟩
 go_wp2_with fail
 refine calls_abs (fun W => Blk W w.heap.size #[.string ⟨#[]⟩, .int .i64 0, .int .i64 0, .bool false, .bool false, .bool false] /\ Blk W (w.heap.size + 1) #[.string ⟨n.toArray⟩, .int .i64 0, .int .i64 0, .bool false, .bool fc, .bool false] /\ Blk W b6 #[.string ⟨r2.toArray⟩] /\ Below w.heap.size w W) ⟨blkx, blkx, blkx, belx⟩ ?_
 clear f2 g2 z2 f4 g4 z4 f6 g6 z6
 clear k2 k4 k6 hb0
 rintro w4 ⟨k2, k4, k6, hb0⟩
 obtain ⟨f2, g2, z2⟩ := k2.facts
 obtain ⟨f4, g4, z4⟩ := k4.facts
 obtain ⟨f6, g6, z6⟩ := k6.facts
 refine (cC w4 hb0).mono ?_; rintro e w5 ⟨rfl, hb5⟩
 replace k2 := k2.below hb5
 replace k4 := k4.below hb5
 replace k6 := k6.below hb5
 replace hb0 : Below w.heap.size w w5 := after hb0 hb5
 clear f2 g2 z2 f4 g4 z4 f6 g6 z6
 clear hb5
 obtain ⟨f2, g2, z2⟩ := k2.facts
 obtain ⟨f4, g4, z4⟩ := k4.facts
 obtain ⟨f6, g6, z6⟩ := k6.facts
 obtain ⟨c, ce, hv, hce⟩ : ∃ c ce : Int, colV (colOf L) = .tuple #[.int .i64 c, .int .i64 ce] /\ ((∃ k : Nat, colOf L = some k /\ c = k /\ ce = 0) \/ (colOf L = none /\ ce = 20)) := by
  cases h : colOf L with
  | none => exact ⟨_, _, rfl, .inr ⟨rfl, rfl⟩⟩
  | some k => exact ⟨_, _, rfl, .inl ⟨k, rfl, rfl, rfl⟩⟩
 rw [hv]
 clear hv
 have Hce := Lib.hid hce
 clear hce
 go_wp2_with fail
 refine calls_abs (fun W => Blk W w.heap.size #[.string ⟨#[]⟩, .int .i64 0, .int .i64 0, .bool false, .bool false, .bool false] /\ Blk W (w.heap.size + 1) #[.string ⟨n.toArray⟩, .int .i64 0, .int .i64 0, .bool false, .bool fc, .bool false] /\ Blk W b6 #[.string ⟨r2.toArray⟩] /\ Below w.heap.size w W) ⟨blkx, blkx, blkx, belx⟩ ?_
 clear f2 g2 z2 f4 g4 z4 f6 g6 z6
 clear k2 k4 k6 hb0
 rintro w6 ⟨k2, k4, k6, hb0⟩
 obtain ⟨f2, g2, z2⟩ := k2.facts
 obtain ⟨f4, g4, z4⟩ := k4.facts
 obtain ⟨f6, g6, z6⟩ := k6.facts
 refine (c3 w6 b6 k6).mono ?_; rintro e w7 ⟨rfl, rfl⟩
 go_wp2_with fail
 refine calls_abs (fun W => Blk W w.heap.size #[.string ⟨#[]⟩, .int .i64 0, .int .i64 0, .bool false, .bool false, .bool false] /\ Blk W (w.heap.size + 1) #[.string ⟨n.toArray⟩, .int .i64 0, .int .i64 0, .bool fr, .bool fc, .bool false] /\ Blk W b6 #[.string ⟨r3.toArray⟩] /\ Below w.heap.size w W) ⟨blkx, blkx, blkx, belx⟩ ?_
 clear f2 g2 z2 f4 g4 z4 f6 g6 z6
 clear k2 k4 k6 hb0
 rintro w7 ⟨k2, k4, k6, hb0⟩
 obtain ⟨f2, g2, z2⟩ := k2.facts
 obtain ⟨f4, g4, z4⟩ := k4.facts
 obtain ⟨f6, g6, z6⟩ := k6.facts
 refine (c4 w7 b6 k6).mono ?_; rintro e w8 ⟨rfl, rfl⟩
 go_wp2_with fail
 refine calls_abs (fun W => Blk W w.heap.size #[.string ⟨#[]⟩, .int .i64 0, .int .i64 0, .bool false, .bool false, .bool false] /\ Blk W (w.heap.size + 1) #[.string ⟨n.toArray⟩, .int .i64 0, .int .i64 0, .bool fr, .bool fc, .bool false] /\ Blk W b6 #[.string ⟨r4.toArray⟩] /\ Below w.heap.size w W) ⟨blkx, blkx, blkx, belx⟩ ?_
 clear f2 g2 z2 f4 g4 z4 f6 g6 z6
 clear k2 k4 k6 hb0
 rintro w8 ⟨k2, k4, k6, hb0⟩
 obtain ⟨f2, g2, z2⟩ := k2.facts
 obtain ⟨f4, g4, z4⟩ := k4.facts
 obtain ⟨f6, g6, z6⟩ := k6.facts
 refine (Atoi_any D lD w8 (hg.below hb0)).mono ?_; rintro e w9 ⟨v, t, rfl, hb9, hat⟩
 replace k2 := k2.below hb9
 replace k4 := k4.below hb9
 replace k6 := k6.below hb9
 replace hb0 : Below w.heap.size w w9 := after hb0 hb9
 clear f2 g2 z2 f4 g4 z4 f6 g6 z6
 clear hb9 c1 c2 c3 c4 cC
 obtain ⟨f2, g2, z2⟩ := k2.facts
 obtain ⟨f4, g4, z4⟩ := k4.facts
 obtain ⟨f6, g6, z6⟩ := k6.facts
 have Hat := Lib.hid hat
 clear hat
 go_upto_region 13 with (fail)
 cases is
 ·have Hv := Lib.hid (readOf_is n fc fr L D r4)
  go_wp2
  exact bodyPost_ret (v := .tuple #[.agg #[.string ⟨#[]⟩, .int .i64 0, .int .i64 0, .bool false, .bool false, .bool false], .int .i64 20]) (by simp [results, Tryz.results174, go_sem, *]) rfl ⟨by rw [Hv.out]; rfl, belx⟩
 rcases Hce.out with ⟨k, hc, rfl, rfl⟩ | ⟨hc, rfl⟩
 rotate_left
 ·have Hv := Lib.hid (readOf_col n true fc fr L D r4 hc)
  clear hc Hce
  go_wp2
  exact bodyPost_ret (v := .tuple #[.agg #[.string ⟨#[]⟩, .int .i64 0, .int .i64 0, .bool false, .bool false, .bool false], .int .i64 20]) (by simp [results, Tryz.results174, go_sem, *]) rfl ⟨by rw [Hv.out]; rfl, belx⟩
 clear Hce
 have Hc := Lib.hid hc
 clear hc
 rcases Hat.out with ⟨ha, rfl⟩ | ⟨hr, tp, p, rfl⟩
 rotate_left
 ·have Hv := Lib.hid (readOf_row n true fc fr L D r4 hr)
  clear hr Hat
  go_wp2
  exact bodyPost_ret (v := .tuple #[.agg #[.string ⟨#[]⟩, .int .i64 0, .int .i64 0, .bool false, .bool false, .bool false], .int .i64 20]) (by simp [results, Tryz.results174, go_sem, *]) rfl ⟨by rw [Hv.out]; rfl, belx⟩
 have vr := atoi_digits aD ha
 have Ha := Lib.hid ha
 clear ha Hat aD
 by_cases h4 : r4 = []
 rotate_left
 ·have Hv := Lib.hid (readOf_more n true fc fr L D r4 h4)
  have e4 : r4.isEmpty = false := by cases r4 <;> first | exact absurd rfl h4 | rfl
  clear h4
  go_wp2
  exact bodyPost_ret (v := .tuple #[.agg #[.string ⟨#[]⟩, .int .i64 0, .int .i64 0, .bool false, .bool false, .bool false], .int .i64 20]) (by simp [results, Tryz.results174, go_sem, *]) rfl ⟨by rw [Hv.out]; rfl, belx⟩
 subst h4
 go_wp2_with fail
 refine (Itoa_ret v (by omega) vr.2 _ (hg.below hb0)).mono ?_; rintro e w10 ⟨rfl, hb10⟩
 replace k2 := k2.below hb10
 replace k4 := k4.below hb10
 replace hb0 : Below w.heap.size w w10 := after hb0 hb10
 clear f2 g2 z2 f4 g4 z4 f6 g6 z6
 clear hb10 k6
 obtain ⟨f2, g2, z2⟩ := k2.facts
 obtain ⟨f4, g4, z4⟩ := k4.facts
 by_cases hi : Lib.itoa v = D
 rotate_left
 ·have Hv := Lib.hid (readOf_row n true fc fr L D [] (rowOf_odd Ha.out hi))
  have e5 : (Lib.itoa v == D) = false := by rw [beq_eq_false_iff_ne]; exact hi
  clear hi
  go_wp2
  exact bodyPost_ret (v := .tuple #[.agg #[.string ⟨#[]⟩, .int .i64 0, .int .i64 0, .bool false, .bool false, .bool false], .int .i64 20]) (by simp [results, Tryz.results174, go_sem, *]) rfl ⟨by rw [Hv.out]; rfl, belx⟩
 have e5 : (Lib.itoa v == D) = true := by rw [beq_iff_eq]; exact hi
 have Hv := Lib.hid (readOf_yes n fc fr L D k v Hc.out (rowOf_ok Ha.out hi))
 have e6 : IntKind.i64.wrap (v - 1) = v - 1 := IntWalk.i64_in _ (by omega)
 clear hi Hc Ha
 go_wp2_with fail
 refine (Right_any ⟨n.toArray⟩ (v - 1) k fr fc false _ (hg.below belx) (by show n.toArray.size <= _; rw [List.size_toArray]; omega)).mono ?_; rintro e w11 ⟨rfl, hb11⟩
 replace k2 : Blk w11 w.heap.size #[.string ⟨#[]⟩, .int .i64 0, .int .i64 0, .bool false, .bool false, .bool false] := Blk.below blkx hb11
 replace k4 : Blk w11 (w.heap.size + 1) #[.string ⟨n.toArray⟩, .int .i64 (v - 1), .int .i64 k, .bool fr, .bool fc, .bool false] := Blk.below blkx hb11
 replace hb0 : Below w.heap.size w w11 := belx
 clear f2 g2 z2 f4 g4 z4 hb11 e5 e6
 obtain ⟨f2, g2, z2⟩ := k2.facts
 obtain ⟨f4, g4, z4⟩ := k4.facts
 rw [ba_mk]
 by_cases hR : rightB n (v - 1) k fr fc false = true
 ·have Hw := Lib.hid (Hv.out.trans (if_pos hR))
  rw [hR]
  clear hR Hv
  go_wp2
  exact bodyPost_ret (v := .tuple #[.agg #[.string ⟨n.toArray⟩, .int .i64 (v - 1), .int .i64 k, .bool fr, .bool fc, .bool false], .int .i64 0]) (by simp [results, Tryz.results174, go_sem, *]) rfl ⟨by rw [Hw.out]; rfl, belx⟩
 ·have Hw := Lib.hid (Hv.out.trans (if_neg hR))
  rw [Bool.not_eq_true] at hR
  rw [hR]
  clear hR Hv
  go_wp2
  exact bodyPost_ret (v := .tuple #[.agg #[.string ⟨#[]⟩, .int .i64 0, .int .i64 0, .bool false, .bool false, .bool false], .int .i64 20]) (by simp [results, Tryz.results174, go_sem, *]) rfl ⟨by rw [Hw.out]; rfl, belx⟩
theorem Read_gone (s : ByteArray) (w : World) (hne : (s.toList == [35, 82, 69, 70, 33]) = true) : Calls prog 174 #[.string s] w (Ret (.tuple #[refV RefD.gone, .int .i64 0]) w) := by
 go_enter func174, ntmps174
 go_wp2
 exact bodyPost_ret (v := .tuple #[.agg #[.string ⟨#[]⟩, .int .i64 0, .int .i64 0, .bool false, .bool false, .bool true], .int .i64 0]) (by simp [results, Tryz.results174, go_sem, *]) rfl ⟨rfl, belx⟩
theorem Read_any (s : ByteArray) (w : World) (hg : Good w) (hs : s.size <= 1000000) : Calls prog 174 #[.string s] w (Ret (.tuple #[refV (readD s).1, .int .i64 (readD s).2]) w) := by
 by_cases h : s.data.toList = [35, 82, 69, 70, 33]
 ·rw [readD, if_pos h]
  exact Read_gone s w (by rw [ByteArray.toList_eq, h]; rfl)
 ·rw [readD, if_neg h]
  exact Read_go s w hg hs _ _ _ rfl (by rw [ByteArray.toList_eq, beq_eq_false_iff_ne]; exact h) _ _ _ _ _ _ _ _ rfl rfl rfl rfl rfl rfl rfl rfl
end Go.Proofs.YtlpgigdegnbkmaaGreatDoor
namespace Tab
open Go.Lib
theorem ba_eta (s : ByteArray) : (⟨s.data.toList.toArray⟩ : ByteArray) = s := by obtain ⟨⟨s⟩⟩ := s; rfl
theorem right_parts {r : RefD} (h : r.right = true) (hb : r.bad = false) : (r.s.data.toList.isEmpty || nameB r.s.data.toList) = true /\ 0 <= r.row /\ r.row < 200 /\ 0 <= r.col /\ r.col < 52 := by
 obtain ⟨s, row, col, fr, fc, bad⟩ := r
 dsimp only at hb; subst hb
 unfold RefD.right rightB at h
 rw [if_neg Bool.false_ne_true, Bool.and_eq_true, decide_eq_true_iff] at h
 exact h
theorem row_len3 : ∀ i : Fin 200, (itoa (i.val + 1 : Nat)).length <= 3 := by decide +kernel
theorem short_len (fc fr : Bool) (L : Bs) (hL : L.length <= 2) (v : Int) (h1 : 1 <= v) (h2 : v <= 200) : (fixD fc ++ L ++ fixD fr ++ itoa v).length <= 7 := by
 have := row_len3 ⟨(v - 1).toNat, by omega⟩
 have e : (((v - 1).toNat + 1 : Nat) : Int) = v := by omega
 dsimp only at this
 rw [e] at this
 have f : ∀ b, (fixD b).length <= 1 := by intro b; cases b <;> simp [fixD]
 have f1 := f fc
 have f2 := f fr
 simp only [List.length_append]
 omega
theorem col_len2 (n : Int) : (colL n).length <= 2 := by unfold colL; split <;> (try split) <;> simp
theorem text_len (r : RefD) : (textD r).1.length <= 100 := by
 cases h : r.right
 ·rw [textD_no h]; simp
 ·cases hb : r.bad
  ·rw [textD_yes h hb]
   obtain ⟨hs, h1, h2, h3, h4⟩ := right_parts h hb
   have hl : r.s.data.toList.length <= 30 := by
    rw [Bool.or_eq_true] at hs
    rcases hs with hs | hs
    ·rw [List.isEmpty_iff.1 hs]; simp
    ·simp only [nameB, Bool.and_eq_true, decide_eq_true_eq] at hs; omega
   have hsh := short_len r.fc r.fr (colL r.col) (col_len2 _) (r.row + 1) (by omega) (by omega)
   have hd := dbl_len r.s.data.toList
   unfold longD
   dsimp only
   split
   ·unfold shortD; omega
   ·split
    ·unfold shortD; rw [List.length_append, List.length_append]; simp only [List.length_cons, List.length_nil]; omega
    ·rw [repl_dbl]; unfold shortD; rw [List.length_append, List.length_append, List.length_append, List.length_append]; simp only [List.length_cons, List.length_nil]; omega
  ·rw [textD_gone h hb]; simp
end Tab
namespace Go.Proofs.YtlpgigdegnbkmaaGreatDoor
open Go.RowKit
def Keep (w : World) : List (Nat × Array Value) -> World -> Prop
 | [], W => Below w.heap.size w W
 | p :: L, W => Blk W p.1 p.2 /\ Keep w L W
section
variable {w W W1 : World} {L : List (Nat × Array Value)} {p : Nat × Array Value} {b : Nat} {C : Array Value}
theorem Keep.bel : ∀ {L : List (Nat × Array Value)}, Keep w L W -> Below w.heap.size w W
 | [], h => h
 | _ :: _, h => Keep.bel h.2
theorem Keep.hd (h : Keep w ((b, C) :: L) W) : Blk W b C := h.1
theorem Keep.tl (h : Keep w (p :: L) W) : Keep w L W := h.2
theorem Keep.below : ∀ {L : List (Nat × Array Value)}, Keep w L W -> Below W.heap.size W W1 -> Keep w L W1
 | [], h, hb => after h hb
 | _ :: _, h, hb => ⟨h.1.below hb, Keep.below h.2 hb⟩
theorem Keep.add (hk : Blk W b C) (h : Keep w L W) : Keep w ((b, C) :: L) W := ⟨hk, h⟩
theorem Keep.nil (h : Below w.heap.size w W) : Keep w [] W := h
theorem calls_keep {P : Program} {f : FuncId} {args : Array Value} {K : Ending -> World -> Prop} {W : World} (F : World -> Prop) (hF : F W) (h : ∀ w1, F w1 -> Calls P f args w1 K) : Calls P f args W K := h W hF
end
end Go.Proofs.YtlpgigdegnbkmaaGreatDoor
