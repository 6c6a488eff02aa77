/- Plain laws: what is written is read as the same; what is read may be. No program in sight. -/
import Derived.Test.YtmeiboajpbflcaaGreatDoorReadD
import Derived.Test.YtmeiboajpbflcaaGreatDoorWrite
import Derived.Test.YtmeiboajpbflcaaGreatDoorCols
namespace Tab
open Go.Lib

theorem mk_list (l : Bs) : (ByteArray.mk l.toArray).data.toList = l := rfl
theorem ba_eta (s : ByteArray) : (⟨s.data.toList.toArray⟩ : ByteArray) = s := by obtain ⟨⟨s⟩⟩ := s; rfl
theorem mem_ne (l : Bs) (b : UInt8) (h : b ∉ l) (k : Nat) (hk : k < l.length) : l[k] ≠ b := fun e => h (e ▸ List.getElem_mem hk)
theorem get_bang (l : Bs) (k : Nat) (hk : k < l.length) : ((ByteArray.mk l.toArray).data[k]!) = l[k] := by simp [hk]
theorem lastIdx_none (l : Bs) (h : (33 : UInt8) ∉ l) : ∀ k, k ≤ l.length → lastIdx ⟨l.toArray⟩ 33 k = -1
  | 0, _ => rfl
  | k + 1, hk => by
    rw [lastIdx_miss _ _ k ?_]
    · exact lastIdx_none l h k (by omega)
    · have e := get_bang l k (by omega)
      rw [e]
      intro e2
      have : (l[k]'(by omega)).toNat = 33 := by omega
      exact mem_ne l 33 h k (by omega) (UInt8.toNat_inj.1 this)
theorem lastIdx_some (n r : Bs) (h : (33 : UInt8) ∉ r) : ∀ k, n.length < k → k ≤ (n ++ 33 :: r).length → lastIdx ⟨(n ++ 33 :: r).toArray⟩ 33 k = n.length
  | 0, h0, _ => absurd h0 (by omega)
  | k + 1, h0, hk => by
    by_cases e : k = n.length
    · subst e
      refine lastIdx_hit _ _ _ ?_
      have e : ((ByteArray.mk (n ++ 33 :: r).toArray).data[n.length]!) = 33 := by simp
      rw [e]; rfl
    · have hk' : k < (n ++ 33 :: r).length := by omega
      rw [lastIdx_miss _ _ k ?_]
      · exact lastIdx_some n r h k (by omega) (by omega)
      · have e1 := get_bang (n ++ 33 :: r) k hk'
        rw [e1]
        have e2 : (n ++ 33 :: r)[k]'hk' = r[k - n.length - 1]'(by simp at hk'; omega) := by
          rw [List.getElem_append_right (by omega), List.getElem_cons]
          rw [dif_neg (by omega)]
        rw [e2]
        intro e3
        have : (r[k - n.length - 1]'(by simp at hk'; omega)).toNat = 33 := by omega
        exact mem_ne r 33 h _ (by simp at hk'; omega) (UInt8.toNat_inj.1 this)
theorem sheetD_none (l : Bs) (h : (33 : UInt8) ∉ l) : sheetD ⟨l.toArray⟩ = ([], l, true) := by
  unfold sheetD lastIndexByte
  rw [show (ByteArray.mk l.toArray).size = l.length from rfl, lastIdx_none l h _ (Nat.le_refl _), if_pos (by decide)]
theorem sheetD_some (n r : Bs) (h : (33 : UInt8) ∉ r) : sheetD ⟨(n ++ 33 :: r).toArray⟩ = partD n r := by
  unfold sheetD lastIndexByte
  rw [show (ByteArray.mk (n ++ 33 :: r).toArray).size = (n ++ 33 :: r).length from rfl, lastIdx_some n r h (n ++ 33 :: r).length (by simp) (Nat.le_refl _), if_neg (by omega)]
  simp only [Int.toNat_natCast]
  rw [List.take_left' rfl]
  congr 1
  show (n ++ 33 :: r).drop (n.length + 1) = r
  rw [show n ++ 33 :: r = (n ++ [33]) ++ r from by simp, List.drop_left' (by simp)]
theorem partD_plain (n r : Bs) (h : plainB n = true) : partD n r = (n, r, nameB n) := by rw [partD, if_pos h]
theorem no_apos (l : Bs) (h : (39 : UInt8) ∉ l) : contains l [39] = false := by
  have : ∀ l : Bs, (39 : UInt8) ∉ l → index l [39] = -1 := by
    intro l
    induction l with
    | nil => intro _; rfl
    | cons b l ih =>
      intro h
      simp only [List.mem_cons, not_or] at h
      unfold index
      rw [if_neg (by rw [pre1, beq_iff_eq]; exact h.1), ih h.2]; rfl
  unfold contains
  rw [this l h]; rfl
theorem partD_quoted (n r : Bs) (hn : n ≠ []) : partD (39 :: dbl n ++ [39]) r = (n, r, nameB n) := by
  have hp : plainB (39 :: dbl n ++ [39]) = false := by
    unfold plainB plainFrom
    have : (isLetterB 39 || (39 : UInt8) == 95 || (isDigitB 39 && !true)) = false := by decide
    simp only [List.cons_append, this, Bool.false_and]
  have hl : 1 ≤ (dbl n).length := by
    cases n with
    | nil => exact absurd rfl hn
    | cons b l => rw [dbl_cons]; split <;> simp <;> omega
  rw [partD, if_neg (by rw [hp]; exact Bool.false_ne_true), if_neg ?_]
  · have e : ((39 :: dbl n ++ [39]).take ((39 :: dbl n ++ [39]).length - 1)).drop 1 = dbl n := by simp
    rw [e, und_dbl, no_apos _ (non_dbl n)]; rfl
  · simp only [List.cons_append, List.length_cons, List.length_append, List.length_nil, List.head?_cons, not_or]
    refine ⟨by omega, by simp, ?_⟩
    rw [← List.cons_append, List.getLast?_append]; simp

/-! the rest: what stands behind the sheet. -/
theorem noL36 : isLetterB 36 = false := by decide
theorem row_all : ∀ i : Fin 200, rowOf (itoa (i.val + 1 : Nat)) = some ((i.val + 1 : Nat) : Int) ∧ (itoa (i.val + 1 : Nat)).all isDigitB = true ∧ (itoa (i.val + 1 : Nat)).isEmpty = false := by decide +kernel
theorem row_of (v : Int) (h : 1 ≤ v) (h2 : v ≤ 200) : rowOf (itoa v) = some v ∧ (itoa v).all isDigitB = true ∧ itoa v ≠ [] := by
  have := row_all ⟨(v - 1).toNat, by omega⟩
  have e : (((v - 1).toNat + 1 : Nat) : Int) = v := by omega
  dsimp only at this
  rw [e] at this
  exact ⟨this.1, this.2.1, fun h => by rw [h] at this; exact absurd this.2.2 (by decide)⟩
theorem digit_not_letter (b : UInt8) (h : isDigitB b = true) : isLetterB b = false ∧ b ≠ 36 ∧ b ≠ 33 := by
  have h' : 48 ≤ b.toNat ∧ b.toNat ≤ 57 := by unfold isDigitB at h; exact of_decide_eq_true h
  refine ⟨?_, ?_, ?_⟩
  · unfold isLetterB isLetter; exact decide_eq_false (by omega)
  · rintro rfl; revert h'; decide
  · rintro rfl; revert h'; decide
theorem letter_not (b : UInt8) (h : isLetterB b = true) : b ≠ 36 ∧ b ≠ 33 := by
  refine ⟨?_, ?_⟩ <;> (rintro rfl; revert h; decide)
theorem tw_pass (P : UInt8 → Bool) (a l : Bs) (h : a.all P = true) : (a ++ l).takeWhile P = a ++ l.takeWhile P ∧ (a ++ l).dropWhile P = l.dropWhile P := by
  induction a with
  | nil => exact ⟨rfl, rfl⟩
  | cons b a ih =>
    rw [List.all_cons, Bool.and_eq_true] at h
    obtain ⟨h1, h2⟩ := ih h.2
    exact ⟨by rw [List.cons_append, List.takeWhile_cons, if_pos h.1, h1]; rfl, by rw [List.cons_append, List.dropWhile_cons, if_pos h.1, h2]⟩
theorem unD_fix (b : Bool) (c : UInt8) (l : Bs) (h : c ≠ 36) : unD (fixD b ++ c :: l) = c :: l ∧ hasPrefix (fixD b ++ c :: l) [36] = b := by
  cases b
  · have : hasPrefix (c :: l) [36] = false := by
      unfold hasPrefix; show ((36 : UInt8) == c && true) = false
      rw [Bool.and_true, beq_eq_false_iff_ne]; exact fun e => h e.symm
    exact ⟨by show unD (c :: l) = _; unfold unD trimPrefix; rw [this]; rfl, this⟩
  · exact ⟨rfl, rfl⟩
theorem readRest_of (n : Bs) (fc fr : Bool) (L : Bs) (hL : L.all isLetterB = true) (hn : L ≠ []) (v : Int) (h1 : 1 ≤ v) (h2 : v ≤ 200) (is : Bool) :
    readRest n (fixD fc ++ L ++ fixD fr ++ itoa v) is = readOf n is fc fr L (itoa v) [] := by
  obtain ⟨_, hd, hne⟩ := row_of v h1 h2
  obtain ⟨c, l, rfl⟩ : ∃ c l, L = c :: l := by cases L with | nil => exact absurd rfl hn | cons c l => exact ⟨c, l, rfl⟩
  obtain ⟨d, m, hm⟩ : ∃ d m, itoa v = d :: m := by cases h : itoa v with | nil => exact absurd h hne | cons d m => exact ⟨d, m, rfl⟩
  have hc : isLetterB c = true := by rw [List.all_cons, Bool.and_eq_true] at hL; exact hL.1
  have hdd : isDigitB d = true := by rw [hm, List.all_cons, Bool.and_eq_true] at hd; exact hd.1
  obtain ⟨dl, d36, _⟩ := digit_not_letter d hdd
  obtain ⟨u1, p1⟩ := unD_fix fc c (l ++ fixD fr ++ itoa v) (letter_not c hc).1
  have e1 : fixD fc ++ (c :: l) ++ fixD fr ++ itoa v = fixD fc ++ c :: (l ++ fixD fr ++ itoa v) := by simp
  have e2 : c :: (l ++ fixD fr ++ itoa v) = (c :: l) ++ (fixD fr ++ itoa v) := by simp
  obtain ⟨t1, t2⟩ := tw_pass isLetterB (c :: l) (fixD fr ++ itoa v) hL
  have st : (fixD fr ++ itoa v).takeWhile isLetterB = [] ∧ (fixD fr ++ itoa v).dropWhile isLetterB = fixD fr ++ itoa v := by
    cases fr
    · show (itoa v).takeWhile _ = _ ∧ _; rw [hm]; exact ⟨by rw [List.takeWhile_cons, if_neg (by rw [dl]; exact Bool.false_ne_true)], by show (d :: m).dropWhile _ = d :: m; rw [List.dropWhile_cons, if_neg (by rw [dl]; exact Bool.false_ne_true)]⟩
    · exact ⟨rfl, rfl⟩
  obtain ⟨u2, p2⟩ := unD_fix fr d m d36
  have r1 : restD (fixD fc ++ (c :: l) ++ fixD fr ++ itoa v) = fixD fr ++ itoa v := by
    unfold restD; rw [e1, u1, e2, t2, st.2]
  unfold readRest
  rw [r1, hm, u2, p2, ← hm, e1, u1, p1, e2, t1, st.1, List.append_nil]
  obtain ⟨t3, t4⟩ := tw_pass isDigitB (itoa v) [] hd
  rw [List.append_nil] at t3 t4
  rw [t3, t4]; simp
theorem col_all : ∀ c : Fin 52, (colL (c.val : Int)).all isLetterB = true ∧ (colL (c.val : Int)).isEmpty = false ∧ colOf (colL (c.val : Int)) = some c.val ∧
    ((colL (c.val : Int)).map fun b => if 65 ≤ b ∧ b ≤ 90 then b + 32 else b).all isLetterB = true ∧ ((colL (c.val : Int)).map fun b => if 65 ≤ b ∧ b ≤ 90 then b + 32 else b).isEmpty = false ∧ colOf ((colL (c.val : Int)).map fun b => if 65 ≤ b ∧ b ≤ 90 then b + 32 else b) = some c.val := by decide +kernel
def lowB (b : UInt8) : UInt8 := if 65 ≤ b ∧ b ≤ 90 then b + 32 else b
theorem col_of (c : Int) (h : 0 ≤ c) (h2 : c < 52) : ((colL c).all isLetterB = true ∧ colL c ≠ [] ∧ colOf (colL c) = some c.toNat) ∧ ((colL c).map lowB).all isLetterB = true ∧ (colL c).map lowB ≠ [] ∧ colOf ((colL c).map lowB) = some c.toNat := by
  have := col_all ⟨c.toNat, by omega⟩
  have e : ((c.toNat : Nat) : Int) = c := by omega
  dsimp only at this
  rw [e] at this
  obtain ⟨a1, a2, a3, a4, a5, a6⟩ := this
  exact ⟨⟨a1, fun h => by rw [h] at a2; exact absurd a2 (by decide), a3⟩, a4, fun h => by unfold lowB at h; rw [h] at a5; exact absurd a5 (by decide), a6⟩
/-- a place's text, its column's letters small. -/
def smallD (r : RefD) : Bs := fixD r.fc ++ (colL r.col).map lowB ++ fixD r.fr ++ itoa (r.row + 1)
theorem no33 (fc fr : Bool) (L : Bs) (hL : L.all isLetterB = true) (v : Int) (h1 : 1 ≤ v) (h2 : v ≤ 200) : (33 : UInt8) ∉ fixD fc ++ L ++ fixD fr ++ itoa v := by
  obtain ⟨_, hd, _⟩ := row_of v h1 h2
  have f : ∀ b, (33 : UInt8) ∉ fixD b := by intro b; cases b <;> decide
  simp only [List.mem_append, not_or]
  refine ⟨⟨⟨f _, ?_⟩, f _⟩, ?_⟩
  · intro h; exact (letter_not _ (List.all_eq_true.1 hL _ h)).2 rfl
  · intro h; exact (digit_not_letter _ (List.all_eq_true.1 hd _ h)).2.2 rfl
theorem head_ok (fc fr : Bool) (L : Bs) (hL : L.all isLetterB = true) (hn : L ≠ []) (v : Int) : (fixD fc ++ L ++ fixD fr ++ itoa v) ≠ [35, 82, 69, 70, 33] := by
  obtain ⟨c, l, rfl⟩ : ∃ c l, L = c :: l := by cases L with | nil => exact absurd rfl hn | cons c l => exact ⟨c, l, rfl⟩
  rw [List.all_cons, Bool.and_eq_true] at hL
  cases fc
  · intro h; simp [fixD] at h; have := hL.1; rw [h.1] at this; exact absurd this (by decide)
  · intro h; simp [fixD] at h
theorem right_parts {r : RefD} (h : r.right = true) (hb : r.bad = false) : (r.s.data.toList.isEmpty || nameB r.s.data.toList) = true ∧ 0 ≤ r.row ∧ r.row < 200 ∧ 0 ≤ r.col ∧ r.col < 52 := by
  obtain ⟨s, row, col, fr, fc, bad⟩ := r
  dsimp only at hb; subst hb
  unfold RefD.right rightB at h
  rw [if_neg Bool.false_ne_true, Bool.and_eq_true, decide_eq_true_iff] at h
  exact h
theorem readOf_right (n : ByteArray) (fc fr : Bool) (L : Bs) (c : Nat) (v : Int) (hc : colOf L = some c) (hv : rowOf (itoa v) = some v) (hr : RefD.right ⟨n, v - 1, c, fr, fc, false⟩ = true) :
    readOf n.data.toList true fc fr L (itoa v) [] = (⟨n, v - 1, c, fr, fc, false⟩, 0) := by
  rw [readOf_yes _ _ _ _ _ c v hc hv, ba_eta, if_pos hr]
theorem name_ne {l : Bs} (h : nameB l = true) : l ≠ [] := by
  rintro rfl; exact absurd h (by decide)
/-- what is written with these letters for its column is read as it was. -/
theorem read_back (r : RefD) (h : r.right = true) (hb : r.bad = false) (L : Bs) (hL : L.all isLetterB = true) (hn : L ≠ []) (hc : colOf L = some r.col.toNat) (pre : Bs)
    (hpre : (r.s.data.toList = [] ∧ pre = []) ∨ (nameB r.s.data.toList = true ∧ plainB r.s.data.toList = true ∧ pre = r.s.data.toList ++ [33]) ∨ (nameB r.s.data.toList = true ∧ pre = 39 :: dbl r.s.data.toList ++ [39] ++ [33])) :
    readD ⟨(pre ++ (fixD r.fc ++ L ++ fixD r.fr ++ itoa (r.row + 1))).toArray⟩ = (r, 0) := by
  obtain ⟨hs, h1, h2, h3, h4⟩ := right_parts h hb
  obtain ⟨hv, _, _⟩ := row_of (r.row + 1) (by omega) (by omega)
  have n33 := no33 r.fc r.fr L hL (r.row + 1) (by omega) (by omega)
  have fin : readRest r.s.data.toList (fixD r.fc ++ L ++ fixD r.fr ++ itoa (r.row + 1)) true = (r, 0) := by
    have e : (⟨r.s, r.row + 1 - 1, (r.col.toNat : Nat), r.fr, r.fc, false⟩ : RefD) = r := by
      obtain ⟨s, row, col, fr, fc, bad⟩ := r
      dsimp only at *
      subst hb
      rw [show row + 1 - 1 = row from by omega, show ((col.toNat : Nat) : Int) = col from by omega]
    rw [readRest_of _ _ _ L hL hn _ (by omega) (by omega), readOf_right r.s r.fc r.fr L r.col.toNat (r.row + 1) hc hv (by rw [e]; exact h), e]
  have hz := head_ok r.fc r.fr L hL hn (r.row + 1)
  generalize fixD r.fc ++ L ++ fixD r.fr ++ itoa (r.row + 1) = T at *
  unfold readD
  rcases hpre with ⟨e, rfl⟩ | ⟨hnm, hp, rfl⟩ | ⟨hnm, rfl⟩
  · rw [List.nil_append, mk_list, if_neg hz, sheetD_none T n33]
    rw [e] at fin; exact fin
  · have e : r.s.data.toList ++ [33] ++ T = r.s.data.toList ++ 33 :: T := by simp
    rw [e, mk_list, if_neg ?_, sheetD_some _ _ n33, partD_plain _ _ hp]
    · rw [hnm]; exact fin
    · obtain ⟨c, l, hcl⟩ : ∃ c l, r.s.data.toList = c :: l := by cases hh : r.s.data.toList with | nil => exact absurd hh (name_ne hnm) | cons c l => exact ⟨c, l, rfl⟩
      rw [hcl]
      intro h; simp at h
      rw [hcl, h.1] at hp
      unfold plainB plainFrom at hp
      rw [show (isLetterB 35 || (35 : UInt8) == 95 || (isDigitB 35 && !true)) = false from by decide] at hp
      simp at hp
  · have e : 39 :: dbl r.s.data.toList ++ [39] ++ [33] ++ T = (39 :: dbl r.s.data.toList ++ [39]) ++ 33 :: T := by simp
    rw [e, mk_list, if_neg ?_, sheetD_some _ _ n33, partD_quoted _ _ (name_ne hnm)]
    · rw [hnm]; exact fin
    · intro h; simp at h
/-- Read undoes Text. -/
theorem read_text (r : RefD) (h : r.right = true) : readD ⟨(textD r).1.toArray⟩ = (r, 0) := by
  cases hb : r.bad
  · rw [textD_yes h hb]
    obtain ⟨hs, h1, h2, h3, h4⟩ := right_parts h hb
    obtain ⟨⟨c1, c2, c3⟩, _⟩ := col_of r.col h3 h4
    unfold longD
    by_cases he : r.s.data.toList.isEmpty = true
    · rw [if_pos he]
      have := read_back r h hb (colL r.col) c1 c2 c3 [] (.inl ⟨List.isEmpty_iff.1 he, rfl⟩)
      exact this
    · rw [if_neg he]
      have hnm : nameB r.s.data.toList = true := by rw [Bool.or_eq_true] at hs; rcases hs with hs | hs; exact absurd hs he; exact hs
      by_cases hp : plainB r.s.data.toList = true
      · rw [if_pos hp]
        exact read_back r h hb (colL r.col) c1 c2 c3 _ (.inr (.inl ⟨hnm, hp, rfl⟩))
      · rw [if_neg hp, repl_dbl]
        have := read_back r h hb (colL r.col) c1 c2 c3 _ (.inr (.inr ⟨hnm, rfl⟩))
        exact this
  · rw [textD_gone h hb]
    obtain ⟨s, row, col, fr, fc, bad⟩ := r
    dsimp only at hb; subst hb
    unfold RefD.right rightB at h
    simp at h
    obtain ⟨⟨⟨⟨h1, h2⟩, h3⟩, h4⟩, h5⟩ := h
    subst h2 h3 h4 h5
    have : s = ⟨#[]⟩ := by rw [← ba_eta s]; simp only [ByteArray.mk.injEq]; simpa using h1
    subst this; rfl
/-- unlike references are written in unlike ways. -/
theorem text_inj {r q : RefD} (hr : r.right = true) (hq : q.right = true) : ((textD r).1 = (textD q).1) ↔ r = q := by
  constructor
  · intro h
    have h1 := read_text r hr
    rw [h, read_text q hq] at h1
    exact ((Prod.mk.injEq _ _ _ _).mp h1).1.symm
  · rintro rfl; rfl
/-- what is read may be; what is refused is nothing. -/
theorem read_right (s : ByteArray) : ((readD s).2 = 0 ∧ (readD s).1.right = true) ∨ ((readD s).2 = 20 ∧ (readD s).1 = RefD.zero) := by
  unfold readD
  split
  · exact .inl ⟨rfl, by decide⟩
  · unfold readRest readOf
    split
    · split
      · rename_i h; exact .inl ⟨rfl, h.2⟩
      · exact .inr ⟨rfl, rfl⟩
    · exact .inr ⟨rfl, rfl⟩
theorem row_len3 : ∀ i : Fin 200, (itoa (i.val + 1 : Nat)).length ≤ 3 := by decide +kernel
theorem short_len (fc fr : Bool) (L : Bs) (hL : L.length ≤ 2) (v : Int) (h1 : 1 ≤ v) (h2 : v ≤ 200) : (fixD fc ++ L ++ fixD fr ++ itoa v).length ≤ 7 := by
  have := row_len3 ⟨(v - 1).toNat, by omega⟩
  have e : (((v - 1).toNat + 1 : Nat) : Int) = v := by omega
  dsimp only at this
  rw [e] at this
  have f : ∀ b, (fixD b).length ≤ 1 := by intro b; cases b <;> simp [fixD]
  have f1 := f fc
  have f2 := f fr
  simp only [List.length_append]
  omega
theorem col_len2 (n : Int) : (colL n).length ≤ 2 := by unfold colL; split <;> (try split) <;> simp
theorem text_len (r : RefD) : (textD r).1.length ≤ 100 := by
  cases h : r.right
  · rw [textD_no h]; simp
  · cases hb : r.bad
    · rw [textD_yes h hb]
      obtain ⟨hs, h1, h2, h3, h4⟩ := right_parts h hb
      have hl : r.s.data.toList.length ≤ 30 := by
        rw [Bool.or_eq_true] at hs
        rcases hs with hs | hs
        · rw [List.isEmpty_iff.1 hs]; simp
        · simp only [nameB, Bool.and_eq_true, decide_eq_true_eq] at hs; omega
      have hsh := short_len r.fc r.fr (colL r.col) (col_len2 _) (r.row + 1) (by omega) (by omega)
      have hd := dbl_len r.s.data.toList
      unfold longD
      dsimp only
      split
      · unfold shortD; omega
      · split
        · unfold shortD; rw [List.length_append, List.length_append]; simp only [List.length_cons, List.length_nil]; omega
        · rw [repl_dbl]; unfold shortD; rw [List.length_append, List.length_append, List.length_append, List.length_append]; simp only [List.length_cons, List.length_nil]; omega
    · rw [textD_gone h hb]; simp
end Tab
