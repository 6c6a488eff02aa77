/- Plain laws on what is put in place of a part of a text; on names between apostrophes. No program in sight. -/
import Derived.Test.YtmeiboajpbflcaaGreatDoorText
import Derived.Lib.ReplaceLaws
import Derived.Lib.CountLaws
import Derived.Lib.IndexLaws
import Derived.Lib.Strings
namespace Tab
open Go.Lib

section
variable {old new : Bs}
theorem repl_eq (h : (old == new) = false) (s : Bs) : replaceAll s old new = replaceK old new (count s old) s := by
  unfold replaceAll replace replaceNum
  rw [h, if_neg Bool.false_ne_true, if_pos (.inl (by decide))]
theorem index_at (s : Bs) (h : old.isPrefixOf s = true) : index s old = 0 := by
  cases s with
  | nil => cases old with
    | nil => rfl
    | cons a l => cases h
  | cons b l => unfold index; rw [if_pos h]
theorem repl_nil (h : (old == new) = false) (hn : old ≠ []) : replaceAll [] old new = [] := by
  rw [repl_eq h, count_miss (by unfold index; cases old <;> first | exact absurd rfl hn | rfl)]; rfl
theorem repl_at (h : (old == new) = false) (hn : old ≠ []) (s : Bs) (hp : old.isPrefixOf s = true) : replaceAll s old new = new ++ replaceAll (s.drop old.length) old new := by
  have hi : index s old = ((0 : Nat) : Int) := index_at s hp
  rw [repl_eq h, repl_eq h, count_hit hn hi, Nat.add_comm 1, replaceK_hit _ _ _ _ _ hi, Nat.zero_add]; rfl
theorem repl_off (h : (old == new) = false) (hn : old ≠ []) (b : UInt8) (l : Bs) (hp : old.isPrefixOf (b :: l) = false) : replaceAll (b :: l) old new = b :: replaceAll l old new := by
  have hi : index (b :: l) old = if index l old == -1 then -1 else index l old + 1 := by
    conv => lhs; unfold index
    rw [if_neg (by rw [hp]; exact Bool.false_ne_true)]
  have hge := index_ge l old
  rw [repl_eq h, repl_eq h]
  by_cases hm : index l old = -1
  · rw [hm] at hi
    rw [count_miss hm, count_miss (hi.trans rfl)]; rfl
  · obtain ⟨i, e⟩ : ∃ i : Nat, index l old = i := ⟨(index l old).toNat, by omega⟩
    have hi' : index (b :: l) old = ((i + 1 : Nat) : Int) := by
      rw [hi, if_neg (by rw [beq_iff_eq]; exact hm), e]; rfl
    rw [count_hit hn hi', count_hit hn e, Nat.add_comm 1, replaceK_hit _ _ _ _ _ hi', Nat.add_comm 1, replaceK_hit _ _ _ _ _ e, show i + 1 + old.length = (i + old.length) + 1 from by omega]; rfl
end

/-- a name's bytes, each apostrophe twice. -/
def dbl (l : Bs) : Bs := l.flatMap fun b => if b = 39 then [39, 39] else [b]
theorem dbl_cons (b : UInt8) (l : Bs) : dbl (b :: l) = (if b = 39 then [39, 39] else [b]) ++ dbl l := rfl
theorem dbl_len (l : Bs) : (dbl l).length ≤ 2 * l.length := by
  induction l with
  | nil => simp [dbl]
  | cons b l ih => rw [dbl_cons]; split <;> simp <;> omega
theorem dbl_snoc (l : Bs) (b : UInt8) : dbl (l ++ [b]) = dbl l ++ (if b = 39 then [39, 39] else [b]) := by
  unfold dbl; rw [List.flatMap_append]; simp
theorem pre1 (b : UInt8) (l : Bs) : [39].isPrefixOf (b :: l) = (39 == b) := by simp [List.isPrefixOf]
theorem repl_dbl (s : Bs) : replaceAll s [39] [39, 39] = dbl s := by
  induction s with
  | nil => exact repl_nil rfl (by simp)
  | cons b l ih =>
    by_cases hb : b = 39
    · subst hb
      rw [repl_at rfl (by simp) _ (by rw [pre1]; rfl), dbl_cons, if_pos rfl]
      show [39, 39] ++ replaceAll l _ _ = _
      rw [ih]
    · rw [repl_off rfl (by simp) b l (by rw [pre1, beq_eq_false_iff_ne]; exact fun e => hb e.symm), ih, dbl_cons, if_neg hb]; rfl
/-- two apostrophes as one. -/
def und : Bs → Bs
  | [] => []
  | [b] => [b]
  | a :: b :: l => if a = 39 ∧ b = 39 then 39 :: und l else a :: und (b :: l)
/-- two apostrophes left out. -/
def non : Bs → Bs
  | [] => []
  | [b] => [b]
  | a :: b :: l => if a = 39 ∧ b = 39 then non l else a :: non (b :: l)
theorem pre2 (a b : UInt8) (l : Bs) : [39, 39].isPrefixOf (a :: b :: l) = decide (a = 39 ∧ b = 39) := by
  show ((39 == a) && ((39 == b) && true)) = _
  rw [Bool.eq_iff_iff, Bool.and_true, Bool.and_eq_true, beq_iff_eq, beq_iff_eq, decide_eq_true_eq]
  exact ⟨fun h => ⟨h.1.symm, h.2.symm⟩, fun h => ⟨h.1.symm, h.2.symm⟩⟩
theorem repl_und : ∀ s : Bs, replaceAll s [39, 39] [39] = und s
  | [] => repl_nil rfl (by simp)
  | [b] => by rw [repl_off rfl (by simp) b [] (by simp [List.isPrefixOf]), repl_nil rfl (by simp)]; rfl
  | a :: b :: l => by
    by_cases h : a = 39 ∧ b = 39
    · rw [repl_at rfl (by simp) _ (by rw [pre2]; exact decide_eq_true h), und, if_pos h]
      show [39] ++ replaceAll l _ _ = _
      rw [repl_und l]; rfl
    · rw [repl_off rfl (by simp) a _ (by rw [pre2]; exact decide_eq_false h), repl_und (b :: l), und, if_neg h]
theorem repl_non : ∀ s : Bs, replaceAll s [39, 39] [] = non s
  | [] => repl_nil rfl (by simp)
  | [b] => by rw [repl_off rfl (by simp) b [] (by simp [List.isPrefixOf]), repl_nil rfl (by simp)]; rfl
  | a :: b :: l => by
    by_cases h : a = 39 ∧ b = 39
    · rw [repl_at rfl (by simp) _ (by rw [pre2]; exact decide_eq_true h), non, if_pos h]
      show [] ++ replaceAll l _ _ = _
      rw [repl_non l]; rfl
    · rw [repl_off rfl (by simp) a _ (by rw [pre2]; exact decide_eq_false h), repl_non (b :: l), non, if_neg h]
theorem und_len : ∀ s : Bs, (und s).length ≤ s.length
  | [] => by simp [und]
  | [b] => by simp [und]
  | a :: b :: l => by
    have h1 := und_len l
    have h2 := und_len (b :: l)
    rw [und]; split <;> simp at * <;> omega
theorem non_len : ∀ s : Bs, (non s).length ≤ s.length
  | [] => by simp [non]
  | [b] => by simp [non]
  | a :: b :: l => by
    have h1 := non_len l
    have h2 := non_len (b :: l)
    rw [non]; split <;> simp at * <;> omega
theorem und_dbl (s : Bs) : und (dbl s) = s := by
  induction s with
  | nil => rfl
  | cons b l ih =>
    rw [dbl_cons]
    by_cases hb : b = 39
    · subst hb; rw [if_pos rfl]; show und (39 :: 39 :: dbl l) = _; rw [und, if_pos ⟨rfl, rfl⟩, ih]
    · rw [if_neg hb]
      show und (b :: dbl l) = _
      cases hd : dbl l with
      | nil => rw [hd] at ih; rw [← ih]; rfl
      | cons c r => rw [und, if_neg (fun h => hb h.1), ← hd, ih]
theorem non_dbl (s : Bs) : (39 : UInt8) ∉ non (dbl s) := by
  induction s with
  | nil => simp [dbl, non]
  | cons b l ih =>
    rw [dbl_cons]
    by_cases hb : b = 39
    · subst hb; rw [if_pos rfl]; show 39 ∉ non (39 :: 39 :: dbl l); rw [non, if_pos ⟨rfl, rfl⟩]; exact ih
    · rw [if_neg hb]
      show 39 ∉ non (b :: dbl l)
      cases hd : dbl l with
      | nil => simp [non]; exact fun h => hb h.symm
      | cons c r => rw [non, if_neg (fun h => hb h.1), ← hd]; simp; exact ⟨fun h => hb h.symm, ih⟩
theorem dbl_und : ∀ n : Bs, (39 : UInt8) ∉ non n → dbl (und n) = n
  | [], _ => rfl
  | [b], h => by
    simp [non] at h
    show dbl [b] = [b]
    rw [dbl_cons, if_neg (fun e => h e.symm)]; rfl
  | a :: b :: l, h => by
    by_cases hp : a = 39 ∧ b = 39
    · rw [non, if_pos hp] at h
      rw [und, if_pos hp, dbl_cons, if_pos rfl, dbl_und l h, hp.1, hp.2]; rfl
    · rw [non, if_neg hp] at h
      simp only [List.mem_cons, not_or] at h
      rw [und, if_neg hp, dbl_cons, if_neg (fun e => h.1 e.symm), dbl_und (b :: l) h.2]; rfl
end Tab
