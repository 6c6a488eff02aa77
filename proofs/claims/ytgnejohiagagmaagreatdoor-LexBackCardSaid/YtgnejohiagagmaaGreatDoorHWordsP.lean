/- Plain: a word alone, and with a bracket behind it. No program in sight. -/
import Derived.Test.YtgnejohiagagmaaGreatDoorG17
namespace Tab
open Go
def alphaB : Bs := [65, 98, 84, 49, 95, 46, 48, 36, 57, 114, 85, 101, 70, 65, 76, 83, 69, 90]
theorem alpha_word : ∀ b ∈ alphaB, wordR b.toNat = true := by decide
theorem while_self (P : Nat → Bool) : ∀ (l : Bs), (∀ b ∈ l, P b.toNat = true) → whileD P l = l
  | [], _ => rfl
  | b :: l, h => by
    have ih := while_self P l (fun x hx => h x (by simp [hx]))
    unfold whileD at ih ⊢
    rw [List.takeWhile_cons, if_pos (h b (by simp)), ih]
theorem while_brack : ∀ (l : Bs), (∀ b ∈ l, wordR b.toNat = true) → whileD wordR (l ++ [40]) = l
  | [], _ => rfl
  | b :: l, h => by
    have ih := while_brack l (fun x hx => h x (by simp [hx]))
    unfold whileD at ih ⊢
    rw [List.cons_append, List.takeWhile_cons, if_pos (h b (by simp)), ih]
theorem index_some (d : UInt8) : ∀ (l : Bs), decide (0 ≤ Lib.index l [d]) = l.any (· == d)
  | [] => rfl
  | b :: l => by
    have ih := index_some d l
    have hg := Lib.index_ge l [d]
    rw [idx_cons, List.any_cons, ← ih]
    by_cases h : d = b
    · subst h; simp
    · have h1 : (d == b) = false := beq_eq_false_iff_ne.2 h
      have h2 : (b == d) = false := beq_eq_false_iff_ne.2 (Ne.symm h)
      rw [h1, h2, if_neg Bool.false_ne_true, Bool.false_or]
      by_cases h3 : Lib.index l [d] = -1
      · rw [h3]; rfl
      · have h4 : (Lib.index l [d] == -1) = false := beq_eq_false_iff_ne.2 h3
        rw [h4, if_neg Bool.false_ne_true, decide_eq_decide]
        omega
theorem call_is (c : UInt8) (t : Bs) (hw : ∀ b ∈ c :: t, wordR b.toNat = true) (hl : (c :: t).length ≤ 12) (hd : digR c.toNat = false) (h46 : c ≠ 46) : callD (c :: t) = !((c :: t).any (· == 36)) := by
  unfold callD
  rw [while_self wordR _ hw]
  have h1 : decide (1 ≤ (c :: t).length) = true := by simp
  have h2 : decide ((c :: t).length ≤ 30) = true := decide_eq_true (by omega)
  have h3 : ((c :: t : Bs) == c :: t) = true := by simp
  have h4 : (!digR ((c :: t).getD 0 0).toNat) = true := by show (!digR c.toNat) = true; rw [hd]; rfl
  have h5 : (!((c :: t).getD 0 0 == 46)) = true := by show (!(c == 46)) = true; rw [beq_eq_false_iff_ne.2 h46]; rfl
  have h6 : Lib.contains (c :: t) [36] = (c :: t).any (· == 36) := by rw [← index_some]; rfl
  rw [h1, h2, h3, h4, h5, h6]; simp
/-- the piece of a word. -/
def wordK (S : Bs) : PieceD :=
  if isRefD S = true then some (5, S, S.length) else if truthD S = true then some (3, upperD S, S.length) else if isNameD S = true then some (6, S, S.length) else none
theorem mk_some (k : Int) (s : Bs) (n : Nat) (h : 1 ≤ n) : mkD k s n = some (k, s, n) := by unfold mkD; rw [if_neg (by omega)]
theorem next_of_word (decE : Bs → Int) (c : UInt8) (l : Bs) (hc : wordR c.toNat = true) (hd : digR c.toNat = false) (h46 : c ≠ 46) : nextPD decE (c :: l) = wordPD (c :: l) := by
  unfold nextPD
  rw [show (c :: l).getD 0 0 = c from rfl]
  have hn : ∀ d : UInt8, wordR d.toNat = false → c ≠ d := fun d hd2 e => by rw [e, hd2] at hc; cases hc
  have h34 : c.toNat ≠ 34 := fun e => hn 34 rfl (UInt8.toNat_inj.1 e)
  have h35 : c.toNat ≠ 35 := fun e => hn 35 rfl (UInt8.toNat_inj.1 e)
  have h39 : c.toNat ≠ 39 := fun e => hn 39 rfl (UInt8.toNat_inj.1 e)
  have h46' : c.toNat ≠ 46 := fun e => h46 (UInt8.toNat_inj.1 e)
  rw [hd, if_neg Bool.false_ne_true, if_neg h34, if_neg h35, if_neg h39, if_pos ⟨hc, h46'⟩]
theorem word_alone (S : Bs) (hw : ∀ b ∈ S, wordR b.toNat = true) (h1 : 1 ≤ S.length) : wordPD S = wordK S := by
  unfold wordPD wordK
  dsimp only
  rw [while_self wordR S hw, List.drop_length]
  rw [if_neg (by decide), if_neg (by simp [Lib.hasPrefix]), if_neg (by simp [Lib.hasPrefix])]
  rw [mk_some _ _ _ h1, mk_some _ _ _ h1, mk_some _ _ _ h1]
theorem word_brack (S : Bs) (hw : ∀ b ∈ S, wordR b.toNat = true) (h1 : 1 ≤ S.length) : wordPD (S ++ [40]) = if callD S = true then some (7, S, S.length) else wordK S := by
  unfold wordPD wordK
  dsimp only
  rw [while_brack S hw, List.drop_left]
  rw [if_neg (by decide), show Lib.hasPrefix [40] [40] = true from rfl, Bool.true_and, show Lib.hasPrefix [40] [91] = false from rfl, Bool.false_and, if_neg Bool.false_ne_true]
  rw [mk_some _ _ _ h1, mk_some _ _ _ h1, mk_some _ _ _ h1, mk_some _ _ _ h1]
theorem first_not_blank (c : UInt8) (hc : wordR c.toNat = true) : c ≠ 32 := by intro e; rw [e] at hc; revert hc; decide
theorem told_word (decE : Bs → Int) (c : UInt8) (t : Bs) (hw : ∀ b ∈ c :: t, wordR b.toNat = true) (hd : digR c.toNat = false) (h46 : c ≠ 46) : toldD decE (c :: t) = (match wordK (c :: t) with
    | none => .error 0
    | some x => .ok [(x.1, x.2.1, 0)]) := by
  have hc := hw c (by simp)
  have hn : nextPD decE ((c :: t).drop 0) = wordK (c :: t) := by rw [List.drop_zero, next_of_word decE c t hc hd h46, word_alone _ hw (by simp)]
  have h32 : (c :: t).getD 0 0 ≠ 32 := first_not_blank c hc
  unfold toldD
  rw [show (c :: t).length = t.length + 1 from rfl]
  unfold toldF
  rw [if_pos (by simp), if_neg h32, hn]
  have hlen : ∀ x, wordK (c :: t) = some x → x.2.2 = t.length + 1 := fun x hx => by
    unfold wordK at hx
    repeat' split at hx
    all_goals first
      | (injection hx with hx; rw [← hx]; rfl)
      | cases hx
  cases hx : wordK (c :: t) with
  | none => rfl
  | some x =>
    dsimp only
    rw [hlen x hx, told_end decE _ _ _ (by simp)]
theorem told_brack (decE : Bs → Int) (c : UInt8) (t : Bs) (hw : ∀ b ∈ c :: t, wordR b.toNat = true) (hd : digR c.toNat = false) (h46 : c ≠ 46) : toldD decE (c :: t ++ [40]) = (match (if callD (c :: t) = true then some (7, c :: t, (c :: t).length) else wordK (c :: t) : PieceD) with
    | none => .error 0
    | some x => .ok [(x.1, x.2.1, 0), (8, [40], t.length + 1)]) := by
  have hc := hw c (by simp)
  have hn : nextPD decE ((c :: t ++ [40]).drop 0) = (if callD (c :: t) = true then some (7, c :: t, (c :: t).length) else wordK (c :: t)) := by
    rw [List.drop_zero, List.cons_append, next_of_word decE c _ hc hd h46, ← List.cons_append, word_brack _ hw (by simp)]
  have h32 : (c :: t ++ [40]).getD 0 0 ≠ 32 := first_not_blank c hc
  obtain ⟨Y, hY⟩ : ∃ Y, (if callD (c :: t) = true then some (7, c :: t, (c :: t).length) else wordK (c :: t) : PieceD) = Y := ⟨_, rfl⟩
  have hlen : ∀ x, Y = some x → x.2.2 = t.length + 1 := fun x hx => by
    rw [← hY] at hx
    unfold wordK at hx
    repeat' split at hx
    all_goals first
      | (injection hx with hx; rw [← hx]; rfl)
      | cases hx
  rw [hY] at hn ⊢
  unfold toldD
  have hL : (c :: t ++ [40]).length = t.length + 1 + 1 := by simp
  rw [hL]
  unfold toldF
  rw [if_pos (by simp), if_neg h32, hn]
  cases Y with
  | none => rfl
  | some x =>
    dsimp only
    rw [hlen x rfl]
    have hg : (c :: t ++ [40]).getD (0 + (t.length + 1)) 0 = 40 := by
      have := getD_right (c :: t) [40] 0
      rw [show (c :: t).length + 0 = 0 + (t.length + 1) by simp] at this
      exact this
    have hdp : (c :: t ++ [40]).drop (0 + (t.length + 1)) = [40] := by
      have := drop_right (c :: t) [40] 0
      rw [show (c :: t).length + 0 = 0 + (t.length + 1) by simp] at this
      exact this
    unfold toldF
    rw [if_pos (by simp), if_neg (by rw [hg]; decide), hdp]
    have hs : nextPD decE [40] = some (8, [40], 1) := rfl
    rw [hs]
    dsimp only
    rw [told_end decE _ _ _ (by simp)]
    simp
end Tab
