/- Plain laws: what a right piece is; what is told of a text is right. No program in sight. -/
import Derived.Test.YtgnejohiagagmaaGreatDoorG11
import Derived.Test.YtgnejohiagagmaaGreatDoorHLexY
namespace Tab
open Go
theorem blank_none (decE : Bs → Int) (t : Bs) : nextPD decE (32 :: t) = none := by
  unfold nextPD
  rw [show (32 :: t).getD 0 0 = (32 : UInt8) from rfl]
  rw [if_neg (by decide), if_neg (by decide), if_neg (by decide), if_neg (by decide), if_neg (by decide)]
  unfold signPD
  have : signsB.find? (fun x => Lib.hasPrefix (32 :: t) x) = none := by
    unfold signsB Lib.hasPrefix
    simp [List.find?, List.isPrefixOf]
  rw [this]; rfl
theorem nil_none (decE : Bs → Int) (x : Int × Bs × Nat) (h : nextPD decE [] = some x) : False := by
  have := next_range decE [] x h
  simp at this; omega
theorem next_first (decE : Bs → Int) (l : Bs) (x : Int × Bs × Nat) (h : nextPD decE l = some x) : ∃ c t, l = c :: t ∧ c ≠ 32 := by
  cases l with
  | nil => exact (nil_none decE x h).elim
  | cons c t =>
    refine ⟨c, t, rfl, ?_⟩
    intro e; subst e; rw [blank_none] at h; cases h
/-- a text that is one piece. -/
theorem told_whole (decE : Bs → Int) (l : Bs) (k : Int) (S : Bs) (h : nextPD decE l = some (k, S, l.length)) : toldD decE l = .ok [(k, S, 0)] := by
  obtain ⟨c, t, rfl, hc⟩ := next_first decE l _ h
  refine told_of_stand decE _ _ 0 _ (by omega) ?_
  refine .some 0 0 k S (c :: t).length [] (Nat.le_refl _) (by simp) (fun j h1 h2 => by omega) hc (by rw [List.drop_zero]; exact h) ⟨by simp, by omega⟩ (.none _ (fun j h1 h2 => by omega))
theorem stands_two (S : Bs) : standsD 2 S = 34 :: (dq S ++ [34]) := rfl
theorem stands_other {k : Int} (h : k ≠ 2) (S : Bs) : standsD k S = S := by
  unfold standsD
  rw [if_neg (by simpa using h)]
theorem right_other {decE : Bs → Int} {k : Int} {S : Bs} (h : rightD decE k S = true) (h7 : k ≠ 7) : nextPD decE (standsD k S) = some (k, S, (standsD k S).length) := by
  unfold rightD at h
  rw [if_neg (by simpa using h7)] at h
  by_cases hl : (standsD k S).length ≤ 200
  · rw [tokens_told decE _ hl] at h
    cases ht : toldD decE (standsD k S) with
    | error n => rw [ht] at h; cases h
    | ok L =>
      rw [ht] at h
      have hst := told_stand decE _ _ 0 L (by omega) ht
      cases L with
      | nil => cases h
      | cons x L =>
        unfold rightOf at h
        simp only [Bool.and_eq_true, beq_iff_eq] at h
        obtain ⟨hlen, hk, hS⟩ := h
        obtain ⟨x1, x2, x3⟩ := x
        dsimp only at hk hS
        subst hk hS
        obtain rfl : L = [] := List.eq_nil_of_length_eq_zero (by omega)
        obtain ⟨n, h0, hb, hbl, hb32, hx, ⟨hn1, hn2⟩, hL⟩ := stand_inv hst
        by_cases h2 : x1 = 2
        · subst h2
          rw [stands_two] at hb hbl hb32 hx hn2 hL ⊢
          have hb0 : x3 = 0 := by
            rcases Nat.eq_zero_or_pos x3 with h | h
            · exact h
            · have := hbl 0 (by omega) h
              exact absurd (show (34 : UInt8) = 32 from this) (by decide)
          subst hb0
          have hend : n = (34 :: (dq x2 ++ [34]) : Bs).length := by
            rcases Nat.lt_or_ge n (34 :: (dq x2 ++ [34]) : Bs).length with h | h
            · exfalso
              cases hL with
              | none _ hh =>
                have h1 := hh (dq x2).length.succ (by simp at h; omega) (by simp)
                have h2 := getD_right (34 :: dq x2) [34] 0
                rw [show (34 :: dq x2 : Bs).length + 0 = (dq x2).length.succ by simp, List.cons_append] at h2
                rw [h2] at h1
                cases h1
            · omega
          rw [hend, List.drop_zero] at hx
          exact hx
        · rw [stands_other h2] at hb hbl hb32 hx hn2 hL ⊢
          have := next_size decE _ _ _ _ hx h2
          obtain rfl : x3 = 0 := by omega
          rw [List.drop_zero, ← this] at hx
          exact hx
  · unfold tokensD at h
    rw [if_pos (by omega)] at h
    cases h
theorem right_call {decE : Bs → Int} {S : Bs} (h : rightD decE 7 S = true) : callD S = true := by
  unfold rightD at h
  rw [if_pos (by decide)] at h
  by_cases hl : (standsD 7 S ++ [40]).length ≤ 200
  · rw [tokens_told decE _ hl] at h
    cases ht : toldD decE (standsD 7 S ++ [40]) with
    | error n => rw [ht] at h; cases h
    | ok L =>
      rw [ht] at h
      have hst := told_stand decE _ _ 0 L (by omega) ht
      cases L with
      | nil => cases h
      | cons x L =>
        unfold rightOf at h
        simp only [Bool.and_eq_true, beq_iff_eq] at h
        obtain ⟨hlen, hk, hS⟩ := h
        obtain ⟨x1, x2, x3⟩ := x
        dsimp only at hk hS
        subst hk hS
        obtain ⟨n, h0, hb, hbl, hb32, hx, ⟨hn1, hn2⟩, hL⟩ := stand_inv hst
        have hok := next_ok decE _ _ hx
        dsimp only at hok
        cases hok with
        | call _ hc h1 hp => exact hc
  · unfold tokensD at h
    rw [if_pos (by omega)] at h
    cases h
theorem call_words {S : Bs} (h : callD S = true) : ∀ b ∈ S, wordR b.toNat = true := by
  unfold callD at h
  simp only [Bool.and_eq_true, Bool.not_eq_true', decide_eq_true_iff] at h
  obtain ⟨-, -, hw, -, -, -⟩ := h
  have hw2 : whileD wordR S = S := by simpa using hw
  intro b hb
  exact while_all wordR S b (by rw [hw2]; exact hb)
/-- a right piece but a call, and what may stand behind it. -/
theorem right_of_next (decE : Bs → Int) (k : Int) (S : Bs) (h : nextPD decE (standsD k S) = some (k, S, (standsD k S).length)) (h7 : k ≠ 7) (hl : (standsD k S).length ≤ 200) : rightD decE k S = true := by
  unfold rightD
  rw [if_neg (by simpa using h7), tokens_told decE _ hl, told_whole decE _ k S h]
  unfold rightOf
  simp
theorem right_of_call (decE : Bs → Int) (S : Bs) (h : callD S = true) (hl : S.length < 200) : rightD decE 7 S = true := by
  obtain ⟨c, t, rfl, hd, h46, hw⟩ := call_first h
  unfold rightD
  rw [if_pos (by decide), stands_other (by decide), tokens_told decE _ (by simp at hl ⊢; omega), told_brack decE c t (call_words h) hd h46, if_pos h]
  unfold rightOf
  simp
/-- behind a text's begin that is a number there is nothing else in it. -/
theorem num_again (l : Bs) : numD (numD l) = numD l := by
  have hd : ∀ b ∈ whileD digR l, digR b.toNat = true := while_all digR l
  have hself := while_self digR (whileD digR l) hd
  have key : numD (whileD digR l) = whileD digR l := by
    unfold numD
    dsimp only
    rw [hself, List.drop_length, if_neg (by decide)]
  have e : numD l = whileD digR l ∨ ∃ p, p ≠ [] ∧ (∀ b ∈ p, digR b.toNat = true) ∧ numD l = whileD digR l ++ 46 :: p := by
    unfold numD
    dsimp only
    split
    · split
      · exact .inl rfl
      · rename_i hp
        exact .inr ⟨_, hp, while_all digR _, rfl⟩
    · exact .inl rfl
  rcases e with e | ⟨p, hp, hpd, e⟩
  · rw [e]; exact key
  · rw [e]
    unfold numD
    dsimp only
    rw [tw_byte digR 46 (by decide), hself, List.drop_left]
    rw [if_pos (by simp [Lib.hasPrefix, List.isPrefixOf])]
    have ht : Lib.trimPrefix (46 :: p) [46] = p := by
      unfold Lib.trimPrefix
      rw [if_pos (by simp [Lib.hasPrefix, List.isPrefixOf])]
      rfl
    rw [ht, while_self digR p hpd, if_neg hp]
theorem dq_quo : ∀ (S : Bs), quoF 34 (dq S ++ [34]) = some (S, (dq S).length + 1)
  | [] => rfl
  | b :: S => by
    have ih := dq_quo S
    rw [dq_cons]
    by_cases hb : b = 34
    · subst hb
      rw [if_pos rfl]
      show quoF 34 (34 :: 34 :: (dq S ++ [34])) = _
      rw [quo_two, ih]
      simp
    · rw [if_neg hb]
      show quoF 34 (b :: (dq S ++ [34])) = _
      rw [quo_other 34 b _ hb, ih]
      simp
theorem quo_dq : ∀ (l : Bs) (p : Bs × Nat), quoF 34 l = some p → p.2 = (dq p.1).length + 1
  | [], p, h => by cases h
  | [a], p, h => by
    unfold quoF at h
    split at h
    · injection h with h; rw [← h]; rfl
    · cases h
  | a :: b :: l, p, h => by
    rw [quoF] at h
    split at h
    · split at h
      · cases hx : quoF 34 l with
        | none => rw [hx] at h; cases h
        | some y =>
          rw [hx] at h
          have := quo_dq l y hx
          injection h with h
          rw [← h]
          dsimp only
          rw [dq_cons, if_pos rfl, this]
          simp
      · injection h with h; rw [← h]; rfl
    · rename_i ha
      cases hx : quoF 34 (b :: l) with
      | none => rw [hx] at h; cases h
      | some y =>
        rw [hx] at h
        have := quo_dq (b :: l) y hx
        injection h with h
        rw [← h]
        dsimp only
        rw [dq_cons, if_neg ha, this]
        simp
theorem quo_pos (q : UInt8) : ∀ (l : Bs) (p : Bs × Nat), quoF q l = some p → 1 ≤ p.2
  | [], p, h => by cases h
  | [a], p, h => by
    unfold quoF at h
    split at h
    · injection h with h; rw [← h]; exact Nat.le_refl _
    · cases h
  | a :: b :: l, p, h => by
    rw [quoF] at h
    split at h
    · split at h
      · cases hx : quoF q l with
        | none => rw [hx] at h; cases h
        | some z => rw [hx] at h; injection h with h; rw [← h]; dsimp only; omega
      · injection h with h; rw [← h]; exact Nat.le_refl _
    · cases hx : quoF q (b :: l) with
      | none => rw [hx] at h; cases h
      | some z => rw [hx] at h; injection h with h; rw [← h]; dsimp only; omega
theorem quo_less (q : UInt8) (b : Bs) : ∀ (a : Bs) (p : Bs × Nat), quoF q (a ++ b) = some p → p.2 ≤ a.length → quoF q a = some p
  | [], p, h, hc => by
    have := quo_pos q _ p h
    simp at hc; omega
  | [x], p, h, hc => by
    by_cases hx : x = q
    · subst hx
      cases b with
      | nil => exact h
      | cons y b =>
        by_cases hy : y = x
        · subst hy
          exfalso
          have h' : quoF y (y :: y :: b) = some p := h
          rw [quo_two] at h'
          cases hz : quoF y b with
          | none => rw [hz] at h'; cases h'
          | some z => rw [hz] at h'; injection h' with h'; rw [← h'] at hc; simp at hc
        · have h' : quoF x (x :: y :: b) = some p := h
          rw [quo_end x _ (fun b l e => by injection e with e _; rw [← e]; exact hy)] at h'
          rw [quo_end x _ (fun b l e => by cases e)]
          exact h'
    · exfalso
      have h' : quoF q (x :: b) = some p := h
      rw [quo_other q x b hx] at h'
      cases hz : quoF q b with
      | none => rw [hz] at h'; cases h'
      | some z =>
        rw [hz] at h'
        injection h' with h'
        have := quo_pos q b z hz
        rw [← h'] at hc
        simp at hc; omega
  | x :: y :: a, p, h, hc => by
    by_cases hx : x = q
    · subst hx
      by_cases hy : y = x
      · subst hy
        have h' : quoF y (y :: y :: (a ++ b)) = some p := h
        rw [quo_two] at h' ⊢
        cases hz : quoF y (a ++ b) with
        | none => rw [hz] at h'; cases h'
        | some z =>
          rw [hz] at h'
          injection h' with h'
          rw [quo_less y b a z hz (by rw [← h'] at hc; simp at hc; omega), ← h']; rfl
      · have h' : quoF x (x :: y :: (a ++ b)) = some p := h
        rw [quo_end x _ (fun b l e => by injection e with e _; rw [← e]; exact hy)] at h' ⊢
        exact h'
    · have h' : quoF q (x :: (y :: a ++ b)) = some p := h
      rw [quo_other q x _ hx] at h' ⊢
      cases hz : quoF q (y :: a ++ b) with
      | none => rw [hz] at h'; cases h'
      | some z =>
        rw [hz] at h'
        injection h' with h'
        rw [quo_less q b (y :: a) z hz (by rw [← h'] at hc; simp at hc ⊢; omega), ← h']; rfl
end Tab
