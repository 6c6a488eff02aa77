/- Plain: pieces of the table, with blanks between, are told as they are. No program in sight. -/
import Derived.Test.YtgnejohiagagmaaGreatDoorHPiecesW
import Derived.Test.YtgnejohiagagmaaGreatDoorHWordsP
namespace Tab
open Go
def tabK (n : Nat) : Int := if 24 ≤ n then 8 else kindsT.getD n 0
def tabS (n : Nat) : Bs := if 24 ≤ n then signsB.getD (n - 24) [] else wordsT.getD n []
/-- whether a piece of the table is told as it stands, alone. -/
def chkT (n : Nat) : Bool :=
  if tabK n == 7 then (callD (tabS n) && ((tabS n).all (fun b => wordR b.toNat) && decide ((tabS n).length ≤ 13)))
  else ((nextPD decED (standsD (tabK n) (tabS n)) == some (tabK n, tabS n, (standsD (tabK n) (tabS n)).length)) && (((standsD (tabK n) (tabS n)).getD 0 32 != 32) && (decide ((standsD (tabK n) (tabS n)).length ≤ 13) && (printD decED [(tabK n, tabS n, 0)] == (standsD (tabK n) (tabS n), 0)))))
theorem chk_all : (List.range 44).all chkT = true := by kernel_rfl
theorem chk_at (n : Nat) (h : n < 44) : chkT n = true := List.all_eq_true.1 chk_all n (List.mem_range.2 h)
/-- a piece of the table. -/
def InT (k : Int) (S : Bs) : Prop := ∃ n, n < 44 ∧ k = tabK n ∧ S = tabS n
theorem in_call {S : Bs} (h : InT 7 S) : callD S = true ∧ (∀ b ∈ S, wordR b.toNat = true) ∧ S.length ≤ 13 := by
  obtain ⟨n, hn, hk, rfl⟩ := h
  have := chk_at n hn
  unfold chkT at this
  rw [← hk, if_pos (show ((7 : Int) == 7) = true from rfl)] at this
  simp only [Bool.and_eq_true, decide_eq_true_iff, List.all_eq_true] at this
  exact ⟨this.1, this.2.1, this.2.2⟩
theorem in_other {k : Int} {S : Bs} (h : InT k S) (h7 : k ≠ 7) : nextPD decED (standsD k S) = some (k, S, (standsD k S).length) ∧ (standsD k S).getD 0 32 ≠ 32 ∧ (standsD k S).length ≤ 13 ∧ printD decED [(k, S, 0)] = (standsD k S, 0) := by
  obtain ⟨n, hn, rfl, rfl⟩ := h
  have := chk_at n hn
  unfold chkT at this
  rw [if_neg (by simpa using h7)] at this
  simp only [Bool.and_eq_true, decide_eq_true_iff, beq_iff_eq, bne_iff_ne, ne_eq] at this
  exact ⟨this.1, this.2.1, this.2.2.1, this.2.2.2⟩
/-- a call's word, with its bracket behind it and whatever more. -/
theorem while_more (l r : Bs) (h : ∀ b ∈ l, wordR b.toNat = true) : whileD wordR (l ++ 40 :: r) = l := by
  induction l with
  | nil => rfl
  | cons b l ih =>
    have ih := ih (fun x hx => h x (by simp [hx]))
    unfold whileD at ih ⊢
    rw [List.cons_append, List.takeWhile_cons, if_pos (h b (by simp)), ih]
theorem call_brack (decE : Bs → Int) (S r : Bs) (hc : callD S = true) (hw : ∀ b ∈ S, wordR b.toNat = true) : nextPD decE (S ++ 40 :: r) = some (7, S, S.length) := by
  obtain ⟨c, t, rfl, hd, h46, hcw⟩ := call_first hc
  rw [List.cons_append, next_of_word decE c _ hcw hd h46, ← List.cons_append]
  unfold wordPD
  dsimp only
  rw [while_more _ r hw, List.drop_left]
  rw [if_neg (by simp [Lib.hasPrefix, List.isPrefixOf]), if_pos (by rw [hc]; simp [Lib.hasPrefix, List.isPrefixOf]), mk_some _ _ _ (by simp)]
def blanksB (n : Nat) : Bs := List.replicate n 32
/-- the text so far is told as these pieces, whatever comes behind that may. -/
def AheadT (t : Bs) (L : List TokT) (pend : Bool) : Prop := ∀ (r : Bs) (M : List TokT), (if pend = true then ∃ r', r = 40 :: r' else (r = [] ∨ ∃ r', r = 32 :: r')) → Stand decED (t ++ r) t.length M → Stand decED (t ++ r) 0 (L ++ M)
theorem ahead_nil : AheadT [] [] false := fun _ _ _ h => h
theorem ahead_piece (t : Bs) (L : List TokT) (pend pend' : Bool) (n : Nat) (k : Int) (S W : Bs) (h : AheadT t L pend) (hW0 : W.getD 0 32 ≠ 32)
    (hp : pend = true → n = 0 ∧ ∃ W', W = 40 :: W') (hq : pend = false → 1 ≤ n)
    (hx : ∀ r, (if pend' = true then ∃ r', r = 40 :: r' else (r = [] ∨ ∃ r', r = 32 :: r')) → nextPD decED (W ++ r) = some (k, S, W.length)) :
    AheadT (t ++ blanksB n ++ W) (L ++ [(k, S, t.length + n)]) pend' := by
  intro r M hr hM
  have hWl : 1 ≤ W.length := by cases W with
    | nil => exact absurd rfl hW0
    | cons c W => simp
  have hbl : (blanksB n).length = n := by unfold blanksB; simp
  have e1 : t ++ blanksB n ++ W ++ r = t ++ (blanksB n ++ (W ++ r)) := by simp
  have e2 : t ++ blanksB n ++ W ++ r = (t ++ blanksB n) ++ (W ++ r) := by simp
  have el : (t ++ blanksB n).length = t.length + n := by rw [List.length_append, hbl]
  have el2 : (t ++ blanksB n ++ W).length = t.length + n + W.length := by rw [List.length_append, el]
  have e3 : L ++ [(k, S, t.length + n)] ++ M = L ++ (k, S, t.length + n) :: M := by simp
  rw [e1, e3]
  rw [e1, el2] at hM
  refine h (blanksB n ++ (W ++ r)) _ ?_ ?_
  · cases pend with
    | true =>
      obtain ⟨rfl, W', rfl⟩ := hp rfl
      rw [if_pos rfl]
      exact ⟨W' ++ r, rfl⟩
    | false =>
      have := hq rfl
      obtain ⟨m, rfl⟩ : ∃ m, n = m + 1 := ⟨n - 1, by omega⟩
      rw [if_neg Bool.false_ne_true]
      exact .inr ⟨blanksB m ++ (W ++ r), rfl⟩
  · have hget : (t ++ (blanksB n ++ (W ++ r))).getD (t.length + n) 0 = (W ++ r).getD 0 0 := by
      have := getD_right (t ++ blanksB n) (W ++ r) 0
      rw [el, Nat.add_zero] at this
      rw [← List.append_assoc]; exact this
    have hdrop : (t ++ (blanksB n ++ (W ++ r))).drop (t.length + n) = W ++ r := by
      have := drop_right (t ++ blanksB n) (W ++ r) 0
      rw [el, Nat.add_zero] at this
      rw [← List.append_assoc]; exact this
    refine .some _ (t.length + n) k S W.length M (by omega) (by simp only [List.length_append, hbl]; omega) (fun j h1 h2 => ?_) ?_ (by rw [hdrop]; exact hx r hr) ⟨hWl, by simp only [List.length_append, hbl]; omega⟩ hM
    · obtain ⟨i, rfl⟩ : ∃ i, j = t.length + i := ⟨j - t.length, by omega⟩
      rw [getD_right, getD_left _ _ _ (by rw [hbl]; omega)]
      unfold blanksB
      rw [List.getD_eq_getElem?_getD, List.getElem?_replicate, if_pos (by omega)]; rfl
    · rw [hget]
      cases W with
      | nil => exact absurd rfl hW0
      | cons c W => exact hW0
theorem ahead_other (t : Bs) (L : List TokT) (pend : Bool) (n : Nat) (k : Int) (S : Bs) (h : AheadT t L pend) (hT : InT k S) (h7 : k ≠ 7) (hp : pend = true → n = 0 ∧ k = 8 ∧ S = [40]) (hq : pend = false → 1 ≤ n) : AheadT (t ++ blanksB n ++ standsD k S) (L ++ [(k, S, t.length + n)]) false := by
  obtain ⟨h1, h2, -, -⟩ := in_other hT h7
  refine ahead_piece t L pend false n k S _ h h2 (fun e => ?_) hq fun r hr => ?_
  · obtain ⟨rfl, rfl, rfl⟩ := hp e
    exact ⟨rfl, [], rfl⟩
  · rw [if_neg Bool.false_ne_true] at hr
    rcases hr with rfl | ⟨r', rfl⟩
    · rw [List.append_nil]; exact h1
    · exact next_blank decED _ r' (by intro e; rw [e] at h2; exact h2 rfl) _ h1
theorem ahead_call (t : Bs) (L : List TokT) (n : Nat) (S : Bs) (h : AheadT t L false) (hT : InT 7 S) (hq : 1 ≤ n) : AheadT (t ++ blanksB n ++ S) (L ++ [(7, S, t.length + n)]) true := by
  obtain ⟨h1, h2, -⟩ := in_call hT
  refine ahead_piece t L false true n 7 S S h ?_ (fun e => by cases e) (fun _ => hq) fun r hr => ?_
  · obtain ⟨c, u, rfl, -, -, hcw⟩ := call_first h1
    exact first_not_blank c hcw
  · rw [if_pos rfl] at hr
    obtain ⟨r', rfl⟩ := hr
    exact call_brack decED S r' h1 h2
theorem ahead_end (t : Bs) (L : List TokT) (h : AheadT t L false) : toldD decED (t ++ [32, 32]) = .ok L := by
  have := h [32, 32] [] (by rw [if_neg Bool.false_ne_true]; exact .inr ⟨[32], rfl⟩) (.none _ (fun k h1 h2 => by
    obtain ⟨i, rfl⟩ : ∃ i, k = t.length + i := ⟨k - t.length, by omega⟩
    rw [getD_right]
    simp at h2
    match i, h2 with
    | 0, _ => rfl
    | 1, _ => rfl
    | i + 2, h2 => omega))
  rw [List.append_nil] at this
  exact told_of_stand decED _ _ 0 L (by omega) this
/-- alike, but for their places. -/
theorem sameT_map : ∀ (L M : List TokT), L.map (fun x => (x.1, x.2.1)) = M.map (fun x => (x.1, x.2.1)) → sameT L M = true
  | [], [], _ => rfl
  | [], _ :: _, h => by cases h
  | _ :: _, [], h => by cases h
  | x :: L, y :: M, h => by
    simp only [List.map_cons, List.cons.injEq, Prod.mk.injEq] at h
    show (_ && sameT L M) = true
    rw [sameT_map L M h.2, h.1.1, h.1.2]; simp
end Tab
