/- Plain: what is printed is told as the same pieces, and what is told is printed. No program in sight. -/
import Derived.Test.YtgnejohiagagmaaGreatDoorHBlanksP
import Derived.Test.YtgnejohiagagmaaGreatDoorHLexZ
namespace Tab
open Go
theorem next_num (decE : Bs → Int) (S : Bs) (h : digR (S.getD 0 0).toNat = true) : nextPD decE S = numberPD decE S := by
  unfold nextPD
  rw [if_pos h]
theorem far_form (l : Bs) (n : Nat) (h : Lib.hasPrefix (l.drop n) [33] = true) : ∃ A t, l = A ++ 33 :: t ∧ A.length = n := by
  have h2 := pre_len _ _ h
  rw [List.length_drop] at h2
  simp only [List.length_cons, List.length_nil] at h2
  refine ⟨l.take n, (l.drop n).tail, ?_, by rw [List.length_take]; omega⟩
  cases hd : l.drop n with
  | nil => rw [hd] at h; cases h
  | cons c t =>
    rw [hd] at h
    unfold Lib.hasPrefix at h
    simp [List.isPrefixOf] at h
    subst h
    rw [List.tail_cons, ← hd, List.take_append_drop]
theorem far_val (A t : Bs) : farD (A ++ 33 :: t) A.length = if A.length ≠ 0 then (if isRefD (A ++ 33 :: whileD cellR t) = true then some (5, A ++ 33 :: whileD cellR t, (A ++ 33 :: whileD cellR t).length) else none) else none := by
  unfold farD
  rw [List.drop_left]
  have h1 : Lib.hasPrefix (33 :: t) [33] = true := by simp [Lib.hasPrefix, List.isPrefixOf]
  have h2 : Lib.trimPrefix (33 :: t) [33] = t := by unfold Lib.trimPrefix; rw [if_pos h1]; rfl
  have h3 : (A ++ 33 :: t).take (A.length + 1) = A ++ [33] := by
    rw [show A ++ 33 :: t = (A ++ [33]) ++ t by simp]
    exact List.take_left' (by simp)
  rw [h2, h3]
  by_cases h0 : A.length = 0
  · rw [if_neg (fun h => h.2 h0), if_neg (by simpa using h0)]
  · rw [if_pos ⟨h1, h0⟩, if_pos h0]
    have e : A ++ [33] ++ whileD cellR t = A ++ 33 :: whileD cellR t := by simp
    rw [e]
    cases hr : isRefD (A ++ 33 :: whileD cellR t) with
    | true =>
      rw [if_pos rfl, if_pos rfl]
      unfold mkD
      rw [if_neg (by simp)]
    | false => rw [if_neg Bool.false_ne_true, if_neg Bool.false_ne_true]
theorem far_again (l : Bs) (n : Nat) (x : Int × Bs × Nat) (h : farD l n = some x) : x.1 = 5 ∧ x.2.2 = x.2.1.length ∧ ∃ A t, l = A ++ 33 :: t ∧ A.length = n ∧ x.2.1 = A ++ 33 :: whileD cellR t ∧ farD x.2.1 n = some x ∧ n ≠ 0 := by
  have hp : Lib.hasPrefix (l.drop n) [33] = true := by
    unfold farD at h
    split at h
    · rename_i hp; exact hp.1
    · cases h
  obtain ⟨A, t, rfl, rfl⟩ := far_form l n hp
  have h' := h
  rw [far_val] at h
  split at h
  · rename_i h0
    split at h
    · rename_i hr
      injection h with h
      subst h
      refine ⟨rfl, rfl, A, t, rfl, rfl, rfl, ?_, h0⟩
      dsimp only
      rw [far_val, while_self cellR _ (while_all cellR t), if_pos h0, if_pos hr]
    · cases h
  · cases h
theorem cut_end (name : Bs) (d : UInt8) (h : ∀ b ∈ name, b ≠ d) : Lib.cut (name ++ [d]) [d] = (name, [], true) := by
  have hi : ∀ (l : Bs), (∀ b ∈ l, b ≠ d) → Lib.index (l ++ [d]) [d] = l.length := by
    intro l
    induction l with
    | nil => intro _; show Lib.index [d] [d] = 0; rw [idx_cons, if_pos (by simp)]
    | cons b l ih =>
      intro hb
      have ih := ih (fun x hx => hb x (by simp [hx]))
      rw [List.cons_append, idx_cons, if_neg (by simpa using fun e => hb b (by simp) e.symm), ih, if_neg (by first | (simp; done) | (simp; omega))]
      simp
  unfold Lib.cut
  rw [hi name h, if_pos (by omega)]
  simp
theorem cut_no (l : Bs) (d : UInt8) (h : (Lib.cut l [d]).2.2 = true) : ∀ b ∈ (Lib.cut l [d]).1, b ≠ d := by
  have key : ∀ (l : Bs), 0 ≤ Lib.index l [d] → ∀ b ∈ l.take (Lib.index l [d]).toNat, b ≠ d := by
    intro l
    induction l with
    | nil => intro h; simp [Lib.index] at h
    | cons c l ih =>
      intro h b hb
      rw [idx_cons] at h hb
      split at hb
      · simp at hb
      · rename_i hc
        rw [if_neg hc] at h
        split at hb
        · rename_i h1
          rw [if_pos h1] at h; omega
        · rename_i h1
          rw [if_neg h1] at h
          have h2 : Lib.index l [d] ≠ -1 := by simpa using h1
          have h3 := Lib.index_ge l [d]
          have e : (Lib.index l [d] + 1).toNat = (Lib.index l [d]).toNat + 1 := by omega
          rw [e, List.take_succ_cons] at hb
          rcases List.mem_cons.1 hb with rfl | hb
          · intro e; subst e; exact hc (by simp)
          · exact ih (by omega) b hb
  unfold Lib.cut at h ⊢
  split at h
  · rename_i h0
    rw [if_pos h0]
    exact key l h0
  · cases h
theorem column_again (l t : Bs) (x : Int × Bs × Nat) (h : columnD l t = some x) : ∃ u, x = (9, t ++ 91 :: u, (t ++ 91 :: u).length) ∧ columnD (t ++ 91 :: u) t = some x := by
  unfold columnD at h
  split at h
  · rename_i hp
    obtain ⟨h1, h2, h3, h4, h5⟩ := hp
    have hno := cut_no _ _ h1
    generalize (Lib.cut (l.drop (t.length + 1)) [93]).1 = name at *
    have h := (mk_range h).1
    have e : t ++ [91] ++ name ++ [93] = t ++ 91 :: (name ++ [93]) := by simp
    rw [e] at h
    refine ⟨name ++ [93], h, ?_⟩
    have hd : (t ++ 91 :: (name ++ [93])).drop (t.length + 1) = name ++ [93] := by
      rw [show t ++ 91 :: (name ++ [93]) = (t ++ [91]) ++ (name ++ [93]) by simp]
      exact List.drop_left' (by simp)
    unfold columnD
    rw [hd, cut_end name 93 hno]
    dsimp only
    rw [if_pos ⟨rfl, h2, h3, h4, h5⟩, e, h]
    unfold mkD
    rw [if_neg (by simp)]
  · cases h
theorem while_pre (P : Nat → Bool) (l : Bs) : ∃ u, l = whileD P l ++ u := ⟨l.dropWhile (fun b => P b.toNat), (List.takeWhile_append_dropWhile ..).symm⟩
theorem true_again (decE : Bs → Int) (S : Bs) (h : S = [84, 82, 85, 69] ∨ S = [70, 65, 76, 83, 69]) : nextPD decE S = some (3, S, S.length) := by
  rcases h with rfl | rfl
  · rw [next_of_word decE _ _ (by decide) (by decide) (by decide)]; kernel_rfl
  · rw [next_of_word decE _ _ (by decide) (by decide) (by decide)]; kernel_rfl
theorem fault_next (decE : Bs → Int) (f : Bs) (h : f ∈ faultsB) : nextPD decE f = if f = tornB then some (5, f, f.length) else some (4, f, f.length) := by
  have h0 : ∀ f ∈ faultsB, f.getD 0 0 = 35 := by decide
  have := fault_whole f [] h
  rw [List.append_nil] at this
  rw [← this]
  unfold nextPD
  rw [h0 f h, if_neg (by decide), if_neg (by decide), if_pos (by decide)]
/-- a piece that is told is told alone, as it stands. -/
theorem next_again (decE : Bs → Int) (l : Bs) (k : Int) (S : Bs) (n : Nat) (h : nextPD decE l = some (k, S, n)) (h7 : k ≠ 7) : nextPD decE (standsD k S) = some (k, S, n) ∧ (standsD k S).length = n := by
  obtain ⟨c, t, rfl, hc32⟩ := next_first decE l _ h
  unfold nextPD at h
  rw [show (c :: t).getD 0 0 = c from rfl] at h
  split at h
  · rename_i hd
    obtain ⟨u, hu⟩ := num_head (c :: t) hd
    rw [show (c :: t).getD 0 0 = c from rfl] at hu
    unfold numberPD at h
    split at h
    · rename_i he
      have hm := h
      obtain ⟨e, h1⟩ := mk_range h
      injection e with e1 e2
      injection e2 with e2 e3
      subst e1 e2 e3
      rw [stands_other (by decide)]
      refine ⟨?_, rfl⟩
      rw [next_num decE _ (by rw [hu]; exact hd)]
      unfold numberPD
      rw [num_again, if_pos he]
      exact hm
    · cases h
  rename_i hnd
  split at h
  · rename_i h34
    obtain rfl : c = 34 := UInt8.toNat_inj.1 h34
    unfold textPD at h
    split at h
    · rename_i ht
      obtain ⟨e, h1⟩ := mk_range h
      injection e with e1 e2
      injection e2 with e2 e3
      cases hq : quoF 34 t with
      | none =>
        have hqd : quotedD (34 :: t) = ([], 0) := by unfold quotedD; dsimp only; rw [hq]
        rw [hqd] at h1
        exact absurd h1 (by decide)
      | some p =>
        have hqd : quotedD (34 :: t) = (p.1, p.2 + 1) := by unfold quotedD; dsimp only; rw [hq]
        rw [hqd] at e2 e3 ht
        dsimp only at e2 e3 ht
        have hp := quo_dq t p hq
        subst e1
        rw [stands_two]
        rw [← e2] at ht hp
        refine ⟨?_, by simp; omega⟩
        have hq2 : quotedD (34 :: (dq S ++ [34])) = (S, (dq S).length + 1 + 1) := by unfold quotedD; dsimp only; rw [dq_quo S]
        unfold nextPD
        rw [show (34 :: (dq S ++ [34])).getD 0 0 = (34 : UInt8) from rfl, if_neg (by decide), if_pos (by decide)]
        unfold textPD
        rw [hq2]
        dsimp only
        rw [if_pos ht]
        unfold mkD
        rw [if_neg (by omega), e3, hp]
    · cases h
  rename_i h34
  split at h
  · unfold faultPD faultOf at h
    split at h
    · cases h
    · rename_i y hy
      have hm := List.mem_of_find?_eq_some hy
      have hf := fault_next decE y hm
      split at h
      · rename_i ht
        obtain ⟨e, h1⟩ := mk_range h
        injection e with e1 e2
        injection e2 with e2 e3
        subst e1 e2 e3
        rw [stands_other (by decide), hf, if_pos ht]
        exact ⟨rfl, rfl⟩
      · rename_i ht
        obtain ⟨e, h1⟩ := mk_range h
        injection e with e1 e2
        injection e2 with e2 e3
        subst e1 e2 e3
        rw [stands_other (by decide), hf, if_neg ht]
        exact ⟨rfl, rfl⟩
  rename_i h35
  split at h
  · rename_i h39
    obtain rfl : c = 39 := UInt8.toNat_inj.1 h39
    unfold sheetPD at h
    obtain ⟨e1, e3, A, u, hA, hn, e2, hf, h0⟩ := far_again _ _ _ h
    dsimp only at e1 e2 e3 hf
    subst e1
    rw [stands_other (by decide)]
    refine ⟨?_, e3.symm⟩
    unfold quotedD at hn h0
    dsimp only at hn h0
    cases hq : quoF 39 t with
    | none => rw [hq] at h0; exact absurd rfl h0
    | some p =>
      rw [hq] at hn h0
      dsimp only at hn h0
      obtain ⟨a, B, rfl⟩ : ∃ a B, A = a :: B := by cases A with
        | nil => simp at hn
        | cons a B => exact ⟨a, B, rfl⟩
      rw [List.cons_append] at hA
      injection hA with ha ht
      subst ha
      obtain ⟨z, hz⟩ := while_pre cellR u
      have hq' : quoF 39 (B ++ 33 :: whileD cellR u) = some p := by
        refine quo_less 39 z _ p ?_ (by simp at hn ⊢; omega)
        rw [List.append_assoc, List.cons_append, ← hz, ← ht]; exact hq
      have hS : S = 39 :: (B ++ 33 :: whileD cellR u) := e2
      have hq2 : quotedD S = (p.1, p.2 + 1) := by
        rw [hS]; unfold quotedD; dsimp only; rw [hq']
      have hq3 : quotedD (39 :: t) = (p.1, p.2 + 1) := by
        unfold quotedD; dsimp only; rw [hq]
      unfold nextPD
      have hg : S.getD 0 0 = 39 := by rw [hS]; rfl
      rw [hg, if_neg (by decide), if_neg (by decide), if_neg (by decide), if_pos (by decide)]
      unfold sheetPD
      rw [hq2]
      rw [hq3] at hf
      exact hf
  rename_i h39
  split at h
  · rename_i hw
    obtain ⟨hcw, h46⟩ := hw
    have h46' : c ≠ 46 := fun e => h46 (by rw [e]; rfl)
    have hcd : digR c.toNat = false := by simpa using hnd
    have hwa := while_all wordR (c :: t)
    obtain ⟨wt, hW⟩ : ∃ wt, whileD wordR (c :: t) = c :: wt := by
      refine ⟨t.takeWhile (fun b => wordR b.toNat), ?_⟩
      unfold whileD
      rw [List.takeWhile_cons, if_pos hcw]
    obtain ⟨z, hz⟩ := while_pre wordR (c :: t)
    unfold wordPD at h
    dsimp only at h
    rw [hW] at h hwa hz
    have hK := word_alone (c :: wt) hwa (by simp)
    have hN := next_of_word decE c wt hcw hcd h46'
    split at h
    · obtain ⟨e1, e3, A, u, hA, hn, e2, hf, h0⟩ := far_again _ _ _ h
      dsimp only at e1 e2 e3 hf
      subst e1
      rw [stands_other (by decide)]
      refine ⟨?_, e3.symm⟩
      have hAW : A = c :: wt := by
        rw [hA] at hz
        exact (List.append_inj hz hn).1
      rw [hAW] at e2
      have e2' : S = c :: (wt ++ 33 :: whileD cellR u) := e2
      rw [e2', next_of_word decE c _ hcw hcd h46', ← List.cons_append]
      unfold wordPD
      dsimp only
      rw [tw_byte wordR 33 (by decide), while_self wordR _ hwa, List.drop_left, if_pos (by simp [Lib.hasPrefix, List.isPrefixOf]), ← e2]
      exact hf
    split at h
    · have := (mk_range h).1
      injection this with e1 e2
      exact absurd e1 h7
    split at h
    · rename_i hb
      rw [Bool.and_eq_true] at hb
      obtain ⟨u, hx, hcol⟩ := column_again _ _ _ h
      have hx' := hx
      injection hx with e1 e2
      injection e2 with e2 e3
      subst e1
      rw [stands_other (by decide)]
      refine ⟨?_, by rw [e3, e2]⟩
      rw [e2, List.cons_append, next_of_word decE c _ hcw hcd h46', ← List.cons_append]
      unfold wordPD
      dsimp only
      rw [tw_byte wordR 91 (by decide), while_self wordR _ hwa, List.drop_left]
      rw [if_neg (by simp [Lib.hasPrefix, List.isPrefixOf]), if_neg (by simp [Lib.hasPrefix, List.isPrefixOf]), if_pos (by rw [hb.2]; simp [Lib.hasPrefix, List.isPrefixOf])]
      rw [hcol, e2]
    split at h
    · rename_i hr
      obtain ⟨e, h1⟩ := mk_range h
      injection e with e1 e2
      injection e2 with e2 e3
      subst e1
      rw [stands_other (by decide), e2]
      refine ⟨?_, e3.symm⟩
      rw [hN, hK]
      unfold wordK
      rw [if_pos hr, e3]
    rename_i hr
    split at h
    · rename_i ht
      obtain ⟨e, h1⟩ := mk_range h
      injection e with e1 e2
      injection e2 with e2 e3
      subst e1
      have hu := up_low (c :: wt) (fun b hb => word_low b (hwa b hb))
      have hl : S.length = (c :: wt).length := by rw [e2, hu, List.length_map]
      rw [stands_other (by decide)]
      refine ⟨?_, by rw [hl, e3]⟩
      rw [true_again decE S (by unfold truthD at ht; rw [e2]; simpa using ht), hl, e3]
    rename_i ht
    split at h
    · rename_i hn
      obtain ⟨e, h1⟩ := mk_range h
      injection e with e1 e2
      injection e2 with e2 e3
      subst e1
      rw [stands_other (by decide), e2]
      refine ⟨?_, e3.symm⟩
      rw [hN, hK]
      unfold wordK
      rw [if_neg hr, if_neg ht, if_pos hn, e3]
    · cases h
  · unfold signPD signOf at h
    split at h
    · rename_i y hy
      have hm := List.mem_of_find?_eq_some hy
      obtain ⟨e, h1⟩ := mk_range h
      injection e with e1 e2
      injection e2 with e2 e3
      subst e1 e2 e3
      rw [stands_other (by decide)]
      have := sign_behind decE S hm [] (.inl rfl)
      rw [List.append_nil] at this
      exact ⟨this, rfl⟩
    · cases h
/-- what Print puts behind. -/
def tailD : Option TokT → List TokT → Bs
  | _, [] => []
  | p, x :: L => gapD p x ++ standsD x.1 x.2.1 ++ tailD (some x) L
/-- pieces that Print takes. -/
def GoodL (decE : Bs → Int) : List TokT → Prop
  | [] => True
  | x :: L => rightD decE x.1 x.2.1 = true ∧ (x.1 = 7 → openHd L = true) ∧ GoodL decE L
theorem print_some (decE : Bs → Int) : ∀ (L : List TokT) (p : Option TokT) (acc t : Bs), acc.length ≤ 200 → printF decE L p acc = some t → t = acc ++ tailD p L ∧ GoodL decE L ∧ t.length ≤ 200
  | [], p, acc, t, ha, h => by
    injection h with h
    subst h
    exact ⟨by simp [tailD], trivial, ha⟩
  | x :: L, p, acc, t, ha, h => by
    cases hc : (!rightD decE x.1 x.2.1 || (x.1 == 7 && !openHd L)) with
    | true => rw [print_bad decE x L p acc hc] at h; cases h
    | false =>
      rw [print_good decE x L p acc hc] at h
      split at h
      · cases h
      · rename_i hl
        obtain ⟨h1, h2, h3⟩ := print_some decE L (some x) _ t (by omega) h
        simp only [Bool.or_eq_false_iff, Bool.and_eq_false_iff, Bool.not_eq_false', beq_eq_false_iff_ne] at hc
        refine ⟨by rw [h1]; simp [tailD], ⟨hc.1, fun e => (hc.2.resolve_left (fun h => h e)), h2⟩, h3⟩
theorem open_sign {x : TokT} {L : List TokT} (h : openHd (x :: L) = true) : x.1 = 8 ∧ x.2.1 = [40] := by
  have h' : openD x.1 x.2.1 = true := h
  unfold openD at h'
  simpa using h'
theorem first_sgn (decE : Bs → Int) (d : UInt8) (t : Bs) (x : Int × Bs × Nat) (hd : sgnB d = true) (h : nextPD decE (d :: t) = some x) : x.1 = 8 := by
  obtain ⟨f1, f2, -, -, -, f6, f7, -, f9⟩ := sgn_facts hd
  have n6 : d.toNat ≠ 34 := fun e => f6 (UInt8.toNat_inj.1 e)
  have n7 : d.toNat ≠ 39 := fun e => f7 (UInt8.toNat_inj.1 e)
  have n9 : d.toNat ≠ 35 := fun e => f9 (UInt8.toNat_inj.1 e)
  unfold nextPD at h
  rw [show (d :: t).getD 0 0 = d from rfl, f1, if_neg Bool.false_ne_true, if_neg n6, if_neg n9, if_neg n7, f2, if_neg (fun h => Bool.false_ne_true h.1)] at h
  unfold signPD signOf at h
  split at h
  · rw [(mk_range h).1]
  · cases h
/-- each piece is told, with what Print puts behind it. -/
theorem piece_behind (decE : Bs → Int) (x : TokT) (L : List TokT) (h : GoodL decE (x :: L)) : nextPD decE (standsD x.1 x.2.1 ++ tailD (some x) L) = some (x.1, x.2.1, (standsD x.1 x.2.1).length) := by
  obtain ⟨hr, hop, hL⟩ := h
  obtain ⟨k, S, a⟩ := x
  dsimp only at hr hop ⊢
  by_cases h7 : k = 7
  · subst h7
    have hop := hop rfl
    cases L with
    | nil => cases hop
    | cons y M =>
      obtain ⟨y1, y2⟩ := open_sign hop
      obtain ⟨b, T, a'⟩ := y
      dsimp only at y1 y2
      subst y1 y2
      have hc := right_call hr
      rw [stands_other (by decide)]
      exact call_brack decE S _ hc (call_words hc)
  · have hx := right_other hr h7
    cases L with
    | nil =>
      show nextPD decE (standsD k S ++ []) = _
      rw [List.append_nil]; exact hx
    | cons y M =>
      obtain ⟨b, T, a'⟩ := y
      obtain ⟨hry, hopy, -⟩ := hL
      dsimp only at hry hopy
      show nextPD decE (standsD k S ++ ((if apartD k S b T = true then [32] else []) ++ standsD b T ++ tailD (some (b, T, a')) M)) = _
      generalize tailD (some (b, T, a')) M = R
      cases hap : apartD k S b T with
      | true =>
        rw [if_pos rfl]
        have hne : standsD k S ≠ [] := by intro e; rw [e] at hx; exact nil_none decE _ hx
        exact next_blank decE _ (standsD b T ++ R) hne _ hx
      | false =>
        rw [if_neg Bool.false_ne_true, List.nil_append]
        unfold apartD at hap
        by_cases h8 : k = 8
        · subst h8
          have hm := right_sign decE S hr
          rw [stands_other (by decide)]
          refine sign_behind decE S hm _ (.inr ?_)
          by_cases hb : b = 8
          · subst hb
            have hmT := right_sign decE T hry
            obtain ⟨d, t, rfl, hd⟩ := sign_first hmT
            rw [stands_other (by decide)]
            refine ⟨d, t ++ R, rfl, ?_⟩
            rw [if_neg (by decide), if_neg (by decide), if_neg (by decide)] at hap
            rw [show (d :: t).getD 0 0 = d from rfl] at hap
            simp only [Bool.or_eq_false_iff, Bool.and_eq_false_iff, beq_eq_false_iff_ne] at hap
            refine ⟨fun ⟨e1, e2⟩ => ?_, fun ⟨e1, e2⟩ => ?_⟩
            · rcases hap.1 with h | h
              · exact h e1
              · rcases e2 with e2 | e2
                · exact h.1 e2
                · exact h.2 e2
            · rcases hap.2 with h | h
              · exact h e1
              · exact h e2
          · obtain ⟨d, t, hdt, hd⟩ : ∃ d t, standsD b T = d :: t ∧ sgnB d = false := by
              by_cases hb7 : b = 7
              · subst hb7
                obtain ⟨c, t, rfl, -, -, hw⟩ := call_first (right_call hry)
                refine ⟨c, t, stands_other (by decide) _, ?_⟩
                cases hs : sgnB c with
                | false => rfl
                | true => rw [(sgn_facts hs).2.1] at hw; cases hw
              · have hy := right_other hry hb7
                obtain ⟨c, t, hct, -⟩ := next_first decE _ _ hy
                refine ⟨c, t, hct, ?_⟩
                cases hs : sgnB c with
                | false => rfl
                | true =>
                  rw [hct] at hy
                  exact absurd (first_sgn decE c t _ hs hy) hb
            rw [hdt]
            refine ⟨d, t ++ R, rfl, fun ⟨_, e2⟩ => ?_, fun ⟨_, e2⟩ => ?_⟩
            · rcases e2 with e2 | e2
              · subst e2; cases hd
              · subst e2; cases hd
            · subst e2; cases hd
        · by_cases hb : b = 8
          · subst hb
            have hmT := right_sign decE T hry
            obtain ⟨d, t, rfl, hd⟩ := sign_first hmT
            rw [stands_other (show (8 : Int) ≠ 2 by decide)]
            refine next_sign decE d hd k S _ (t ++ R) hx ?_ h8 fun e => ?_
            · by_cases h2 : k = 2
              · exact .inr h2
              · exact .inl (stands_other h2 S)
            · subst e
              have ht : (40 :: t : Bs) = [40] := by
                have : ∀ S ∈ signsB, S.getD 0 0 = 40 → S = [40] := by decide
                exact this _ hmT rfl
              rw [ht] at hap
              rw [if_neg (by simp)] at hap
              have ho : openD 8 [40] = true := by decide
              rw [ho] at hap
              split at hap
              · cases hap
              · rename_i hn
                simp only [Bool.or_eq_true, beq_iff_eq, not_or] at hn
                exact ⟨hn.1.2, hn.2, hn.1.1⟩
          · exfalso
            rw [if_pos (by simp [h8, hb])] at hap
            cases hap
theorem told_print (decE : Bs → Int) : ∀ (L : List TokT) (A : Bs) (p : Option TokT), GoodL decE L → ∃ M, Stand decE (A ++ tailD p L) A.length M ∧ sameT M L = true
  | [], A, p, _ => ⟨[], .none _ (fun k h1 h2 => by simp [tailD] at h2; omega), rfl⟩
  | x :: L, A, p, h => by
    have hb := piece_behind decE x L h
    obtain ⟨M, hM, hs⟩ := told_print decE L (A ++ gapD p x ++ standsD x.1 x.2.1) (some x) h.2.2
    obtain ⟨c, t, hct, hc⟩ := next_first decE _ _ hb
    have e : A ++ gapD p x ++ standsD x.1 x.2.1 ++ tailD (some x) L = A ++ tailD p (x :: L) := by simp [tailD]
    have e2 : A ++ tailD p (x :: L) = (A ++ gapD p x) ++ (standsD x.1 x.2.1 ++ tailD (some x) L) := by simp [tailD]
    rw [e] at hM
    have hl : (A ++ gapD p x ++ standsD x.1 x.2.1).length = (A ++ gapD p x).length + (standsD x.1 x.2.1).length := by rw [List.length_append]
    rw [hl] at hM
    have hn := (next_range decE _ _ hb).1
    dsimp only at hn
    have hg : ∀ j, A.length ≤ j → j < (A ++ gapD p x).length → (A ++ tailD p (x :: L)).getD j 0 = 32 := by
      intro j h1 h2
      rw [e2, getD_left _ _ _ h2]
      obtain ⟨i, rfl⟩ : ∃ i, j = A.length + i := ⟨j - A.length, by omega⟩
      rw [getD_right]
      rw [List.length_append] at h2
      revert h2
      unfold gapD
      split
      · intro h2; simp only [List.length_nil] at h2; omega
      · split
        · intro h2
          obtain rfl : i = 0 := by simp only [List.length_cons, List.length_nil] at h2; omega
          rfl
        · intro h2; simp only [List.length_nil] at h2; omega
    refine ⟨(x.1, x.2.1, (A ++ gapD p x).length) :: M, .some _ (A ++ gapD p x).length x.1 x.2.1 (standsD x.1 x.2.1).length M (by simp) ?_ hg ?_ ?_ ⟨hn, ?_⟩ hM, ?_⟩
    · rw [e2]; simp only [List.length_append] at hn ⊢; omega
    · have := getD_right (A ++ gapD p x) (standsD x.1 x.2.1 ++ tailD (some x) L) 0
      rw [Nat.add_zero, ← e2] at this
      rw [this, hct]
      exact hc
    · have := drop_right (A ++ gapD p x) (standsD x.1 x.2.1 ++ tailD (some x) L) 0
      rw [Nat.add_zero, ← e2, List.drop_zero] at this
      rw [this]; exact hb
    · rw [e2]; simp only [List.length_append]; omega
    · show (_ && sameT M L) = true
      rw [hs]; simp
theorem print_is {decE : Bs → Int} {L : List TokT} {t : Bs} (h : printD decE L = (t, 0)) : printF decE L none [] = some t := by
  unfold printD at h
  cases hp : printF decE L none [] with
  | none =>
    rw [hp] at h
    unfold printE at h
    injection h with _ h
    cases h
  | some s =>
    rw [hp] at h
    unfold printE at h
    injection h with h _
    rw [h]
theorem back_a (decE : Bs → Int) (L : List TokT) (t : Bs) (h : printD decE L = (t, 0)) : t.length ≤ 200 ∧ ∃ M, toldD decE t = .ok M ∧ sameT M L = true := by
  obtain ⟨h1, h2, h3⟩ := print_some decE L none [] t (by simp) (print_is h)
  obtain ⟨M, hM, hs⟩ := told_print decE L [] none h2
  rw [← h1] at hM
  exact ⟨h3, M, told_of_stand decE t _ 0 M (by omega) hM, hs⟩
def bareT (x : TokT) : Int × Bs := (x.1, x.2.1)
theorem map_sameT : ∀ (L M : List TokT), sameT L M = true → L.map bareT = M.map bareT
  | [], [], _ => rfl
  | [], _ :: _, h => by cases h
  | _ :: _, [], h => by cases h
  | x :: L, y :: M, h => by
    have h' : ((x.1 == y.1 && x.2.1 == y.2.1) && sameT L M) = true := h
    simp only [Bool.and_eq_true, beq_iff_eq] at h'
    rw [List.map_cons, List.map_cons, map_sameT L M h'.2]
    unfold bareT
    rw [h'.1.1, h'.1.2]
theorem sameT_iff (L M : List TokT) : sameT L M = true ↔ L.map bareT = M.map bareT := ⟨map_sameT L M, sameT_map L M⟩
theorem print_like (decE : Bs → Int) : ∀ (L M : List TokT) (p q : Option TokT) (acc : Bs), L.map bareT = M.map bareT → p.map bareT = q.map bareT → printF decE L p acc = printF decE M q acc
  | [], [], _, _, _, _, _ => rfl
  | [], _ :: _, _, _, _, h, _ => by cases h
  | _ :: _, [], _, _, _, h, _ => by cases h
  | x :: L, y :: M, p, q, acc, h, hpq => by
    rw [List.map_cons, List.map_cons] at h
    injection h with hxy hLM
    have ho : openHd L = openHd M := by
      cases L with
      | nil => cases M with
        | nil => rfl
        | cons y M => cases hLM
      | cons x L => cases M with
        | nil => cases hLM
        | cons y M =>
          rw [List.map_cons, List.map_cons] at hLM
          injection hLM with h1 _
          unfold bareT at h1
          injection h1 with h1 h2
          show openD _ _ = openD _ _
          rw [h1, h2]
    have hb := hxy
    unfold bareT at hb
    injection hb with h1 h2
    have hg : gapD p x = gapD q y := by
      cases p with
      | none => cases q with
        | none => rfl
        | some q => cases hpq
      | some p => cases q with
        | none => cases hpq
        | some q =>
          injection hpq with hpq
          unfold bareT at hpq
          injection hpq with g1 g2
          unfold gapD
          dsimp only
          rw [h1, h2, g1, g2]
    have ih := print_like decE L M (some x) (some y) (acc ++ gapD q y ++ standsD y.1 y.2.1) hLM (by rw [Option.map_some, Option.map_some, hxy])
    unfold printF
    rw [ho, hg, h1, h2, ih]
theorem back_b (decE : Bs → Int) (L M : List TokT) (t u : Bs) (h : printD decE L = (t, 0)) (g : printD decE M = (u, 0)) : (t == u) = sameT L M := by
  cases hs : sameT L M with
  | true =>
    have := print_like decE L M none none [] (map_sameT L M hs) rfl
    rw [print_is h, print_is g] at this
    injection this with this
    rw [this]; simp
  | false =>
    rw [beq_eq_false_iff_ne]
    intro e
    subst e
    obtain ⟨-, P, h1, h2⟩ := back_a decE L t h
    obtain ⟨-, Q, g1, g2⟩ := back_a decE M t g
    rw [h1] at g1
    injection g1 with g1
    subst g1
    rw [sameT_iff] at h2 g2
    have : sameT L M = true := (sameT_iff L M).2 (h2.symm.trans g2)
    rw [this] at hs; cases hs
def costL : List TokT → Nat
  | [] => 0
  | x :: L => 1 + (standsD x.1 x.2.1).length + costL L
theorem gap_len (p : Option TokT) (x : TokT) : (gapD p x).length ≤ 1 := by
  unfold gapD
  split
  · simp
  · split <;> simp
theorem print_good_all (decE : Bs → Int) : ∀ (L : List TokT) (p : Option TokT) (acc : Bs), GoodL decE L → acc.length + costL L ≤ 200 → ∃ t, printF decE L p acc = some t
  | [], p, acc, _, _ => ⟨acc, rfl⟩
  | x :: L, p, acc, ⟨h1, h2, h3⟩, hc => by
    have hg := gap_len p x
    have hcost : costL (x :: L) = 1 + (standsD x.1 x.2.1).length + costL L := rfl
    rw [hcost] at hc
    have hb : (!rightD decE x.1 x.2.1 || (x.1 == 7 && !openHd L)) = false := by
      rw [h1]
      by_cases h7 : x.1 = 7
      · rw [h2 h7]; simp
      · simp [h7]
    rw [print_good decE x L p acc hb, if_neg (by simp only [List.length_append]; omega)]
    exact print_good_all decE L (some x) _ h3 (by simp only [List.length_append]; omega)
theorem good_told (decE : Bs → Int) (s : Bs) (hs : s.length ≤ 100) (a : Nat) (L : List TokT) (h : Stand decE s a L) : GoodL decE L ∧ (a ≤ s.length → costL L ≤ 2 * (s.length - a)) := by
  induction h with
  | none a h => exact ⟨trivial, fun _ => Nat.zero_le _⟩
  | some a b k S n L hab hb h h32 hx hn hL ih =>
    obtain ⟨ih1, ih2⟩ := ih
    have ih2 := ih2 hn.2
    by_cases h7 : k = 7
    · subst h7
      have hstand : Stand decE s a ((7, S, b) :: L) := .some a b 7 S n L hab hb h h32 hx hn hL
      obtain ⟨M, hM⟩ := call_next hstand
      have hl := next_size decE _ _ _ _ hx (by decide)
      have hok := next_ok decE _ _ hx
      dsimp only at hok
      have hc : callD S = true := by
        cases hok with
        | call _ hc h1 hp => exact hc
      refine ⟨⟨right_of_call decE S hc (by omega), fun _ => by rw [hM]; rfl, ih1⟩, fun _ => ?_⟩
      have hcost : costL ((7, S, b) :: L) = 1 + (standsD 7 S).length + costL L := rfl
      rw [hcost, stands_other (by decide)]
      omega
    · obtain ⟨hn1, hn2⟩ := next_again decE _ _ _ _ hx h7
      rw [← hn2] at hn1
      refine ⟨⟨right_of_next decE k S hn1 h7 (by omega), fun e => absurd e h7, ih1⟩, fun _ => ?_⟩
      have hcost : costL ((k, S, b) :: L) = 1 + (standsD k S).length + costL L := rfl
      rw [hcost]
      omega
theorem back_c (decE : Bs → Int) (s : Bs) (hs : s.length ≤ 100) (L : List TokT) (h : toldD decE s = .ok L) : ∃ t, printD decE L = (t, 0) := by
  obtain ⟨h1, h2⟩ := good_told decE s hs 0 L (told_stand decE s _ 0 L (by omega) h)
  have h2 := h2 (Nat.zero_le _)
  obtain ⟨t, ht⟩ := print_good_all decE L none [] h1 (by simp; omega)
  refine ⟨t, ?_⟩
  unfold printD
  rw [ht]; rfl
end Tab
