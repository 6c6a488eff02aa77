/- Plain laws: a piece that is told is told with a sign behind it too; a sign with whatever may stand behind it. No program in sight. -/
import Derived.Test.YtgnejohiagagmaaGreatDoorHWordsP
namespace Tab
open Go
/-- the bytes that signs begin with. -/
def sgnB (c : UInt8) : Bool := c == 60 || c == 62 || c == 61 || c == 38 || c == 43 || c == 45 || c == 42 || c == 47 || c == 94 || c == 37 || c == 40 || c == 41 || c == 44 || c == 59 || c == 58 || c == 123 || c == 125
theorem sgn_cases {c : UInt8} (h : sgnB c = true) : c = 60 ∨ c = 62 ∨ c = 61 ∨ c = 38 ∨ c = 43 ∨ c = 45 ∨ c = 42 ∨ c = 47 ∨ c = 94 ∨ c = 37 ∨ c = 40 ∨ c = 41 ∨ c = 44 ∨ c = 59 ∨ c = 58 ∨ c = 123 ∨ c = 125 := by
  unfold sgnB at h
  simpa only [Bool.or_eq_true, beq_iff_eq, or_assoc] using h
theorem sgn_facts {c : UInt8} (h : sgnB c = true) : digR c.toNat = false ∧ wordR c.toNat = false ∧ cellR c.toNat = false ∧ c ≠ 46 ∧ c ≠ 33 ∧ c ≠ 34 ∧ c ≠ 39 ∧ c ≠ 91 ∧ c ≠ 35 := by
  rcases sgn_cases h with rfl | rfl | rfl | rfl | rfl | rfl | rfl | rfl | rfl | rfl | rfl | rfl | rfl | rfl | rfl | rfl | rfl <;> decide
theorem sign_first {S : Bs} (h : S ∈ signsB) : ∃ c t, S = c :: t ∧ sgnB c = true := by
  have : ∀ S ∈ signsB, S ≠ [] ∧ sgnB (S.getD 0 0) = true := by decide
  obtain ⟨h1, h2⟩ := this S h
  cases S with
  | nil => exact absurd rfl h1
  | cons c t => exact ⟨c, t, rfl, h2⟩
theorem tw_byte (P : Nat → Bool) (c : UInt8) (hP : P c.toNat = false) (l r : Bs) : whileD P (l ++ c :: r) = whileD P l := by
  unfold whileD
  induction l with
  | nil => simp [hP]
  | cons b l ih => simp only [List.cons_append, List.takeWhile_cons]; rw [ih]
theorem hp_byte (c d : UInt8) (hf : d ≠ c) (l r : Bs) : Lib.hasPrefix (l ++ c :: r) [d] = Lib.hasPrefix l [d] := by
  unfold Lib.hasPrefix
  cases l with
  | nil => simp [List.isPrefixOf, hf]
  | cons b l => simp [List.isPrefixOf]
theorem hp_more (d : UInt8) (l r : Bs) (h : l ≠ []) : Lib.hasPrefix (l ++ r) [d] = Lib.hasPrefix l [d] := by
  unfold Lib.hasPrefix
  cases l with
  | nil => exact absurd rfl h
  | cons b l => simp [List.isPrefixOf]
theorem drop_more (l r : Bs) (n : Nat) (h : n ≤ l.length) : (l ++ r).drop n = l.drop n ++ r := List.drop_append_of_le_length h
theorem trim_more (d : UInt8) (l r : Bs) (h : Lib.hasPrefix l [d] = true) : Lib.trimPrefix (l ++ r) [d] = Lib.trimPrefix l [d] ++ r := by
  have hl := pre_len _ _ h
  have hne : l ≠ [] := by intro e; rw [e] at hl; simp at hl
  unfold Lib.trimPrefix
  rw [hp_more d l r hne, if_pos h, if_pos h]
  exact drop_more l r _ hl
theorem num_byte (c : UInt8) (hd : digR c.toNat = false) (h46 : c ≠ 46) (l r : Bs) : numD (l ++ c :: r) = numD l := by
  have h1 := while_len digR l
  unfold numD
  dsimp only
  rw [tw_byte digR c hd, drop_more _ _ _ h1, hp_byte c 46 (Ne.symm h46)]
  split
  · rename_i hp
    rw [trim_more 46 _ _ hp, tw_byte digR c hd]
  · rfl
theorem quo_byte (q c : UInt8) (hq : q ≠ c) (r : Bs) : ∀ (l : Bs) (p : Bs × Nat), quoF q l = some p → quoF q (l ++ c :: r) = some p
  | [], p, h => by cases h
  | [a], p, h => by
    unfold quoF at h
    split at h
    · rename_i ha
      subst ha
      rw [← h]
      exact quo_end a _ (fun b l e => by injection e with e _; rw [← e]; exact fun h => hq h.symm)
    · cases h
  | a :: b :: l, p, h => by
    rw [quoF] at h
    show quoF q (a :: b :: (l ++ c :: r)) = _
    rw [quoF]
    split at h
    · rename_i ha
      rw [if_pos ha]
      split at h
      · rename_i hb
        rw [if_pos hb]
        cases hx : quoF q l with
        | none => rw [hx] at h; cases h
        | some y => rw [hx] at h; rw [quo_byte q c hq r l y hx]; exact h
      · rename_i hb
        rw [if_neg hb]; exact h
    · rename_i ha
      rw [if_neg ha]
      cases hx : quoF q (b :: l) with
      | none => rw [hx] at h; cases h
      | some y =>
        rw [hx] at h
        have := quo_byte q c hq r (b :: l) y hx
        rw [List.cons_append] at this
        rw [this]; exact h
theorem quoted_byte (q c : UInt8) (hq : q ≠ c) (l r : Bs) (h : (quotedD (q :: l)).2 ≠ 0) : quotedD (q :: l ++ c :: r) = quotedD (q :: l) := by
  unfold quotedD at h ⊢
  dsimp only [List.cons_append] at h ⊢
  cases hx : quoF q l with
  | none => rw [hx] at h; exact absurd rfl h
  | some y => rw [quo_byte q c hq r l y hx]
theorem far_byte (c : UInt8) (hc : cellR c.toNat = false) (l r : Bs) (n : Nat) (hn : n ≤ l.length) (x : Int × Bs × Nat) (h : farD l n = some x) : farD (l ++ c :: r) n = some x := by
  unfold farD at h ⊢
  rw [drop_more _ _ _ hn]
  split at h
  · rename_i hp
    have h2 := pre_len _ _ hp.1
    have hne : l.drop n ≠ [] := by intro e; rw [e] at h2; simp at h2
    rw [List.length_drop] at h2
    simp only [List.length_cons, List.length_nil] at h2
    rw [hp_more 33 _ _ hne, if_pos hp, trim_more 33 _ _ hp.1, tw_byte cellR c hc, List.take_append_of_le_length (by omega)]
    exact h
  · cases h
theorem idx_more (d : UInt8) (r : Bs) : ∀ (l : Bs), Lib.index l [d] ≠ -1 → Lib.index (l ++ r) [d] = Lib.index l [d]
  | [], h => absurd rfl h
  | b :: l, h => by
    rw [List.cons_append, idx_cons, idx_cons] at *
    split at h
    · rename_i hb; rw [if_pos hb, if_pos hb]
    · rename_i hb
      rw [if_neg hb, if_neg hb]
      by_cases h1 : Lib.index l [d] = -1
      · rw [h1] at h; exact absurd rfl h
      · rw [idx_more d r l h1]
theorem cut_more (d : UInt8) (l r : Bs) (h : (Lib.cut l [d]).2.2 = true) : (Lib.cut (l ++ r) [d]).2.2 = true ∧ (Lib.cut (l ++ r) [d]).1 = (Lib.cut l [d]).1 := by
  have hi := index_le1 d l
  unfold Lib.cut at h ⊢
  split at h
  · rename_i h0
    have h1 : Lib.index l [d] ≠ -1 := by omega
    rw [idx_more d r l h1, if_pos h0, if_pos h0]
    refine ⟨rfl, ?_⟩
    dsimp only
    rw [List.take_append_of_le_length (by omega)]
  · cases h
theorem column_more (l t r : Bs) (ht : t.length + 1 ≤ l.length) (x : Int × Bs × Nat) (h : columnD l t = some x) : columnD (l ++ r) t = some x := by
  unfold columnD at h ⊢
  rw [drop_more _ _ _ ht]
  split at h
  · rename_i hp
    obtain ⟨h1, h2⟩ := cut_more 93 _ r hp.1
    rw [h1, h2, if_pos ⟨rfl, hp.2⟩]
    exact h
  · cases h
theorem wordK_kind {S : Bs} {x : Int × Bs × Nat} (h : wordK S = some x) : x.1 = 5 ∨ x.1 = 3 ∨ x.1 = 6 := by
  unfold wordK at h
  repeat' split at h
  all_goals first
    | (injection h with h; rw [← h]; simp; done)
    | cases h
theorem word_byte (c : UInt8) (hc : sgnB c = true) (l r : Bs) (x : Int × Bs × Nat) (h : wordPD l = some x) (h40 : c = 40 → x.1 ≠ 3 ∧ x.1 ≠ 5 ∧ x.1 ≠ 6) : wordPD (l ++ c :: r) = some x := by
  obtain ⟨-, f2, f3, -, f5, -, -, f8, -⟩ := sgn_facts hc
  have hw := while_len wordR l
  by_cases hne : l.drop (whileD wordR l).length = []
  · have hll : l = whileD wordR l := by
      have h1 : l.length ≤ (whileD wordR l).length := List.drop_eq_nil_iff.1 hne
      have h2 : whileD wordR l <+: l := List.takeWhile_prefix _
      exact (h2.eq_of_length (by omega)).symm
    have h40' : c ≠ 40 := by
      intro e
      have h1 : ∀ b ∈ l, wordR b.toNat = true := by rw [hll]; exact while_all wordR l
      by_cases h0 : l = []
      · subst h0; cases h
      · rw [word_alone l h1 (by cases l with
          | nil => exact absurd rfl h0
          | cons c t => simp)] at h
        have := h40 e
        rcases wordK_kind h with hk | hk | hk
        · exact this.2.1 hk
        · exact this.1 hk
        · exact this.2.2 hk
    unfold wordPD at h ⊢
    dsimp only at h ⊢
    rw [tw_byte wordR c f2, drop_more _ _ _ hw, hp_byte c 33 (Ne.symm f5), hp_byte c 40 (Ne.symm h40'), hp_byte c 91 (Ne.symm f8)]
    rw [hne] at h ⊢
    rw [show Lib.hasPrefix [] [33] = false from rfl, show Lib.hasPrefix [] [40] = false from rfl, show Lib.hasPrefix [] [91] = false from rfl] at h ⊢
    exact h
  · unfold wordPD at h ⊢
    dsimp only at h ⊢
    rw [tw_byte wordR c f2, drop_more _ _ _ hw, hp_more 33 _ _ hne, hp_more 40 _ _ hne, hp_more 91 _ _ hne]
    split at h
    · rename_i h1
      rw [if_pos h1]; exact far_byte c f3 l r _ hw x h
    · rename_i h1
      rw [if_neg h1]
      split at h
      · rename_i h2
        rw [if_pos h2]; exact h
      · rename_i h2
        rw [if_neg h2]
        split at h
        · rename_i h3
          rw [if_pos h3]
          rw [Bool.and_eq_true] at h3
          have h4 := pre_len _ _ h3.1
          rw [List.length_drop] at h4
          simp only [List.length_cons, List.length_nil] at h4
          exact column_more l _ _ (by omega) x h
        · rename_i h3
          rw [if_neg h3]; exact h
/-- an error's text, with more behind it. -/
theorem fault_whole (f r : Bs) (h : f ∈ faultsB) : faultPD (f ++ r) = if f = tornB then some (5, f, f.length) else some (4, f, f.length) := by
  have hasc : ∀ f ∈ faultsB, ∀ b ∈ f, b.toNat < 128 := by decide
  have hpre : ∀ f ∈ faultsB, ∀ g ∈ faultsB, g.length ≤ f.length ∧ (Lib.hasPrefix f g = true → g = f) ∨ f.length < g.length ∧ Lib.hasPrefix g f = false := by decide
  have hup : ∀ f ∈ faultsB, f.map upB = f := by decide
  have key : ∀ g ∈ faultsB, Lib.hasPrefix (upperD (f ++ r)) g = (g == f) := by
    intro g hg
    rw [up_bytes g _ (hasc g hg), List.map_append, hup f h]
    generalize r.map upB = r
    by_cases e : g = f
    · subst e
      rw [beq_self_eq_true]
      unfold Lib.hasPrefix
      rw [List.isPrefixOf_iff_prefix]
      exact List.prefix_append _ _
    · rw [beq_eq_false_iff_ne.2 e]
      cases hh : Lib.hasPrefix (f ++ r) g with
      | false => rfl
      | true =>
        exfalso
        unfold Lib.hasPrefix at hh
        have h1 := List.isPrefixOf_iff_prefix.1 hh
        have h2 : f <+: f ++ r := List.prefix_append _ _
        rcases hpre f h g hg with ⟨hl, h3⟩ | ⟨hl, h3⟩
        · exact e (h3 (List.isPrefixOf_iff_prefix.2 (List.prefix_of_prefix_length_le h1 h2 hl)))
        · have : Lib.hasPrefix g f = true := List.isPrefixOf_iff_prefix.2 (List.prefix_of_prefix_length_le h2 h1 (by omega))
          rw [h3] at this; cases this
  unfold faultPD
  rw [find_pred _ (fun g => g == f) faultsB key]
  have hf : ∀ f ∈ faultsB, faultsB.find? (fun g => g == f) = some f := by decide
  have hl : ∀ f ∈ faultsB, f.length ≠ 0 := by decide
  rw [hf f h]
  unfold faultOf mkD
  dsimp only
  rw [if_neg (hl f h), if_neg (hl f h)]
/-- a sign is told, whatever stands behind it that does not make it a longer one. -/
theorem sign_behind (decE : Bs → Int) (S : Bs) (h : S ∈ signsB) (r : Bs) (hr : r = [] ∨ ∃ d t, r = d :: t ∧ ¬ (S = [60] ∧ (d = 61 ∨ d = 62)) ∧ ¬ (S = [62] ∧ d = 61)) : nextPD decE (S ++ r) = some (8, S, S.length) := by
  have hn : nextPD decE (S ++ r) = signPD (S ++ r) := by
    obtain ⟨c, t, rfl, hc⟩ := sign_first h
    unfold nextPD
    rw [show (c :: t ++ r).getD 0 0 = c from rfl]
    obtain ⟨f1, f2, -, -, -, f6, f7, -, f9⟩ := sgn_facts hc
    have n6 : c.toNat ≠ 34 := fun e => f6 (UInt8.toNat_inj.1 e)
    have n7 : c.toNat ≠ 39 := fun e => f7 (UInt8.toNat_inj.1 e)
    have n9 : c.toNat ≠ 35 := fun e => f9 (UInt8.toNat_inj.1 e)
    rw [f1, if_neg Bool.false_ne_true, if_neg n6, if_neg n9, if_neg n7, f2, if_neg (fun h => Bool.false_ne_true h.1)]
  rw [hn]
  clear hn
  unfold signPD
  have hfin : signsB.find? (fun x => Lib.hasPrefix (S ++ r) x) = some S := by
    rcases hr with rfl | ⟨d, t, rfl, h1, h2⟩
    · rw [List.append_nil]
      have : ∀ S ∈ signsB, signsB.find? (fun x => Lib.hasPrefix S x) = some S := by decide
      exact this S h
    · unfold signsB at h
      simp only [List.mem_cons, List.not_mem_nil, or_false] at h
      unfold signsB Lib.hasPrefix
      rcases h with rfl | rfl | rfl | rfl | rfl | rfl | rfl | rfl | rfl | rfl | rfl | rfl | rfl | rfl | rfl | rfl | rfl | rfl | rfl | rfl
      all_goals try (simp [List.find?, List.isPrefixOf]; done)
      · have d1 : d ≠ 61 := fun e => h1 ⟨rfl, .inl e⟩
        have d2 : d ≠ 62 := fun e => h1 ⟨rfl, .inr e⟩
        simp [List.find?, List.isPrefixOf, beq_eq_false_iff_ne.2 (Ne.symm d1), beq_eq_false_iff_ne.2 (Ne.symm d2)]
      · have d1 : d ≠ 61 := fun e => h2 ⟨rfl, e⟩
        simp [List.find?, List.isPrefixOf, beq_eq_false_iff_ne.2 (Ne.symm d1)]
  rw [hfin]
  unfold signOf mkD
  have hl : ∀ S ∈ signsB, S.length ≠ 0 := by decide
  dsimp only
  rw [if_neg (hl S h)]
/-- a piece that is told of a text as a whole is told with a sign behind it. -/
theorem next_sign (decE : Bs → Int) (c : UInt8) (hc : sgnB c = true) (k : Int) (S l r : Bs) (h : nextPD decE l = some (k, S, l.length)) (h4 : l = S ∨ k = 2) (h8 : k ≠ 8) (h40 : c = 40 → k ≠ 3 ∧ k ≠ 5 ∧ k ≠ 6) : nextPD decE (l ++ c :: r) = some (k, S, l.length) := by
  obtain ⟨f1, f2, f3, f4, f5, f6, f7, f8, f9⟩ := sgn_facts hc
  have hlen := (next_range decE l _ h).1
  dsimp only at hlen
  obtain ⟨a, t, rfl⟩ : ∃ a t, l = a :: t := by cases l with
    | nil => simp at hlen
    | cons a t => exact ⟨a, t, rfl⟩
  have hok := next_ok decE _ _ h
  dsimp only at hok
  unfold nextPD at h ⊢
  have e0 : (a :: t ++ c :: r).getD 0 0 = a := rfl
  have e1 : (a :: t).getD 0 0 = a := rfl
  rw [e0]
  rw [e1] at h
  split at h
  · rename_i h1
    rw [if_pos h1]
    unfold numberPD at h ⊢
    rw [num_byte c f1 f4]; exact h
  · rename_i h1
    rw [if_neg h1]
    split at h
    · rename_i h2
      rw [if_pos h2]
      unfold textPD at h ⊢
      have ha : a ≠ c := by intro e; subst e; exact f6 (UInt8.toNat_inj.1 h2)
      by_cases h0 : (quotedD (a :: t)).2 = 0
      · rw [h0] at h
        split at h
        · cases h
        · cases h
      · rw [quoted_byte a c ha t r h0]; exact h
    · rename_i h2
      rw [if_neg h2]
      split at h
      · rename_i h3
        rw [if_pos h3]
        have hk : S ∈ faultsB ∧ a :: t = S := by
          unfold faultPD faultOf at h
          split at h
          · cases h
          · rename_i y hy
            have hm := List.mem_of_find?_eq_some hy
            have h2' : k ≠ 2 → a :: t = S := fun hh => h4.resolve_right hh
            split at h
            · have := (mk_range h).1
              injection this with e1 e2
              injection e2 with e2 e3
              exact ⟨by rw [e2]; exact hm, h2' (by rw [e1]; decide)⟩
            · have := (mk_range h).1
              injection this with e1 e2
              injection e2 with e2 e3
              exact ⟨by rw [e2]; exact hm, h2' (by rw [e1]; decide)⟩
        rw [hk.2, fault_whole S _ hk.1]
        have := fault_whole S [] hk.1
        rw [List.append_nil, ← hk.2, h] at this
        rw [hk.2] at this
        exact this.symm
      · rename_i h3
        rw [if_neg h3]
        split at h
        · rename_i h5
          rw [if_pos h5]
          have ha : a ≠ c := by intro e; subst e; exact f7 (UInt8.toNat_inj.1 h5)
          unfold sheetPD at h ⊢
          by_cases h0 : (quotedD (a :: t)).2 = 0
          · rw [h0] at h
            unfold farD at h
            rw [if_neg (fun h => h.2 rfl)] at h
            cases h
          · rw [quoted_byte a c ha t r h0]
            exact far_byte c f3 _ r _ (quoted_range _).1 _ h
        · rename_i h5
          rw [if_neg h5]
          split at h
          · rename_i h6
            rw [if_pos h6]; exact word_byte c hc _ r _ h h40
          · exfalso
            unfold signPD signOf at h
            split at h
            · have := (mk_range h).1
              injection this with e1 e2
              exact h8 e1
            · cases h
end Tab
