/- Plain laws: more of what pieces are. No program in sight. -/
import Derived.Test.YtgnejohiagagmaaGreatDoorG11
import Derived.Test.YtgnejohiagagmaaGreatDoorD2
namespace Tab
open Go
theorem stand_inv {decE : Bs → Int} {s : Bs} {a b : Nat} {k : Int} {S : Bs} {L : List TokT} (h : Stand decE s a ((k, S, b) :: L)) : ∃ n, a ≤ b ∧ b < s.length ∧ (∀ j, a ≤ j → j < b → s.getD j 0 = 32) ∧ s.getD b 0 ≠ 32 ∧ nextPD decE (s.drop b) = some (k, S, n) ∧ (1 ≤ n ∧ b + n ≤ s.length) ∧ Stand decE s (b + n) L := by
  cases h with
  | some _ b k S n L hab hb h h32 hx hn hL => exact ⟨n, hab, hb, h, h32, hx, hn, hL⟩
theorem stand_count {decE : Bs → Int} {s : Bs} {a : Nat} {L : List TokT} (h : Stand decE s a L) : L.length = 0 ∨ L.length + a ≤ s.length := by
  induction h with
  | none => exact .inl rfl
  | some a b k S n L hab hb h h32 hx hn hL ih => right; simp only [List.length_cons]; rcases ih with h0 | h0 <;> omega
theorem next_bound (decE : Bs → Int) (l : Bs) (k : Int) (S : Bs) (n : Nat) (h : nextPD decE l = some (k, S, n)) : S.length ≤ l.length := by
  by_cases h2 : k = 2
  · subst h2
    unfold nextPD at h
    split at h
    · unfold numberPD at h
      split at h
      · have := (mk_range h).1; injection this with h1 h2; cases h1
      · cases h
    split at h
    · unfold textPD at h
      split at h
      · have := (mk_range h).1; injection this with h1 h2; injection h2 with h3 h4; rw [h3]; exact (quoted_range l).2
      · cases h
    · exfalso
      rename_i h1 h34
      have hk := next_ok decE l (2, S, n) (by unfold nextPD; rw [if_neg h1, if_neg h34]; exact h)
      split at h
      · unfold faultPD faultOf at h
        split at h
        · cases h
        · split at h <;> (have := (mk_range h).1; injection this with h1 h2; cases h1)
      split at h
      · have := far_ok decE _ l _ _ h
        unfold sheetPD farD at h
        split at h
        · split at h
          · have := (mk_range h).1; injection this with h1 h2; cases h1
          · cases h
        · cases h
      split at h
      · unfold wordPD farD columnD at h
        dsimp only at h
        repeat' split at h
        all_goals first
          | (have := (mk_range h).1; injection this with h1 h2; cases h1; done)
          | cases h
      · unfold signPD signOf at h
        split at h
        · have := (mk_range h).1; injection this with h1 h2; cases h1
        · cases h
  · have h1 := next_size decE l k S n h h2
    have h3 := (next_range decE l _ h).2
    dsimp only at h3
    omega
theorem dig_while (l : Bs) (h : digR (l.getD 0 0).toNat = true) : ∃ t, whileD digR l = l.getD 0 0 :: t := by
  cases l with
  | nil => exact absurd h (by decide)
  | cons c t =>
    have h' : digR c.toNat = true := h
    refine ⟨t.takeWhile (fun b => digR b.toNat), ?_⟩
    unfold whileD
    rw [List.takeWhile_cons, if_pos h']
    rfl
theorem num_head (l : Bs) (h : digR (l.getD 0 0).toNat = true) : ∃ t, numD l = l.getD 0 0 :: t := by
  obtain ⟨t, ht⟩ := dig_while l h
  unfold numD
  dsimp only
  split
  · split
    · exact ⟨t, ht⟩
    · rw [ht]; exact ⟨_, rfl⟩
  · exact ⟨t, ht⟩
theorem cut_first (c d : UInt8) (t : Bs) (h : c ≠ d) : ∃ u, (Lib.cut (c :: t) [d]).1 = c :: u := by
  have hi := idx_cons d c t
  rw [if_neg (by simpa using fun e => h e.symm)] at hi
  unfold Lib.cut
  split
  · rename_i h0
    have h1 : 1 ≤ Lib.index (c :: t) [d] := by
      rw [hi] at h0 ⊢
      have h2 := Lib.index_ge t [d]
      split at h0
      · omega
      · rename_i h3
        rw [if_neg h3]
        have : Lib.index t [d] ≠ -1 := by simpa using h3
        omega
    obtain ⟨n, hn⟩ : ∃ n, (Lib.index (c :: t) [d]).toNat = n + 1 := ⟨(Lib.index (c :: t) [d]).toNat - 1, by omega⟩
    dsimp only
    rw [hn]
    exact ⟨t.take n, rfl⟩
  · exact ⟨t, rfl⟩
theorem name_call {S : Bs} (h : isNameD S = true) : callD S = true ∧ isRefD S = false ∧ truthD S = false := by
  unfold isNameD at h
  simp only [Bool.and_eq_true, Bool.not_eq_true'] at h
  exact ⟨h.1, h.2.1, h.2.2⟩
theorem call_first {S : Bs} (h : callD S = true) : ∃ c t, S = c :: t ∧ digR c.toNat = false ∧ c ≠ 46 ∧ wordR c.toNat = true := by
  have h1 := call_nonempty h
  cases S with
  | nil => simp at h1
  | cons c t =>
    unfold callD at h
    simp only [Bool.and_eq_true, Bool.not_eq_true', decide_eq_true_iff] at h
    obtain ⟨-, -, hw, -, hd, h46⟩ := h
    have hw2 : whileD wordR (c :: t) = c :: t := by simpa using hw
    have hd2 : digR c.toNat = false := hd
    have h462 : (c == 46) = false := h46
    refine ⟨c, t, rfl, hd2, by simpa using h462, ?_⟩
    exact while_all wordR (c :: t) c (by rw [hw2]; simp)
theorem name_dec (S : Bs) (h : isNameD S = true) : decED S = 12 := by
  obtain ⟨c, t, rfl, hd, h46, hw⟩ := call_first (name_call h).1
  have h45 : c ≠ 45 := by intro e; rw [e] at hw; revert hw; decide
  unfold decED decReadD
  have hp : Lib.hasPrefix (c :: t) [45] = false := by
    unfold Lib.hasPrefix
    simp [List.isPrefixOf, Ne.symm h45]
  have ht : Lib.trimPrefix (c :: t) [45] = c :: t := by unfold Lib.trimPrefix; rw [hp]; rfl
  obtain ⟨u, hu⟩ := cut_first c 46 t h46
  have hf : formD (c :: t) = false := by
    unfold formD
    rw [ht, hu]
    have hb : digB c = false := by
      have := hd
      unfold digR at this
      unfold digB
      simpa using this
    have : figD (c :: u) = false := by unfold figD; simp [hb]
    rw [this]; rfl
  rw [hf]; rfl
theorem call_next {decE : Bs → Int} {s S : Bs} {a b : Nat} {L : List TokT} (h : Stand decE s a ((7, S, b) :: L)) : ∃ M, L = (8, [40], b + S.length) :: M := by
  obtain ⟨n, -, hb, -, -, hx, ⟨hn1, hn2⟩, hL⟩ := stand_inv h
  have hs := next_size decE _ 7 S n hx (by decide)
  subst hs
  have hok := next_ok decE _ _ hx
  dsimp only at hok
  cases hok with
  | call _ hc h1 hp =>
    rw [List.drop_drop] at hp
    have hl := pre_len _ _ hp
    rw [List.length_drop] at hl
    simp only [List.length_cons, List.length_nil] at hl
    obtain ⟨t, ht⟩ : ∃ t, s.drop (b + S.length) = 40 :: t := by
      cases hd : s.drop (b + S.length) with
      | nil => rw [hd] at hp; cases hp
      | cons c t =>
        rw [hd] at hp
        unfold Lib.hasPrefix at hp
        simp [List.isPrefixOf] at hp
        exact ⟨t, by rw [← hp]⟩
    have hg : s.getD (b + S.length) 0 = 40 := by
      have h0 : (s.drop (b + S.length)).getD 0 0 = 40 := by rw [ht]; rfl
      rw [List.getD_eq_getElem?_getD, List.getElem?_drop] at h0
      rw [List.getD_eq_getElem?_getD]
      exact h0
    have hsg : nextPD decE (s.drop (b + S.length)) = some (8, [40], 1) := by
      rw [ht]
      unfold nextPD
      rw [show (40 :: t).getD 0 0 = (40 : UInt8) from rfl]
      rw [if_neg (by decide), if_neg (by decide), if_neg (by decide), if_neg (by decide), if_neg (by decide)]
      unfold signPD
      have : signsB.find? (fun x => Lib.hasPrefix (40 :: t) x) = some [40] := by
        unfold signsB Lib.hasPrefix
        simp [List.find?, List.isPrefixOf]
      rw [this]; rfl
    cases hL with
    | none _ hbl =>
      have := hbl (b + S.length) (Nat.le_refl _) (by omega)
      rw [hg] at this; cases this
    | some _ b' k' S' n' M hab hb' hbl h32 hx' hn' hL' =>
      rcases Nat.lt_or_ge (b + S.length) b' with h1 | h1
      · have := hbl (b + S.length) (Nat.le_refl _) h1
        rw [hg] at this; cases this
      · have : b' = b + S.length := by omega
        subst this
        rw [hsg] at hx'
        injection hx' with e
        injection e with e1 e2
        injection e2 with e2 e3
        subst e1 e2
        exact ⟨M, rfl⟩
end Tab
