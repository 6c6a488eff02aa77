/- Plain laws: dec.Read takes the digits of those numbers that are decimals, and no others. No program in sight. Plain laws: a number's text is read just if its digits make a decimal. No program in sight. -/
import Derived.Test.YtgnejohiagagmaaGreatDoorN1
import Derived.Test.YtgnejohiagagmaaGreatDoorD2
import Derived.Test.YtgnejohiagagmaaGreatDoorG11
namespace Tab
open Go Go.Lib
def valF (D : Nat → Int) : Nat → Nat
  | 0 => 0
  | n + 1 => valF D n + (D n).toNat * 10 ^ n
def Rng (D : Nat → Int) : Prop := ∀ k, k < 96 → 0 ≤ D k ∧ D k ≤ 9
theorem val_lt {D : Nat → Int} (h : Rng D) : ∀ n, n ≤ 96 → valF D n < 10 ^ n
  | 0, _ => Nat.one_pos
  | n + 1, hn => by
    have h1 := val_lt h n (by omega)
    have h2 := h n (by omega)
    show valF D n + (D n).toNat * 10 ^ n < 10 ^ (n + 1)
    have h3 : (D n).toNat * 10 ^ n ≤ 9 * 10 ^ n := Nat.mul_le_mul_right _ (by omega)
    rw [Nat.pow_succ]; omega
theorem val_inj {D E : Nat → Int} (hD : Rng D) (hE : Rng E) : ∀ n, n ≤ 96 → valF D n = valF E n → ∀ k, k < n → D k = E k
  | 0, _, _, k, hk => by omega
  | n + 1, hn, h, k, hk => by
    have h1 := val_lt hD n (by omega)
    have h2 := val_lt hE n (by omega)
    have h' : valF D n + (D n).toNat * 10 ^ n = valF E n + (E n).toNat * 10 ^ n := h
    have hm := congrArg (· % 10 ^ n) h'
    simp only [Nat.add_mul_mod_self_right, Nat.mod_eq_of_lt h1, Nat.mod_eq_of_lt h2] at hm
    rw [hm] at h'
    have hd : (D n).toNat * 10 ^ n = (E n).toNat * 10 ^ n := by omega
    have hd := Nat.eq_of_mul_eq_mul_right (Nat.pow_pos (by decide)) hd
    have r1 := hD n (by omega)
    have r2 := hE n (by omega)
    rcases Nat.lt_or_ge k n with hk | hk'
    · exact val_inj hD hE n (by omega) hm k hk
    · have : k = n := by omega
      rw [this]; omega
theorem val_same {D E : Nat → Int} : ∀ n, (∀ k, k < n → D k = E k) → valF D n = valF E n
  | 0, _ => rfl
  | n + 1, h => by
    show valF D n + (D n).toNat * 10 ^ n = valF E n + (E n).toNat * 10 ^ n
    rw [val_same n (fun k hk => h k (by omega)), h n (by omega)]
theorem val_none : ∀ n, valF (fun _ => 0) n = 0
  | 0 => rfl
  | n + 1 => by
    show valF (fun _ => 0) n + (0 : Int).toNat * 10 ^ n = 0
    rw [val_none n]; simp
theorem rng_none : Rng fun _ => 0 := fun _ _ => ⟨Int.le_refl 0, by show (0 : Int) ≤ 9; decide⟩
theorem val_shift (D : Nat → Int) (k : Nat) : ∀ n, valF D (k + n) = valF D k + 10 ^ k * valF (fun j => D (k + j)) n
  | 0 => by simp [valF]
  | n + 1 => by
    show valF D (k + n) + (D (k + n)).toNat * 10 ^ (k + n) = valF D k + 10 ^ k * (valF (fun j => D (k + j)) n + (D (k + n)).toNat * 10 ^ n)
    rw [val_shift D k n, Nat.pow_add, Nat.mul_add, Nat.add_assoc, Nat.mul_left_comm]
theorem val_above {D : Nat → Int} (a : Nat) : ∀ n, (∀ i, a ≤ i → i < a + n → D i = 0) → valF D (a + n) = valF D a
  | 0, _ => rfl
  | n + 1, h => by
    show valF D (a + n) + (D (a + n)).toNat * 10 ^ (a + n) = valF D a
    rw [val_above a n (fun i h1 h2 => h i h1 (by omega)), h (a + n) (by omega) (by omega)]; simp
theorem val_ge (D : Nat → Int) : ∀ n i, i < n → (D i).toNat * 10 ^ i ≤ valF D n
  | 0, i, h => by omega
  | n + 1, i, h => by
    show _ ≤ valF D n + (D n).toNat * 10 ^ n
    rcases Nat.lt_or_ge i n with h1 | h1
    · have := val_ge D n i h1; omega
    · have : i = n := by omega
      rw [this]; omega
theorem zero_above {D : Nat → Int} (h : Rng D) {K : Nat} (hv : valF D 96 < 10 ^ K) (i : Nat) (h1 : K ≤ i) (h2 : i < 96) : D i = 0 := by
  have hr := h i h2
  by_cases h0 : D i = 0
  · exact h0
  · exfalso
    have hg := val_ge D 96 i h2
    have h3 : 1 * 10 ^ i ≤ (D i).toNat * 10 ^ i := Nat.mul_le_mul_right _ (by omega)
    have h4 : 10 ^ K ≤ 10 ^ i := Nat.pow_le_pow_right (by omega) h1
    omega
theorem zero_below {D : Nat → Int} (h : Rng D) {X K : Nat} (hK : K ≤ 96) (hv : valF D 96 = X * 10 ^ K) : ∀ i, i < K → D i = 0 := by
  have hs := val_shift D K (96 - K)
  rw [show K + (96 - K) = 96 by omega, hv] at hs
  have hl := val_lt h K hK
  have hm := congrArg (· % 10 ^ K) hs
  simp only [Nat.mul_mod_left, Nat.add_mul_mod_self_left, Nat.mod_eq_of_lt hl] at hm
  exact val_inj h rng_none K hK (by rw [← hm, val_none])
theorem topF_below (D : Nat → Int) (K : Nat) : ∀ n, (∀ i, K ≤ i → i < n → D i = 0) → topF D n < K
  | 0, _ => by show (-1 : Int) < K; omega
  | n + 1, h => by
    unfold topF
    by_cases h0 : D n ≠ 0
    · rw [if_pos h0]
      rcases Nat.lt_or_ge n K with h1 | h1
      · omega
      · exact absurd (h n h1 (by omega)) h0
    · rw [if_neg h0]
      exact topF_below D K n (fun i h1 h2 => h i h1 (by omega))
theorem topF_above (D : Nat → Int) : ∀ n (i : Nat), topF D n < (i : Int) → i < n → D i = 0
  | 0, i, _, h => by omega
  | n + 1, i, h, hi => by
    unfold topF at h
    by_cases h0 : D n ≠ 0
    · rw [if_pos h0] at h; omega
    · rw [if_neg h0] at h
      rcases Nat.lt_or_ge i n with h1 | h1
      · exact topF_above D n i h h1
      · have : i = n := by omega
        rw [this]; simpa using h0
theorem mant_val (D : Nat → Int) (k : Nat) : ∀ (n : Nat) (M : Nat), (∀ j, j < n → 0 ≤ D (k + j)) → mantF D k n (M : Int) = ((M * 10 ^ n + valF (fun j => D (k + j)) n : Nat) : Int)
  | 0, M, _ => by simp [mantF, valF]
  | n + 1, M, h => by
    have hd := h n (by omega)
    unfold mantF
    have e : 10 * (M : Int) + D (k + n) = ((10 * M + (D (k + n)).toNat : Nat) : Int) := by omega
    rw [e, mant_val D k n _ (fun j hj => h j (by omega))]
    show ((_ : Nat) : Int) = ((M * 10 ^ (n + 1) + (valF (fun j => D (k + j)) n + (D (k + n)).toNat * 10 ^ n) : Nat) : Int)
    congr 1
    rw [Nat.pow_succ, Nat.add_mul]
    have : 10 * M * 10 ^ n = M * (10 ^ n * 10) := by rw [Nat.mul_comm 10 M, Nat.mul_assoc, Nat.mul_comm 10 (10 ^ n)]
    omega
theorem val_upd (D : Nat → Int) (i : Nat) (v : Int) : ∀ n, valF (updI D i v) n + (if i < n then (D i).toNat * 10 ^ i else 0) = valF D n + (if i < n then v.toNat * 10 ^ i else 0)
  | 0 => by simp [valF]
  | n + 1 => by
    have ih := val_upd D i v n
    show valF (updI D i v) n + (updI D i v n).toNat * 10 ^ n + _ = valF D n + (D n).toNat * 10 ^ n + _
    by_cases h : i < n
    · rw [if_pos h, if_pos h] at ih
      rw [if_pos (show i < n + 1 by omega), if_pos (show i < n + 1 by omega)]
      have : updI D i v n = D n := by unfold updI; rw [if_neg (by omega)]
      rw [this]; omega
    · rw [if_neg h, if_neg h] at ih
      by_cases h2 : n = i
      · subst h2
        rw [if_pos (show n < n + 1 by omega), if_pos (show n < n + 1 by omega)]
        have : updI D n v n = v := by unfold updI; rw [if_pos rfl]
        rw [this]; omega
      · rw [if_neg (show ¬ i < n + 1 by omega), if_neg (show ¬ i < n + 1 by omega)]
        have : updI D i v n = D n := by unfold updI; rw [if_neg h2]
        rw [this]; omega
theorem ofF_val (m : Nat) (hm : m = 96) : ∀ (f n k : Nat) (D : Nat → Int), Rng D → n < 10 ^ f → k + f ≤ 96 → (∀ i, k ≤ i → i < 96 → D i = 0) → Rng (ofF f n k D) ∧ valF (ofF f n k D) m = valF D m + n * 10 ^ k
  | 0, n, k, D, hD, hn, hk, h0 => by
    have : n = 0 := by simpa using hn
    subst this
    exact ⟨hD, by simp [ofF]⟩
  | f + 1, n, k, D, hD, hn, hk, h0 => by
    unfold ofF
    by_cases hn0 : n = 0
    · rw [if_pos hn0, hn0]; exact ⟨hD, by simp⟩
    · rw [if_neg hn0]
      have hr : Rng (updI D k ((n % 10 : Nat) : Int)) := fun j hj => by
        unfold updI
        by_cases e : j = k
        · rw [if_pos e]; omega
        · rw [if_neg e]; exact hD j hj
      obtain ⟨h1, h2⟩ := ofF_val m hm f (n / 10) (k + 1) _ hr (by rw [Nat.pow_succ] at hn; omega) (by omega) (fun i hi1 hi2 => by unfold updI; rw [if_neg (by omega)]; exact h0 i (by omega) hi2)
      refine ⟨h1, ?_⟩
      rw [h2]
      have hu := val_upd D k ((n % 10 : Nat) : Int) m
      rw [if_pos (by omega), if_pos (by omega), h0 k (Nat.le_refl _) (by omega)] at hu
      simp only [Int.toNat_natCast, Int.toNat_zero, Nat.zero_mul, Nat.add_zero] at hu
      rw [hu, Nat.pow_succ]
      have : n / 10 * (10 ^ k * 10) = (n / 10 * 10) * 10 ^ k := by rw [Nat.mul_comm (10 ^ k) 10, Nat.mul_assoc]
      rw [this, Nat.add_assoc, ← Nat.add_mul]
      congr 2
      omega
theorem lay_val (p : Int × Int) (h1 : p.1.natAbs < 10 ^ 15) (h2 : -9 ≤ p.2) (h3 : p.2 ≤ 9) : Rng (layD p) ∧ valF (layD p) 96 = p.1.natAbs * 10 ^ (48 + p.2).toNat := by
  obtain ⟨a, b⟩ := ofF_val 96 rfl 15 p.1.natAbs (48 + p.2).toNat (fun _ => 0) rng_none h1 (by omega) (fun _ _ _ => rfl)
  exact ⟨a, by unfold layD; rw [b, val_none, Nat.zero_add]⟩
theorem same_iff (D E : Nat → Int) : sameF D E = true ↔ ∀ k, k < 96 → D k = E k := by
  unfold sameF
  rw [List.all_eq_true]
  constructor
  · intro h k hk
    have := h k (List.mem_range.2 hk)
    simpa using this
  · intro h k hk
    have := h k (List.mem_range.1 hk)
    simpa using this
theorem someF_none (D : Nat → Int) : ∀ n, (∀ i, i < n → D i = 0) → someF D n = false
  | 0, _ => rfl
  | n + 1, h => by
    show (someF D n || D n != 0) = false
    rw [someF_none D n (fun i hi => h i (by omega)), h n (by omega)]; rfl
theorem rnd_none (D : Nat → Int) (K : Nat) (h0 : 1 ≤ K) (h : ∀ i, i < K → D i = 0) : rndB D K = false ∧ cutF D K false = D := by
  constructor
  · unfold rndB restF
    rw [if_pos ⟨h (K - 1) (by omega), by rw [someF_none D _ (fun i hi => h i (by omega))]; rfl⟩]
    rfl
  · unfold cutF lowF
    rw [if_neg Bool.false_ne_true]
    funext i
    by_cases hi : i < K
    · rw [if_pos hi, h i hi]
    · rw [if_neg hi]
/-- a decimal's digits are read as that decimal. -/
theorem nearF_rep (D : Nat → Int) (hD : Rng D) (be : Bool) (M k : Nat) (hM : M ≤ 999999999999999) (hk : k ≤ 18) (hv : valF D 96 = M * 10 ^ (39 + k)) : ∀ (f K : Nat), 39 ≤ K → K + f = 58 → K ≤ 39 + k → ∃ p, nearF D be f K = some p ∧ sameF (layD p) D = true
  | 0, K, h1, h2, h3 => by omega
  | f + 1, K, h1, h2, h3 => by
    have hvK : valF D 96 = (M * 10 ^ (39 + k - K)) * 10 ^ K := by
      rw [hv, Nat.mul_assoc, ← Nat.pow_add, show 39 + k - K + K = 39 + k by omega]
    have hz := zero_below hD (by omega) hvK
    obtain ⟨r1, r2⟩ := rnd_none D K (by omega) hz
    have hst := Go.Proofs.YtgnejohiagagmaaGreatDoor.nearF_step D be f K false r1 _ rfl
    rw [r2] at hst
    by_cases ht : topF D 96 < K + 15
    · rw [if_pos ht] at hst
      refine ⟨_, hst, ?_⟩
      obtain ⟨t, hte⟩ : ∃ t, topF D 96 = t := ⟨_, rfl⟩
      rw [hte] at ht ⊢
      have htr := topF_rng D 96
      rw [hte] at htr
      have hab : ∀ i : Nat, t < (i : Int) → i < 96 → D i = 0 := fun i h1 h2 => topF_above D 96 i (by rw [hte]; exact h1) h2
      obtain ⟨n, hn⟩ : ∃ n, (t + 1 - K).toNat = n := ⟨_, rfl⟩
      have hn15 : n ≤ 15 := by omega
      have hKn : K + n ≤ 96 := by omega
      have hm := mant_val D K n 0 (fun j hj => (hD (K + j) (by omega)).1)
      rw [Nat.zero_mul, Nat.zero_add] at hm
      obtain ⟨M1, hM1⟩ : ∃ M1, valF (fun j => D (K + j)) n = M1 := ⟨_, rfl⟩
      rw [hM1] at hm
      have hval : valF D 96 = M1 * 10 ^ K := by
        have e1 := val_above (D := D) (K + n) (96 - (K + n)) (fun i hi1 hi2 => hab i (by omega) (by omega))
        rw [show K + n + (96 - (K + n)) = 96 by omega] at e1
        rw [e1, val_shift D K n, hM1]
        have : valF D K = 0 := by rw [val_same (E := fun _ => 0) K hz, val_none]
        rw [this, Nat.zero_add, Nat.mul_comm]
      have hM15 : M1 < 10 ^ 15 := by
        rw [← hM1]
        have hgen : ∀ n, n ≤ 15 → valF (fun j => D (K + j)) n < 10 ^ n := by
          intro n
          induction n with
          | zero => intro _; exact Nat.one_pos
          | succ n ih =>
            intro hn
            have i1 := ih (by omega)
            have i2 := hD (K + n) (by omega)
            show valF (fun j => D (K + j)) n + (D (K + n)).toNat * 10 ^ n < 10 ^ (n + 1)
            have i3 : (D (K + n)).toNat * 10 ^ n ≤ 9 * 10 ^ n := Nat.mul_le_mul_right _ (by omega)
            rw [Nat.pow_succ]; omega
        exact Nat.lt_of_lt_of_le (hgen n hn15) (Nat.pow_le_pow_right (by omega) hn15)
      have hcast : ((0 : Nat) : Int) = 0 := rfl
      rw [hcast] at hm
      have hex : ∃ p, exactF D be t K = p ∧ p.1.natAbs < 10 ^ 15 ∧ -9 ≤ p.2 ∧ p.2 ≤ 9 ∧ p.1.natAbs * 10 ^ (48 + p.2).toNat = valF D 96 := by
        unfold exactF
        rw [hn, hm]
        by_cases h0 : (M1 : Int) = 0
        · rw [if_pos h0]
          have : M1 = 0 := by omega
          exact ⟨_, rfl, by decide, by decide, by decide, by rw [hval, this]; simp⟩
        · rw [if_neg h0]
          obtain ⟨M', s1, s2, s3, s4, s5⟩ := strip_val (57 - K) M1 ((K : Int) - 48) (by omega) (by omega)
          refine ⟨_, rfl, ?_⟩
          have ha : (signF be (stripF (57 - K) M1 ((K : Int) - 48))).1.natAbs = M' := by
            unfold signF
            cases be
            · simp only [Bool.false_eq_true, if_false]; rw [s1]; rfl
            · simp only [if_true]; rw [s1]; simp
          have hb : (signF be (stripF (57 - K) M1 ((K : Int) - 48))).2 = (stripF (57 - K) M1 ((K : Int) - 48)).2 := rfl
          rw [ha, hb]
          refine ⟨by omega, by omega, s4, ?_⟩
          rw [hval]
          have e1 : (48 + (stripF (57 - K) (↑M1) ((K : Int) - 48)).2).toNat = ((stripF (57 - K) (↑M1) ((K : Int) - 48)).2 + 9).toNat + 39 := by omega
          have e2 : ((K : Int) - 48 + 9).toNat + 39 = K := by omega
          rw [e1, Nat.pow_add, ← Nat.mul_assoc, s5, Nat.mul_assoc, ← Nat.pow_add, e2]
      obtain ⟨p, hp, p1, p2, p3, p4⟩ := hex
      rw [hp, same_iff]
      obtain ⟨l1, l2⟩ := lay_val p p1 p2 p3
      exact val_inj l1 hD 96 (Nat.le_refl _) (by rw [l2, p4])
    · rw [if_neg ht] at hst
      have hne : K ≠ 39 + k := by
        intro e
        refine ht (topF_below D (K + 15) 96 (fun i h1 h2 => zero_above hD (K := K + 15) ?_ i h1 h2))
        rw [hv, ← e, Nat.pow_add, Nat.mul_comm (10 ^ K)]
        exact Nat.mul_lt_mul_of_pos_right (by omega) (Nat.pow_pos (by decide))
      rw [← hst]
      exact nearF_rep D hD be M k hM hk hv f (K + 1) (by omega) (by omega) (by omega)
theorem whole_val (m : Nat) (hm : m = 96) (a : Bs) (ha : a.all digB = true) (hl : a.length ≤ 40) : ∀ j, j ≤ a.length → valF (wholeF a j) m = 10 ^ 48 * vals ((dgL a).take j) ∧ ∀ i, 48 + j ≤ i ∨ i < 48 → wholeF a j i = 0
  | 0, _ => ⟨by simp [wholeF, val_none, vals], fun _ _ => rfl⟩
  | j + 1, h => by
    obtain ⟨i1, i2⟩ := whole_val m hm a ha hl j (by omega)
    have hr := all_getD ha (j := a.length - 1 - j) (by omega)
    have hlen := dgL_len a
    have hdj : (dgL a)[j]'(by omega) = (a.getD (a.length - 1 - j) 0).toNat - 48 := by
      unfold dgL dgB
      rw [List.getElem_map, List.getElem_reverse, List.getD_eq_getElem?_getD, List.getElem?_eq_getElem (by omega)]
      rfl
    constructor
    · have hu := val_upd (wholeF a j) (48 + j) (((a.getD (a.length - 1 - j) 0).toNat : Int) - 48) m
      rw [if_pos (by omega), if_pos (by omega), i2 (48 + j) (.inl (Nat.le_refl _))] at hu
      simp only [Int.toNat_zero, Nat.zero_mul, Nat.add_zero] at hu
      show valF (updI (wholeF a j) (48 + j) (((a.getD (a.length - 1 - j) 0).toNat : Int) - 48)) m = _
      rw [hu, i1, vals_step _ j (by omega), hdj, Nat.mul_add, Nat.pow_add]
      congr 1
      have : (((a.getD (a.length - 1 - j) 0).toNat : Int) - 48).toNat = (a.getD (a.length - 1 - j) 0).toNat - 48 := by omega
      rw [this]
      simp only [Nat.mul_assoc, Nat.mul_comm, Nat.mul_left_comm]
    · intro i hi
      show updI (wholeF a j) (48 + j) _ i = 0
      unfold updI
      rw [if_neg (by omega)]
      exact i2 i (by omega)
theorem part_val (m : Nat) (hm : m = 96) (b : Bs) (hb : b.all digB = true) (hl : b.length ≤ 40) (D : Nat → Int) (hD : ∀ i, i < 48 → D i = 0) : ∀ j, j ≤ b.length → valF (partF b D j) m = valF D m + 10 ^ (48 - j) * vals (dgL (b.take j)) ∧ ∀ i, i < 48 - j → partF b D j i = 0
  | 0, _ => ⟨by simp [partF, dgL, vals], fun i hi => hD i (by omega)⟩
  | j + 1, h => by
    obtain ⟨i1, i2⟩ := part_val m hm b hb hl D hD j (by omega)
    have hr := all_getD hb (j := j) (by omega)
    constructor
    · have hu := val_upd (partF b D j) (47 - j) (((b.getD j 0).toNat : Int) - 48) m
      rw [if_pos (by omega), if_pos (by omega), i2 (47 - j) (by omega)] at hu
      simp only [Int.toNat_zero, Nat.zero_mul, Nat.add_zero] at hu
      show valF (updI (partF b D j) (47 - j) (((b.getD j 0).toNat : Int) - 48)) m = _
      have ht : dgL (b.take (j + 1)) = ((b.getD j 0).toNat - 48) :: dgL (b.take j) := by
        rw [List.take_succ_eq_append_getElem (by omega), dgL_app]
        have : b.getD j 0 = b[j] := by rw [List.getD_eq_getElem?_getD, List.getElem?_eq_getElem (by omega)]; rfl
        rw [this]; rfl
      rw [hu, i1, ht, Nat.add_assoc]
      congr 1
      show _ = 10 ^ (48 - (j + 1)) * ((b.getD j 0).toNat - 48 + 10 * vals (dgL (b.take j)))
      have e : 48 - j = (48 - (j + 1)) + 1 := by omega
      have e2 : 47 - j = 48 - (j + 1) := by omega
      have e3 : (((b.getD j 0).toNat : Int) - 48).toNat = (b.getD j 0).toNat - 48 := by omega
      rw [e, e2, e3, Nat.pow_succ, Nat.mul_add, Nat.add_comm, Nat.mul_assoc, Nat.mul_comm ((b.getD j 0).toNat - 48)]
    · intro i hi
      show updI (partF b D j) (47 - j) _ i = 0
      unfold updI
      rw [if_neg (by omega)]
      exact i2 i (by omega)
theorem dig_val (a b : Bs) (ha : a.all digB = true) (hb : b.all digB = true) (la : a.length ≤ 40) (lb : b.length ≤ 40) : Rng (digF a b) ∧ valF (digF a b) 96 = vals (dgL (a ++ b)) * 10 ^ (48 - b.length) := by
  obtain ⟨w1, w2⟩ := whole_val 96 rfl a ha la a.length (Nat.le_refl _)
  obtain ⟨p1, p2⟩ := part_val 96 rfl b hb lb (wholeF a a.length) (fun i hi => w2 i (.inr hi)) b.length (Nat.le_refl _)
  refine ⟨(partF_ok b _ (wholeF_ok a ha la a.length (Nat.le_refl _)) hb lb b.length (Nat.le_refl _)).1, ?_⟩
  unfold digF
  rw [p1, w1, List.take_of_length_le (by rw [dgL_len]; omega), List.take_length, dgL_app, vals_app, dgL_len, Nat.add_mul, Nat.add_comm]
  have e : (10 : Nat) ^ 48 = 10 ^ b.length * 10 ^ (48 - b.length) := by rw [← Nat.pow_add, show b.length + (48 - b.length) = 48 by omega]
  rw [e]
  simp only [Nat.mul_assoc, Nat.mul_comm, Nat.mul_left_comm]
theorem dec_end (a b : Bs) (be : Bool) (ha : a.all digB = true) (hb : b.all digB = true) (la : a.length ≤ 40) (lb : b.length ≤ 40) : (decEnd (digF a b) (nearF (digF a b) be 19 39)).2 = 0 ↔ RepN (vals (dgL (a ++ b))) b.length := by
  obtain ⟨hR, hV⟩ := dig_val a b ha hb la lb
  generalize digF a b = D at *
  generalize vals (dgL (a ++ b)) = N at *
  generalize b.length = m at *
  constructor
  · intro h
    cases hn : nearF D be 19 39 with
    | none => rw [hn] at h; cases h
    | some p =>
      rw [hn] at h
      unfold decEnd at h
      dsimp only at h
      split at h
      · rename_i hs
        obtain ⟨q1, q2, q3, q4⟩ := Go.Proofs.YtgnejohiagagmaaGreatDoor.nearF_rng D be hR 19 39 p (by omega) (by omega) hn
        obtain ⟨l1, l2⟩ := lay_val p (by omega) q3 q4
        have hv := val_same 96 ((same_iff _ _).1 hs)
        rw [l2, hV] at hv
        refine ⟨p.1.natAbs, (p.2 + 9).toNat, by omega, by omega, ?_⟩
        have e1 : (48 + p.2).toNat = (p.2 + 9).toNat + 39 := by omega
        rw [e1, Nat.pow_add] at hv
        have h3 : p.1.natAbs * 10 ^ (p.2 + 9).toNat * 10 ^ m * 10 ^ 39 = N * 10 ^ 9 * 10 ^ 39 := by
          have e2 : N * 10 ^ 9 * 10 ^ 39 = N * 10 ^ (48 - m) * 10 ^ m := by
            rw [Nat.mul_assoc, ← Nat.pow_add, Nat.mul_assoc, ← Nat.pow_add, show 48 - m + m = 9 + 39 by omega]
          rw [e2, ← hv]
          simp only [Nat.mul_assoc, Nat.mul_comm, Nat.mul_left_comm]
        exact Nat.eq_of_mul_eq_mul_right (Nat.pow_pos (by decide)) h3
      · cases h
  · rintro ⟨M, k, hM, hk, h⟩
    have hv : valF D 96 = M * 10 ^ (39 + k) := by
      rw [hV]
      have h3 : N * 10 ^ (48 - m) * 10 ^ m = M * 10 ^ (39 + k) * 10 ^ m := by
        have e2 : N * 10 ^ (48 - m) * 10 ^ m = N * 10 ^ 9 * 10 ^ 39 := by
          rw [Nat.mul_assoc, ← Nat.pow_add, Nat.mul_assoc, ← Nat.pow_add, show 48 - m + m = 9 + 39 by omega]
        rw [e2, ← h, Nat.pow_add]
        simp only [Nat.mul_assoc, Nat.mul_comm, Nat.mul_left_comm]
      exact Nat.eq_of_mul_eq_mul_right (Nat.pow_pos (by decide)) h3
    obtain ⟨p, hp, hs⟩ := nearF_rep D hR be M k hM hk hv 19 39 (by omega) (by omega) (by omega)
    rw [hp]
    unfold decEnd
    dsimp only
    rw [if_pos hs]
end Tab

namespace Tab
open Go Go.Lib
theorem idx_at (d : UInt8) (B : Bs) : ∀ (A : Bs), (∀ b ∈ A, b ≠ d) → index (A ++ d :: B) [d] = A.length
  | [], _ => by
    show index (d :: B) [d] = 0
    rw [idx_cons, if_pos (by simp)]
  | b :: A, h => by
    have ih := idx_at d B A (fun x hx => h x (by simp [hx]))
    rw [List.cons_append, idx_cons, if_neg (by simpa using fun e => h b (by simp) e.symm), ih, if_neg (by first | (simp; done) | (simp; omega))]
    simp
theorem idx_no (d : UInt8) : ∀ (A : Bs), (∀ b ∈ A, b ≠ d) → index A [d] = -1
  | [], _ => rfl
  | b :: A, h => by
    have ih := idx_no d A (fun x hx => h x (by simp [hx]))
    rw [idx_cons, if_neg (by simpa using fun e => h b (by simp) e.symm), ih]; rfl
theorem cut_at (d : UInt8) (A B : Bs) (h : ∀ b ∈ A, b ≠ d) : cut (A ++ d :: B) [d] = (A, B, true) := by
  unfold cut
  rw [idx_at d B A h, if_pos (by omega)]
  have e : ((A.length : Int).toNat + ([d] : Bs).length) = A.length + 1 := by simp
  rw [e, Int.toNat_natCast, List.take_left, show A ++ d :: B = (A ++ [d]) ++ B by simp, List.drop_left' (by simp)]
theorem cut_off (d : UInt8) (A : Bs) (h : ∀ b ∈ A, b ≠ d) : cut A [d] = (A, [], false) := by
  unfold cut
  rw [idx_no d A h, if_neg (by decide)]
theorem dig_not {b : UInt8} (h : digB b = true) : b ≠ 46 ∧ b ≠ 45 := by
  have := digB_rng h
  constructor <;> (rintro rfl; revert this; decide)
theorem num_dec (A B : Bs) (h0 : A ≠ []) (hA : A.all digB = true) (hB : B.all digB = true) : decED (numT A B) = 0 ↔ A.length ≤ 40 ∧ B.length ≤ 40 ∧ RepN (vals (dgL (A ++ B))) B.length := by
  have h46 : ∀ b ∈ A, b ≠ 46 := fun b hb => (dig_not (List.all_eq_true.1 hA b hb)).1
  have hl : 1 ≤ A.length := by
    cases A with
    | nil => exact absurd rfl h0
    | cons => simp
  have hp : hasPrefix (numT A B) [45] = false := by
    obtain ⟨a, t, rfl⟩ : ∃ a t, A = a :: t := by
      cases A with
      | nil => exact absurd rfl h0
      | cons a t => exact ⟨a, t, rfl⟩
    have ha : a ≠ 45 := (dig_not (List.all_eq_true.1 hA a (by simp))).2
    unfold numT hasPrefix
    split <;> simp [List.isPrefixOf, ha.symm]
  have ht : trimPrefix (numT A B) [45] = numT A B := by unfold trimPrefix; rw [hp, if_neg Bool.false_ne_true]
  have hc : cut (numT A B) [46] = (A, B, !B.isEmpty) := by
    unfold numT
    cases B with
    | nil => rw [if_pos rfl]; exact cut_off 46 A h46
    | cons b B => rw [if_neg (by simp)]; exact cut_at 46 A (b :: B) h46
  have hfA : figD A = decide (A.length ≤ 40) := by
    unfold figD
    rw [hA, decide_eq_true hl]; simp
  have hfB : (!(!B.isEmpty) || figD B) = decide (B.length ≤ 40) := by
    cases B with
    | nil => simp
    | cons b B =>
      unfold figD
      rw [hB]; simp
  unfold decED decReadD formD
  rw [ht, hc, hp]
  dsimp only
  rw [hfA, hfB]
  by_cases la : A.length ≤ 40
  · by_cases lb : B.length ≤ 40
    · rw [decide_eq_true la, decide_eq_true lb, if_pos (by rfl), dec_end A B _ hA hB la lb]
      exact ⟨fun h => ⟨la, lb, h⟩, fun h => h.2.2⟩
    · rw [decide_eq_false lb, Bool.and_false, if_neg Bool.false_ne_true]
      exact ⟨fun h => absurd h (by decide), fun h => absurd h.2.1 lb⟩
  · rw [decide_eq_false la, Bool.false_and, if_neg Bool.false_ne_true]
    exact ⟨fun h => absurd h (by decide), fun h => absurd h.1 la⟩
def fracD (l : Bs) : Bs := if hasPrefix (l.drop (whileD digR l).length) [46] = true then whileD digR (trimPrefix (l.drop (whileD digR l).length) [46]) else []
theorem while_digB (l : Bs) : (whileD digR l).all digB = true := by
  rw [List.all_eq_true]
  intro b hb
  have := while_all digR l b hb
  unfold digR at this
  unfold digB
  exact this
theorem frac_digB (l : Bs) : (fracD l).all digB = true := by
  unfold fracD
  split
  · exact while_digB _
  · rfl
theorem numD_form (l : Bs) : numD l = numT (whileD digR l) (fracD l) := by
  unfold numD numT fracD
  dsimp only
  split
  · split
    · rfl
    · rfl
  · rw [if_pos rfl]
theorem num_is (l : Bs) (h : digR (l.getD 0 0).toNat = true) : decED (numD l) = 0 ↔ (whileD digR l).length ≤ 40 ∧ (fracD l).length ≤ 40 ∧ RepN (vals (dgL (whileD digR l ++ fracD l))) (fracD l).length := by
  rw [numD_form]
  refine num_dec _ _ ?_ (while_digB l) (frac_digB l)
  cases l with
  | nil => exact absurd h (by decide)
  | cons a t =>
    unfold whileD
    rw [List.takeWhile_cons, if_pos (show digR a.toNat = true from h)]
    simp
end Tab
