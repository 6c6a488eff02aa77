/- Plain laws: whole numbers as their digits, the least one first. No program in sight. Plain laws: sums, differences, quotients by digits. No program in sight. Plain laws: the nearest decimal of a quotient, and which numbers are decimals. No program in sight. -/
import Init
import Derived.Test.YtgnejohiagagmaaGreatDoorD1
namespace Tab
def vals : List Nat → Nat
  | [] => 0
  | d :: l => d + 10 * vals l
/-- a number's digits. -/
def dgN (n : Nat) : List Nat := if n = 0 then [] else n % 10 :: dgN (n / 10)
termination_by n
decreasing_by omega
theorem dgN_zero : dgN 0 = [] := by rw [dgN]; rfl
theorem dgN_pos {n : Nat} (h : n ≠ 0) : dgN n = n % 10 :: dgN (n / 10) := by rw [dgN, if_neg h]
def Low (l : List Nat) : Prop := ∀ d ∈ l, d < 10
theorem Low.nil : Low [] := fun d h => by cases h
theorem Low.cons {d : Nat} {l : List Nat} (h : d < 10) (hl : Low l) : Low (d :: l) := fun x hx => by
  rcases List.mem_cons.1 hx with rfl | hx
  · exact h
  · exact hl x hx
theorem Low.tail {d : Nat} {l : List Nat} (h : Low (d :: l)) : Low l := fun x hx => h x (List.mem_cons_of_mem _ hx)
theorem Low.head {d : Nat} {l : List Nat} (h : Low (d :: l)) : d < 10 := h d (List.mem_cons_self ..)
theorem Low.app {l m : List Nat} (h : Low l) (hm : Low m) : Low (l ++ m) := fun x hx => by
  rcases List.mem_append.1 hx with hx | hx
  · exact h x hx
  · exact hm x hx
theorem Low.at {l : List Nat} (h : Low l) {i : Nat} (hi : i < l.length) : l[i] < 10 := h _ (List.getElem_mem hi)
theorem Low.take {l : List Nat} (h : Low l) (n : Nat) : Low (l.take n) := fun x hx => h x (List.mem_of_mem_take hx)
theorem Low.drop {l : List Nat} (h : Low l) (n : Nat) : Low (l.drop n) := fun x hx => h x (List.mem_of_mem_drop hx)
theorem dgN_low (n : Nat) : Low (dgN n) := by
  induction n using Nat.strongRecOn with
  | ind n ih =>
    by_cases h : n = 0
    · rw [h, dgN_zero]; exact Low.nil
    · rw [dgN_pos h]; exact Low.cons (by omega) (ih _ (by omega))
theorem vals_dgN (n : Nat) : vals (dgN n) = n := by
  induction n using Nat.strongRecOn with
  | ind n ih =>
    by_cases h : n = 0
    · rw [h, dgN_zero]; rfl
    · rw [dgN_pos h]
      show n % 10 + 10 * vals (dgN (n / 10)) = n
      rw [ih _ (by omega)]; omega
theorem vals_lt {l : List Nat} (h : Low l) : vals l < 10 ^ l.length := by
  induction l with
  | nil => exact Nat.one_pos
  | cons d l ih =>
    have h1 := ih h.tail
    have h2 := h.head
    show d + 10 * vals l < 10 ^ (l.length + 1)
    rw [Nat.pow_succ]; omega
theorem vals_app (l m : List Nat) : vals (l ++ m) = vals l + 10 ^ l.length * vals m := by
  induction l with
  | nil => simp [vals]
  | cons d l ih =>
    show d + 10 * vals (l ++ m) = d + 10 * vals l + 10 ^ (l.length + 1) * vals m
    rw [ih, Nat.pow_succ, Nat.mul_add, ← Nat.mul_assoc, Nat.mul_comm 10 (10 ^ l.length)]; omega
theorem vals_snoc (l : List Nat) (d : Nat) : vals (l ++ [d]) = vals l + 10 ^ l.length * d := by
  rw [vals_app]; simp [vals]
theorem vals_zeros (n : Nat) : vals (List.replicate n 0) = 0 := by
  induction n with
  | zero => rfl
  | succ n ih => show 0 + 10 * vals (List.replicate n 0) = 0; rw [ih]
theorem vals_step (l : List Nat) (i : Nat) (h : i < l.length) : vals (l.take (i + 1)) = vals (l.take i) + 10 ^ i * l[i] := by
  rw [List.take_succ_eq_append_getElem h, vals_snoc, List.length_take, Nat.min_eq_left (by omega)]
theorem vals_drop (l : List Nat) (i : Nat) (h : i < l.length) : vals (l.drop i) = l[i] + 10 * vals (l.drop (i + 1)) := by
  rw [List.drop_eq_getElem_cons h]; rfl
theorem dgN_nil {n : Nat} (h : dgN n = []) : n = 0 := by
  by_cases h0 : n = 0
  · exact h0
  · rw [dgN_pos h0] at h; cases h
theorem dgN_of : ∀ {l : List Nat}, Low l → (∀ d m, l = m ++ [d] → d ≠ 0) → dgN (vals l) = l
  | [], _, _ => dgN_zero
  | d :: l, h, hl => by
    have hv : vals (d :: l) = d + 10 * vals l := rfl
    have hd := h.head
    have ih := dgN_of h.tail (fun e m hm => hl e (d :: m) (by rw [hm]; rfl))
    have hne : vals (d :: l) ≠ 0 := by
      rw [hv]
      intro h0
      have h1 : vals l = 0 := by omega
      rw [h1, dgN_zero] at ih
      subst ih
      exact hl d [] rfl (by omega)
    rw [dgN_pos hne, hv, show (d + 10 * vals l) % 10 = d by omega, show (d + 10 * vals l) / 10 = vals l by omega, ih]
/-- how many digits stay when the noughts ahead are left out. -/
def tnN (l : List Nat) : Nat → Nat
  | 0 => 0
  | n + 1 => if l.getD n 0 = 0 then tnN l n else n + 1
theorem tnN_le (l : List Nat) : ∀ n, tnN l n ≤ n
  | 0 => Nat.le_refl _
  | n + 1 => by
    unfold tnN
    split
    · have := tnN_le l n; omega
    · exact Nat.le_refl _
theorem trim_take (l : List Nat) (h : Low l) : ∀ n, n ≤ l.length → l.take (tnN l n) = dgN (vals (l.take n))
  | 0, _ => by rw [List.take_zero]; show l.take 0 = dgN 0; rw [dgN_zero, List.take_zero]
  | n + 1, hn => by
    have hlt : n < l.length := by omega
    have hg : l.getD n 0 = l[n] := by rw [List.getD_eq_getElem?_getD, List.getElem?_eq_getElem hlt]; rfl
    unfold tnN
    rw [hg]
    split
    · rename_i h0
      rw [trim_take l h n (by omega), vals_step l n hlt, h0, Nat.mul_zero, Nat.add_zero]
    · rename_i h0
      refine (dgN_of (h.take _) (fun d m hm => ?_)).symm
      rw [List.take_succ_eq_append_getElem hlt] at hm
      have := (List.append_inj' hm rfl).2
      injection this with this _
      rw [← this]; exact h0
theorem trim_all (l : List Nat) (h : Low l) : l.take (tnN l l.length) = dgN (vals l) := by
  rw [trim_take l h l.length (Nat.le_refl _), List.take_length]
theorem dgN_len_lt {a b : Nat} (h : (dgN a).length < (dgN b).length) : a < b := by
  have h1 := vals_lt (dgN_low a)
  rw [vals_dgN] at h1
  have h2 : ∀ b, b ≠ 0 → 10 ^ ((dgN b).length - 1) ≤ b := by
    intro b
    induction b using Nat.strongRecOn with
    | ind b ih =>
      intro hb
      rw [dgN_pos hb]
      by_cases h10 : b / 10 = 0
      · rw [h10, dgN_zero]; simp; omega
      · have := ih (b / 10) (by omega) h10
        have hl : 1 ≤ (dgN (b / 10)).length := by
          rw [dgN_pos h10]; simp
        simp only [List.length_cons, Nat.add_sub_cancel]
        obtain ⟨k, hk⟩ : ∃ k, (dgN (b / 10)).length = k + 1 := ⟨(dgN (b / 10)).length - 1, by omega⟩
        rw [hk, Nat.add_sub_cancel] at this
        rw [hk, Nat.pow_succ]
        omega
  have hb : b ≠ 0 := by intro e; rw [e, dgN_zero] at h; simp at h
  have h3 := h2 b hb
  have h4 : 10 ^ (dgN a).length ≤ 10 ^ ((dgN b).length - 1) := Nat.pow_le_pow_right (by omega) (by omega)
  omega
theorem dgN_len_le {a b : Nat} (h : a ≤ b) : (dgN a).length ≤ (dgN b).length := by
  rcases Nat.lt_or_ge (dgN b).length (dgN a).length with h1 | h1
  · have := dgN_len_lt h1; omega
  · exact h1
theorem dgN_len_bound {a n : Nat} (h : a < 10 ^ n) : (dgN a).length ≤ n := by
  have h2 : ∀ n a, a < 10 ^ n → (dgN a).length ≤ n := by
    intro n
    induction n with
    | zero => intro a h; have : a = 0 := by simpa using h
              rw [this, dgN_zero]; simp
    | succ n ih =>
      intro a h
      by_cases h0 : a = 0
      · rw [h0, dgN_zero]; simp
      · rw [dgN_pos h0]
        have := ih (a / 10) (by rw [Nat.pow_succ] at h; omega)
        simp; omega
  exact h2 n a h
/-- of two as long, the higher digits settle it. -/
theorem less_step (a b : List Nat) (ha : Low a) (hb : Low b) (i : Nat) (h1 : i < a.length) (h2 : i < b.length) :
    decide (vals (a.take (i + 1)) < vals (b.take (i + 1))) = if a[i] = b[i] then decide (vals (a.take i) < vals (b.take i)) else decide (a[i] < b[i]) := by
  rw [vals_step a i h1, vals_step b i h2]
  have e1 := vals_lt (ha.take i)
  have e2 := vals_lt (hb.take i)
  rw [List.length_take, Nat.min_eq_left (by omega)] at e1 e2
  generalize vals (a.take i) = x at *
  generalize vals (b.take i) = y at *
  generalize a[i] = p at *
  generalize b[i] = q at *
  generalize 10 ^ i = t at *
  by_cases hpq : p = q
  · rw [if_pos hpq, hpq]; rw [decide_eq_decide]; omega
  · rw [if_neg hpq, decide_eq_decide]
    rcases Nat.lt_or_ge p q with h | h
    · have : t * p + t ≤ t * q := by
        have := Nat.mul_le_mul_left t (show p + 1 ≤ q by omega)
        rw [Nat.mul_add, Nat.mul_one] at this; exact this
      omega
    · have : t * q + t ≤ t * p := by
        have := Nat.mul_le_mul_left t (show q + 1 ≤ p by omega)
        rw [Nat.mul_add, Nat.mul_one] at this; exact this
      omega
theorem ten_dgN (v n : Nat) (h : v ≠ 0) : List.replicate n 0 ++ dgN v = dgN (v * 10 ^ n) := by
  have hl : Low (List.replicate n 0 ++ dgN v) := Low.app (fun d hd => by rw [List.eq_of_mem_replicate hd]; omega) (dgN_low v)
  have hv : vals (List.replicate n 0 ++ dgN v) = v * 10 ^ n := by
    rw [vals_app, vals_zeros, List.length_replicate, vals_dgN, Nat.zero_add, Nat.mul_comm]
  rw [← hv]
  have h2 : ∀ (v : Nat), v ≠ 0 → ∀ d m, dgN v = m ++ [d] → d ≠ 0 := by
    intro v
    induction v using Nat.strongRecOn with
    | ind v ih =>
      intro hv d m hm
      rw [dgN_pos hv] at hm
      by_cases h10 : v / 10 = 0
      · rw [h10, dgN_zero] at hm
        cases m with
        | nil => injection hm with hm _; omega
        | cons x m => injection hm with _ hm; cases m <;> cases hm
      · cases m with
        | nil => injection hm with _ hm; exact absurd (dgN_nil hm) h10
        | cons x m => injection hm with _ hm; exact ih (v / 10) (by omega) h10 d m hm
  refine (dgN_of hl (fun d m hm => ?_)).symm
  have hne : dgN v ≠ [] := fun e => h (dgN_nil e)
  obtain ⟨x, y, hxy⟩ : ∃ x y, dgN v = x ++ [y] := ⟨(dgN v).dropLast, (dgN v).getLast hne, (List.dropLast_concat_getLast hne).symm⟩
  rw [hxy, ← List.append_assoc] at hm
  have := (List.append_inj' hm rfl).2
  injection this with this _
  rw [← this]; exact h2 v h y x hxy
/-- the digits of a text, the last one first. -/
def dgB (c : UInt8) : Nat := c.toNat - 48
def dgL (l : List UInt8) : List Nat := l.reverse.map dgB
theorem dgL_len (l : List UInt8) : (dgL l).length = l.length := by unfold dgL; simp
theorem dgL_app (a b : List UInt8) : dgL (a ++ b) = dgL b ++ dgL a := by unfold dgL; simp
/-- digits, a point, digits; without a point, if none stand behind it. -/
def numT (A B : List UInt8) : List UInt8 := if B = [] then A else A ++ 46 :: B
theorem dgL_low (l : List UInt8) (h : ∀ b ∈ l, 48 ≤ b.toNat ∧ b.toNat ≤ 57) : Low (dgL l) := by
  intro d hd
  unfold dgL at hd
  obtain ⟨b, hb, rfl⟩ := List.mem_map.1 hd
  have := h b (by simpa using hb)
  unfold dgB
  omega
/-- a text's digits, the last one first; points are left out. -/
def dgS (l : List UInt8) : List Nat := dgL (l.filter fun b => b != 46)
theorem dgS_cons (b : UInt8) (l : List UInt8) : dgS (b :: l) = dgS l ++ (if b = 46 then [] else [dgB b]) := by
  unfold dgS
  rw [List.filter_cons]
  by_cases h : b = 46
  · subst h; simp
  · rw [if_neg h, if_pos (by simpa using h)]
    rw [show b :: l.filter (fun b => b != 46) = [b] ++ l.filter (fun b => b != 46) from rfl, dgL_app]; rfl
theorem dgS_none (l : List UInt8) (h : ∀ b ∈ l, b ≠ 46) : dgS l = dgL l := by
  unfold dgS
  rw [List.filter_eq_self.2 (fun b hb => by simpa using h b hb)]
theorem dgS_point (A B : List UInt8) (hA : ∀ b ∈ A, b ≠ 46) (hB : ∀ b ∈ B, b ≠ 46) : dgS (A ++ 46 :: B) = dgL (A ++ B) := by
  unfold dgS
  rw [List.filter_append, List.filter_cons, if_neg (by simp), List.filter_eq_self.2 (fun b hb => by simpa using hA b hb), List.filter_eq_self.2 (fun b hb => by simpa using hB b hb)]
end Tab

namespace Tab
theorem vals_nil : vals [] = 0 := rfl
theorem vals_cons (d : Nat) (l : List Nat) : vals (d :: l) = d + 10 * vals l := rfl
theorem vals_drop_any (l : List Nat) (i : Nat) : vals (l.drop i) = l.getD i 0 + 10 * vals (l.drop (i + 1)) := by
  rcases Nat.lt_or_ge i l.length with h | h
  · rw [vals_drop l i h, List.getD_eq_getElem?_getD, List.getElem?_eq_getElem h]; rfl
  · rw [List.drop_eq_nil_of_le h, List.drop_eq_nil_of_le (by omega), List.getD_eq_getElem?_getD, List.getElem?_eq_none h]; rfl
theorem Low.getD {l : List Nat} (h : Low l) (i : Nat) : l.getD i 0 < 10 := by
  rcases Nat.lt_or_ge i l.length with hi | hi
  · rw [List.getD_eq_getElem?_getD, List.getElem?_eq_getElem hi]; exact h.at hi
  · rw [List.getD_eq_getElem?_getD, List.getElem?_eq_none hi]; decide
theorem Low.snoc {l : List Nat} (h : Low l) {d : Nat} (hd : d < 10) : Low (l ++ [d]) := h.app (Low.cons hd Low.nil)
/-- so far has a sum come: the digits, what is carried, what is left of both. -/
def SumI (A B xs : List Nat) (i c S : Nat) : Prop := Low xs ∧ xs.length = i ∧ c ≤ 1 ∧ vals xs + 10 ^ i * (c + vals (A.drop i) + vals (B.drop i)) = S
theorem SumI.start (A B : List Nat) : SumI A B [] 0 0 (vals A + vals B) := ⟨Low.nil, rfl, by omega, by simp [vals]⟩
theorem SumI.step {A B xs : List Nat} {i c S : Nat} (hA : Low A) (hB : Low B) (h : SumI A B xs i c S) : SumI A B (xs ++ [(A.getD i 0 + B.getD i 0 + c) % 10]) (i + 1) ((A.getD i 0 + B.getD i 0 + c) / 10) S := by
  obtain ⟨h1, h2, h3, h4⟩ := h
  have ha := hA.getD i
  have hb := hB.getD i
  refine ⟨h1.snoc (by omega), by simp [h2], by omega, ?_⟩
  rw [vals_snoc, h2, Nat.pow_succ, ← h4, vals_drop_any A i, vals_drop_any B i]
  generalize A.getD i 0 = p at *
  generalize B.getD i 0 = q at *
  generalize vals (A.drop (i + 1)) = u
  generalize vals (B.drop (i + 1)) = v
  have e : p + q + c = (p + q + c) % 10 + 10 * ((p + q + c) / 10) := (Nat.mod_add_div _ _).symm
  generalize (p + q + c) % 10 = m at *
  generalize (p + q + c) / 10 = k at *
  have e2 : c + (p + 10 * u) + (q + 10 * v) = m + 10 * (k + u + v) := by omega
  have e3 : 10 ^ i * (m + 10 * (k + u + v)) = 10 ^ i * m + 10 ^ i * 10 * (k + u + v) := by rw [Nat.mul_add, Nat.mul_assoc]
  rw [e2, e3, Nat.add_assoc]
theorem SumI.done {A B xs : List Nat} {i S : Nat} (h : SumI A B xs i 0 S) (ha : A.length ≤ i) (hb : B.length ≤ i) : xs.take (tnN xs xs.length) = dgN S := by
  obtain ⟨h1, h2, h3, h4⟩ := h
  rw [List.drop_eq_nil_of_le ha, List.drop_eq_nil_of_le hb] at h4
  rw [trim_all xs h1, ← h4]; simp [vals]
/-- so far has a difference come. -/
def DifI (A B xs : List Nat) (i c S : Nat) : Prop := Low xs ∧ xs.length = i ∧ c ≤ 1 ∧ vals xs + 10 ^ i * vals (A.drop i) = S + 10 ^ i * (c + vals (B.drop i))
theorem DifI.start (A B : List Nat) (h : vals B ≤ vals A) : DifI A B [] 0 0 (vals A - vals B) := ⟨Low.nil, rfl, by omega, by simp [vals]; omega⟩
theorem DifI.step {A B xs : List Nat} {i c S : Nat} (hA : Low A) (hB : Low B) (h : DifI A B xs i c S) : DifI A B (xs ++ [if A.getD i 0 < B.getD i 0 + c then A.getD i 0 + 10 - (B.getD i 0 + c) else A.getD i 0 - (B.getD i 0 + c)]) (i + 1) (if A.getD i 0 < B.getD i 0 + c then 1 else 0) S := by
  obtain ⟨h1, h2, h3, h4⟩ := h
  have ha := hA.getD i
  have hb := hB.getD i
  rw [vals_drop_any A i, vals_drop_any B i] at h4
  generalize A.getD i 0 = p at *
  generalize B.getD i 0 = q at *
  have hlen : ∀ d, (xs ++ [d]).length = i + 1 := fun d => by simp [h2]
  split
  · rename_i hlt
    refine ⟨h1.snoc (by omega), hlen _, by omega, ?_⟩
    rw [vals_snoc, h2, Nat.pow_succ]
    generalize vals (A.drop (i + 1)) = u at *
    generalize vals (B.drop (i + 1)) = v at *
    obtain ⟨k, hk⟩ : ∃ k, p + 10 - (q + c) = k := ⟨_, rfl⟩
    rw [hk]
    have e1 : p + 10 * u + 10 = k + c + q + 10 * u := by omega
    have e2 : 10 ^ i * (p + 10 * u + 10) = 10 ^ i * (k + c + q + 10 * u) := by rw [e1]
    simp only [Nat.mul_add, Nat.mul_assoc] at *
    omega
  · rename_i hlt
    refine ⟨h1.snoc (by omega), hlen _, by omega, ?_⟩
    rw [vals_snoc, h2, Nat.pow_succ]
    generalize vals (A.drop (i + 1)) = u at *
    generalize vals (B.drop (i + 1)) = v at *
    obtain ⟨k, hk⟩ : ∃ k, p - (q + c) = k := ⟨_, rfl⟩
    rw [hk]
    have e1 : p = k + c + q := by omega
    subst e1
    simp only [Nat.mul_add, Nat.mul_assoc] at *
    omega
theorem DifI.done {A B xs : List Nat} {i c S : Nat} (h : DifI A B xs i c S) (ha : A.length ≤ i) : xs.take (tnN xs xs.length) = dgN S := by
  obtain ⟨h1, h2, h3, h4⟩ := h
  rw [List.drop_eq_nil_of_le ha, vals_nil, Nat.mul_zero, Nat.add_zero] at h4
  have hl := vals_lt h1
  rw [h2] at hl
  have h0 : c + vals (B.drop i) = 0 := by
    rcases Nat.eq_zero_or_pos (c + vals (B.drop i)) with h | h
    · exact h
    · have := Nat.mul_le_mul_left (10 ^ i) h
      omega
  rw [h0, Nat.mul_zero, Nat.add_zero] at h4
  rw [trim_all xs h1, h4]
/-- so far has a quotient come: its digits, and what is left. -/
def QuoI (A Q : List Nat) (j b r : Nat) : Prop := Low Q ∧ Q.length = A.length - j ∧ r < b ∧ vals (A.drop j) = vals Q * b + r
theorem QuoI.start (A : List Nat) (b : Nat) (hb : 0 < b) : QuoI A [] A.length b 0 := ⟨Low.nil, by simp, hb, by simp [vals]⟩
theorem QuoI.step {A Q : List Nat} {j b r : Nat} (hA : Low A) (hj : j < A.length) (h : QuoI A Q (j + 1) b r) : (A[j] + 10 * r) / b < 10 ∧ QuoI A ((A[j] + 10 * r) / b :: Q) j b ((A[j] + 10 * r) % b) := by
  obtain ⟨h1, h2, h3, h4⟩ := h
  have ha := hA.at hj
  have hd : (A[j] + 10 * r) / b < 10 := by
    rw [Nat.div_lt_iff_lt_mul (by omega)]; omega
  refine ⟨hd, Low.cons hd h1, by rw [List.length_cons, h2]; omega, Nat.mod_lt _ (by omega), ?_⟩
  rw [vals_drop A j hj, h4, vals_cons]
  have e := Nat.div_add_mod (A[j] + 10 * r) b
  generalize (A[j] + 10 * r) / b = d at *
  generalize (A[j] + 10 * r) % b = k at *
  rw [Nat.add_mul, Nat.mul_comm d b, Nat.mul_assoc]
  omega
theorem QuoI.done {A Q : List Nat} {b r : Nat} (h : QuoI A Q 0 b r) : Q.take (tnN Q Q.length) = dgN (vals A / b) ∧ r = vals A % b := by
  obtain ⟨h1, h2, h3, h4⟩ := h
  rw [List.drop_zero] at h4
  have e1 : vals A / b = vals Q := by
    rw [h4, Nat.mul_comm, Nat.mul_add_div (by omega), Nat.div_eq_of_lt h3, Nat.add_zero]
  have e2 : vals A % b = r := by
    rw [h4, Nat.mul_comm, Nat.mul_add_mod, Nat.mod_eq_of_lt h3]
  rw [trim_all Q h1, e1, e2]
  exact ⟨rfl, rfl⟩
/-- one digit ahead of what is left. -/
theorem trim_front (d r : Nat) (hd : d < 10) : (d :: dgN r).take (tnN (d :: dgN r) (d :: dgN r).length) = dgN (d + 10 * r) := by
  rw [trim_all _ (Low.cons hd (dgN_low r)), vals_cons, vals_dgN]
theorem dgN_len_pow (a n : Nat) : (dgN (a * 10 ^ n)).length ≤ (dgN a).length + n := by
  by_cases h : a = 0
  · rw [h, Nat.zero_mul, dgN_zero]; simp
  · rw [← ten_dgN a n h]; simp; omega
theorem div_step (b R d : Nat) (hb : 0 < b) : (d * b + R) / b = d + R / b ∧ (d * b + R) % b = R % b := by
  rw [Nat.mul_comm, Nat.mul_add_div hb, Nat.mul_add_mod]
  exact ⟨rfl, rfl⟩
end Tab

namespace Tab
def rndN (n d : Nat) : Nat := if d < 2 * (n % d) ∨ (¬ 2 * (n % d) < d ∧ n / d % 2 = 1) then n / d + 1 else n / d
def upN (e : Int) : Nat := e.toNat
/-- a number, over another one times ten to e, rounded. -/
def overN (N D : Nat) (e : Int) : Nat := rndN (N * 10 ^ (-e).toNat) (D * 10 ^ e.toNat)
def lowD (m : Nat) (e : Int) : Int × Int := if m = 0 then (0, 0) else stripF (9 - e).toNat m e
def nearN (N D : Nat) : Nat → Int → Option (Int × Int)
  | 0, _ => none
  | f + 1, e => if 999999999999999 < overN N D e then nearN N D f (e + 1) else some (lowD (overN N D e) e)
def exactN (N m : Nat) : Option (Int × Int) → Int
  | none => 10
  | some p => if p.1.natAbs * 10 ^ (p.2 + 9).toNat * 10 ^ m = N * 10 ^ 9 then 0 else 10
/-- what reading digits tells, so many of them behind the point. -/
def readN (N m : Nat) : Int := exactN N m (nearN N (10 ^ m) 19 (-9))
/-- whether that number is a decimal. -/
def RepN (N m : Nat) : Prop := ∃ M k, M ≤ 999999999999999 ∧ k ≤ 18 ∧ M * 10 ^ k * 10 ^ m = N * 10 ^ 9
theorem strip_val : ∀ (f : Nat) (M : Nat) (E : Int), -9 ≤ E → E ≤ 9 → ∃ M' : Nat, (stripF f M E).1 = (M' : Int) ∧ M' ≤ M ∧ E ≤ (stripF f M E).2 ∧ (stripF f M E).2 ≤ 9 ∧ M' * 10 ^ ((stripF f M E).2 + 9).toNat = M * 10 ^ (E + 9).toNat
  | 0, M, E, _, h9 => ⟨M, rfl, Nat.le_refl _, Int.le_refl _, h9, rfl⟩
  | f + 1, M, E, h0, h9 => by
    unfold stripF
    by_cases h : (M : Int) % 10 = 0 ∧ E < 9
    · rw [if_pos h]
      have e : (M : Int) / 10 = ((M / 10 : Nat) : Int) := by omega
      rw [e]
      obtain ⟨M', h1, h2, h3, h4, h5⟩ := strip_val f (M / 10) (E + 1) (by omega) (by omega)
      refine ⟨M', h1, by omega, by omega, h4, ?_⟩
      rw [h5, show (E + 1 + 9).toNat = (E + 9).toNat + 1 by omega, Nat.pow_succ]
      have h10 : M / 10 * 10 = M := by omega
      rw [Nat.mul_comm (10 ^ (E + 9).toNat) 10, ← Nat.mul_assoc, h10]
    · rw [if_neg h]
      exact ⟨M, rfl, Nat.le_refl _, Int.le_refl _, h9, rfl⟩
theorem low_val (m : Nat) (e : Int) (h0 : -9 ≤ e) (h9 : e ≤ 9) : ∃ M' : Nat, (lowD m e).1 = (M' : Int) ∧ M' ≤ m ∧ -9 ≤ (lowD m e).2 ∧ (lowD m e).2 ≤ 9 ∧ M' * 10 ^ ((lowD m e).2 + 9).toNat = m * 10 ^ (e + 9).toNat := by
  unfold lowD
  split
  · rename_i h
    exact ⟨0, rfl, Nat.zero_le _, by decide, by decide, by rw [h]; simp⟩
  · obtain ⟨M', h1, h2, h3, h4, h5⟩ := strip_val (9 - e).toNat m e h0 h9
    exact ⟨M', h1, h2, by omega, h4, h5⟩
theorem rnd_exact (M d : Nat) (h : 0 < d) : rndN (M * d) d = M := by
  unfold rndN
  rw [Nat.mul_mod_left, Nat.mul_div_cancel _ h]
  rw [if_neg (by omega)]
theorem over_exact (N m : Nat) (e : Int) (h0 : -9 ≤ e) (h9 : e ≤ 9) (M : Nat) (h : M * 10 ^ (e + 9).toNat * 10 ^ m = N * 10 ^ 9) : overN N (10 ^ m) e = M := by
  unfold overN
  have key : N * 10 ^ (-e).toNat = M * (10 ^ m * 10 ^ e.toNat) := by
    rcases Int.le_total 0 e with h1 | h1
    · have e1 : (-e).toNat = 0 := by omega
      have e2 : (e + 9).toNat = e.toNat + 9 := by omega
      rw [e1, Nat.pow_zero, Nat.mul_one]
      rw [e2, Nat.pow_add] at h
      have hc : M * (10 ^ m * 10 ^ e.toNat) * 10 ^ 9 = N * 10 ^ 9 := by
        rw [← h]; simp only [Nat.mul_assoc, Nat.mul_comm, Nat.mul_left_comm]
      exact (Nat.eq_of_mul_eq_mul_right (by decide) hc).symm
    · have e1 : e.toNat = 0 := by omega
      have e2 : 9 = (e + 9).toNat + (-e).toNat := by omega
      rw [e1, Nat.pow_zero, Nat.mul_one]
      have hc : N * 10 ^ (-e).toNat * 10 ^ (e + 9).toNat = M * 10 ^ m * 10 ^ (e + 9).toNat := by
        have : (10 : Nat) ^ 9 = 10 ^ (e + 9).toNat * 10 ^ (-e).toNat := by rw [← Nat.pow_add, ← e2]
        rw [this] at h
        simp only [Nat.mul_assoc, Nat.mul_comm, Nat.mul_left_comm] at h ⊢
        exact h.symm
      exact Nat.eq_of_mul_eq_mul_right (Nat.pow_pos (by decide)) hc
  rw [key]
  exact rnd_exact M _ (Nat.mul_pos (Nat.pow_pos (by decide)) (Nat.pow_pos (by decide)))
theorem near_exact (N m : Nat) : ∀ (f : Nat) (e : Int) (M k : Nat), -9 ≤ e → e + f = 10 → M ≤ 999999999999999 → k ≤ 18 → e + 9 ≤ k → M * 10 ^ k * 10 ^ m = N * 10 ^ 9 → exactN N m (nearN N (10 ^ m) f e) = 0
  | 0, e, M, k, h0, hf, hM, hk, he, h => by omega
  | f + 1, e, M, k, h0, hf, hM, hk, he, h => by
    have hx : (M * 10 ^ (k - (e + 9).toNat)) * 10 ^ (e + 9).toNat * 10 ^ m = N * 10 ^ 9 := by
      rw [← h, Nat.mul_assoc M, ← Nat.pow_add, show k - (e + 9).toNat + (e + 9).toNat = k by omega]
    have ho := over_exact N m e h0 (by omega) _ hx
    unfold nearN
    split
    · rename_i hbig
      have hne : (e + 9).toNat ≠ k := by
        intro hek
        rw [ho, hek, Nat.sub_self, Nat.pow_zero, Nat.mul_one] at hbig
        omega
      exact near_exact N m f (e + 1) M k (by omega) (by omega) hM hk (by omega) h
    · rw [ho]
      obtain ⟨M', h1, h2, h3, h4, h5⟩ := low_val (M * 10 ^ (k - (e + 9).toNat)) e h0 (by omega)
      unfold exactN
      dsimp only
      rw [h1, Int.natAbs_natCast, h5, if_pos hx]
theorem near_rng (N D : Nat) : ∀ (f : Nat) (e : Int) (p : Int × Int), -9 ≤ e → e + f = 10 → nearN N D f e = some p → ∃ M' : Nat, p.1 = (M' : Int) ∧ M' ≤ 999999999999999 ∧ -9 ≤ p.2 ∧ p.2 ≤ 9
  | 0, e, p, _, _, h => by cases h
  | f + 1, e, p, h0, hf, h => by
    unfold nearN at h
    split at h
    · exact near_rng N D f (e + 1) p (by omega) (by omega) h
    · rename_i hs
      injection h with h
      obtain ⟨M', h1, h2, h3, h4, h5⟩ := low_val (overN N D e) e h0 (by omega)
      rw [h] at h1 h3 h4
      exact ⟨M', h1, by omega, h3, h4⟩
theorem read_rep (N m : Nat) : readN N m = 0 ↔ RepN N m := by
  unfold readN
  constructor
  · intro h
    cases hp : nearN N (10 ^ m) 19 (-9) with
    | none => rw [hp] at h; cases h
    | some p =>
      rw [hp] at h
      unfold exactN at h
      dsimp only at h
      split at h
      · rename_i he
        obtain ⟨M', h1, h2, h3, h4⟩ := near_rng N (10 ^ m) 19 (-9) p (by decide) (by decide) hp
        refine ⟨M', (p.2 + 9).toNat, h2, by omega, ?_⟩
        rw [h1, Int.natAbs_natCast] at he
        exact he
      · cases h
  · rintro ⟨M, k, hM, hk, h⟩
    exact near_exact N m 19 (-9) M k (by decide) (by decide) hM hk (by omega) h
end Tab
