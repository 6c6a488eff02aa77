import Derived.Test.YtlpgigdegnbkmaaGreatDoorM06
import Derived.Laws.OwnMore
import Derived.Deep.RegionWith
set_option maxRecDepth 100000
set_option maxHeartbeats 8000000
namespace Tab
def vals : List Nat -> Nat
 | [] => 0
 | d :: l => d + 10 * vals l
def dgN (n : Nat) : List Nat := if n = 0 then [] else n % 10 :: dgN (n / 10)
termination_by n
decreasing_by omega
theorem dgN_zero : dgN 0 = [] := by rw [dgN]; rfl
theorem dgN_pos {n : Nat} (h : n ≠ 0) : dgN n = n % 10 :: dgN (n / 10) := by rw [dgN, if_neg h]
def Low (l : List Nat) : Prop := ∀ d ∈ l, d < 10
theorem Low.nil : Low [] := fun d h => by cases h
theorem Low.cons {d : Nat} {l : List Nat} (h : d < 10) (hl : Low l) : Low (d :: l) := fun x hx => by
 rcases List.mem_cons.1 hx with rfl | hx
 ·exact h
 ·exact hl x hx
theorem Low.tail {d : Nat} {l : List Nat} (h : Low (d :: l)) : Low l := fun x hx => h x (List.mem_cons_of_mem _ hx)
theorem Low.head {d : Nat} {l : List Nat} (h : Low (d :: l)) : d < 10 := h d (List.mem_cons_self ..)
theorem Low.app {l m : List Nat} (h : Low l) (hm : Low m) : Low (l ++ m) := fun x hx => by
 rcases List.mem_append.1 hx with hx | hx
 ·exact h x hx
 ·exact hm x hx
theorem Low.at {l : List Nat} (h : Low l) {i : Nat} (hi : i < l.length) : l[i] < 10 := h _ (List.getElem_mem hi)
theorem Low.take {l : List Nat} (h : Low l) (n : Nat) : Low (l.take n) := fun x hx => h x (List.mem_of_mem_take hx)
theorem Low.drop {l : List Nat} (h : Low l) (n : Nat) : Low (l.drop n) := fun x hx => h x (List.mem_of_mem_drop hx)
theorem dgN_low (n : Nat) : Low (dgN n) := by
 induction n using Nat.strongRecOn with
 | ind n ih =>
  by_cases h : n = 0
  ·rw [h, dgN_zero]; exact Low.nil
  ·rw [dgN_pos h]; exact Low.cons (by omega) (ih _ (by omega))
theorem vals_dgN (n : Nat) : vals (dgN n) = n := by
 induction n using Nat.strongRecOn with
 | ind n ih =>
  by_cases h : n = 0
  ·rw [h, dgN_zero]; rfl
  ·rw [dgN_pos h]
   show n % 10 + 10 * vals (dgN (n / 10)) = n
   rw [ih _ (by omega)]; omega
theorem vals_lt {l : List Nat} (h : Low l) : vals l < 10 ^ l.length := by
 induction l with
 | nil => exact Nat.one_pos
 | cons d l ih =>
  have h1 := ih h.tail
  have h2 := h.head
  show d + 10 * vals l < 10 ^ (l.length + 1)
  rw [Nat.pow_succ]; omega
theorem vals_app (l m : List Nat) : vals (l ++ m) = vals l + 10 ^ l.length * vals m := by
 induction l with
 | nil => simp [vals]
 | cons d l ih =>
  show d + 10 * vals (l ++ m) = d + 10 * vals l + 10 ^ (l.length + 1) * vals m
  rw [ih, Nat.pow_succ, Nat.mul_add, <- Nat.mul_assoc, Nat.mul_comm 10 (10 ^ l.length)]; omega
theorem vals_snoc (l : List Nat) (d : Nat) : vals (l ++ [d]) = vals l + 10 ^ l.length * d := by
 rw [vals_app]; simp [vals]
theorem vals_zeros (n : Nat) : vals (List.replicate n 0) = 0 := by
 induction n with
 | zero => rfl
 | succ n ih => show 0 + 10 * vals (List.replicate n 0) = 0; rw [ih]
theorem vals_step (l : List Nat) (i : Nat) (h : i < l.length) : vals (l.take (i + 1)) = vals (l.take i) + 10 ^ i * l[i] := by
 rw [List.take_succ_eq_append_getElem h, vals_snoc, List.length_take, Nat.min_eq_left (by omega)]
theorem vals_drop (l : List Nat) (i : Nat) (h : i < l.length) : vals (l.drop i) = l[i] + 10 * vals (l.drop (i + 1)) := by
 rw [List.drop_eq_getElem_cons h]; rfl
theorem dgN_nil {n : Nat} (h : dgN n = []) : n = 0 := by
 by_cases h0 : n = 0
 ·exact h0
 ·rw [dgN_pos h0] at h; cases h
theorem dgN_of : ∀ {l : List Nat}, Low l -> (∀ d m, l = m ++ [d] -> d ≠ 0) -> dgN (vals l) = l
 | [], _, _ => dgN_zero
 | d :: l, h, hl => by
  have hv : vals (d :: l) = d + 10 * vals l := rfl
  have hd := h.head
  have ih := dgN_of h.tail (fun e m hm => hl e (d :: m) (by rw [hm]; rfl))
  have hne : vals (d :: l) ≠ 0 := by
   rw [hv]
   intro h0
   have h1 : vals l = 0 := by omega
   rw [h1, dgN_zero] at ih
   subst ih
   exact hl d [] rfl (by omega)
  rw [dgN_pos hne, hv, show (d + 10 * vals l) % 10 = d by omega, show (d + 10 * vals l) / 10 = vals l by omega, ih]
def tnN (l : List Nat) : Nat -> Nat
 | 0 => 0
 | n + 1 => if l.getD n 0 = 0 then tnN l n else n + 1
theorem tnN_le (l : List Nat) : ∀ n, tnN l n <= n
 | 0 => Nat.le_refl _
 | n + 1 => by
  unfold tnN
  split
  ·have := tnN_le l n; omega
  ·exact Nat.le_refl _
theorem trim_take (l : List Nat) (h : Low l) : ∀ n, n <= l.length -> l.take (tnN l n) = dgN (vals (l.take n))
 | 0, _ => by rw [List.take_zero]; show l.take 0 = dgN 0; rw [dgN_zero, List.take_zero]
 | n + 1, hn => by
  have hlt : n < l.length := by omega
  have hg : l.getD n 0 = l[n] := by rw [List.getD_eq_getElem?_getD, List.getElem?_eq_getElem hlt]; rfl
  unfold tnN
  rw [hg]
  split
  ·rename_i h0
   rw [trim_take l h n (by omega), vals_step l n hlt, h0, Nat.mul_zero, Nat.add_zero]
  ·rename_i h0
   refine (dgN_of (h.take _) (fun d m hm => ?_)).symm
   rw [List.take_succ_eq_append_getElem hlt] at hm
   have := (List.append_inj' hm rfl).2
   injection this with this _
   rw [<- this]; exact h0
theorem trim_all (l : List Nat) (h : Low l) : l.take (tnN l l.length) = dgN (vals l) := by
 rw [trim_take l h l.length (Nat.le_refl _), List.take_length]
theorem dgN_len_lt {a b : Nat} (h : (dgN a).length < (dgN b).length) : a < b := by
 have h1 := vals_lt (dgN_low a)
 rw [vals_dgN] at h1
 have h2 : ∀ b, b ≠ 0 -> 10 ^ ((dgN b).length - 1) <= b := by
  intro b
  induction b using Nat.strongRecOn with
  | ind b ih =>
   intro hb
   rw [dgN_pos hb]
   by_cases h10 : b / 10 = 0
   ·rw [h10, dgN_zero]; simp; omega
   ·have := ih (b / 10) (by omega) h10
    have hl : 1 <= (dgN (b / 10)).length := by
     rw [dgN_pos h10]; simp
    simp only [List.length_cons, Nat.add_sub_cancel]
    obtain ⟨k, hk⟩ : ∃ k, (dgN (b / 10)).length = k + 1 := ⟨(dgN (b / 10)).length - 1, by omega⟩
    rw [hk, Nat.add_sub_cancel] at this
    rw [hk, Nat.pow_succ]
    omega
 have hb : b ≠ 0 := by intro e; rw [e, dgN_zero] at h; simp at h
 have h3 := h2 b hb
 have h4 : 10 ^ (dgN a).length <= 10 ^ ((dgN b).length - 1) := Nat.pow_le_pow_right (by omega) (by omega)
 omega
theorem dgN_len_le {a b : Nat} (h : a <= b) : (dgN a).length <= (dgN b).length := by
 rcases Nat.lt_or_ge (dgN b).length (dgN a).length with h1 | h1
 ·have := dgN_len_lt h1; omega
 ·exact h1
theorem dgN_len_bound {a n : Nat} (h : a < 10 ^ n) : (dgN a).length <= n := by
 have h2 : ∀ n a, a < 10 ^ n -> (dgN a).length <= n := by
  intro n
  induction n with
  | zero =>
   intro a h
   have : a = 0 := by simpa using h
   rw [this, dgN_zero]; simp
  | succ n ih =>
   intro a h
   by_cases h0 : a = 0
   ·rw [h0, dgN_zero]; simp
   ·rw [dgN_pos h0]
    have := ih (a / 10) (by rw [Nat.pow_succ] at h; omega)
    simp; omega
 exact h2 n a h
theorem less_step (a b : List Nat) (ha : Low a) (hb : Low b) (i : Nat) (h1 : i < a.length) (h2 : i < b.length) :
  decide (vals (a.take (i + 1)) < vals (b.take (i + 1))) = if a[i] = b[i] then decide (vals (a.take i) < vals (b.take i)) else decide (a[i] < b[i]) := by
 rw [vals_step a i h1, vals_step b i h2]
 have e1 := vals_lt (ha.take i)
 have e2 := vals_lt (hb.take i)
 rw [List.length_take, Nat.min_eq_left (by omega)] at e1 e2
 generalize vals (a.take i) = x at *
 generalize vals (b.take i) = y at *
 generalize a[i] = p at *
 generalize b[i] = q at *
 generalize 10 ^ i = t at *
 by_cases hpq : p = q
 ·rw [if_pos hpq, hpq]; rw [decide_eq_decide]; omega
 ·rw [if_neg hpq, decide_eq_decide]
  rcases Nat.lt_or_ge p q with h | h
  ·have : t * p + t <= t * q := by
    have := Nat.mul_le_mul_left t (show p + 1 <= q by omega)
    rw [Nat.mul_add, Nat.mul_one] at this; exact this
   omega
  ·have : t * q + t <= t * p := by
    have := Nat.mul_le_mul_left t (show q + 1 <= p by omega)
    rw [Nat.mul_add, Nat.mul_one] at this; exact this
   omega
theorem ten_dgN (v n : Nat) (h : v ≠ 0) : List.replicate n 0 ++ dgN v = dgN (v * 10 ^ n) := by
 have hl : Low (List.replicate n 0 ++ dgN v) := Low.app (fun d hd => by rw [List.eq_of_mem_replicate hd]; omega) (dgN_low v)
 have hv : vals (List.replicate n 0 ++ dgN v) = v * 10 ^ n := by
  rw [vals_app, vals_zeros, List.length_replicate, vals_dgN, Nat.zero_add, Nat.mul_comm]
 rw [<- hv]
 have h2 : ∀ (v : Nat), v ≠ 0 -> ∀ d m, dgN v = m ++ [d] -> d ≠ 0 := by
  intro v
  induction v using Nat.strongRecOn with
  | ind v ih =>
   intro hv d m hm
   rw [dgN_pos hv] at hm
   by_cases h10 : v / 10 = 0
   ·rw [h10, dgN_zero] at hm
    cases m with
    | nil => injection hm with hm _; omega
    | cons x m => injection hm with _ hm; cases m <;> cases hm
   ·cases m with
    | nil => injection hm with _ hm; exact absurd (dgN_nil hm) h10
    | cons x m => injection hm with _ hm; exact ih (v / 10) (by omega) h10 d m hm
 refine (dgN_of hl (fun d m hm => ?_)).symm
 have hne : dgN v ≠ [] := fun e => h (dgN_nil e)
 obtain ⟨x, y, hxy⟩ : ∃ x y, dgN v = x ++ [y] := ⟨(dgN v).dropLast, (dgN v).getLast hne, (List.dropLast_concat_getLast hne).symm⟩
 rw [hxy, <- List.append_assoc] at hm
 have := (List.append_inj' hm rfl).2
 injection this with this _
 rw [<- this]; exact h2 v h y x hxy
def dgB (c : UInt8) : Nat := c.toNat - 48
def dgL (l : List UInt8) : List Nat := l.reverse.map dgB
theorem dgL_len (l : List UInt8) : (dgL l).length = l.length := by unfold dgL; simp
theorem dgL_app (a b : List UInt8) : dgL (a ++ b) = dgL b ++ dgL a := by unfold dgL; simp
def numT (A B : List UInt8) : List UInt8 := if B = [] then A else A ++ 46 :: B
theorem dgL_low (l : List UInt8) (h : ∀ b ∈ l, 48 <= b.toNat /\ b.toNat <= 57) : Low (dgL l) := by
 intro d hd
 unfold dgL at hd
 obtain ⟨b, hb, rfl⟩ := List.mem_map.1 hd
 have := h b (by simpa using hb)
 unfold dgB
 omega
def dgS (l : List UInt8) : List Nat := dgL (l.filter fun b => b != 46)
theorem dgS_cons (b : UInt8) (l : List UInt8) : dgS (b :: l) = dgS l ++ (if b = 46 then [] else [dgB b]) := by
 unfold dgS
 rw [List.filter_cons]
 by_cases h : b = 46
 ·subst h; simp
 ·rw [if_neg h, if_pos (by simpa using h)]
  rw [show b :: l.filter (fun b => b != 46) = [b] ++ l.filter (fun b => b != 46) from rfl, dgL_app]; rfl
theorem dgS_none (l : List UInt8) (h : ∀ b ∈ l, b ≠ 46) : dgS l = dgL l := by
 unfold dgS
 rw [List.filter_eq_self.2 (fun b hb => by simpa using h b hb)]
theorem dgS_point (A B : List UInt8) (hA : ∀ b ∈ A, b ≠ 46) (hB : ∀ b ∈ B, b ≠ 46) : dgS (A ++ 46 :: B) = dgL (A ++ B) := by
 unfold dgS
 rw [List.filter_append, List.filter_cons, if_neg (by simp), List.filter_eq_self.2 (fun b hb => by simpa using hA b hb), List.filter_eq_self.2 (fun b hb => by simpa using hB b hb)]
theorem vals_nil : vals [] = 0 := rfl
theorem vals_cons (d : Nat) (l : List Nat) : vals (d :: l) = d + 10 * vals l := rfl
theorem vals_drop_any (l : List Nat) (i : Nat) : vals (l.drop i) = l.getD i 0 + 10 * vals (l.drop (i + 1)) := by
 rcases Nat.lt_or_ge i l.length with h | h
 ·rw [vals_drop l i h, List.getD_eq_getElem?_getD, List.getElem?_eq_getElem h]; rfl
 ·rw [List.drop_eq_nil_of_le h, List.drop_eq_nil_of_le (by omega), List.getD_eq_getElem?_getD, List.getElem?_eq_none h]; rfl
theorem Low.getD {l : List Nat} (h : Low l) (i : Nat) : l.getD i 0 < 10 := by
 rcases Nat.lt_or_ge i l.length with hi | hi
 ·rw [List.getD_eq_getElem?_getD, List.getElem?_eq_getElem hi]; exact h.at hi
 ·rw [List.getD_eq_getElem?_getD, List.getElem?_eq_none hi]; decide
theorem Low.snoc {l : List Nat} (h : Low l) {d : Nat} (hd : d < 10) : Low (l ++ [d]) := h.app (Low.cons hd Low.nil)
def SumI (A B xs : List Nat) (i c S : Nat) : Prop := Low xs /\ xs.length = i /\ c <= 1 /\ vals xs + 10 ^ i * (c + vals (A.drop i) + vals (B.drop i)) = S
theorem SumI.start (A B : List Nat) : SumI A B [] 0 0 (vals A + vals B) := ⟨Low.nil, rfl, by omega, by simp [vals]⟩
theorem SumI.step {A B xs : List Nat} {i c S : Nat} (hA : Low A) (hB : Low B) (h : SumI A B xs i c S) : SumI A B (xs ++ [(A.getD i 0 + B.getD i 0 + c) % 10]) (i + 1) ((A.getD i 0 + B.getD i 0 + c) / 10) S := by
 obtain ⟨h1, h2, h3, h4⟩ := h
 have ha := hA.getD i
 have hb := hB.getD i
 refine ⟨h1.snoc (by omega), by simp [h2], by omega, ?_⟩
 rw [vals_snoc, h2, Nat.pow_succ, <- h4, vals_drop_any A i, vals_drop_any B i]
 generalize A.getD i 0 = p at *
 generalize B.getD i 0 = q at *
 generalize vals (A.drop (i + 1)) = u
 generalize vals (B.drop (i + 1)) = v
 have e : p + q + c = (p + q + c) % 10 + 10 * ((p + q + c) / 10) := (Nat.mod_add_div _ _).symm
 generalize (p + q + c) % 10 = m at *
 generalize (p + q + c) / 10 = k at *
 have e2 : c + (p + 10 * u) + (q + 10 * v) = m + 10 * (k + u + v) := by omega
 have e3 : 10 ^ i * (m + 10 * (k + u + v)) = 10 ^ i * m + 10 ^ i * 10 * (k + u + v) := by rw [Nat.mul_add, Nat.mul_assoc]
 rw [e2, e3, Nat.add_assoc]
theorem SumI.done {A B xs : List Nat} {i S : Nat} (h : SumI A B xs i 0 S) (ha : A.length <= i) (hb : B.length <= i) : xs.take (tnN xs xs.length) = dgN S := by
 obtain ⟨h1, h2, h3, h4⟩ := h
 rw [List.drop_eq_nil_of_le ha, List.drop_eq_nil_of_le hb] at h4
 rw [trim_all xs h1, <- h4]; simp [vals]
def DifI (A B xs : List Nat) (i c S : Nat) : Prop := Low xs /\ xs.length = i /\ c <= 1 /\ vals xs + 10 ^ i * vals (A.drop i) = S + 10 ^ i * (c + vals (B.drop i))
theorem DifI.start (A B : List Nat) (h : vals B <= vals A) : DifI A B [] 0 0 (vals A - vals B) := ⟨Low.nil, rfl, by omega, by simp [vals]; omega⟩
theorem DifI.step {A B xs : List Nat} {i c S : Nat} (hA : Low A) (hB : Low B) (h : DifI A B xs i c S) : DifI A B (xs ++ [if A.getD i 0 < B.getD i 0 + c then A.getD i 0 + 10 - (B.getD i 0 + c) else A.getD i 0 - (B.getD i 0 + c)]) (i + 1) (if A.getD i 0 < B.getD i 0 + c then 1 else 0) S := by
 obtain ⟨h1, h2, h3, h4⟩ := h
 have ha := hA.getD i
 have hb := hB.getD i
 rw [vals_drop_any A i, vals_drop_any B i] at h4
 generalize A.getD i 0 = p at *
 generalize B.getD i 0 = q at *
 have hlen : ∀ d, (xs ++ [d]).length = i + 1 := fun d => by simp [h2]
 split
 ·rename_i hlt
  refine ⟨h1.snoc (by omega), hlen _, by omega, ?_⟩
  rw [vals_snoc, h2, Nat.pow_succ]
  generalize vals (A.drop (i + 1)) = u at *
  generalize vals (B.drop (i + 1)) = v at *
  obtain ⟨k, hk⟩ : ∃ k, p + 10 - (q + c) = k := ⟨_, rfl⟩
  rw [hk]
  have e1 : p + 10 * u + 10 = k + c + q + 10 * u := by omega
  have e2 : 10 ^ i * (p + 10 * u + 10) = 10 ^ i * (k + c + q + 10 * u) := by rw [e1]
  simp only [Nat.mul_add, Nat.mul_assoc] at *
  omega
 ·rename_i hlt
  refine ⟨h1.snoc (by omega), hlen _, by omega, ?_⟩
  rw [vals_snoc, h2, Nat.pow_succ]
  generalize vals (A.drop (i + 1)) = u at *
  generalize vals (B.drop (i + 1)) = v at *
  obtain ⟨k, hk⟩ : ∃ k, p - (q + c) = k := ⟨_, rfl⟩
  rw [hk]
  have e1 : p = k + c + q := by omega
  subst e1
  simp only [Nat.mul_add, Nat.mul_assoc] at *
  omega
theorem DifI.done {A B xs : List Nat} {i c S : Nat} (h : DifI A B xs i c S) (ha : A.length <= i) : xs.take (tnN xs xs.length) = dgN S := by
 obtain ⟨h1, h2, h3, h4⟩ := h
 rw [List.drop_eq_nil_of_le ha, vals_nil, Nat.mul_zero, Nat.add_zero] at h4
 have hl := vals_lt h1
 rw [h2] at hl
 have h0 : c + vals (B.drop i) = 0 := by
  rcases Nat.eq_zero_or_pos (c + vals (B.drop i)) with h | h
  ·exact h
  ·have := Nat.mul_le_mul_left (10 ^ i) h
   omega
 rw [h0, Nat.mul_zero, Nat.add_zero] at h4
 rw [trim_all xs h1, h4]
def QuoI (A Q : List Nat) (j b r : Nat) : Prop := Low Q /\ Q.length = A.length - j /\ r < b /\ vals (A.drop j) = vals Q * b + r
theorem QuoI.start (A : List Nat) (b : Nat) (hb : 0 < b) : QuoI A [] A.length b 0 := ⟨Low.nil, by simp, hb, by simp [vals]⟩
theorem QuoI.step {A Q : List Nat} {j b r : Nat} (hA : Low A) (hj : j < A.length) (h : QuoI A Q (j + 1) b r) : (A[j] + 10 * r) / b < 10 /\ QuoI A ((A[j] + 10 * r) / b :: Q) j b ((A[j] + 10 * r) % b) := by
 obtain ⟨h1, h2, h3, h4⟩ := h
 have ha := hA.at hj
 have hd : (A[j] + 10 * r) / b < 10 := by
  rw [Nat.div_lt_iff_lt_mul (by omega)]; omega
 refine ⟨hd, Low.cons hd h1, by rw [List.length_cons, h2]; omega, Nat.mod_lt _ (by omega), ?_⟩
 rw [vals_drop A j hj, h4, vals_cons]
 have e := Nat.div_add_mod (A[j] + 10 * r) b
 generalize (A[j] + 10 * r) / b = d at *
 generalize (A[j] + 10 * r) % b = k at *
 rw [Nat.add_mul, Nat.mul_comm d b, Nat.mul_assoc]
 omega
theorem QuoI.done {A Q : List Nat} {b r : Nat} (h : QuoI A Q 0 b r) : Q.take (tnN Q Q.length) = dgN (vals A / b) /\ r = vals A % b := by
 obtain ⟨h1, h2, h3, h4⟩ := h
 rw [List.drop_zero] at h4
 have e1 : vals A / b = vals Q := by
  rw [h4, Nat.mul_comm, Nat.mul_add_div (by omega), Nat.div_eq_of_lt h3, Nat.add_zero]
 have e2 : vals A % b = r := by
  rw [h4, Nat.mul_comm, Nat.mul_add_mod, Nat.mod_eq_of_lt h3]
 rw [trim_all Q h1, e1, e2]
 exact ⟨rfl, rfl⟩
theorem trim_front (d r : Nat) (hd : d < 10) : (d :: dgN r).take (tnN (d :: dgN r) (d :: dgN r).length) = dgN (d + 10 * r) := by
 rw [trim_all _ (Low.cons hd (dgN_low r)), vals_cons, vals_dgN]
theorem dgN_len_pow (a n : Nat) : (dgN (a * 10 ^ n)).length <= (dgN a).length + n := by
 by_cases h : a = 0
 ·rw [h, Nat.zero_mul, dgN_zero]; simp
 ·rw [<- ten_dgN a n h]; simp; omega
theorem div_step (b R d : Nat) (hb : 0 < b) : (d * b + R) / b = d + R / b /\ (d * b + R) % b = R % b := by
 rw [Nat.mul_comm, Nat.mul_add_div hb, Nat.mul_add_mod]
 exact ⟨rfl, rfl⟩
def rndN (n d : Nat) : Nat := if d < 2 * (n % d) \/ (¬ 2 * (n % d) < d /\ n / d % 2 = 1) then n / d + 1 else n / d
def overN (N D : Nat) (e : Int) : Nat := rndN (N * 10 ^ (-e).toNat) (D * 10 ^ e.toNat)
def lowD (m : Nat) (e : Int) : Int × Int := if m = 0 then (0, 0) else stripF (9 - e).toNat m e
def nearN (N D : Nat) : Nat -> Int -> Option (Int × Int)
 | 0, _ => none
 | f + 1, e => if 999999999999999 < overN N D e then nearN N D f (e + 1) else some (lowD (overN N D e) e)
def exactN (N m : Nat) : Option (Int × Int) -> Int
 | none => 10
 | some p => if p.1.natAbs * 10 ^ (p.2 + 9).toNat * 10 ^ m = N * 10 ^ 9 then 0 else 10
def readN (N m : Nat) : Int := exactN N m (nearN N (10 ^ m) 19 (-9))
theorem strip_val : ∀ (f : Nat) (M : Nat) (E : Int), -9 <= E -> E <= 9 -> ∃ M' : Nat, (stripF f M E).1 = (M' : Int) /\ M' <= M /\ E <= (stripF f M E).2 /\ (stripF f M E).2 <= 9 /\ M' * 10 ^ ((stripF f M E).2 + 9).toNat = M * 10 ^ (E + 9).toNat
 | 0, M, E, _, h9 => ⟨M, rfl, Nat.le_refl _, Int.le_refl _, h9, rfl⟩
 | f + 1, M, E, h0, h9 => by
  unfold stripF
  by_cases h : (M : Int) % 10 = 0 /\ E < 9
  ·rw [if_pos h]
   have e : (M : Int) / 10 = ((M / 10 : Nat) : Int) := by omega
   rw [e]
   obtain ⟨M', h1, h2, h3, h4, h5⟩ := strip_val f (M / 10) (E + 1) (by omega) (by omega)
   refine ⟨M', h1, by omega, by omega, h4, ?_⟩
   rw [h5, show (E + 1 + 9).toNat = (E + 9).toNat + 1 by omega, Nat.pow_succ]
   have h10 : M / 10 * 10 = M := by omega
   rw [Nat.mul_comm (10 ^ (E + 9).toNat) 10, <- Nat.mul_assoc, h10]
  ·rw [if_neg h]
   exact ⟨M, rfl, Nat.le_refl _, Int.le_refl _, h9, rfl⟩
theorem low_val (m : Nat) (e : Int) (h0 : -9 <= e) (h9 : e <= 9) : ∃ M' : Nat, (lowD m e).1 = (M' : Int) /\ M' <= m /\ -9 <= (lowD m e).2 /\ (lowD m e).2 <= 9 /\ M' * 10 ^ ((lowD m e).2 + 9).toNat = m * 10 ^ (e + 9).toNat := by
 unfold lowD
 split
 ·rename_i h
  exact ⟨0, rfl, Nat.zero_le _, by decide, by decide, by rw [h]; simp⟩
 ·obtain ⟨M', h1, h2, h3, h4, h5⟩ := strip_val (9 - e).toNat m e h0 h9
  exact ⟨M', h1, h2, by omega, h4, h5⟩
theorem near_rng (N D : Nat) : ∀ (f : Nat) (e : Int) (p : Int × Int), -9 <= e -> e + f = 10 -> nearN N D f e = some p -> ∃ M' : Nat, p.1 = (M' : Int) /\ M' <= 999999999999999 /\ -9 <= p.2 /\ p.2 <= 9
 | 0, e, p, _, _, h => by cases h
 | f + 1, e, p, h0, hf, h => by
  unfold nearN at h
  split at h
  ·exact near_rng N D f (e + 1) p (by omega) (by omega) h
  ·rename_i hs
   injection h with h
   obtain ⟨M', h1, h2, h3, h4, h5⟩ := low_val (overN N D e) e h0 (by omega)
   rw [h] at h1 h3 h4
   exact ⟨M', h1, by omega, h3, h4⟩
end Tab
namespace Go.Proofs.YtlpgigdegnbkmaaGreatDoor
open Go.RowKit Tab Tryz
def intsV (L : List Nat) : List Value := L.map fun (d : Nat) => Value.int .i64 (d : Int)
theorem intsV_len (L : List Nat) : (intsV L).length = L.length := by unfold intsV; simp
theorem intsV_app (L M : List Nat) : intsV (L ++ M) = intsV L ++ intsV M := by unfold intsV; simp
theorem intsV_one (L : List Nat) : ∀ u ∈ intsV L, u.oneCell' = true := by
 intro u hu
 unfold intsV at hu
 obtain ⟨_, _, rfl⟩ := List.mem_map.1 hu
 rfl
theorem intsV_at (L : List Nat) (i : Nat) (d : Nat) (h : L[i]? = some d) : (intsV L)[i]? = some (.int .i64 (d : Int)) := by
 unfold intsV
 rw [List.getElem?_map, h]; rfl
theorem infoI : (prog.info? 3).map (fun i => (i.zero, i.size, i.bytes)) = some (some (.int .i64 0), 1, 8) := by kernel_rfl
def IntAt (w : World) (p : Option Addr) (c : Nat) (L : List Nat) : Prop :=
 (p = none /\ c = 0 /\ L = []) \/ ∃ b o, p = some ⟨b, o, none⟩ /\ L.length <= c /\ b < w.heap.size /\ ∀ (i d : Nat), L[i]? = some d -> w.cell? ⟨b, o + i, none⟩ = some (.int .i64 (d : Int))
def IntRow (w : World) (v : Value) (L : List Nat) : Prop := ∃ p c, v = .slice p L.length c /\ IntAt w p c L
theorem IntAt.below {w W : World} {p : Option Addr} {c : Nat} {L : List Nat} (h : IntAt w p c L) (hb : Below w.heap.size w W) : IntAt W p c L := by
 rcases h with h | ⟨b, o, h1, h2, h3, h4⟩
 ·exact .inl h
 ·exact .inr ⟨b, o, h1, h2, Nat.lt_of_lt_of_le h3 hb.size, fun i d hd => by rw [hb.cell (p := ⟨b, o + i, none⟩) h3]; exact h4 i d hd⟩
theorem IntRow.below {w W : World} {v : Value} {L : List Nat} (h : IntRow w v L) (hb : Below w.heap.size w W) : IntRow W v L := by
 obtain ⟨p, c, h1, h2⟩ := h
 exact ⟨p, c, h1, h2.below hb⟩
theorem IntAt.at {w : World} {p : Option Addr} {c : Nat} {L : List Nat} (h : IntAt w p c L) {i : Nat} (hi : i < L.length) : ∃ b o, p = some ⟨b, o, none⟩ /\ L.length <= c /\ b < w.heap.size /\ w.cell? ⟨b, o + i, none⟩ = some (.int .i64 (L[i] : Int)) := by
 rcases h with ⟨_, _, rfl⟩ | ⟨b, o, h1, h2, h3, h4⟩
 ·simp at hi
 ·exact ⟨b, o, h1, h2, h3, h4 i _ (List.getElem?_eq_getElem hi)⟩
theorem IntAt.cap {w : World} {p : Option Addr} {c : Nat} {L : List Nat} (h : IntAt w p c L) : L.length <= c := by
 rcases h with ⟨_, _, rfl⟩ | ⟨b, o, h1, h2, h3, h4⟩
 ·simp
 ·exact h2
theorem IntAt.take {w : World} {p : Option Addr} {c : Nat} {L : List Nat} (h : IntAt w p c L) (n : Nat) : IntAt w p c (L.take n) := by
 rcases h with ⟨h1, h2, rfl⟩ | ⟨b, o, h1, h2, h3, h4⟩
 ·exact .inl ⟨h1, h2, by simp⟩
 ·refine .inr ⟨b, o, h1, by rw [List.length_take]; omega, h3, fun i d hd => h4 i d ?_⟩
  rw [List.getElem?_take] at hd
  split at hd
  ·exact hd
  ·cases hd
theorem IntRow.nil (w : World) : IntRow w (.slice none 0 0) [] := ⟨none, 0, rfl, .inl ⟨rfl, rfl, rfl⟩⟩
theorem intRow_of_own {w : World} {base : Nat} {v : Value} {L : List Nat} {e : TypeId} (h : w.ownsRow base e 1 v L.length (intsV L)) : IntRow w v L := by
 rcases h.2 with ⟨h1, h2⟩ | ⟨g, cap, cur, h1, h2, h3, h4, h5, h6, h7⟩
 ·have : L = [] := List.length_eq_zero_iff.1 h2
  subst this; rw [h1]; exact IntRow.nil w
 ·refine ⟨_, cap, h1, .inr ⟨g, 0, rfl, h4, ?_, fun i d hd => ?_⟩⟩
  ·rcases Nat.lt_or_ge g w.heap.size with h | h
   ·exact h
   ·simp [Array.getElem?_eq_none h] at h3
  ·have hi : i < L.length := (List.getElem?_eq_some_iff.1 hd).1
   rw [Nat.zero_add, Lib.cell_of_heap h3]
   have := intsV_at L i d hd
   rw [<- h7, List.getElem?_take, if_pos (by omega), Array.getElem?_toList] at this
   exact this
def RetRow (L : List Nat) (w : World) (e : Ending) (w' : World) : Prop := ∃ v, e = .returned v /\ IntRow w' v L /\ Below w.heap.size w w'
theorem RetRow.mk' {L : List Nat} {w w' : World} {v v' : Value} (h : v = v') (hr : IntRow w' v' L) (hb : Below w.heap.size w w') : RetRow L w (.returned v) w' := ⟨v, rfl, h ▸ hr, hb⟩
theorem int_append {w : World} {o : Oper} {a : Act} {K : Act -> World -> Prop} {Q : Exit -> Act -> World -> Prop} (s x : Operand)
  (ho : o.op = .call { callee := .builtin .append, args := #[s, x], argTypes := #[40, 40] })
  (base : Nat) (v u : Value) (M L : List Nat) (hs : a.eval s = v) (hx : a.eval x = u) (hown : w.ownsRow base 3 1 v M.length (intsV M)) (hL : IntRow w u L) (hn : M.length + L.length <= 100000) (hbase : base <= w.heap.size)
  (h : ∀ v' w', w'.ownsRow base 3 1 v' (M ++ L).length (intsV (M ++ L)) -> w.grownBy w' v.ownBlock -> K (a.put o.dst v') w') : o.wp prog a w K Q := by
 obtain ⟨iT, hi, hz0, hz1, hz2⟩ := info_parts infoI
 obtain ⟨p, c, rfl, ⟨rfl, rfl, rfl⟩ | ⟨b, of, rfl, hc, hb, hcell⟩⟩ := hL
 ·refine wp_append_none s x 40 ho base 3 iT 1 underlying40 hi v M.length (intsV M) hs hown hx ?_
  exact h v w (by rw [List.append_nil]; exact hown) ⟨rfl, rfl, rfl, Nat.le_refl _, fun _ _ _ => rfl⟩
 ·refine wp_append_own w s x 40 ho base 3 iT (.int .i64 0) 1 8 underlying40 hi hz0 hz1 hz2 rfl (by decide) v M.length (intsV M) hs hown ⟨b, of, none⟩ L.length c (intsV L) hx (by rw [intsV_len, Nat.mul_one]) ?_ (intsV_one L) (by unfold maxLen; omega) (by omega) hbase ?_
  ·intro j u hu
   have hj : j < L.length := by rw [<- intsV_len]; exact (List.getElem?_eq_some_iff.1 hu).1
   have h1 := intsV_at L j _ (List.getElem?_eq_getElem hj)
   rw [Addr.add_lit, hcell j _ (List.getElem?_eq_getElem hj), <- hu, h1]
  ·intro v' w' h1 h2 _
   exact h v' w' (by rw [List.length_append, intsV_app]; exact h1) h2
theorem intRow_one (w : World) (d : Nat) (t : TypeId) : IntRow (w.alloc (.cells #[.int .i64 (d : Int)] t (0, 0))) (.slice (some ⟨w.heap.size, 0, none⟩) 1 1) [d] := by
 refine ⟨_, 1, rfl, .inr ⟨w.heap.size, 0, rfl, by simp, by simp, fun i x hx => ?_⟩⟩
 have hi : i = 0 := by
  have := (List.getElem?_eq_some_iff.1 hx).1
  simp at this; exact this
 subst hi
 simp at hx
 subst hx
 simp [go_sem]
theorem own_one (w : World) (base : Nat) (hb : base <= w.heap.size) (d : Nat) : (w.alloc (.cells #[.int .i64 (d : Int)] 3 (0, 0))).ownsRow base 3 1 (.slice (some ⟨w.heap.size, 0, none⟩) 1 1) [d].length (intsV [d]) := by
 refine ⟨by simp [intsV_len], .inr ⟨w.heap.size, 1, #[.int .i64 (d : Int)], rfl, hb, ?_, Nat.le_refl _, by unfold maxLen; omega, rfl, rfl⟩⟩
 exact Array.getElem?_push_size
theorem own_zeros {w : World} {base n : Nat} {v : Value} (h : w.ownsRow base 3 1 v n (madeCells (Value.int .i64 0).cells (n * 1)).toList) : w.ownsRow base 3 1 v (List.replicate n 0).length (intsV (List.replicate n 0)) := by
 have e : (madeCells (Value.int .i64 0).cells (n * 1)).toList = intsV (List.replicate n 0) := by
  have hl := h.1
  apply List.ext_getElem?
  intro i
  unfold intsV
  rw [List.map_replicate]
  unfold madeCells
  simp [Value.cells, Nat.mod_one]
  rcases Nat.lt_or_ge i n with hi | hi
  ·rw [List.getElem?_range hi, List.getElem?_replicate, if_pos hi]; rfl
  ·rw [List.getElem?_eq_none (by simpa using hi), List.getElem?_replicate, if_neg (by omega)]; rfl
 rw [<- e, List.length_replicate]; exact h
theorem intAt_any (L : List Nat) (_hn : L.length <= 100000) (i : Nat) (_hi : i <= 100000) (v : Value) (w : World) (hL : IntRow w v L) : Calls prog 122 #[v, .int .i64 (i : Int)] w (Still (.int .i64 (L.getD i 0 : Nat)) w) := by
 obtain ⟨p, c, rfl, hA⟩ := hL
 by_cases hlt : i < L.length
 ·obtain ⟨b, o, rfl, hc, hb, hcell⟩ := hA.at hlt
  have eg : L.getD i 0 = L[i] := by rw [List.getD_eq_getElem?_getD, List.getElem?_eq_getElem hlt]; rfl
  rw [eg]
  clear eg hA
  go_enter func122, ntmps122
  go_wp2
  go_ret; exact Still.mk' rfl
 ·have eg : L.getD i 0 = 0 := by rw [List.getD_eq_getElem?_getD, List.getElem?_eq_none (by omega)]; rfl
  rw [eg]
  clear eg hA
  go_enter func122, ntmps122
  go_wp2
  go_ret; exact Still.mk' rfl
theorem trim_any (L : List Nat) (hn : L.length <= 100000) (v : Value) (w : World) (hL : IntRow w v L) : Calls prog 79 #[v] w (RetRow (L.take (tnN L L.length)) w) := by
 obtain ⟨V, hV⟩ : ∃ V, tnN L L.length = V := ⟨_, rfl⟩
 have hle := tnN_le L L.length
 rw [hV] at hle ⊢
 obtain ⟨p, c, rfl, hA⟩ := hL
 have HV := Lib.hid hV; clear hV
 have HA := Lib.hid hA
 have hcap := hA.cap
 go_enter func79, ntmps79
 go_wp2
 go_loop [3] (fun n => ∃ k : Nat, n = .int .i64 (k : Int) /\ k <= L.length /\ tnN L k = V) (fun n => (intOf n).toNat)
 case atStart => exact ⟨L.length, rfl, Nat.le_refl _, HV.out⟩
 case round =>
  clear HV
  obtain ⟨k, rfl, hk, hI⟩ := hrel
  have HI := Lib.hid hI
  clear hI
  by_cases h0 : k = 0
  ·subst h0
   have hI := HI.out
   have hV0 : V = 0 := hI.symm
   subst hV0
   clear hI HI
   go_wp2
   go_ret
   exact RetRow.mk' (v' := .slice p 0 c) rfl ⟨p, c, rfl, HA.out.take 0⟩ (Below.refl _ _)
  ·obtain ⟨j, rfl⟩ : ∃ j, k = j + 1 := ⟨k - 1, by omega⟩
   have hjl : j < L.length := by omega
   obtain ⟨b, o, rfl, hc, hb, hcell⟩ := hA.at hjl
   have eg : L.getD j 0 = L[j] := by rw [List.getD_eq_getElem?_getD, List.getElem?_eq_getElem hjl]; rfl
   have ek : decide (0 < ((j + 1 : Nat) : Int)) = true := decide_eq_true (by omega)
   have ew : IntKind.i64.wrap (((j + 1 : Nat) : Int) - 1) = (j : Int) := by rw [IntWalk.i64_in _ (by omega)]; omega
   have hI := HI.out
   unfold tnN at hI
   rw [eg] at hI
   generalize L[j] = x at *
   by_cases hx : x = 0
   ·rw [if_pos hx] at hI
    subst hx
    have HI := Lib.hid hI
    clear hI
    go_wp2
    go_round
    case rel => exact ⟨j, rfl, by omega, HI.out⟩
    case measure => simp [intOf]
   ·rw [if_neg hx] at hI
    subst hI
    have ex : ((x : Int) == 0) = false := by rw [beq_eq_false_iff_ne]; omega
    clear HI
    go_wp2
    go_ret
    exact RetRow.mk' (v' := .slice (some ⟨b, o, none⟩) (j + 1) c) rfl ⟨_, c, by rw [List.length_take, Nat.min_eq_left hle], HA.out.take _⟩ (Below.refl _ _)
theorem value_any (N : Nat) (hN : N < 1000000000000000000) (v : Value) (w : World) (hL : IntRow w v (dgN N)) : Calls prog 124 #[v] w (Still (.int .i64 (N : Int)) w) := by
 have hl18 : (dgN N).length <= 18 := dgN_len_bound (by simpa using hN)
 have hval := vals_dgN N
 have hlow := dgN_low N
 obtain ⟨L, hL2⟩ : ∃ L, dgN N = L := ⟨_, rfl⟩
 rw [hL2] at hl18 hval hlow hL
 clear hL2
 have hdrop : ∀ j, vals (L.drop j) <= N := fun j => by
  rw [<- hval]
  have h := vals_app (L.take j) (L.drop j)
  rw [List.take_append_drop] at h
  have h1 : vals (L.drop j) <= 10 ^ (L.take j).length * vals (L.drop j) := Nat.le_mul_of_pos_left _ (Nat.pow_pos (by decide))
  omega
 obtain ⟨p, c, rfl, hA⟩ := hL
 have HV := Lib.hid hval
 have HD := Lib.hid hdrop
 clear hval hdrop hlow
 go_enter func124, ntmps124
 go_wp2
 go_loop [3, 4] (fun n i => ∃ j : Nat, i = .int .i64 ((j : Int) - 1) /\ j <= L.length /\ n = .int .i64 ((vals (L.drop j) : Nat) : Int)) (fun _ i => (intOf i + 1).toNat)
 case atStart => exact ⟨L.length, by go_num, Nat.le_refl _, by rw [List.drop_length]; rfl⟩
 case round =>
  obtain ⟨j, rfl, hj, rfl⟩ := hrel
  by_cases h0 : j = 0
  ·subst h0
   have ek : decide ((0 : Int) <= ((0 : Nat) : Int) - 1) = false := decide_eq_false (by omega)
   go_wp2
   go_ret
   exact Still.mk' (by show Value.int .i64 ((vals L : Nat) : Int) = _; rw [HV.out])
  ·obtain ⟨i, rfl⟩ : ∃ i, j = i + 1 := ⟨j - 1, by omega⟩
   have hil : i < L.length := by omega
   obtain ⟨b, o, rfl, hc, hb, hcell⟩ := hA.at hil
   have hs := vals_drop L i hil
   have hm := HD.out i
   have e1 : (((i + 1 : Nat) : Int) - 1) = (i : Int) := by omega
   rw [e1]
   have ek : decide ((0 : Int) <= (i : Int)) = true := decide_eq_true (by omega)
   have ew1 : IntKind.i64.wrap (10 * ((vals (L.drop (i + 1)) : Nat) : Int)) = 10 * ((vals (L.drop (i + 1)) : Nat) : Int) := IntWalk.i64_in _ (by omega)
   have ew2 : IntKind.i64.wrap (10 * ((vals (L.drop (i + 1)) : Nat) : Int) + (L[i] : Int)) = ((vals (L.drop i) : Nat) : Int) := by rw [IntWalk.i64_in _ (by omega)]; omega
   have ew3 : IntKind.i64.wrap ((i : Int) - 1) = (i : Int) - 1 := IntWalk.i64_in _ (by omega)
   clear hs hm
   go_wp2
   go_round
   case rel => exact ⟨i, rfl, by omega, rfl⟩
   case measure => simp [intOf]
theorem digits_any (N : Nat) (hN : N <= 1000000000000000000) (w : World) : Calls prog 74 #[.int .i64 (N : Int)] w (RetRow (dgN N) w) := by
 have hl : (dgN N).length <= 19 := dgN_len_bound (by omega)
 obtain ⟨V, hV⟩ : ∃ V, dgN N = V := ⟨_, rfl⟩
 rw [hV] at hl ⊢
 have HV := Lib.hid hV
 clear hV
 go_enter func74, ntmps74
 go_wp2_with fail
 go_loopw [0, 3] (fun n o w' => ∃ (k : Nat) (xs : List Nat), n = .int .i64 (k : Int) /\ k <= N /\ xs ++ dgN k = V /\ w'.ownsRow w.heap.size 3 1 o xs.length (intsV xs) /\ Below w.heap.size w w') (fun n _ _ => (intOf n).toNat)
 case atStart => exact ⟨N, [], rfl, Nat.le_refl _, HV.out, ⟨rfl, .inl ⟨rfl, rfl⟩⟩, Below.refl _ _⟩
 case round =>
  clear HV
  obtain ⟨k, xs, rfl, hk, hI, hown, hb⟩ := hrel
  have HI := Lib.hid hI
  have hxl : xs.length <= 19 := by
   have := congrArg List.length hI
   rw [List.length_append] at this; omega
  clear hI
  by_cases h0 : k = 0
  ·subst h0
   have hI := HI.out
   rw [dgN_zero, List.append_nil] at hI
   subst hI
   clear HI
   go_wp2
   go_ret
   exact ⟨_, rfl, intRow_of_own hown, hb⟩
  ·have e1 : ((k : Int) != 0) = true := by rw [bne_iff_ne]; omega
   have e2 : (k : Int).tmod 10 = ((k % 10 : Nat) : Int) := by rw [Int.tmod_eq_emod_of_nonneg (by omega)]; omega
   have e3 : (k : Int).tdiv 10 = ((k / 10 : Nat) : Int) := by rw [Int.tdiv_eq_ediv_of_nonneg (by omega)]; omega
   have e4 : decide (((k % 10 : Nat) : Int) < 0) = false := decide_eq_false (by omega)
   have hI := HI.out
   rw [dgN_pos h0] at hI
   have HI := Lib.hid hI
   clear hI
   go_wp2_with (at_builtin; refine held ?_)
   unfold Held
   refine wpList_want (by rfl) ?_
   intro KK hKK
   refine int_append _ _ rfl w.heap.size _ _ xs [k % 10] rfl rfl (hown.alloc _) (intRow_one _ _ _) (by simp; omega) (by have := hb.size; simp; omega) ?_
   intro v5 w5 own5 hg5
   have hb5 : Below w.heap.size w w5 := (allocB hb).grown hg5 (by have := hb.size; simp; omega) (own_row hown)
   refine hKK _ _ ?_
   clear hKK hg5
   go_wp2
   go_roundw
   case rel => exact ⟨k / 10, xs ++ [k % 10], rfl, by omega, by rw [List.append_assoc]; exact HI.out, own5, hb5⟩
   case measure => simp [intOf]; omega
theorem less_any (x y : Nat) (hx : (dgN x).length <= 100000) (_hy : (dgN y).length <= 100000) (v u : Value) (w : World) (hL : IntRow w v (dgN x)) (hM : IntRow w u (dgN y)) : Calls prog 75 #[v, u] w (Ret (.bool (decide (x < y))) w) := by
 have vx := vals_dgN x
 have vy := vals_dgN y
 have lx := dgN_low x
 have ly := dgN_low y
 have hlen1 : (dgN x).length < (dgN y).length -> x < y := dgN_len_lt
 have hlen2 : (dgN y).length < (dgN x).length -> y < x := dgN_len_lt
 generalize dgN x = L at *
 generalize dgN y = M at *
 obtain ⟨p, c, rfl, hA⟩ := hL
 obtain ⟨q, d, rfl, hB⟩ := hM
 by_cases hlen : L.length = M.length
 ·have e1 : ((L.length : Int) != (M.length : Int)) = false := by rw [hlen]; simp
  obtain ⟨V, hV⟩ : ∃ V, decide (x < y) = V := ⟨_, rfl⟩
  rw [hV]
  have HS : Hid (decide (vals (L.take L.length) < vals (M.take L.length)) = V) := Lib.hid (by rw [List.take_length, hlen, List.take_length, vx, vy, hV])
  have HL := Lib.hid hlen
  have HX := Lib.hid lx
  have HY := Lib.hid ly
  clear hV hlen hlen1 hlen2 vx vy lx ly
  go_enter func75, ntmps75
  go_wp2_with fail
  go_loopw [5] (fun i w' => ∃ j : Nat, i = .int .i64 ((j : Int) - 1) /\ j <= L.length /\ decide (vals (L.take j) < vals (M.take j)) = V /\ Below w.heap.size w w') (fun i _ => (intOf i + 1).toNat)
  case atStart => exact ⟨L.length, by go_num, Nat.le_refl _, HS.out, Below.refl _ _⟩
  case round =>
   clear HS
   obtain ⟨j, rfl, hj, hI, hW⟩ := hrel
   have HI := Lib.hid hI
   clear hI
   by_cases h0 : j = 0
   ·subst h0
    have ek : decide ((0 : Int) <= ((0 : Nat) : Int) - 1) = false := decide_eq_false (by omega)
    have hI := HI.out
    rw [List.take_zero, List.take_zero] at hI
    have hV0 : V = false := by rw [<- hI]; rfl
    subst hV0
    clear hI HI
    go_wp2
    go_ret
    exact Ret.mk' rfl hW
   ·obtain ⟨i, rfl⟩ : ∃ i, j = i + 1 := ⟨j - 1, by omega⟩
    have hil : i < L.length := by omega
    have him : i < M.length := by have := HL.out; omega
    obtain ⟨b, o, rfl, hc, hb, hcell⟩ := hA.at hil
    obtain ⟨b', o', rfl, hc', hb', hcell'⟩ := hB.at him
    have e1 : (((i + 1 : Nat) : Int) - 1) = (i : Int) := by omega
    rw [e1]
    have ek : decide ((0 : Int) <= (i : Int)) = true := decide_eq_true (by omega)
    have ew3 : IntKind.i64.wrap ((i : Int) - 1) = (i : Int) - 1 := IntWalk.i64_in _ (by omega)
    have hz1 := Nat.lt_of_lt_of_le hb hW.size
    have hz2 := Nat.lt_of_lt_of_le hb' hW.size
    have k1 : wr.cell? ⟨b, o + i, none⟩ = some (.int .i64 (L[i] : Int)) := by rw [hW.cell (p := ⟨b, o + i, none⟩) hb]; exact hcell
    have k2 : wr.cell? ⟨b', o' + i, none⟩ = some (.int .i64 (M[i] : Int)) := by rw [hW.cell (p := ⟨b', o' + i, none⟩) hb']; exact hcell'
    have hst := less_step L M HX.out HY.out i hil him
    rw [HI.out] at hst
    have hiM : (i : Int) < (M.length : Int) := by omega
    have hiL : (i : Int) < (L.length : Int) := by omega
    clear hcell hcell' HI
    generalize L[i] = s at *
    generalize M[i] = t at *
    by_cases hst2 : s = t
    ·rw [if_pos hst2] at hst
     have n1 : ((s : Int) != (t : Int)) = false := by rw [hst2]; simp
     have HI := Lib.hid hst.symm
     clear hst hst2
     go_wp2_with fail
     have kc := gcell wr
     refine region_below (by kernel_rfl) (by kernel_rfl) ?_
     repeat (go_big_quiet_step (fail))
     refine wpQuiet_nil ?_
     intro w2 hb2
     have hW2 := after hW hb2
     go_wp2
     go_roundw
     case rel => exact ⟨i, rfl, by omega, HI.out, hW2⟩
     case measure => simp [intOf]
    ·rw [if_neg hst2] at hst
     have n1 : ((s : Int) != (t : Int)) = true := by rw [bne_iff_ne]; omega
     have n2 : decide ((s : Int) < (t : Int)) = V := by rw [hst, decide_eq_decide]; omega
     have N3 := Lib.hid hst.symm
     clear hst hst2
     go_wp2_with fail
     have kc := gcell wr
     refine region_below (by kernel_rfl) (by kernel_rfl) ?_
     repeat (go_big_quiet_step (fail))
     refine wpQuiet_nil ?_
     intro w2 hb2
     have hW2 := after hW hb2
     have k1 : w2.cell? ⟨b, o + i, none⟩ = some (.int .i64 (s : Int)) := by rw [hb2.cell (p := ⟨b, o + i, none⟩) hz1]; exact k1
     have k2 : w2.cell? ⟨b', o' + i, none⟩ = some (.int .i64 (t : Int)) := by rw [hb2.cell (p := ⟨b', o' + i, none⟩) hz2]; exact k2
     have hz1 := Nat.lt_of_lt_of_le hz1 hb2.size
     have hz2 := Nat.lt_of_lt_of_le hz2 hb2.size
     clear kc hb2
     go_wp2_with fail
     have kc := gcell w2
     refine region_below (by kernel_rfl) (by kernel_rfl) ?_
     repeat (go_big_quiet_step (fail))
     refine wpQuiet_nil ?_
     intro w3 hb3
     have hW3 := after hW2 hb3
     go_wp2
     go_ret
     exact Ret.mk' (by first | rfl | (show Value.bool (decide (s < t)) = _; rw [N3.out])) hW3
 ·have e1 : ((L.length : Int) != (M.length : Int)) = true := by rw [bne_iff_ne]; omega
  have e2 : decide ((L.length : Int) < (M.length : Int)) = decide (x < y) := by
   rw [decide_eq_decide]
   constructor
   ·intro h; exact hlen1 (by omega)
   ·intro h
    rcases Nat.lt_or_ge L.length M.length with h1 | h1
    ·omega
    ·have := hlen2 (by omega); omega
  have N3 := Lib.hid (show decide (L.length < M.length) = decide (x < y) by rw [<- e2, decide_eq_decide]; omega)
  clear hlen1 hlen2 vx vy lx ly
  go_enter func75, ntmps75
  go_wp2
  go_ret
  exact Ret.mk' (by show Value.bool (decide (L.length < M.length)) = _; rw [N3.out]) (Below.refl _ _)
theorem plus_any (x y : Nat) (hx : (dgN x).length <= 1000) (hy : (dgN y).length <= 1000) (v u : Value) (w : World) (hL : IntRow w v (dgN x)) (hM : IntRow w u (dgN y)) : Calls prog 121 #[v, u] w (RetRow (dgN (x + y)) w) := by
 have hS := SumI.start (dgN x) (dgN y)
 rw [vals_dgN, vals_dgN] at hS
 have lx := dgN_low x
 have ly := dgN_low y
 generalize dgN x = L at *
 generalize dgN y = M at *
 generalize x + y = S at *
 have cA := fun i (hi : i <= 100000) W (hb : Below w.heap.size w W) => intAt_any L (by omega) i hi v W (hL.below hb)
 have cB := fun i (hi : i <= 100000) W (hb : Below w.heap.size w W) => intAt_any M (by omega) i hi u W (hM.below hb)
 obtain ⟨p, c, rfl, hA⟩ := hL
 obtain ⟨q, d, rfl, hB⟩ := hM
 obtain ⟨n, hn1, hn2, hn3⟩ : ∃ n, L.length <= n /\ M.length <= n /\ n <= 1000 := ⟨max L.length M.length, by omega, by omega, by omega⟩
 have HS := Lib.hid hS
 have HX := Lib.hid lx
 have HY := Lib.hid ly
 clear hS lx ly hA hB
 go_enter func121, ntmps121
 go_wp2_with fail
 go_loopw [5, 6, 7] (fun o cy i w' => ∃ (k cc : Nat) (xs : List Nat), i = .int .i64 (k : Int) /\ cy = .int .i64 (cc : Int) /\ k <= n + 1 /\ (n < k -> cc = 0) /\ SumI L M xs k cc S /\ w'.ownsRow w.heap.size 3 1 o xs.length (intsV xs) /\ Below w.heap.size w w') (fun _ _ i _ => n + 1 - (intOf i).toNat)
 case atStart => exact ⟨0, 0, [], rfl, rfl, by omega, fun _ => rfl, HS.out, ⟨rfl, .inl ⟨rfl, rfl⟩⟩, Below.refl _ _⟩
 case round =>
  clear HS
  obtain ⟨k, cc, xs, rfl, rfl, hk, hkc, hI, hown, hb⟩ := hrel
  have hcc := hI.2.2.1
  have hxl := hI.2.1
  have hst := hI.step HX.out HY.out
  have HI := Lib.hid hI
  have HT := Lib.hid hst
  have hs := HX.out.getD k
  have ht := HY.out.getD k
  have hs0 : L.length <= k -> L.getD k 0 = 0 := fun h => by rw [List.getD_eq_getElem?_getD, List.getElem?_eq_none h]; rfl
  have ht0 : M.length <= k -> M.getD k 0 = 0 := fun h => by rw [List.getD_eq_getElem?_getD, List.getElem?_eq_none h]; rfl
  have cA := cA k (by omega)
  have cB := cB k (by omega)
  have hend : k = n + 1 -> ¬ (k < L.length \/ k < M.length \/ 0 < cc) := fun e => by have := hkc (by omega); omega
  clear hI hst hkc
  generalize L.getD k 0 = s at *
  generalize M.getD k 0 = t at *
  have ew1 : IntKind.i64.wrap ((s : Int) + (t : Int)) = (s : Int) + (t : Int) := IntWalk.i64_in _ (by omega)
  obtain ⟨z, hz⟩ : ∃ z, s + t + cc = z := ⟨_, rfl⟩
  have ew2 : IntKind.i64.wrap ((s : Int) + (t : Int) + (cc : Int)) = (z : Int) := by rw [IntWalk.i64_in _ (by omega)]; omega
  have ew3 : IntKind.i64.wrap ((k : Int) + 1) = ((k + 1 : Nat) : Int) := by rw [IntWalk.i64_in _ (by omega)]; omega
  have e2 : (z : Int).tmod 10 = ((z % 10 : Nat) : Int) := by rw [Int.tmod_eq_emod_of_nonneg (by omega)]; omega
  have e3 : (z : Int).tdiv 10 = ((z / 10 : Nat) : Int) := by rw [Int.tdiv_eq_ediv_of_nonneg (by omega)]; omega
  rw [hz] at HT
  have hz20 : z < 20 := by omega
  have hzn : n < k + 1 -> z / 10 = 0 := fun h => by have := hs0 (by omega); have := ht0 (by omega); omega
  have HZ := Lib.hid hzn
  clear hs0 ht0 hzn
  rcases (show (k < L.length) \/ (¬ k < L.length /\ k < M.length) \/ (¬ k < L.length /\ ¬ k < M.length /\ 0 < cc) \/ (¬ k < L.length /\ ¬ k < M.length /\ cc = 0) by omega) with h1 | ⟨h1, h2⟩ | ⟨h1, h2, h3⟩ | ⟨h1, h2, h3⟩
  iterate 3 (focus
   have hk2 : k < n + 1 := by
    rcases Nat.lt_or_ge k (n + 1) with h | h
    ·exact h
    ·exact absurd (by omega) (hend (by omega))
   clear hend
   go_wp2_with fail
   refine (cA _ hb).mono ?_; rintro e w1 ⟨rfl, rfl⟩
   go_wp2_with fail
   refine (cB _ hb).mono ?_; rintro e w2 ⟨rfl, rfl⟩
   clear cA cB
   go_wp2_with (at_builtin; refine held ?_)
   unfold Held
   refine wpList_want (by rfl) ?_
   intro KK hKK
   refine int_append _ _ rfl w.heap.size _ _ xs [z % 10] rfl rfl (hown.alloc _) (intRow_one _ _ _) (by simp; omega) (by have := hb.size; simp; omega) ?_
   intro v5 w5 own5 hg5
   have hb5 : Below w.heap.size w w5 := (allocB hb).grown hg5 (by have := hb.size; simp; omega) (own_row hown)
   refine hKK _ _ ?_
   clear hKK hg5
   go_wp2
   go_roundw
   case rel => exact ⟨k + 1, z / 10, xs ++ [z % 10], rfl, rfl, by omega, HZ.out, HT.out, own5, hb5⟩
   case measure => simp [intOf]; omega)
  ·subst h3
   have hd := HI.out.done (by omega) (by omega)
   have cT := trim_any xs (by omega) _ _ (intRow_of_own hown)
   rw [hd] at cT
   clear HI HT cA cB hend hd
   go_wp2_with fail
   refine cT.mono ?_; rintro e w1 ⟨v1, rfl, h1, hb1⟩
   have hb2 := after hb hb1
   go_wp2
   go_ret
   exact ⟨_, rfl, h1, hb2⟩
theorem minus_any (x y : Nat) (hxy : y <= x) (hx : (dgN x).length <= 1000) (hy : (dgN y).length <= 1000) (v u : Value) (w : World) (hL : IntRow w v (dgN x)) (hM : IntRow w u (dgN y)) : Calls prog 158 #[v, u] w (RetRow (dgN (x - y)) w) := by
 have hS := DifI.start (dgN x) (dgN y) (by rw [vals_dgN, vals_dgN]; exact hxy)
 rw [vals_dgN, vals_dgN] at hS
 have lx := dgN_low x
 have ly := dgN_low y
 generalize dgN x = L at *
 generalize dgN y = M at *
 generalize x - y = S at *
 have cB := fun i (hi : i <= 100000) W (hb : Below w.heap.size w W) => intAt_any M (by omega) i hi u W (hM.below hb)
 obtain ⟨p, c, rfl, hA⟩ := hL
 obtain ⟨q, d, rfl, hB⟩ := hM
 have HS := Lib.hid hS
 have HX := Lib.hid lx
 have HY := Lib.hid ly
 clear hS lx ly hB
 go_enter func158, ntmps158
 go_wp2_with fail
 go_loopw [5, 6, 7] (fun o cy i w' => ∃ (k cc : Nat) (xs : List Nat), i = .int .i64 (k : Int) /\ cy = .int .i64 (cc : Int) /\ k <= L.length /\ DifI L M xs k cc S /\ w'.ownsRow w.heap.size 3 1 o xs.length (intsV xs) /\ Below w.heap.size w w') (fun _ _ i _ => L.length - (intOf i).toNat)
 case atStart => exact ⟨0, 0, [], rfl, rfl, by omega, HS.out, ⟨rfl, .inl ⟨rfl, rfl⟩⟩, Below.refl _ _⟩
 case round =>
  clear HS
  obtain ⟨k, cc, xs, rfl, rfl, hk, hI, hown, hb⟩ := hrel
  have hcc := hI.2.2.1
  have hxl := hI.2.1
  have hst := hI.step HX.out HY.out
  have HI := Lib.hid hI
  have HT := Lib.hid hst
  have hs := HX.out.getD k
  have ht := HY.out.getD k
  have cB := cB k (by omega)
  clear hI hst
  by_cases hlt : k < L.length
  ·obtain ⟨b, o, rfl, hc, hbk, hcell⟩ := hA.at hlt
   have eg : L.getD k 0 = L[k] := by rw [List.getD_eq_getElem?_getD, List.getElem?_eq_getElem hlt]; rfl
   rw [eg] at HT hs
   have hz1 := Nat.lt_of_lt_of_le hbk hb.size
   have k1 : wr.cell? ⟨b, o + k, none⟩ = some (.int .i64 (L[k] : Int)) := by rw [hb.cell (p := ⟨b, o + k, none⟩) hbk]; exact hcell
   clear hcell eg
   generalize L[k] = s at *
   generalize M.getD k 0 = t at *
   have ew1 : IntKind.i64.wrap ((s : Int) - (t : Int)) = (s : Int) - (t : Int) := IntWalk.i64_in _ (by omega)
   have ew2 : IntKind.i64.wrap ((s : Int) - (t : Int) - (cc : Int)) = (s : Int) - (t : Int) - (cc : Int) := IntWalk.i64_in _ (by omega)
   have ew3 : IntKind.i64.wrap ((k : Int) + 1) = ((k + 1 : Nat) : Int) := by rw [IntWalk.i64_in _ (by omega)]; omega
   by_cases hneg : s < t + cc
   ·rw [if_pos hneg, if_pos hneg] at HT
    have e8 : decide ((s : Int) - (t : Int) - (cc : Int) < 0) = true := decide_eq_true (by omega)
    obtain ⟨z, hz⟩ : ∃ z, s + 10 - (t + cc) = z := ⟨_, rfl⟩
    rw [hz] at HT
    have ew4 : IntKind.i64.wrap ((s : Int) - (t : Int) - (cc : Int) + 10) = (z : Int) := by rw [IntWalk.i64_in _ (by omega)]; omega
    clear hneg
    go_wp2_with fail
    have kc := gcell wr
    refine region_below (by kernel_rfl) (by kernel_rfl) ?_
    repeat (go_big_quiet_step (exact Ret.grown (fun W hW => (cB W (after hb hW)).mono fun _ _ h => h.ret)))
    refine wpQuiet_nil ?_
    intro w2 hb2
    replace hown := own_below hown hb2
    replace hb := after hb hb2
    clear kc hb2 k1 cB
    go_wp2_with (at_builtin; refine held ?_)
    unfold Held
    refine wpList_want (by rfl) ?_
    intro KK hKK
    refine int_append _ _ rfl w.heap.size _ _ xs [z] rfl rfl (hown.alloc _) (intRow_one _ _ _) (by simp; omega) (by have := hb.size; simp; omega) ?_
    intro v5 w5 own5 hg5
    have hb5 : Below w.heap.size w w5 := (allocB hb).grown hg5 (by have := hb.size; simp; omega) (own_row hown)
    refine hKK _ _ ?_
    clear hKK hg5
    go_wp2
    go_roundw
    case rel => exact ⟨k + 1, 1, xs ++ [z], rfl, rfl, by omega, HT.out, own5, hb5⟩
    case measure => simp [intOf]; omega
   ·rw [if_neg hneg, if_neg hneg] at HT
    have e8 : decide ((s : Int) - (t : Int) - (cc : Int) < 0) = false := decide_eq_false (by omega)
    obtain ⟨z, hz⟩ : ∃ z, s - (t + cc) = z := ⟨_, rfl⟩
    rw [hz] at HT
    have ew4 : (s : Int) - (t : Int) - (cc : Int) = (z : Int) := by omega
    rw [ew4] at ew2 e8
    clear hneg
    go_wp2_with fail
    have kc := gcell wr
    refine region_below (by kernel_rfl) (by kernel_rfl) ?_
    repeat (go_big_quiet_step (exact Ret.grown (fun W hW => (cB W (after hb hW)).mono fun _ _ h => h.ret)))
    refine wpQuiet_nil ?_
    intro w2 hb2
    replace hown := own_below hown hb2
    replace hb := after hb hb2
    clear kc hb2 k1 cB
    go_wp2_with (at_builtin; refine held ?_)
    unfold Held
    refine wpList_want (by rfl) ?_
    intro KK hKK
    refine int_append _ _ rfl w.heap.size _ _ xs [z] rfl rfl (hown.alloc _) (intRow_one _ _ _) (by simp; omega) (by have := hb.size; simp; omega) ?_
    intro v5 w5 own5 hg5
    have hb5 : Below w.heap.size w w5 := (allocB hb).grown hg5 (by have := hb.size; simp; omega) (own_row hown)
    refine hKK _ _ ?_
    clear hKK hg5
    go_wp2
    go_roundw
    case rel => exact ⟨k + 1, 0, xs ++ [z], rfl, rfl, by omega, HT.out, own5, hb5⟩
    case measure => simp [intOf]; omega
  ·have hd := HI.out.done (by omega)
   have cT := trim_any xs (by omega) _ _ (intRow_of_own hown)
   rw [hd] at cT
   clear HI HT cB hd
   go_wp2_with fail
   refine cT.mono ?_; rintro e w1 ⟨v1, rfl, h1, hb1⟩
   have hb2 := after hb hb1
   go_wp2
   go_ret
   exact ⟨_, rfl, h1, hb2⟩
theorem ten_any (x : Nat) (hx : (dgN x).length <= 1000) (m : Int) (n : Nat) (hm : m.toNat = n) (hn : n <= 1000) (hm0 : -1000 <= m) (v : Value) (w : World) (hL : IntRow w v (dgN x)) : Calls prog 77 #[v, .int .i64 m] w (RetRow (dgN (x * 10 ^ n)) w) := by
 by_cases h0 : x = 0
 ·subst h0
  rw [Nat.zero_mul]
  rw [dgN_zero] at hL ⊢
  obtain ⟨p, c, rfl, hA⟩ := hL
  go_enter func77, ntmps77
  go_wp2
  go_ret
  exact ⟨_, rfl, IntRow.nil _, Below.refl _ _⟩
 ·obtain ⟨iT, hi, hz0, hz1, hz2⟩ := info_parts infoI
  rw [<- ten_dgN x n h0]
  have hne : (dgN x).length ≠ 0 := by rw [dgN_pos h0]; simp
  generalize dgN x = L at *
  have hL' := hL
  obtain ⟨p, c, rfl, hA⟩ := hL
  have e0 : ((L.length : Int) == 0) = false := by rw [beq_eq_false_iff_ne]; omega
  clear hA h0
  rcases (show m = (n : Int) \/ (m < 0 /\ n = 0) by omega) with rfl | ⟨hneg, hn0⟩
  rotate_left
  replace hn0 := Lib.hid hn0
  all_goals (
   go_enter func77, ntmps77
   go_wp2_with (at_make; refine held ?_)
   unfold Held
   refine wpList_make_full _ rfl _ _ 40 rfl w.heap.size 3 iT (.int .i64 0) 1 underlying40 hi hz0 hz1 .i64 .i64 _ _ n rfl rfl (by first | rfl | (have := hn0.out; omega)) (by first | rfl | (have := hn0.out; omega)) (by rw [hz2]; omega) (by unfold maxLen; omega) (Nat.le_refl _) ?_
   intro w1 own1 hg1
   have hb1 : Below w.heap.size w w1 := (Below.refl _ _).grown hg1 (Nat.le_refl _) (fun k hk => by cases hk)
   go_wp2_with (at_builtin; refine held ?_)
   unfold Held
   refine wpList_want (by rfl) ?_
   intro KK hKK
   refine int_append _ _ rfl w.heap.size _ _ (List.replicate n 0) L rfl rfl (own_zeros own1) (hL'.below hb1) (by simp; omega) hb1.size ?_
   intro v5 w5 own5 hg5
   have hb5 : Below w.heap.size w w5 := hb1.grown hg5 hb1.size (own_row own1)
   refine hKK _ _ ?_
   clear hKK hg5
   go_wp2
   go_ret
   exact ⟨_, rfl, intRow_of_own own5, hb5⟩)
def RetTwo (L M : List Nat) (w : World) (e : Ending) (w' : World) : Prop := ∃ v u, e = .returned (.tuple #[v, u]) /\ IntRow w' v L /\ IntRow w' u M /\ Below w.heap.size w w'
theorem RetTwo.mk' {L M : List Nat} {w w' : World} {v v' u u' : Value} (h : v = v') (h2 : u = u') (hr : IntRow w' v' L) (hr2 : IntRow w' u' M) (hb : Below w.heap.size w w') : RetTwo L M w (.returned (.tuple #[v, u])) w' := ⟨v, u, rfl, h ▸ hr, h2 ▸ hr2, hb⟩
theorem by_any (x b : Nat) (hb0 : 0 < b) (hx : (dgN x).length <= 500) (hy : (dgN b).length <= 500) (v u : Value) (w : World) (hL : IntRow w v (dgN x)) (hM : IntRow w u (dgN b)) : Calls prog 120 #[v, u] w (RetTwo (dgN (x / b)) (dgN (x % b)) w) := by
 have hQ0 := QuoI.start (dgN x) b hb0
 have lx := dgN_low x
 have vx := vals_dgN x
 have cL := fun R (hR : (dgN R).length <= 501) r W (hW : Below w.heap.size w W) (hr : IntRow W r (dgN R)) => less_any R b (by omega) (by omega) r u W hr (hM.below hW)
 have cM := fun R (hRb : b <= R) (hR : (dgN R).length <= 501) r W (hW : Below w.heap.size w W) (hr : IntRow W r (dgN R)) => minus_any R b hRb (by omega) (by omega) r u W hr (hM.below hW)
 have hlen : ∀ R, R < 10 * b -> (dgN R).length <= 501 := fun R h => by
  have h1 := dgN_len_le (show R <= b * 10 ^ 1 by omega)
  have h2 := dgN_len_pow b 1
  omega
 generalize dgN x = L at *
 obtain ⟨p, c, rfl, hA⟩ := hL
 obtain ⟨q, d, rfl, hB⟩ := hM
 have HQ := Lib.hid hQ0
 have HX := Lib.hid lx
 have HV := Lib.hid vx
 have HN := Lib.hid hlen
 clear hQ0 lx vx hB hlen
 go_enter func120, ntmps120
 go_wp2_with fail
 go_loopw [6, 7, 8] (fun o r i w' => ∃ (j R : Nat) (Q : List Nat), i = .int .i64 ((j : Int) - 1) /\ j <= L.length /\ QuoI L Q j b R /\ IntRow w' o Q /\ IntRow w' r (dgN R) /\ Below w.heap.size w w') (fun _ _ i _ => (intOf i + 1).toNat)
 case atStart => exact ⟨L.length, 0, [], by go_num, Nat.le_refl _, HQ.out, IntRow.nil _, by rw [dgN_zero]; exact IntRow.nil _, Below.refl _ _⟩
 case round =>
  clear HQ
  obtain ⟨j, R, Q, rfl, hj, hI, hQ, hR, hW⟩ := hrel
  have hQl := hI.2.1
  have HI := Lib.hid hI
  clear hI
  by_cases h0 : j = 0
  ·subst h0
   have ek : decide ((0 : Int) <= ((0 : Nat) : Int) - 1) = false := decide_eq_false (by omega)
   obtain ⟨hd1, hd2⟩ := HI.out.done
   rw [HV.out] at hd1 hd2
   have cT := trim_any Q (by omega) _ _ hQ
   rw [hd1] at cT
   subst hd2
   clear HI HN cL cM hd1
   go_wp2_with fail
   refine cT.mono ?_; rintro e w1 ⟨v1, rfl, h1, hb1⟩
   have hb2 := after hW hb1
   have h2 := hR.below hb1
   clear hb1 cT hQ hR
   go_wp2
   go_ret2
   exact RetTwo.mk' rfl rfl h1 h2 hb2
  ·obtain ⟨i, rfl⟩ : ∃ i, j = i + 1 := ⟨j - 1, by omega⟩
   have hil : i < L.length := by omega
   have hRb := HI.out.2.2.1
   have hs10 := HX.out.at hil
   have hst := HI.out.step HX.out hil
   obtain ⟨bl, o, rfl, hc, hb, hcell⟩ := hA.at hil
   have e1 : (((i + 1 : Nat) : Int) - 1) = (i : Int) := by omega
   rw [e1]
   have ek : decide ((0 : Int) <= (i : Int)) = true := decide_eq_true (by omega)
   have ew3 : IntKind.i64.wrap ((i : Int) - 1) = (i : Int) - 1 := IntWalk.i64_in _ (by omega)
   have hz1 := Nat.lt_of_lt_of_le hb hW.size
   have k1 : wr.cell? ⟨bl, o + i, none⟩ = some (.int .i64 (L[i] : Int)) := by rw [hW.cell (p := ⟨bl, o + i, none⟩) hb]; exact hcell
   clear hcell HI
   generalize L[i] = s at *
   have HS := Lib.hid hst
   have hTl := HN.out (s + 10 * R) (by omega)
   have hRl : (dgN R).length <= 501 := HN.out R (by omega)
   have hfr := trim_front s R hs10
   obtain ⟨T, hT⟩ : ∃ T, s + 10 * R = T := ⟨_, rfl⟩
   have hT10 : T < 10 * b := by omega
   rw [hT] at hTl hfr HS
   clear hst
   go_wp2_with (at_builtin; refine held ?_)
   unfold Held
   refine wpList_want (by rfl) ?_
   intro KK hKK
   refine int_append _ _ rfl wr.heap.size _ _ [s] (dgN R) rfl rfl (own_one wr wr.heap.size (Nat.le_refl _) s) (hR.below (allocB (Below.refl _ _))) (by simp; omega) (by simp) ?_
   intro v5 w5 own5 hg5
   have hb5 : Below wr.heap.size wr w5 := (allocB (Below.refl _ _)).grown hg5 (by simp) (own_row (own_one wr wr.heap.size (Nat.le_refl _) s))
   have hrow := intRow_of_own own5
   have hW5 := after hW hb5
   have hQ5 := hQ.below hb5
   refine hKK _ _ ?_
   clear hKK hg5 own5 hb5 hQ hR hW k1 hz1
   have cT := trim_any ([s] ++ dgN R) (by simp; omega) _ _ hrow
   rw [show [s] ++ dgN R = s :: dgN R from rfl, hfr] at cT
   clear hrow hfr
   go_wp2_with fail
   refine cT.mono ?_; rintro e w6 ⟨v6, rfl, h6, hb6⟩
   replace hW5 := after hW5 hb6
   replace hQ5 := hQ5.below hb6
   clear hb6 cT
   go_wp2_with fail
   go_loopw [7, 9] (fun r k w' => ∃ (m S : Nat), k = .int .i64 (m : Int) /\ m * b + S = T /\ IntRow w' r (dgN S) /\ IntRow w' _ Q /\ Below w.heap.size w w') (fun _ k _ => 10 - (intOf k).toNat)
   case atStart => exact ⟨0, T, rfl, by omega, h6, hQ5, hW5⟩
   case round =>
    clear h6 hQ5 hW5
    obtain ⟨m, S, rfl, hmS, hS, hQ7, hW7⟩ := hrel
    have hm10 : m < 10 := by
     rcases Nat.lt_or_ge m 10 with h | h
     ·exact h
     ·have := Nat.mul_le_mul_right b h; omega
    have hSl : (dgN S).length <= 501 := HN.out S (by omega)
    have cL := cL S hSl _ _ hW7 hS
    by_cases hlt : S < b
    ·rw [decide_eq_true hlt] at cL
     obtain ⟨g1, g2⟩ := div_step b S m hb0
     rw [hmS, Nat.div_eq_of_lt hlt, Nat.add_zero] at g1
     rw [hmS, Nat.mod_eq_of_lt hlt] at g2
     rw [g1, g2] at HS
     clear cM g1 g2 hlt
     go_wp2_with fail
     refine cL.mono ?_; rintro e w8 ⟨rfl, hb8⟩
     replace hW7 := after hW7 hb8
     replace hQ7 := hQ7.below hb8
     replace hS := hS.below hb8
     clear hb8 cL
     go_wp2_with (at_builtin; refine held ?_)
     unfold Held
     refine wpList_want (by rfl) ?_
     intro KK hKK
     refine int_append _ _ rfl w8.heap.size _ _ [m] Q rfl rfl (own_one w8 w8.heap.size (Nat.le_refl _) m) (hQ7.below (allocB (Below.refl _ _))) (by simp; omega) (by simp) ?_
     intro v9 w9 own9 hg9
     have hb9 : Below w8.heap.size w8 w9 := (allocB (Below.refl _ _)).grown hg9 (by simp) (own_row (own_one w8 w8.heap.size (Nat.le_refl _) m))
     have hrow := intRow_of_own own9
     have hW9 := after hW7 hb9
     have hS9 := hS.below hb9
     refine hKK _ _ ?_
     clear hKK hg9 own9 hb9 hQ7 hS hW7
     go_wp2
     go_roundw
     case rel => exact ⟨i, S, m :: Q, rfl, by omega, HS.out.2, hrow, hS9, hW9⟩
     case measure => simp [intOf]
    ·have cM := fun r W hW h => cM S (by omega) hSl r W hW h
     rw [decide_eq_false hlt] at cL
     have ewm : IntKind.i64.wrap ((m : Int) + 1) = ((m + 1 : Nat) : Int) := by rw [IntWalk.i64_in _ (by omega)]; omega
     have hmS2 : (m + 1) * b + (S - b) = T := by rw [Nat.add_mul]; omega
     clear hlt
     go_wp2_with fail
     refine cL.mono ?_; rintro e w8 ⟨rfl, hb8⟩
     replace hW7 := after hW7 hb8
     replace hQ7 := hQ7.below hb8
     replace hS := hS.below hb8
     clear hb8 cL
     go_wp2_with fail
     refine (cM _ _ hW7 hS).mono ?_; rintro e w9 ⟨v9, rfl, h9, hb9⟩
     replace hW7 := after hW7 hb9
     replace hQ7 := hQ7.below hb9
     clear hb9 cM hS
     go_wp2
     go_roundw
     case rel => exact ⟨m + 1, S - b, rfl, hmS2, h9, hQ7, hW7⟩
     case measure => simp [intOf]; omega
theorem cell2_give {w w' : World} (h : Blk w' w.heap.size #[.int .i64 0, .int .i64 0]) (hb : Below w.heap.size w w') (M E : Int) :
  ((w'.setCell ⟨w.heap.size, 0, none⟩ (.int .i64 M)).setCell ⟨w.heap.size, 1, none⟩ (.int .i64 E)).cell? ⟨w.heap.size, 0, none⟩ = some (.int .i64 M) /\
  ((w'.setCell ⟨w.heap.size, 0, none⟩ (.int .i64 M)).setCell ⟨w.heap.size, 1, none⟩ (.int .i64 E)).cell? ⟨w.heap.size, 1, none⟩ = some (.int .i64 E) /\
  Below w.heap.size w ((w'.setCell ⟨w.heap.size, 0, none⟩ (.int .i64 M)).setCell ⟨w.heap.size, 1, none⟩ (.int .i64 E)) := by
 have k9 : Blk ((w'.setCell ⟨w.heap.size, 0, none⟩ (.int .i64 M)).setCell ⟨w.heap.size, 1, none⟩ (.int .i64 E)) w.heap.size _ := h.set.set
 have q0 := k9.facts.1 0
 have q1 := k9.facts.1 1
 simp only [List.setIfInBounds_toArray, List.set_cons_zero, List.set_cons_succ, List.getElem?_toArray, List.getElem?_cons_zero, List.getElem?_cons_succ] at q0 q1
 exact ⟨q0, q1, (hb.setCell (Nat.le_refl _) _).setCell (Nat.le_refl _) _⟩
theorem lowest_any (m : Nat) (hm : m < 1000000000000000000) (e : Int) (h0 : -9 <= e) (h9 : e <= 9) (w : World) : Calls prog 123 #[.int .i64 (m : Int), .int .i64 e] w (Ret (decV (lowD m e)) w) := by
 by_cases hz : m = 0
 ·subst hz
  rw [show lowD 0 e = (0, 0) from rfl]
  go_enter func123, ntmps123
  go_upto_region 1 with fail
  refine wp_abs2 (fun W => Blk W w.heap.size #[.int .i64 0, .int .i64 0] /\ Below w.heap.size w W) ⟨blnx, belx⟩ ?_
  rintro W ⟨hB, hW⟩
  obtain ⟨q0, q1, hb9⟩ := cell2_give hB hW 0 0
  obtain ⟨fr, gr, zr⟩ := hB.facts
  have cr0 := fr 0
  have cr1 := fr 1
  clear fr
  simp only [List.getElem?_toArray, List.getElem?_cons_zero, List.getElem?_cons_succ] at cr0 cr1
  have HB9 := Lib.hid hb9
  clear hb9 hB
  go_wp2
  exact bodyPost_ret (v := decV (0, 0)) (by simp [results, Tryz.results123, go_sem, decV, *]) rfl ⟨rfl, HB9.out⟩
 ·obtain ⟨V, hV⟩ : ∃ V, lowD m e = V := ⟨_, rfl⟩
  rw [hV]
  unfold lowD at hV
  rw [if_neg hz] at hV
  have e0 : ((m : Int) == 0) = false := by rw [beq_eq_false_iff_ne]; omega
  have HV := Lib.hid hV
  clear hV
  go_enter func123, ntmps123
  go_upto_region 1 with fail
  refine wp_abs2 (fun W => Blk W w.heap.size #[.int .i64 0, .int .i64 0] /\ Below w.heap.size w W) ⟨blnx, belx⟩ ?_
  rintro W ⟨hB, hW⟩
  have HB := Lib.hid hB
  clear hB
  go_wp2
  go_loop [0, 1] (fun u v => ∃ (k : Nat) (f : Int), u = .int .i64 (k : Int) /\ v = .int .i64 f /\ 1 <= k /\ k <= m /\ -9 <= f /\ f <= 9 /\ stripF (9 - f).toNat k f = V) (fun _ v => (9 - intOf v).toNat)
  case atStart => exact ⟨m, e, rfl, rfl, by omega, Nat.le_refl _, h0, h9, HV.out⟩
  case round =>
   clear HV
   obtain ⟨k, f, rfl, rfl, hk1, hk2, hf0, hf9, hI⟩ := hrel
   have HI := Lib.hid hI
   clear hI
   have e2 : (k : Int).tmod 10 = ((k % 10 : Nat) : Int) := by rw [Int.tmod_eq_emod_of_nonneg (by omega)]; omega
   have e3 : (k : Int).tdiv 10 = ((k / 10 : Nat) : Int) := by rw [Int.tdiv_eq_ediv_of_nonneg (by omega)]; omega
   have ew : IntKind.i64.wrap (f + 1) = f + 1 := IntWalk.i64_in _ (by omega)
   by_cases hs : k % 10 = 0 /\ f < 9
   ·have e5 : (((k % 10 : Nat) : Int) == 0) = true := by rw [beq_iff_eq]; omega
    have e6 : ((k : Int) % 10 == 0) = true := by rw [beq_iff_eq]; omega
    have e7 : decide (f < 9) = true := decide_eq_true hs.2
    have hI := HI.out
    rw [show (9 - f).toNat = (9 - (f + 1)).toNat + 1 by omega, stripF, if_pos (by omega)] at hI
    have hI2 : stripF (9 - (f + 1)).toNat ((k / 10 : Nat) : Int) (f + 1) = V := by
     rw [<- hI]; congr 1
    have HI2 := Lib.hid hI2
    have HS := Lib.hid hs
    clear hI hI2 HI hs
    go_wp2
    go_round
    case rel => exact ⟨k / 10, f + 1, rfl, rfl, by have := HS.out; omega, by omega, by omega, by have := HS.out; omega, HI2.out⟩
    case measure => have := HS.out; simp [intOf]; omega
   ·have hv : ((k : Int), f) = V := by
     rw [<- HI.out]
     rcases hfu : (9 - f).toNat with _ | n
     ·rfl
     ·rw [stripF, if_neg (by omega)]
    subst hv
    have hz2 : ((((k % 10 : Nat) : Int) == 0) = false /\ ((k : Int) % 10 == 0) = false) \/ ((((k % 10 : Nat) : Int) == 0) = true /\ ((k : Int) % 10 == 0) = true /\ decide (f < 9) = false) := by
     by_cases h : k % 10 = 0
     ·exact .inr ⟨by rw [beq_iff_eq]; omega, by rw [beq_iff_eq]; omega, decide_eq_false fun h2 => hs ⟨h, h2⟩⟩
     ·exact .inl ⟨by rw [beq_eq_false_iff_ne]; omega, by rw [beq_eq_false_iff_ne]; omega⟩
    clear hs HI
    obtain ⟨q0, q1, hb9⟩ := cell2_give HB.out hW (k : Int) f
    obtain ⟨fr, gr, zr⟩ := HB.out.facts
    have cr0 := fr 0
    have cr1 := fr 1
    clear fr
    simp only [List.getElem?_toArray, List.getElem?_cons_zero, List.getElem?_cons_succ] at cr0 cr1
    have HB9 := Lib.hid hb9
    clear hb9
    rcases hz2 with ⟨e5, e6⟩ | ⟨e5, e6, e7⟩
    all_goals (
     go_wp2
     exact bodyPost_ret (v := decV ((k : Int), f)) (by simp [results, Tryz.results123, go_sem, decV, *]) rfl ⟨rfl, HB9.out⟩)
theorem unit_any (n : Nat) (hn : n <= 1000) (w : World) : Calls prog 80 #[.int .i64 (n : Int)] w (RetRow (dgN (10 ^ n)) w) := by
 have e1 : dgN 1 = [1] := by rw [dgN_pos (by decide), dgN_zero]
 have cT := fun v W h => ten_any 1 (by rw [e1]; decide) (n : Int) n (by omega) hn (by omega) v W h
 rw [Nat.one_mul, e1] at cT
 go_enter func80, ntmps80
 go_wp2_with fail
 refine (cT _ _ (intRow_one _ 1 _)).mono ?_; rintro e w1 ⟨v1, rfl, h1, hb1⟩
 have hb := after (allocB (Below.refl _ _)) hb1
 clear hb1 cT
 go_wp2
 go_ret
 exact RetRow.mk' rfl h1 hb
theorem whole_any (M : Nat) (hM : M <= 1000000000000000) (E : Int) (h0 : -9 <= E) (h9 : E <= 9) (w : World) : Calls prog 76 #[decV ((M : Int), E)] w (RetRow (dgN (M * 10 ^ (E + 9).toNat)) w) := by
 have cD := fun W => digits_any M (by omega) W
 have hl : (dgN M).length <= 19 := dgN_len_bound (by omega)
 have cT := fun v W h => ten_any M (by omega) (E + 9) (E + 9).toNat rfl (by omega) (by omega) v W h
 have ew : IntKind.i64.wrap (E + 9) = E + 9 := IntWalk.i64_in _ (by omega)
 unfold decV
 go_enter func76, ntmps76
 go_upto_region 1 with fail
 refine wp_abs2 (fun W => Blk W w.heap.size #[.int .i64 (M : Int), .int .i64 E] /\ Below w.heap.size w W) ⟨blnx, belx⟩ ?_
 rintro W ⟨hB, hW⟩
 obtain ⟨fr, gr, zr⟩ := hB.facts
 have cr0 := fr 0
 have cr1 := fr 1
 clear fr
 simp only [List.getElem?_toArray, List.getElem?_cons_zero, List.getElem?_cons_succ] at cr0 cr1
 have hf : ∀ w1, Below W.drew.heap.size W.drew w1 -> w1.cell? ⟨w.heap.size, 1, none⟩ = some (.int .i64 E) /\ (∀ o, w1.frozen? ⟨w.heap.size, o, none⟩ = false) /\ w.heap.size < w1.heap.size /\ Below w.heap.size w w1 := fun w1 hb1 => by
  have hb2 : Below W.heap.size W w1 := after (drewB (Below.refl _ _)) hb1
  have h3 := (hB.below hb2).facts
  exact ⟨(h3.1 1).trans rfl, h3.2.1, h3.2.2, after hW hb2⟩
 go_region_with (first
  | (go_at_call 74; refine (cD _).mono ?_; rintro e w1 ⟨v1, rfl, h1, hb1⟩; obtain ⟨cr1b, gr1, zr1, hW1⟩ := hf w1 hb1)
  | (go_at_call 77; refine (cT _ _ h1).mono ?_; rintro e w2 ⟨v2, rfl, h2, hb2⟩))
 all_goals (
  have hb := after hW1 hb2
  go_wp2
  go_ret
  exact RetRow.mk' rfl h2 hb)
end Go.Proofs.YtlpgigdegnbkmaaGreatDoor
