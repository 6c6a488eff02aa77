import Derived.Test.YtlpgigdegnbkmaaGreatDoorM01
set_option maxRecDepth 100000
set_option maxHeartbeats 4000000
namespace Tab
open Go.Lib
def signN (l : Bs) : Nat := if l = [] then 0 else if decodeL l = (65533, 1) then 0 else (decodeL l).2
theorem sign_low (b : UInt8) (r : Bs) (h : b.toNat < 128) : signN (b :: r) = 1 := by
 rcases decode_facts b r with ⟨_, e⟩ | ⟨h2, _⟩
 ·rw [signN, if_neg (by simp), e, if_neg (by intro hh; injection hh with h1 _; omega)]
 ·omega
theorem sign_bad (l : Bs) (hl : 0 < l.length) (h : (128 <= (l.getD 0 0).toNat /\ (l.getD 0 0).toNat < 194) \/ (245 <= (l.getD 0 0).toNat)) : signN l = 0 := by
 rw [signN, if_neg (by intro e; rw [e] at hl; simp at hl), decodeL_N, decodeN_bad _ _ _ _ _ (h.imp id fun h => ⟨h, (l.getD 0 0).toNat_lt⟩), if_pos rfl]
theorem sign_class (l : Bs) (sz lo hi : Nat) (hl : 0 < l.length) (hsz : sz = 2 \/ sz = 3 \/ sz = 4)
  (hs : slowN l.length (l.getD 0 0).toNat (l.getD 1 0).toNat (l.getD 2 0).toNat (l.getD 3 0).toNat sz lo hi = decodeN l.length (l.getD 0 0).toNat (l.getD 1 0).toNat (l.getD 2 0).toNat (l.getD 3 0).toNat) :
  signN l = (checkN l.length (l.getD 1 0).toNat (l.getD 2 0).toNat (l.getD 3 0).toNat sz lo hi).getD 0 := by
 rw [signN, if_neg (by intro e; rw [e] at hl; simp at hl), decodeL_N, <- hs]
 rcases check_slow l.length (l.getD 0 0).toNat (l.getD 1 0).toNat (l.getD 2 0).toNat (l.getD 3 0).toNat sz lo hi hsz with ⟨h1, h2⟩ | ⟨h1, h2⟩
 ·rw [h1, h2, if_pos rfl]; rfl
 ·rw [h1, h2, if_neg]
  ·rfl
  ·intro e; rw [e] at h2; simp at h2; omega
theorem getD_byte (s : ByteArray) (i : Nat) (h : i < s.size) : s.data.toList.getD i 0 = s[i] := by
 have : i < s.data.toList.length := by rw [<- size_eq]; exact h
 rw [List.getD_eq_getElem?_getD, List.getElem?_eq_getElem this]; rfl
theorem sign_C2 (l : Bs) (hl : 0 < l.length) (h : 194 <= (l.getD 0 0).toNat /\ (l.getD 0 0).toNat <= 223) : signN l = (checkN l.length (l.getD 1 0).toNat (l.getD 2 0).toNat (l.getD 3 0).toNat 2 128 191).getD 0 :=
 sign_class l 2 128 191 hl (by omega) (slow_C2 _ _ _ _ _ hl (UInt8.toNat_lt _) (UInt8.toNat_lt _) (UInt8.toNat_lt _) ⟨by omega, by omega⟩)
theorem sign_E0 (l : Bs) (hl : 0 < l.length) (h : 224 <= (l.getD 0 0).toNat /\ (l.getD 0 0).toNat <= 224) : signN l = (checkN l.length (l.getD 1 0).toNat (l.getD 2 0).toNat (l.getD 3 0).toNat 3 160 191).getD 0 :=
 sign_class l 3 160 191 hl (by omega) (slow_E0 _ _ _ _ _ hl (UInt8.toNat_lt _) (UInt8.toNat_lt _) (UInt8.toNat_lt _) (by omega))
theorem sign_E1 (l : Bs) (hl : 0 < l.length) (h : 225 <= (l.getD 0 0).toNat /\ (l.getD 0 0).toNat <= 236) : signN l = (checkN l.length (l.getD 1 0).toNat (l.getD 2 0).toNat (l.getD 3 0).toNat 3 128 191).getD 0 :=
 sign_class l 3 128 191 hl (by omega) (slow_E1 _ _ _ _ _ hl (UInt8.toNat_lt _) (UInt8.toNat_lt _) (UInt8.toNat_lt _) (.inl ⟨by omega, by omega⟩))
theorem sign_EE (l : Bs) (hl : 0 < l.length) (h : 238 <= (l.getD 0 0).toNat /\ (l.getD 0 0).toNat <= 239) : signN l = (checkN l.length (l.getD 1 0).toNat (l.getD 2 0).toNat (l.getD 3 0).toNat 3 128 191).getD 0 :=
 sign_class l 3 128 191 hl (by omega) (slow_E1 _ _ _ _ _ hl (UInt8.toNat_lt _) (UInt8.toNat_lt _) (UInt8.toNat_lt _) (.inr ⟨by omega, by omega⟩))
theorem sign_ED (l : Bs) (hl : 0 < l.length) (h : 237 <= (l.getD 0 0).toNat /\ (l.getD 0 0).toNat <= 237) : signN l = (checkN l.length (l.getD 1 0).toNat (l.getD 2 0).toNat (l.getD 3 0).toNat 3 128 159).getD 0 :=
 sign_class l 3 128 159 hl (by omega) (slow_ED _ _ _ _ _ hl (UInt8.toNat_lt _) (UInt8.toNat_lt _) (UInt8.toNat_lt _) (by omega))
theorem sign_F0 (l : Bs) (hl : 0 < l.length) (h : 240 <= (l.getD 0 0).toNat /\ (l.getD 0 0).toNat <= 240) : signN l = (checkN l.length (l.getD 1 0).toNat (l.getD 2 0).toNat (l.getD 3 0).toNat 4 144 191).getD 0 :=
 sign_class l 4 144 191 hl (by omega) (slow_F0 _ _ _ _ _ hl (UInt8.toNat_lt _) (UInt8.toNat_lt _) (UInt8.toNat_lt _) (by omega))
theorem sign_F1 (l : Bs) (hl : 0 < l.length) (h : 241 <= (l.getD 0 0).toNat /\ (l.getD 0 0).toNat <= 243) : signN l = (checkN l.length (l.getD 1 0).toNat (l.getD 2 0).toNat (l.getD 3 0).toNat 4 128 191).getD 0 :=
 sign_class l 4 128 191 hl (by omega) (slow_F1 _ _ _ _ _ hl (UInt8.toNat_lt _) (UInt8.toNat_lt _) (UInt8.toNat_lt _) ⟨by omega, by omega⟩)
theorem sign_F4 (l : Bs) (hl : 0 < l.length) (h : 244 <= (l.getD 0 0).toNat /\ (l.getD 0 0).toNat <= 244) : signN l = (checkN l.length (l.getD 1 0).toNat (l.getD 2 0).toNat (l.getD 3 0).toNat 4 128 143).getD 0 :=
 sign_class l 4 128 143 hl (by omega) (slow_F4 _ _ _ _ _ hl (UInt8.toNat_lt _) (UInt8.toNat_lt _) (UInt8.toNat_lt _) (by omega))
end Tab
namespace Go.Proofs.YtlpgigdegnbkmaaGreatDoor
open Go.RowKit Tab Tryz
set_option maxRecDepth 100000
theorem ne_nil (s : ByteArray) (h : 0 < s.size) : s.data.toList ≠ [] := by
 intro e
 have hz : s.data.toList.length = 0 := by rw [e]; rfl
 rw [<- Lib.size_eq] at hz; omega
theorem dT {p : Prop} [Decidable p] (h : p) : decide p = true := decide_eq_true h
theorem dF {p : Prop} [Decidable p] (h : ¬ p) : decide p = false := decide_eq_false h
theorem ne0 (s : ByteArray) (h0 : 0 < s.size) : 0 < s.data.toList.length := by rw [<- Lib.size_eq]; exact h0
theorem Sign_c2 (s : ByteArray) (w : World) (h0 : 0 < s.size) (hm : s.size <= 9223372036854775807) (lo hi : Nat) (ha : 194 <= s[0].toNat /\ s[0].toNat <= 223 /\ lo = 128 /\ hi = 191) (hv : signN s.data.toList = (Lib.checkN s.data.toList.length (s.data.toList.getD 1 0).toNat (s.data.toList.getD 2 0).toNat (s.data.toList.getD 3 0).toNat 2 lo hi).getD 0) : Calls prog 127 #[.string s] w (Still (.int .i64 (signN s.data.toList)) w) := by
 rw [<- Lib.size_eq] at hv
 generalize signN s.data.toList = N at *
 obtain ⟨A, hA⟩ : ∃ A, s[0].toNat = A := ⟨_, rfl⟩
 have hA2 : A < 256 := by rw [<- hA]; exact UInt8.toNat_lt _
 rw [hA] at ha
 have nb : ((s.size : Int) == 0) = false := by rw [beq_eq_false_iff_ne]; omega
 obtain ⟨ha, ha2, hlo, hhi⟩ := ha
 all_goals (
  first | have t0 : decide ((A : Int) < 128) = true := dT (by omega) | have t0 : decide ((A : Int) < 128) = false := dF (by omega)
  first | have t1 : decide (194 <= (A : Int)) = true := dT (by omega) | have t1 : decide (194 <= (A : Int)) = false := dF (by omega)
  first | have t2 : decide ((A : Int) <= 223) = true := dT (by omega) | have t2 : decide ((A : Int) <= 223) = false := dF (by omega)
  first | have t3 : decide (224 <= (A : Int)) = true := dT (by omega) | have t3 : decide (224 <= (A : Int)) = false := dF (by omega)
  first | have t4 : decide ((A : Int) <= 239) = true := dT (by omega) | have t4 : decide ((A : Int) <= 239) = false := dF (by omega)
  first | have t5 : decide (240 <= (A : Int)) = true := dT (by omega) | have t5 : decide (240 <= (A : Int)) = false := dF (by omega)
  first | have t6 : decide ((A : Int) <= 244) = true := dT (by omega) | have t6 : decide ((A : Int) <= 244) = false := dF (by omega)
  first | have t7 : ((A : Int) == 224) = true := beq_iff_eq.2 (by omega) | have t7 : ((A : Int) == 224) = false := beq_eq_false_iff_ne.2 (by omega)
  first | have t8 : ((A : Int) == 237) = true := beq_iff_eq.2 (by omega) | have t8 : ((A : Int) == 237) = false := beq_eq_false_iff_ne.2 (by omega)
  first | have t9 : ((A : Int) == 240) = true := beq_iff_eq.2 (by omega) | have t9 : ((A : Int) == 240) = false := beq_eq_false_iff_ne.2 (by omega)
  first | have t10 : ((A : Int) == 244) = true := beq_iff_eq.2 (by omega) | have t10 : ((A : Int) == 244) = false := beq_eq_false_iff_ne.2 (by omega)
  clear ha ha2
  by_cases hn : s.size < 2
  ·have Hv : Hid (N = 0) := by (show _ = _; rw [hv]; unfold Lib.checkN; simp only [Nat.reduceEqDiff, if_false, if_true]; rw [if_pos (by omega)]; rfl)
   have tn : decide ((s.size : Int) < 2) = true := dT (by omega)
   clear hv hn hlo hhi
   go_enter func127, ntmps127
   go_wp2
   go_ret; exact Still.mk' (by rw [Hv.out]; rfl)
  rw [getD_byte s 1 (by omega)] at hv
  have tn : decide ((s.size : Int) < 2) = false := dF (by omega)
  have u1 : 1 < s.size := by omega
  obtain ⟨z1, e1⟩ : ∃ z, (s[1]'u1).toNat = z := ⟨_, rfl⟩
  rw [e1] at hv
  have v1 : z1 < 256 := by rw [<- e1]; exact UInt8.toNat_lt _
  generalize (s.data.toList.getD 2 0).toNat = z2 at hv
  generalize (s.data.toList.getD 3 0).toNat = z3 at hv
  have hc : (z1 < lo) \/ (lo <= z1 /\ hi < z1) \/ (lo <= z1 /\ z1 <= hi) := by omega
  rcases hc with h | h | h
  all_goals (
   first | have Hv : Hid (N = 0) := by (show _ = _; rw [hv]; unfold Lib.checkN; simp only [Nat.reduceEqDiff, if_false, if_true]; rw [if_pos (by omega)]; rfl) | have Hv : Hid (N = 2) := by (show _ = _; rw [hv]; unfold Lib.checkN; simp only [Nat.reduceEqDiff, if_false, if_true]; rw [if_neg (by omega)]; rfl)
   try (first | have p1 : decide ((z1 : Int) < ((lo : Nat) : Int)) = true := dT (by omega) | have p1 : decide ((z1 : Int) < ((lo : Nat) : Int)) = false := dF (by omega))
   try (first | have r1 : decide (((hi : Nat) : Int) < (z1 : Int)) = true := dT (by omega) | have r1 : decide (((hi : Nat) : Int) < (z1 : Int)) = false := dF (by omega))
   clear hv h hn
   subst hlo hhi
   simp only [Int.cast_ofNat_Int] at p1
   try simp only [Int.cast_ofNat_Int] at r1
   go_enter func127, ntmps127
   go_wp2
   first | (go_ret; exact Still.mk' (by rw [Hv.out]; rfl)) | (
    refine wp_loop_rounds 2 ?_
    repeat (simp only [rounds_succ]; go_wp2)
    go_ret; exact Still.mk' (by rw [Hv.out]; rfl))))
theorem Sign_c3 (s : ByteArray) (w : World) (h0 : 0 < s.size) (hm : s.size <= 9223372036854775807) (lo hi : Nat) (ha : (s[0].toNat = 224 /\ lo = 160 /\ hi = 191) \/ ((225 <= s[0].toNat /\ s[0].toNat <= 236 \/ 238 <= s[0].toNat /\ s[0].toNat <= 239) /\ lo = 128 /\ hi = 191) \/ (s[0].toNat = 237 /\ lo = 128 /\ hi = 159)) (hv : signN s.data.toList = (Lib.checkN s.data.toList.length (s.data.toList.getD 1 0).toNat (s.data.toList.getD 2 0).toNat (s.data.toList.getD 3 0).toNat 3 lo hi).getD 0) : Calls prog 127 #[.string s] w (Still (.int .i64 (signN s.data.toList)) w) := by
 rw [<- Lib.size_eq] at hv
 generalize signN s.data.toList = N at *
 obtain ⟨A, hA⟩ : ∃ A, s[0].toNat = A := ⟨_, rfl⟩
 have hA2 : A < 256 := by rw [<- hA]; exact UInt8.toNat_lt _
 rw [hA] at ha
 have nb : ((s.size : Int) == 0) = false := by rw [beq_eq_false_iff_ne]; omega
 rcases ha with ⟨ha, hlo, hhi⟩ | ⟨ha, hlo, hhi⟩ | ⟨ha, hlo, hhi⟩
 all_goals (
  first | have t0 : decide ((A : Int) < 128) = true := dT (by omega) | have t0 : decide ((A : Int) < 128) = false := dF (by omega)
  first | have t1 : decide (194 <= (A : Int)) = true := dT (by omega) | have t1 : decide (194 <= (A : Int)) = false := dF (by omega)
  first | have t2 : decide ((A : Int) <= 223) = true := dT (by omega) | have t2 : decide ((A : Int) <= 223) = false := dF (by omega)
  first | have t3 : decide (224 <= (A : Int)) = true := dT (by omega) | have t3 : decide (224 <= (A : Int)) = false := dF (by omega)
  first | have t4 : decide ((A : Int) <= 239) = true := dT (by omega) | have t4 : decide ((A : Int) <= 239) = false := dF (by omega)
  first | have t5 : decide (240 <= (A : Int)) = true := dT (by omega) | have t5 : decide (240 <= (A : Int)) = false := dF (by omega)
  first | have t6 : decide ((A : Int) <= 244) = true := dT (by omega) | have t6 : decide ((A : Int) <= 244) = false := dF (by omega)
  first | have t7 : ((A : Int) == 224) = true := beq_iff_eq.2 (by omega) | have t7 : ((A : Int) == 224) = false := beq_eq_false_iff_ne.2 (by omega)
  first | have t8 : ((A : Int) == 237) = true := beq_iff_eq.2 (by omega) | have t8 : ((A : Int) == 237) = false := beq_eq_false_iff_ne.2 (by omega)
  first | have t9 : ((A : Int) == 240) = true := beq_iff_eq.2 (by omega) | have t9 : ((A : Int) == 240) = false := beq_eq_false_iff_ne.2 (by omega)
  first | have t10 : ((A : Int) == 244) = true := beq_iff_eq.2 (by omega) | have t10 : ((A : Int) == 244) = false := beq_eq_false_iff_ne.2 (by omega)
  clear ha
  by_cases hn : s.size < 3
  ·have Hv : Hid (N = 0) := by (show _ = _; rw [hv]; unfold Lib.checkN; simp only [Nat.reduceEqDiff, if_false, if_true]; rw [if_pos (by omega)]; rfl)
   have tn : decide ((s.size : Int) < 3) = true := dT (by omega)
   clear hv hn hlo hhi
   go_enter func127, ntmps127
   go_wp2
   go_ret; exact Still.mk' (by rw [Hv.out]; rfl)
  rw [getD_byte s 1 (by omega), getD_byte s 2 (by omega)] at hv
  have tn : decide ((s.size : Int) < 3) = false := dF (by omega)
  have u1 : 1 < s.size := by omega
  obtain ⟨z1, e1⟩ : ∃ z, (s[1]'u1).toNat = z := ⟨_, rfl⟩
  rw [e1] at hv
  have v1 : z1 < 256 := by rw [<- e1]; exact UInt8.toNat_lt _
  have u2 : 2 < s.size := by omega
  obtain ⟨z2, e2⟩ : ∃ z, (s[2]'u2).toNat = z := ⟨_, rfl⟩
  rw [e2] at hv
  have v2 : z2 < 256 := by rw [<- e2]; exact UInt8.toNat_lt _
  generalize (s.data.toList.getD 3 0).toNat = z3 at hv
  have hc : (z1 < lo) \/ (lo <= z1 /\ hi < z1) \/ (lo <= z1 /\ z1 <= hi /\ z2 < 128) \/ (lo <= z1 /\ z1 <= hi /\ 128 <= z2 /\ 191 < z2) \/ (lo <= z1 /\ z1 <= hi /\ 128 <= z2 /\ z2 <= 191) := by omega
  rcases hc with h | h | h | h | h
  all_goals (
   first | have Hv : Hid (N = 0) := by (show _ = _; rw [hv]; unfold Lib.checkN; simp only [Nat.reduceEqDiff, if_false, if_true]; rw [if_pos (by omega)]; rfl) | have Hv : Hid (N = 3) := by (show _ = _; rw [hv]; unfold Lib.checkN; simp only [Nat.reduceEqDiff, if_false, if_true]; rw [if_neg (by omega)]; rfl)
   try (first | have p1 : decide ((z1 : Int) < ((lo : Nat) : Int)) = true := dT (by omega) | have p1 : decide ((z1 : Int) < ((lo : Nat) : Int)) = false := dF (by omega))
   try (first | have r1 : decide (((hi : Nat) : Int) < (z1 : Int)) = true := dT (by omega) | have r1 : decide (((hi : Nat) : Int) < (z1 : Int)) = false := dF (by omega))
   try (first | have p2 : decide ((z2 : Int) < 128) = true := dT (by omega) | have p2 : decide ((z2 : Int) < 128) = false := dF (by omega))
   try (first | have r2 : decide (191 < (z2 : Int)) = true := dT (by omega) | have r2 : decide (191 < (z2 : Int)) = false := dF (by omega))
   clear hv h hn
   subst hlo hhi
   simp only [Int.cast_ofNat_Int] at p1
   try simp only [Int.cast_ofNat_Int] at r1
   go_enter func127, ntmps127
   go_wp2
   first | (go_ret; exact Still.mk' (by rw [Hv.out]; rfl)) | (
    refine wp_loop_rounds 3 ?_
    repeat (simp only [rounds_succ]; go_wp2)
    go_ret; exact Still.mk' (by rw [Hv.out]; rfl))))
theorem Sign_c4 (s : ByteArray) (w : World) (h0 : 0 < s.size) (hm : s.size <= 9223372036854775807) (lo hi : Nat) (ha : (s[0].toNat = 240 /\ lo = 144 /\ hi = 191) \/ ((241 <= s[0].toNat /\ s[0].toNat <= 243) /\ lo = 128 /\ hi = 191) \/ (s[0].toNat = 244 /\ lo = 128 /\ hi = 143)) (hv : signN s.data.toList = (Lib.checkN s.data.toList.length (s.data.toList.getD 1 0).toNat (s.data.toList.getD 2 0).toNat (s.data.toList.getD 3 0).toNat 4 lo hi).getD 0) : Calls prog 127 #[.string s] w (Still (.int .i64 (signN s.data.toList)) w) := by
 rw [<- Lib.size_eq] at hv
 generalize signN s.data.toList = N at *
 obtain ⟨A, hA⟩ : ∃ A, s[0].toNat = A := ⟨_, rfl⟩
 have hA2 : A < 256 := by rw [<- hA]; exact UInt8.toNat_lt _
 rw [hA] at ha
 have nb : ((s.size : Int) == 0) = false := by rw [beq_eq_false_iff_ne]; omega
 rcases ha with ⟨ha, hlo, hhi⟩ | ⟨ha, hlo, hhi⟩ | ⟨ha, hlo, hhi⟩
 all_goals (
  first | have t0 : decide ((A : Int) < 128) = true := dT (by omega) | have t0 : decide ((A : Int) < 128) = false := dF (by omega)
  first | have t1 : decide (194 <= (A : Int)) = true := dT (by omega) | have t1 : decide (194 <= (A : Int)) = false := dF (by omega)
  first | have t2 : decide ((A : Int) <= 223) = true := dT (by omega) | have t2 : decide ((A : Int) <= 223) = false := dF (by omega)
  first | have t3 : decide (224 <= (A : Int)) = true := dT (by omega) | have t3 : decide (224 <= (A : Int)) = false := dF (by omega)
  first | have t4 : decide ((A : Int) <= 239) = true := dT (by omega) | have t4 : decide ((A : Int) <= 239) = false := dF (by omega)
  first | have t5 : decide (240 <= (A : Int)) = true := dT (by omega) | have t5 : decide (240 <= (A : Int)) = false := dF (by omega)
  first | have t6 : decide ((A : Int) <= 244) = true := dT (by omega) | have t6 : decide ((A : Int) <= 244) = false := dF (by omega)
  first | have t7 : ((A : Int) == 224) = true := beq_iff_eq.2 (by omega) | have t7 : ((A : Int) == 224) = false := beq_eq_false_iff_ne.2 (by omega)
  first | have t8 : ((A : Int) == 237) = true := beq_iff_eq.2 (by omega) | have t8 : ((A : Int) == 237) = false := beq_eq_false_iff_ne.2 (by omega)
  first | have t9 : ((A : Int) == 240) = true := beq_iff_eq.2 (by omega) | have t9 : ((A : Int) == 240) = false := beq_eq_false_iff_ne.2 (by omega)
  first | have t10 : ((A : Int) == 244) = true := beq_iff_eq.2 (by omega) | have t10 : ((A : Int) == 244) = false := beq_eq_false_iff_ne.2 (by omega)
  clear ha
  by_cases hn : s.size < 4
  ·have Hv : Hid (N = 0) := by (show _ = _; rw [hv]; unfold Lib.checkN; simp only [Nat.reduceEqDiff, if_false, if_true]; rw [if_pos (by omega)]; rfl)
   have tn : decide ((s.size : Int) < 4) = true := dT (by omega)
   clear hv hn hlo hhi
   go_enter func127, ntmps127
   go_wp2
   go_ret; exact Still.mk' (by rw [Hv.out]; rfl)
  rw [getD_byte s 1 (by omega), getD_byte s 2 (by omega), getD_byte s 3 (by omega)] at hv
  have tn : decide ((s.size : Int) < 4) = false := dF (by omega)
  have u1 : 1 < s.size := by omega
  obtain ⟨z1, e1⟩ : ∃ z, (s[1]'u1).toNat = z := ⟨_, rfl⟩
  rw [e1] at hv
  have v1 : z1 < 256 := by rw [<- e1]; exact UInt8.toNat_lt _
  have u2 : 2 < s.size := by omega
  obtain ⟨z2, e2⟩ : ∃ z, (s[2]'u2).toNat = z := ⟨_, rfl⟩
  rw [e2] at hv
  have v2 : z2 < 256 := by rw [<- e2]; exact UInt8.toNat_lt _
  have u3 : 3 < s.size := by omega
  obtain ⟨z3, e3⟩ : ∃ z, (s[3]'u3).toNat = z := ⟨_, rfl⟩
  rw [e3] at hv
  have v3 : z3 < 256 := by rw [<- e3]; exact UInt8.toNat_lt _
  have hc : (z1 < lo) \/ (lo <= z1 /\ hi < z1) \/ (lo <= z1 /\ z1 <= hi /\ z2 < 128) \/ (lo <= z1 /\ z1 <= hi /\ 128 <= z2 /\ 191 < z2) \/ (lo <= z1 /\ z1 <= hi /\ 128 <= z2 /\ z2 <= 191 /\ z3 < 128) \/ (lo <= z1 /\ z1 <= hi /\ 128 <= z2 /\ z2 <= 191 /\ 128 <= z3 /\ 191 < z3) \/ (lo <= z1 /\ z1 <= hi /\ 128 <= z2 /\ z2 <= 191 /\ 128 <= z3 /\ z3 <= 191) := by omega
  rcases hc with h | h | h | h | h | h | h
  all_goals (
   first | have Hv : Hid (N = 0) := by (show _ = _; rw [hv]; unfold Lib.checkN; simp only [Nat.reduceEqDiff, if_false, if_true]; rw [if_pos (by omega)]; rfl) | have Hv : Hid (N = 4) := by (show _ = _; rw [hv]; unfold Lib.checkN; simp only [Nat.reduceEqDiff, if_false, if_true]; rw [if_neg (by omega)]; rfl)
   try (first | have p1 : decide ((z1 : Int) < ((lo : Nat) : Int)) = true := dT (by omega) | have p1 : decide ((z1 : Int) < ((lo : Nat) : Int)) = false := dF (by omega))
   try (first | have r1 : decide (((hi : Nat) : Int) < (z1 : Int)) = true := dT (by omega) | have r1 : decide (((hi : Nat) : Int) < (z1 : Int)) = false := dF (by omega))
   try (first | have p2 : decide ((z2 : Int) < 128) = true := dT (by omega) | have p2 : decide ((z2 : Int) < 128) = false := dF (by omega))
   try (first | have r2 : decide (191 < (z2 : Int)) = true := dT (by omega) | have r2 : decide (191 < (z2 : Int)) = false := dF (by omega))
   try (first | have p3 : decide ((z3 : Int) < 128) = true := dT (by omega) | have p3 : decide ((z3 : Int) < 128) = false := dF (by omega))
   try (first | have r3 : decide (191 < (z3 : Int)) = true := dT (by omega) | have r3 : decide (191 < (z3 : Int)) = false := dF (by omega))
   clear hv h hn
   subst hlo hhi
   simp only [Int.cast_ofNat_Int] at p1
   try simp only [Int.cast_ofNat_Int] at r1
   go_enter func127, ntmps127
   go_wp2
   first | (go_ret; exact Still.mk' (by rw [Hv.out]; rfl)) | (
    refine wp_loop_rounds 4 ?_
    repeat (simp only [rounds_succ]; go_wp2)
    go_ret; exact Still.mk' (by rw [Hv.out]; rfl))))
theorem Sign_any (s : ByteArray) (w : World) (hm : s.size <= 9223372036854775807) : Calls prog 127 #[.string s] w (Still (.int .i64 (signN s.data.toList)) w) := by
 by_cases h0 : 0 < s.size
 ·have hlt : s[0].toNat < 256 := UInt8.toNat_lt _
  by_cases c1 : s[0].toNat < 128
  ·have hv : signN s.data.toList = 1 := by
    have hne : s.data.toList ≠ [] := ne_nil s h0
    obtain ⟨b, r, e⟩ := List.exists_cons_of_ne_nil hne
    have hb : b = s[0] := by rw [<- getD_byte s 0 h0, e]; rfl
    rw [e]; exact sign_low b r (by rw [hb]; exact c1)
   rw [hv]
   obtain ⟨A, hA⟩ : ∃ A, s[0].toNat = A := ⟨_, rfl⟩
   have hA2 : A < 256 := by rw [<- hA]; exact UInt8.toNat_lt _
   rw [hA] at c1
   have nb : ((s.size : Int) == 0) = false := by rw [beq_eq_false_iff_ne]; omega
   have t0 : decide ((A : Int) < 128) = true := dT (by omega)
   clear hv
   go_enter func127, ntmps127
   go_wp2
   go_ret; exact Still.mk' rfl
  by_cases d2 : 194 <= s[0].toNat /\ s[0].toNat <= 223
  ·exact Sign_c2 s w h0 hm 128 191 ⟨d2.1, d2.2, rfl, rfl⟩ (sign_C2 _ (ne0 s h0) (by rw [getD_byte s 0 h0]; exact d2))
  by_cases dE0 : s[0].toNat = 224
  ·exact Sign_c3 s w h0 hm 160 191 (.inl ⟨dE0, rfl, rfl⟩) (sign_E0 _ (ne0 s h0) (by rw [getD_byte s 0 h0]; omega))
  by_cases dE1 : 225 <= s[0].toNat /\ s[0].toNat <= 236
  ·exact Sign_c3 s w h0 hm 128 191 (.inr (.inl ⟨.inl dE1, rfl, rfl⟩)) (sign_E1 _ (ne0 s h0) (by rw [getD_byte s 0 h0]; exact dE1))
  by_cases dEE : 238 <= s[0].toNat /\ s[0].toNat <= 239
  ·exact Sign_c3 s w h0 hm 128 191 (.inr (.inl ⟨.inr dEE, rfl, rfl⟩)) (sign_EE _ (ne0 s h0) (by rw [getD_byte s 0 h0]; exact dEE))
  by_cases dED : s[0].toNat = 237
  ·exact Sign_c3 s w h0 hm 128 159 (.inr (.inr ⟨dED, rfl, rfl⟩)) (sign_ED _ (ne0 s h0) (by rw [getD_byte s 0 h0]; omega))
  by_cases dF0 : s[0].toNat = 240
  ·exact Sign_c4 s w h0 hm 144 191 (.inl ⟨dF0, rfl, rfl⟩) (sign_F0 _ (ne0 s h0) (by rw [getD_byte s 0 h0]; omega))
  by_cases dF1 : 241 <= s[0].toNat /\ s[0].toNat <= 243
  ·exact Sign_c4 s w h0 hm 128 191 (.inr (.inl ⟨dF1, rfl, rfl⟩)) (sign_F1 _ (ne0 s h0) (by rw [getD_byte s 0 h0]; exact dF1))
  by_cases dF4 : s[0].toNat = 244
  ·exact Sign_c4 s w h0 hm 128 143 (.inr (.inr ⟨dF4, rfl, rfl⟩)) (sign_F4 _ (ne0 s h0) (by rw [getD_byte s 0 h0]; omega))
  have hv : signN s.data.toList = 0 := sign_bad _ (by rw [<- Lib.size_eq]; exact h0) (by rw [getD_byte s 0 h0]; omega)
  rw [hv]
  by_cases c2 : s[0].toNat < 194
  ·obtain ⟨A, hA⟩ : ∃ A, s[0].toNat = A := ⟨_, rfl⟩
   have hA2 : A < 256 := by rw [<- hA]; exact UInt8.toNat_lt _
   have nb : ((s.size : Int) == 0) = false := by rw [beq_eq_false_iff_ne]; omega
   have t0 : decide ((A : Int) < 128) = false := dF (by omega)
   have t1 : decide (194 <= (A : Int)) = false := dF (by omega)
   have t2 : decide (224 <= (A : Int)) = false := dF (by omega)
   have t3 : decide (240 <= (A : Int)) = false := dF (by omega)
   clear hv d2 dE0 dE1 dEE dED dF0 dF1 dF4 c1 c2 hlt
   go_enter func127, ntmps127
   go_wp2
   go_ret; exact Still.mk' rfl
  ·obtain ⟨A, hA⟩ : ∃ A, s[0].toNat = A := ⟨_, rfl⟩
   have hA2 : A < 256 := by rw [<- hA]; exact UInt8.toNat_lt _
   have nb : ((s.size : Int) == 0) = false := by rw [beq_eq_false_iff_ne]; omega
   have t0 : decide ((A : Int) < 128) = false := dF (by omega)
   have t1 : decide (194 <= (A : Int)) = true := dT (by omega)
   have t2 : decide (224 <= (A : Int)) = true := dT (by omega)
   have t3 : decide (240 <= (A : Int)) = true := dT (by omega)
   have t4 : decide ((A : Int) <= 223) = false := dF (by omega)
   have t5 : decide ((A : Int) <= 239) = false := dF (by omega)
   have t6 : decide ((A : Int) <= 244) = false := dF (by omega)
   clear hv d2 dE0 dE1 dEE dED dF0 dF1 dF4 c1 c2 hlt
   go_enter func127, ntmps127
   go_wp2
   go_ret; exact Still.mk' rfl
 ·have hv : signN s.data.toList = 0 := by
   rw [signN, if_pos (List.eq_nil_of_length_eq_zero (by rw [<- Lib.size_eq]; omega))]
  rw [hv]
  have nb : ((s.size : Int) == 0) = true := by rw [beq_iff_eq]; omega
  clear hv
  go_enter func127, ntmps127
  go_wp2
  go_ret; exact Still.mk' rfl
end Go.Proofs.YtlpgigdegnbkmaaGreatDoor
