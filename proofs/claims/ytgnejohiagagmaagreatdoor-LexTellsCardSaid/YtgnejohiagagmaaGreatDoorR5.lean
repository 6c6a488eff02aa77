/- The walks of tabularef04.open, stands, apart. The walk of tabularef04.right. The walk of tabularef04.Print. -/
import Derived.Test.YtgnejohiagagmaaGreatDoorG12
import Derived.Deep.Cut
import Derived.Test.YtgnejohiagagmaaGreatDoorR4
import Derived.Test.YtgnejohiagagmaaGreatDoorG11
import Derived.Test.YtgnejohiagagmaaGreatDoorG17
import Derived.Test.YtgnejohiagagmaaGreatDoorG13
namespace Tab
theorem dq_snoc (l : Bs) (b : UInt8) : dq (l ++ [b]) = dq l ++ (if b = 34 then [34, 34] else [b]) := by
  unfold dq
  rw [List.flatMap_append]; simp
end Tab
namespace Go.Proofs.YtgnejohiagagmaaGreatDoor
open Go.RowKit Tab

set_option maxRecDepth 100000 in
set_option maxHeartbeats 2000000 in
theorem refOpen_any (k : Int) (l : Bs) (a : Int) (w : World) : Calls Tryz.prog 30 #[tokI k l a] w (Ret (.bool (openD k l)) w) := by
  unfold openD tokI
  obtain ⟨A, hA⟩ : ∃ A, (k == 8) = A := ⟨_, rfl⟩
  obtain ⟨B, hB⟩ : ∃ B, (l == [40]) = B := ⟨_, rfl⟩
  rw [hA, hB]
  cases A <;> cases B
  all_goals (
    go_enter Tryz.func30, Tryz.ntmps30
    go_wp2
    go_ret; exact Ret.mk' rfl (allocB (Below.refl _ _)))

set_option maxRecDepth 100000 in
set_option maxHeartbeats 4000000 in
theorem refStands_any (k : Int) (l : Bs) (hl : l.length ≤ 1000000) (a : Int) (w : World) : Calls Tryz.prog 32 #[tokI k l a] w (Ret (strV (standsD k l)) w) := by
  unfold standsD tokI
  obtain ⟨A, hA⟩ : ∃ A, (k == 2) = A := ⟨_, rfl⟩
  have e2 : (k != 2) = !A := by unfold bne; rw [hA]
  rw [hA]
  obtain ⟨s, hs⟩ : ∃ s : ByteArray, s.data.toList = l := ⟨⟨l.toArray⟩, rfl⟩
  have hs2 : (⟨l.toArray⟩ : ByteArray) = s := by rw [← hs]
  have hsz : s.size = l.length := by rw [← hs, ba_size]
  rw [hs2]
  cases A
  · rw [Bool.not_false] at e2
    go_enter Tryz.func32, Tryz.ntmps32
    go_wp2
    go_ret; exact Ret.mk' (strV_eq hs) (allocB (Below.refl _ _))
  · rw [Bool.not_true] at e2
    rw [if_pos rfl, ← hs]
    rw [← hsz] at hl
    clear hs hs2 hsz
    go_enter Tryz.func32, Tryz.ntmps32
    go_upto_region 1 with fail
    refine wp_abs2 (fun W => Blk W w.heap.size #[.int .i64 k, .string s, .int .i64 a] ∧ Below w.heap.size w W) ⟨(by apply Blk.eq; (repeat' (first | with_reducible assumption | with_reducible apply Blk.set | with_reducible apply Blk.other | (with_reducible refine Blk.new ?_; simp; done) | with_reducible apply Blk.alloc | omega)); rfl), (by repeat' (first | with_reducible assumption | with_reducible exact Below.refl _ _ | with_reducible refine allocB ?_ | with_reducible refine setB ?_ ?_ | with_reducible refine drewB ?_ | with_reducible refine after ?_ (by assumption) | (simp; omega) | omega))⟩ ?_
    rintro W ⟨hK, hW⟩
    obtain ⟨fr, gr, zr⟩ := hK.facts
    have cr0 := fr 0
    have cr1 := fr 1
    have cr2 := fr 2
    clear fr hK
    simp only [List.getElem?_toArray, List.getElem?_cons_zero, List.getElem?_cons_succ] at cr0 cr1 cr2
    go_wp2
    go_loop [3, 4] (fun o i => ∃ (j : Nat) (X : Bs), i = .int .i64 (j : Int) ∧ j ≤ s.size ∧ o = strV X ∧ X = [34] ++ dq (s.data.toList.take j)) (fun _ i => s.size - (intOf i).toNat)
    case atStart => exact ⟨0, [34], rfl, by omega, rfl, by simp [dq]⟩
    case round =>
      obtain ⟨j, X, rfl, hj, rfl, hX⟩ := hrel
      have HX := Lib.hid hX
      have hXl : X.length ≤ 2 * s.size + 1 := by
        have := dq_len (s.data.toList.take j)
        rw [hX, List.length_append]
        rw [List.length_take] at this
        simp only [List.length_cons, List.length_nil]; omega
      clear hX
      unfold strV
      have a0 : ¬ 9223372036854775807 < X.length + 1 := by omega
      have a1 : ¬ 9223372036854775807 < X.length + 1 + 1 := by omega
      by_cases hlt : j < s.size
      · have hci : decide ((j : Int) < (s.size : Int)) = true := decide_eq_true (by omega)
        have ew : IntKind.i64.wrap ((j : Int) + 1) = ((j + 1 : Nat) : Int) := by rw [IntWalk.i64_in _ (by omega)]; omega
        have ht := take_snoc s j hlt
        by_cases hq : s[j] = 34
        · have e34 : ((s[j].toNat : Int) == 34) = true := by rw [hq]; rfl
          have HN : Hid ([34] ++ dq (s.data.toList.take (j + 1)) = X ++ [s[j]] ++ [34]) := Lib.hid (by
            rw [ht, dq_snoc, if_pos hq, HX.out, hq]; simp)
          clear ht hq HX
          go_wp2
          go_round
          case rel => exact ⟨j + 1, X ++ [s[j]] ++ [34], rfl, hlt, strV_eq (by rw [ba_append, ba_append, ba_extract, one_ext s j hlt]), HN.out.symm⟩
          case measure => simp [intOf]; omega
        · have e34 : ((s[j].toNat : Int) == 34) = false := by
            have h := byte_beq s[j] 34
            rw [beq_eq_false_iff_ne.2 hq] at h
            exact h
          have HN : Hid ([34] ++ dq (s.data.toList.take (j + 1)) = X ++ [s[j]]) := Lib.hid (by
            rw [ht, dq_snoc, if_neg hq, HX.out]; simp)
          clear ht hq HX
          go_wp2
          go_round
          case rel => exact ⟨j + 1, X ++ [s[j]], rfl, hlt, strV_eq (by rw [ba_append, ba_extract, one_ext s j hlt]), HN.out.symm⟩
          case measure => simp [intOf]; omega
      · have hci : decide ((j : Int) < (s.size : Int)) = false := decide_eq_false (by omega)
        have hX2 : X = [34] ++ dq s.data.toList := by rw [HX.out, List.take_of_length_le (by rw [ba_size]; omega)]
        have HX2 := Lib.hid hX2
        clear HX hX2
        go_wp2
        go_ret; exact Ret.mk' (strV_eq (by rw [ba_append]; show X ++ [34] = 34 :: (dq s.data.toList ++ [34]); rw [HX2.out]; rfl)) hW

set_option maxRecDepth 100000 in
set_option maxHeartbeats 8000000 in
theorem refApart_any (ka : Int) (la : Bs) (aa : Int) (kb : Int) (lb : Bs) (ab : Int) (hlb : kb = 8 → lb ∈ signsB) (w : World) : Calls Tryz.prog 31 #[tokI ka la aa, tokI kb lb ab] w (Ret (.bool (apartD ka la kb lb)) w) := by
  have cO := fun W => refOpen_any kb lb ab W
  unfold tokI at *
  unfold apartD
  obtain ⟨V, hV⟩ : ∃ V, openD kb lb = V := ⟨_, rfl⟩
  rw [hV] at cO ⊢
  clear hV
  by_cases h8 : ka = 8
  · subst h8
    by_cases k8 : kb = 8
    · subst k8
      rw [if_neg (by decide), if_neg (by decide), if_neg (by decide)]
      obtain ⟨c, t, rfl⟩ : ∃ c t, lb = c :: t := by
        have hm := hlb rfl
        cases lb with
        | nil => exact absurd hm (by decide)
        | cons c t => exact ⟨c, t, rfl⟩
      have hg0 : (c :: t).getD 0 0 = c := rfl
      rw [hg0]
      clear hg0 hlb cO
      have e61 := u8_beq c 61 61 rfl
      have e62 := u8_beq c 62 62 rfl
      have ei : (⟨(c :: t).toArray⟩ : ByteArray)[0]'(by show 0 < (c :: t).toArray.size; simp) = c := rfl
      obtain ⟨E, hE⟩ : ∃ E, (c == 61) = E := ⟨_, rfl⟩
      obtain ⟨F, hF⟩ : ∃ F, (c == 62) = F := ⟨_, rfl⟩
      obtain ⟨P, hP⟩ : ∃ P, (la == [60]) = P := ⟨_, rfl⟩
      obtain ⟨Q, hQ⟩ : ∃ Q, (la == [62]) = Q := ⟨_, rfl⟩
      rw [hE] at e61
      rw [hF] at e62
      rw [hE, hF, hP, hQ]
      clear hE hF
      cases P <;> cases Q <;> cases E <;> cases F
      all_goals (
        go_enter Tryz.func31, Tryz.ntmps31
        go_wp2
        go_ret; exact Ret.mk' rfl (allocB (allocB (Below.refl _ _))))
    · have m8 : (kb != 8) = true := by rw [bne_iff_ne]; exact k8
      rw [m8]
      go_enter Tryz.func31, Tryz.ntmps31
      go_wp2
      go_ret; exact Ret.mk' rfl (allocB (allocB (Below.refl _ _)))
  · have n8 : (ka != 8) = true := by rw [bne_iff_ne]; exact h8
    rw [n8]
    by_cases k8 : kb = 8
    · subst k8
      rw [if_neg (by decide)]
      obtain ⟨A, hA⟩ : ∃ A, (ka == 6) = A := ⟨_, rfl⟩
      obtain ⟨B, hB⟩ : ∃ B, (ka == 3) = B := ⟨_, rfl⟩
      obtain ⟨C, hC⟩ : ∃ C, (ka == 5) = C := ⟨_, rfl⟩
      rw [hA, hB, hC]
      cases V <;> cases A <;> cases B <;> cases C
      all_goals (
        go_enter Tryz.func31, Tryz.ntmps31
        go_wp2_with fail
        refine (cO _).mono ?_; rintro e w1 ⟨rfl, hb1⟩
        have hB1 : Below w.heap.size w w1 := (by repeat' (first | with_reducible assumption | with_reducible exact Below.refl _ _ | with_reducible refine allocB ?_ | with_reducible refine setB ?_ ?_ | with_reducible refine drewB ?_ | with_reducible refine after ?_ (by assumption) | (simp; omega) | omega))
        have kb0 : Blk w1 w.heap.size #[.int .i64 ka, .string ⟨la.toArray⟩, .int .i64 aa] := Blk.below (by apply Blk.eq; (repeat' (first | with_reducible assumption | with_reducible apply Blk.set | with_reducible apply Blk.other | (with_reducible refine Blk.new ?_; simp; done) | with_reducible apply Blk.alloc | omega)); rfl) hb1
        have kb1 : Blk w1 (w.heap.size + 1) #[.int .i64 8, .string ⟨lb.toArray⟩, .int .i64 ab] := Blk.below (by apply Blk.eq; (repeat' (first | with_reducible assumption | with_reducible apply Blk.set | with_reducible apply Blk.other | (with_reducible refine Blk.new ?_; simp; done) | with_reducible apply Blk.alloc | omega)); rfl) hb1
        obtain ⟨f0, g0, z0⟩ := kb0.facts
        obtain ⟨f1, g1, z1⟩ := kb1.facts
        clear hb1 kb0 kb1
        go_wp2
        go_ret
        exact ⟨rfl, hB1⟩)
    · have m8 : (kb != 8) = true := by rw [bne_iff_ne]; exact k8
      rw [m8, if_pos (by rfl)]
      go_enter Tryz.func31, Tryz.ntmps31
      go_wp2
      go_ret; exact Ret.mk' rfl (allocB (allocB (Below.refl _ _)))
end Go.Proofs.YtgnejohiagagmaaGreatDoor

namespace Tab
theorem call_open (S : Bs) (b : Nat) (y : TokT) (h : tokensD decED (S ++ [40]) = .ok [(7, S, b), y]) : y.1 = 8 ∧ y.2.1 = [40] := by
  have hl : (S ++ [40]).length ≤ 200 := by
    rcases Nat.lt_or_ge 200 (S ++ [40]).length with h1 | h1
    · unfold tokensD at h
      rw [if_pos h1] at h; cases h
    · exact h1
  rw [tokens_told decED _ hl] at h
  obtain ⟨M, hM⟩ := call_next (told_stand decED _ _ 0 _ (by omega) h)
  injection hM with h1 h2
  rw [h1]; exact ⟨rfl, rfl⟩
end Tab
namespace Go.Proofs.YtgnejohiagagmaaGreatDoor
open Go.RowKit Tab

set_option maxRecDepth 100000 in
set_option maxHeartbeats 16000000 in
theorem refRight_any (k : Int) (l : Bs) (hl : l.length ≤ 1000000) (a : Int) (w : World) : Calls Tryz.prog 29 #[tokI k l a] w (Ret (.bool (rightD decED k l)) w) := by
  obtain ⟨V, hV⟩ : ∃ V, rightD decED k l = V := ⟨_, rfl⟩
  rw [hV]
  have cS := fun W (_hb : Below w.heap.size w W) => refStands_any k l hl a W
  have hsl := stands_len k l
  have cT : ∀ (s : ByteArray) (W : World), Below w.heap.size w W → s.size ≤ 3000000 → Calls Tryz.prog 33 #[.string s] W (Toks (tokensD decED s.data.toList) W) := fun s W _ hs => refTokens_any s W (by omega)
  unfold rightD at hV
  obtain ⟨S, hS⟩ : ∃ S, standsD k l = S := ⟨_, rfl⟩
  rw [hS] at hV hsl cS
  have hSl := hS
  clear hS
  unfold tokI strV at *
  cases hk : k == 7
  · rw [hk, if_neg Bool.false_ne_true] at hV
    have cT1 := fun W hb => cT ⟨S.toArray⟩ W hb (by show S.toArray.size ≤ _; simp; omega)
    have ed : (⟨S.toArray⟩ : ByteArray).data.toList = S := rfl
    rw [ed] at cT1
    generalize tokensD decED S = R at *
    have HV := Lib.hid hV
    have hs2 : S.length ≤ 2000002 := by omega
    clear cT ed hV hsl
    go_enter Tryz.func29, Tryz.ntmps29
    go_wp2_with fail
    refine (cS _ (by repeat' (first | with_reducible assumption | with_reducible exact Below.refl _ _ | with_reducible refine allocB ?_ | with_reducible refine setB ?_ ?_ | with_reducible refine drewB ?_ | with_reducible refine after ?_ (by assumption) | (simp; omega) | omega))).mono ?_; rintro e w1 ⟨rfl, hb1⟩
    have K : Keep w [(w.heap.size, #[.int .i64 k, .string ⟨l.toArray⟩, .int .i64 a])] w1 := (Keep.add (by apply Blk.eq; (repeat' (first | with_reducible assumption | with_reducible apply Blk.set | with_reducible apply Blk.other | (with_reducible refine Blk.new ?_; simp; done) | with_reducible apply Blk.alloc | omega)); rfl) (Keep.nil (by repeat' (first | with_reducible assumption | with_reducible exact Below.refl _ _ | with_reducible refine allocB ?_ | with_reducible refine setB ?_ ?_ | with_reducible refine drewB ?_ | with_reducible refine after ?_ (by assumption) | (simp; omega) | omega)))).below hb1
    clear hb1
    obtain ⟨fr, gr, zr⟩ := K.hd.facts
    go_wp2_with fail
    refine (cT1 _ K.bel).mono ?_
    clear fr gr zr
    cases R with
    | error n =>
      rintro e w2 ⟨rfl, hb2⟩
      replace K := K.below hb2
      have hV := HV.out
      replace hV : false = V := hV
      subst hV
      have kc := gcell w2
      clear hb2
      go_wp2_with fail
      refine region_below (by kernel_rfl) (by kernel_rfl) ?_
      repeat (go_big_quiet_step (fail))
      refine wpQuiet_nil ?_
      intro w3 hb3
      have hK := (K.below hb3).bel
      go_wp2
      go_ret
      exact ⟨rfl, hK⟩
    | ok L =>
      rintro e w2 ⟨v, rfl, hown, hb2⟩
      replace K := K.below hb2
      have hrow := tokRow_of_own hown
      clear hb2 hown
      have hV := HV.out
      by_cases hlen : L.length = 1
      · obtain ⟨x, M, rfl⟩ : ∃ x M, L = x :: M := by cases L with
          | nil => simp at hlen
          | cons x M => exact ⟨x, M, rfl⟩
        obtain ⟨b, o, c, rfl, hc, hb, hcell⟩ : ∃ b o cap, v = .slice (some ⟨b, o, none⟩) (x :: M).length cap ∧ (x :: M).length ≤ cap ∧ b < w2.heap.size ∧ TokCells w2 b o (x :: M) := by
          rcases hrow with ⟨_, h⟩ | h
          · cases h
          · exact h
        obtain ⟨k0, k1, -⟩ := hcell 0 x rfl
        rw [Nat.zero_mul, Nat.add_zero] at k0 k1
        clear hcell
        obtain ⟨x1, x2, x3⟩ := x
        rw [hlen] at hc ⊢
        dsimp only at k0 k1
        replace hV : (M.length + 1 == 1 && (x1 == k && x2 == l)) = V := hV
        rw [show (M.length + 1 == 1) = true from beq_iff_eq.2 (by simpa using hlen), Bool.true_and] at hV
        obtain ⟨fr, gr, zr⟩ := K.hd.facts
        have c0 := fr 0
        have c1 := fr 1
        clear fr gr
        simp only [List.getElem?_toArray, List.getElem?_cons_zero, List.getElem?_cons_succ] at c0 c1
        clear HV hlen
        have kc := gcell w2
        cases hA : (x1 == k)
        · rw [hA, Bool.false_and] at hV
          subst hV
          go_wp2_with fail
          refine region_below (by kernel_rfl) (by kernel_rfl) ?_
          repeat (go_big_quiet_step (fail))
          refine wpQuiet_nil ?_
          intro w3 hb3
          have hK := (K.below hb3).bel
          go_wp2
          go_ret
          exact ⟨rfl, hK⟩
        · rw [hA, Bool.true_and] at hV
          have HV := Lib.hid hV
          clear hV
          cases hB : (x2 == l)
          all_goals (
            have hV := HV.out
            rw [hB] at hV
            subst hV
            go_wp2_with fail
            refine region_below (by kernel_rfl) (by kernel_rfl) ?_
            repeat (go_big_quiet_step (fail))
            refine wpQuiet_nil ?_
            intro w3 hb3
            have hK := (K.below hb3).bel
            go_wp2
            go_ret
            exact ⟨rfl, hK⟩)
      · have hf : V = false := by
          rw [← hV]
          cases L with
          | nil => rfl
          | cons x M =>
            show (M.length + 1 == 1 && _) = false
            rw [show (M.length + 1 == 1) = false from beq_eq_false_iff_ne.2 (by simpa using hlen), Bool.false_and]
        subst hf
        have e1 : ((L.length : Int) == 1) = false := beq_eq_false_iff_ne.2 (by omega)
        obtain ⟨ao, c, rfl⟩ : ∃ ao c, v = .slice ao L.length c := by
          rcases hrow with ⟨rfl, rfl⟩ | ⟨b, o, c, rfl, _⟩
          · exact ⟨none, 0, rfl⟩
          · exact ⟨_, c, rfl⟩
        clear HV hV
        have kc := gcell w2
        go_wp2_with fail
        refine region_below (by kernel_rfl) (by kernel_rfl) ?_
        repeat (go_big_quiet_step (fail))
        refine wpQuiet_nil ?_
        intro w3 hb3
        have hK := (K.below hb3).bel
        go_wp2
        go_ret
        exact ⟨rfl, hK⟩
  · rw [hk, if_pos rfl] at hV
    have cT1 := fun W hb => cT ⟨(S ++ [40]).toArray⟩ W hb (by show (S ++ [40]).toArray.size ≤ _; simp; omega)
    have ed : (⟨(S ++ [40]).toArray⟩ : ByteArray).data.toList = S ++ [40] := rfl
    rw [ed] at cT1
    obtain rfl : S = l := by
      rw [← hSl]
      have h7 : k = 7 := by simpa using hk
      unfold standsD
      rw [h7]; rfl
    have hopen : ∀ x1 x3 y, tokensD decED (S ++ [40]) = .ok [(x1, S, x3), y] → (x1 == k) = true → y.1 = 8 ∧ y.2.1 = [40] := fun x1 x3 y h h7 => by
      have hx : x1 = 7 := by
        have h1 : x1 = k := by simpa using h7
        rw [h1]; simpa using hk
      subst hx
      exact call_open S x3 y h
    have ec : (⟨S.toArray⟩ : ByteArray) ++ ⟨#[40]⟩ = ⟨(S ++ [40]).toArray⟩ := by
      apply ByteArray.ext; rw [ByteArray.data_append]; simp
    obtain ⟨R, hR⟩ : ∃ R, tokensD decED (S ++ [40]) = R := ⟨_, rfl⟩
    rw [hR] at hV cT1 hopen
    clear hR
    have HV := Lib.hid hV
    have hs2 : S.length ≤ 2000002 := by omega
    clear cT ed hV hsl
    go_enter Tryz.func29, Tryz.ntmps29
    go_wp2_with fail
    refine calls_keep (fun W => Keep w [(w.heap.size, #[.int .i64 k, .string ⟨S.toArray⟩, .int .i64 a])] W) (Keep.add (by apply Blk.eq; (repeat' (first | with_reducible assumption | with_reducible apply Blk.set | with_reducible apply Blk.other | (with_reducible refine Blk.new ?_; simp; done) | with_reducible apply Blk.alloc | omega)); rfl) (Keep.nil (by repeat' (first | with_reducible assumption | with_reducible exact Below.refl _ _ | with_reducible refine allocB ?_ | with_reducible refine setB ?_ ?_ | with_reducible refine drewB ?_ | with_reducible refine after ?_ (by assumption) | (simp; omega) | omega)))) ?_
    rintro w1 K
    refine (cT1 _ K.bel).mono ?_
    cases R with
    | error n =>
      rintro e w2 ⟨rfl, hb2⟩
      replace K := K.below hb2
      have hV := HV.out
      replace hV : false = V := hV
      subst hV
      have kc := gcell w2
      clear hb2
      go_wp2_with fail
      refine region_below (by kernel_rfl) (by kernel_rfl) ?_
      repeat (go_big_quiet_step (fail))
      refine wpQuiet_nil ?_
      intro w3 hb3
      have hK := (K.below hb3).bel
      go_wp2
      go_ret
      exact ⟨rfl, hK⟩
    | ok L =>
      rintro e w2 ⟨v, rfl, hown, hb2⟩
      replace K := K.below hb2
      have hrow := tokRow_of_own hown
      clear hb2 hown
      have hV := HV.out
      by_cases hlen : L.length = 2
      · obtain ⟨x, M, rfl⟩ : ∃ x M, L = x :: M := by cases L with
          | nil => simp at hlen
          | cons x M => exact ⟨x, M, rfl⟩
        obtain ⟨b, o, c, rfl, hc, hb, hcell⟩ : ∃ b o cap, v = .slice (some ⟨b, o, none⟩) (x :: M).length cap ∧ (x :: M).length ≤ cap ∧ b < w2.heap.size ∧ TokCells w2 b o (x :: M) := by
          rcases hrow with ⟨_, h⟩ | h
          · cases h
          · exact h
        obtain ⟨k0, k1, -⟩ := hcell 0 x rfl
        rw [Nat.zero_mul, Nat.add_zero] at k0 k1
        have hM1 : M.length = 1 := by simpa using hlen
        obtain ⟨x1, x2, x3⟩ := x
        rw [hlen] at hc ⊢
        dsimp only at k0 k1
        replace hV : (M.length + 1 == 2 && (x1 == k && x2 == S)) = V := hV
        rw [show (M.length + 1 == 2) = true from beq_iff_eq.2 (by simpa using hlen), Bool.true_and] at hV
        obtain ⟨fr, gr, zr⟩ := K.hd.facts
        have c0 := fr 0
        have c1 := fr 1
        clear fr gr
        simp only [List.getElem?_toArray, List.getElem?_cons_zero, List.getElem?_cons_succ] at c0 c1
        clear HV hlen
        have kc := gcell w2
        cases hA : (x1 == k)
        · rw [hA, Bool.false_and] at hV
          subst hV
          go_wp2_with fail
          refine region_below (by kernel_rfl) (by kernel_rfl) ?_
          repeat (go_big_quiet_step (fail))
          refine wpQuiet_nil ?_
          intro w3 hb3
          have hK := (K.below hb3).bel
          go_wp2
          go_ret
          exact ⟨rfl, hK⟩
        · rw [hA, Bool.true_and] at hV
          have HV := Lib.hid hV
          clear hV
          cases hB : (x2 == S)
          · have hV := HV.out
            rw [hB] at hV
            subst hV
            go_wp2_with fail
            refine region_below (by kernel_rfl) (by kernel_rfl) ?_
            repeat (go_big_quiet_step (fail))
            refine wpQuiet_nil ?_
            intro w3 hb3
            have hK := (K.below hb3).bel
            go_wp2
            go_ret
            exact ⟨rfl, hK⟩
          · have hV := HV.out
            rw [hB] at hV
            subst hV
            obtain ⟨y, rfl⟩ : ∃ y, M = [y] := by
              cases M with
              | nil => exact absurd hM1 (by simp)
              | cons y N => cases N with
                | nil => exact ⟨y, rfl⟩
                | cons z N => simp at hM1
            obtain rfl : x2 = S := by simpa using hB
            obtain ⟨y1, y2, y3⟩ := y
            obtain ⟨hy1, hy2⟩ := hopen x1 x3 _ rfl hA
            dsimp only at hy1 hy2
            subst hy1 hy2
            obtain ⟨m0, m1, m2⟩ := hcell 1 _ rfl
            rw [Nat.one_mul] at m0 m1 m2
            dsimp only at m0 m1 m2
            have cO := fun W => refOpen_any 8 [40] (y3 : Int) W
            rw [show openD 8 [40] = true from rfl] at cO
            unfold tokI at cO
            have hsz : (3 : Nat) ≤ c * 3 := by omega
            clear hcell hopen HV
            go_wp2_with fail
            refine region_below (by kernel_rfl) (by kernel_rfl) ?_
            repeat (go_big_quiet_step (exact Ret.grown (fun W _ => cO W)))
            refine wpQuiet_nil ?_
            intro w3 hb3
            have hK := (K.below hb3).bel
            go_wp2
            go_ret
            exact ⟨rfl, hK⟩
      · have hf : V = false := by
          rw [← hV]
          cases L with
          | nil => rfl
          | cons x M =>
            show (M.length + 1 == 2 && _) = false
            rw [show (M.length + 1 == 2) = false from beq_eq_false_iff_ne.2 (by simpa using hlen), Bool.false_and]
        subst hf
        have e1 : ((L.length : Int) == 2) = false := beq_eq_false_iff_ne.2 (by omega)
        obtain ⟨ao, c, rfl⟩ : ∃ ao c, v = .slice ao L.length c := by
          rcases hrow with ⟨rfl, rfl⟩ | ⟨b, o, c, rfl, _⟩
          · exact ⟨none, 0, rfl⟩
          · exact ⟨_, c, rfl⟩
        clear HV hV
        have kc := gcell w2
        go_wp2_with fail
        refine region_below (by kernel_rfl) (by kernel_rfl) ?_
        repeat (go_big_quiet_step (fail))
        refine wpQuiet_nil ?_
        intro w3 hb3
        have hK := (K.below hb3).bel
        go_wp2
        go_ret
        exact ⟨rfl, hK⟩
end Go.Proofs.YtgnejohiagagmaaGreatDoor

namespace Go.Proofs.YtgnejohiagagmaaGreatDoor
open Go.RowKit Tab

set_option maxRecDepth 100000 in
set_option maxHeartbeats 16000000 in
theorem refPrint_any (L : List TokT) (hn : L.length ≤ 1000000) (hl : ∀ x ∈ L, x.2.1.length ≤ 1000) (v : Value) (w : World) (hL : TokRowA w v L) : Calls Tryz.prog 12 #[v] w (Ret (.tuple #[strV (printD decED L).1, .int .i64 (printD decED L).2]) w) := by
  obtain ⟨ao, c1, rfl, h1⟩ : ∃ ao c, v = .slice ao L.length c ∧ (L = [] ∨ ∃ b o, ao = some ⟨b, o, none⟩ ∧ L.length ≤ c ∧ b < w.heap.size ∧ TokCellsA w b o L) := by
    rcases hL with ⟨rfl, rfl⟩ | ⟨b, o, c, rfl, h⟩
    · exact ⟨none, 0, rfl, .inl rfl⟩
    · exact ⟨_, c, rfl, .inr ⟨b, o, rfl, h⟩⟩
  clear hL
  unfold printD
  obtain ⟨R, hR⟩ : ∃ R, printF decED L none [] = R := ⟨_, rfl⟩
  rw [hR]
  have HR := Lib.hid hR
  clear hR
  have cR := fun k l hl a W => refRight_any k l hl a W
  have cO := fun k l a W => refOpen_any k l a W
  have cA := fun ka la aa kb lb ab h1 W => refApart_any ka la aa kb lb ab h1 W
  have cS := fun k l hl a W => refStands_any k l hl a W
  unfold tokI strV at *
  go_enter Tryz.func12, Tryz.ntmps12
  go_wp2_with fail
  go_loopw [4, 5] (fun s i w' => ∃ (j : Nat) (acc : Bs), i = .int .i64 (j : Int) ∧ s = .string ⟨acc.toArray⟩ ∧ j ≤ L.length ∧ acc.length ≤ 200 ∧ printF decED (L.drop j) (lastT L j) acc = R ∧ Below w.heap.size w w') (fun _ i _ => L.length - (intOf i).toNat)
  case atStart => exact ⟨0, [], rfl, rfl, by omega, by simp, HR.out, Below.refl _ _⟩
  case round =>
    clear HR
    obtain ⟨j, acc, rfl, rfl, hj, hacc, hI, hW⟩ := hrel
    have HI := Lib.hid hI
    clear hI
    by_cases hlt : j < L.length
    · rcases h1 with h1 | ⟨b, o, rfl, hc1, hb1, t1⟩
      · rw [h1] at hlt; simp at hlt
      obtain ⟨X, hX⟩ : ∃ X, L[j]? = some X := ⟨_, List.getElem?_eq_getElem hlt⟩
      have kx := t1.below hW hb1 j X hX
      have hlX := hl X (List.mem_of_getElem? hX)
      have hI := HI.out
      rw [drop_at_some L j X hX] at hI
      obtain ⟨p1, p2, p3⟩ := X
      obtain ⟨kx0, kx1, a3, kx2⟩ := kx
      dsimp only at kx0 kx1 kx2 hlX
      have ew : IntKind.i64.wrap ((j : Int) + 1) = ((j + 1 : Nat) : Int) := by rw [IntWalk.i64_in _ (by omega)]; omega
      have hzb := Nat.lt_of_lt_of_le hb1 hW.size
      have cR1 := fun W => cR p1 p2 (by omega) a3 W
      clear cR HI
      cases hA : rightD decED p1 p2
      · rw [print_bad decED _ _ _ _ (by dsimp only; rw [hA]; rfl)] at hI
        subst hI
        rw [hA] at cR1
        go_wp2_with fail
        refine (cR1 _).mono ?_; rintro e w1 ⟨rfl, hb1'⟩
        have hW1 := after hW hb1'
        clear hb1'
        go_wp2
        go_ret2
        exact ⟨rfl, hW1⟩
      · rw [hA] at cR1
        cases hB7 : (p1 == 7)
        · rw [print_good decED _ _ _ _ (by dsimp only; rw [hA, hB7]; rfl)] at hI
          have HI := Lib.hid hI
          clear hI
          go_wp2_with fail
          refine (cR1 _).mono ?_; rintro e WW ⟨rfl, hb1'⟩
          replace hW := after hW hb1'
          clear hb1' kx0 kx1 kx2 hzb cR1
          have kx := t1.below hW hb1 j _ hX
          have hzb := Nat.lt_of_lt_of_le hb1 hW.size
          obtain ⟨kx0, kx1, a6, kx2⟩ := kx
          dsimp only at kx0 kx1 kx2
          by_cases j0 : j = 0
          · have hlp : lastT L j = none := by unfold lastT; rw [if_pos j0]
            rw [hlp] at HI
            have e0 : decide (0 < j) = false := decide_eq_false (by omega)
            clear j0 hlp
            have kc := gcell WW
            go_wp2_with fail
            refine region_below (by kernel_rfl) (by kernel_rfl) ?_
            repeat (go_big_quiet_step (fail))
            refine wpQuiet_nil ?_
            intro w3 hb3
            replace hW := after hW hb3
            clear hb3 kc
            clear kx0 kx1 kx2 hzb
            have kx := t1.below hW hb1 j _ hX
            obtain ⟨kx0, kx1, a4, kx2⟩ := kx
            dsimp only at kx0 kx1 kx2
            have hzb := Nat.lt_of_lt_of_le hb1 hW.size
            have a0 : ¬ 9223372036854775807 < acc.length + 1 := by omega
            have cS1 := cS p1 p2 (by omega) a4
            go_wp2_with fail
            refine (cS1 _).mono ?_; rintro e w5 ⟨rfl, hb5⟩
            replace hW := after hW hb5
            clear hb5 kx0 kx1 kx2 hzb cS1
            obtain ⟨S, hS⟩ : ∃ S, standsD p1 p2 = S := ⟨_, rfl⟩
            have hsl : S.length ≤ 2002 := by rw [← hS]; have := stands_len p1 p2; omega
            have hI := HI.out
            replace hI : (if 200 < (acc ++ [] ++ standsD p1 p2).length then none else printF decED (L.drop (j + 1)) (some (p1, p2, p3)) (acc ++ [] ++ standsD p1 p2)) = R := hI
            rw [hS] at hI ⊢
            clear hS
            obtain ⟨N, hN⟩ : ∃ N, acc ++ [] ++ S = N := ⟨_, rfl⟩
            rw [hN] at hI
            have hNl : N.length ≤ 3000 := by rw [← hN]; simp only [List.length_append, List.length_nil]; omega
            have eN : (⟨acc.toArray⟩ : ByteArray) ++ ⟨S.toArray⟩ = ⟨N.toArray⟩ := by
              rw [← hN]
              apply ByteArray.ext
              simp [ByteArray.data_append]
            have eNs : (⟨N.toArray⟩ : ByteArray).size = N.length := by show N.toArray.size = _; simp
            have eAS : acc.length + S.length = N.length := by
              have h := congrArg List.length hN
              simp only [List.length_append, List.length_nil] at h; omega
            have hS9 : ¬ 9223372036854775807 < N.length := by omega
            clear hN
            by_cases h200 : 200 < N.length
            · rw [if_pos h200] at hI
              subst hI
              have e200 : decide (200 < (N.length : Int)) = true := decide_eq_true (by omega)
              clear HI
              go_wp2
              go_ret2
              exact ⟨rfl, hW⟩
            · rw [if_neg h200] at hI
              have e200 : decide (200 < (N.length : Int)) = false := decide_eq_false (by omega)
              have HI2 := Lib.hid hI
              clear hI HI
              go_wp2
              go_roundw
              case rel => exact ⟨j + 1, N, rfl, rfl, hlt, by omega, by rw [lastT_succ L j _ hX]; exact HI2.out, hW⟩
              case measure => simp [intOf]; omega
          · obtain ⟨m, hm⟩ : ∃ m, m + 1 = j := ⟨j - 1, by omega⟩
            obtain ⟨P, hP⟩ : ∃ P, L[m]? = some P := ⟨_, List.getElem?_eq_getElem (by omega)⟩
            have e0 : decide (0 < j) = true := decide_eq_true (by omega)
            have kp := t1.below hW hb1 m P hP
            have hlp : lastT L j = some P := by unfold lastT; rw [if_neg j0, show j - 1 = m by omega, hP]
            rw [hlp] at HI
            obtain ⟨q1, q2, q3⟩ := P
            obtain ⟨kp0, kp1, b3, kp2⟩ := kp
            dsimp only at kp0 kp1 kp2
            have ej : IntKind.i64.wrap ((j : Int) - 1) = (m : Int) := by rw [IntWalk.i64_in _ (by omega)]; omega
            have hj1 : (m : Int) < (L.length : Int) := by omega
            have hj2 : (j : Int) < (L.length : Int) := by omega
            have hI := HI.out
            replace hI : (if 200 < (acc ++ (if apartD q1 q2 p1 p2 then [32] else []) ++ standsD p1 p2).length then none else printF decED (L.drop (j + 1)) (some (p1, p2, p3)) (acc ++ (if apartD q1 q2 p1 p2 then [32] else []) ++ standsD p1 p2)) = R := hI
            have cA1 := fun W => cA q1 q2 b3 p1 p2 a6 (fun h => right_sign decED p2 (by rw [← h]; exact hA)) W
            obtain ⟨G, hG⟩ : ∃ G, apartD q1 q2 p1 p2 = G := ⟨_, rfl⟩
            rw [hG] at hI cA1
            have HI := Lib.hid hI
            clear hI hG hlp hP hm
            cases G
            ·
              have kc := gcell WW
              go_wp2_with fail
              refine region_below (by kernel_rfl) (by kernel_rfl) ?_
              repeat (go_big_quiet_step (exact Ret.grown (fun W _ => cA1 W)))
              refine wpQuiet_nil ?_
              intro w3 hb3
              replace hW := after hW hb3
              clear hb3 kc
              clear kp0 kp1 kp2 kx0 kx1 kx2 hzb hj1 hj2
              have kx := t1.below hW hb1 j _ hX
              obtain ⟨kx0, kx1, a4, kx2⟩ := kx
              dsimp only at kx0 kx1 kx2
              have hzb := Nat.lt_of_lt_of_le hb1 hW.size
              have a0 : ¬ 9223372036854775807 < acc.length + 1 := by omega
              have cS1 := cS p1 p2 (by omega) a4
              go_wp2_with fail
              refine (cS1 _).mono ?_; rintro e w5 ⟨rfl, hb5⟩
              replace hW := after hW hb5
              clear hb5 kx0 kx1 kx2 hzb cS1
              obtain ⟨S, hS⟩ : ∃ S, standsD p1 p2 = S := ⟨_, rfl⟩
              have hsl : S.length ≤ 2002 := by rw [← hS]; have := stands_len p1 p2; omega
              have hI := HI.out
              replace hI : (if 200 < (acc ++ [] ++ standsD p1 p2).length then none else printF decED (L.drop (j + 1)) (some (p1, p2, p3)) (acc ++ [] ++ standsD p1 p2)) = R := hI
              rw [hS] at hI ⊢
              clear hS
              obtain ⟨N, hN⟩ : ∃ N, acc ++ [] ++ S = N := ⟨_, rfl⟩
              rw [hN] at hI
              have hNl : N.length ≤ 3000 := by rw [← hN]; simp only [List.length_append, List.length_nil]; omega
              have eN : (⟨acc.toArray⟩ : ByteArray) ++ ⟨S.toArray⟩ = ⟨N.toArray⟩ := by
                rw [← hN]
                apply ByteArray.ext
                simp [ByteArray.data_append]
              have eNs : (⟨N.toArray⟩ : ByteArray).size = N.length := by show N.toArray.size = _; simp
              have eAS : acc.length + S.length = N.length := by
                have h := congrArg List.length hN
                simp only [List.length_append, List.length_nil] at h; omega
              have hS9 : ¬ 9223372036854775807 < N.length := by omega
              clear hN
              by_cases h200 : 200 < N.length
              · rw [if_pos h200] at hI
                subst hI
                have e200 : decide (200 < (N.length : Int)) = true := decide_eq_true (by omega)
                clear HI
                go_wp2
                go_ret2
                exact ⟨rfl, hW⟩
              · rw [if_neg h200] at hI
                have e200 : decide (200 < (N.length : Int)) = false := decide_eq_false (by omega)
                have HI2 := Lib.hid hI
                clear hI HI
                go_wp2
                go_roundw
                case rel => exact ⟨j + 1, N, rfl, rfl, hlt, by omega, by rw [lastT_succ L j _ hX]; exact HI2.out, hW⟩
                case measure => simp [intOf]; omega
            ·
              have kc := gcell WW
              go_wp2_with fail
              refine region_below (by kernel_rfl) (by kernel_rfl) ?_
              repeat (go_big_quiet_step (exact Ret.grown (fun W _ => cA1 W)))
              refine wpQuiet_nil ?_
              intro w3 hb3
              replace hW := after hW hb3
              clear hb3 kc
              clear kp0 kp1 kp2 kx0 kx1 kx2 hzb hj1 hj2
              have a32 : ¬ 9223372036854775807 < acc.length + 1 + 2002 := by omega
              have kx := t1.below hW hb1 j _ hX
              obtain ⟨kx0, kx1, a4, kx2⟩ := kx
              dsimp only at kx0 kx1 kx2
              have hzb := Nat.lt_of_lt_of_le hb1 hW.size
              have a0 : ¬ 9223372036854775807 < acc.length + 1 := by omega
              have cS1 := cS p1 p2 (by omega) a4
              go_wp2_with fail
              refine (cS1 _).mono ?_; rintro e w5 ⟨rfl, hb5⟩
              replace hW := after hW hb5
              clear hb5 kx0 kx1 kx2 hzb cS1
              obtain ⟨S, hS⟩ : ∃ S, standsD p1 p2 = S := ⟨_, rfl⟩
              have hsl : S.length ≤ 2002 := by rw [← hS]; have := stands_len p1 p2; omega
              have hI := HI.out
              replace hI : (if 200 < (acc ++ [32] ++ standsD p1 p2).length then none else printF decED (L.drop (j + 1)) (some (p1, p2, p3)) (acc ++ [32] ++ standsD p1 p2)) = R := hI
              rw [hS] at hI ⊢
              clear hS
              obtain ⟨N, hN⟩ : ∃ N, acc ++ [32] ++ S = N := ⟨_, rfl⟩
              rw [hN] at hI
              have hNl : N.length ≤ 3000 := by rw [← hN]; simp only [List.length_append, List.length_cons, List.length_nil]; omega
              have eN : (⟨acc.toArray⟩ : ByteArray) ++ ⟨#[32]⟩ ++ ⟨S.toArray⟩ = ⟨N.toArray⟩ := by
                rw [← hN]
                apply ByteArray.ext
                simp [ByteArray.data_append]
              have eNs : (⟨N.toArray⟩ : ByteArray).size = N.length := by show N.toArray.size = _; simp
              have eAS : acc.length + 1 + S.length = N.length := by
                have h := congrArg List.length hN
                simp only [List.length_append, List.length_cons, List.length_nil] at h; omega
              have hS9 : ¬ 9223372036854775807 < N.length := by omega
              clear hN
              by_cases h200 : 200 < N.length
              · rw [if_pos h200] at hI
                subst hI
                have e200 : decide (200 < (N.length : Int)) = true := decide_eq_true (by omega)
                clear HI
                go_wp2
                go_ret2
                exact ⟨rfl, hW⟩
              · rw [if_neg h200] at hI
                have e200 : decide (200 < (N.length : Int)) = false := decide_eq_false (by omega)
                have HI2 := Lib.hid hI
                clear hI HI
                go_wp2
                go_roundw
                case rel => exact ⟨j + 1, N, rfl, rfl, hlt, by omega, by rw [lastT_succ L j _ hX]; exact HI2.out, hW⟩
                case measure => simp [intOf]; omega
        · by_cases hla : j + 1 < L.length
          · obtain ⟨Y, hY⟩ : ∃ Y, L[j + 1]? = some Y := ⟨_, List.getElem?_eq_getElem hla⟩
            have hd : openHd (L.drop (j + 1)) = openD Y.1 Y.2.1 := by rw [drop_at_some L (j + 1) Y hY]; rfl
            have el1 : (((j + 1 : Nat) : Int) == (L.length : Int)) = false := beq_eq_false_iff_ne.2 (by omega)
            have el2 : ((j : Int) + 1 == (L.length : Int)) = false := beq_eq_false_iff_ne.2 (by omega)
            cases hO : openD Y.1 Y.2.1
            · rw [print_bad decED _ _ _ _ (by dsimp only; rw [hA, hB7, hd, hO]; rfl)] at hI
              subst hI
              go_wp2_with fail
              refine (cR1 _).mono ?_; rintro e w1 ⟨rfl, hb1'⟩
              replace hW := after hW hb1'
              clear hb1' kx0 kx1 kx2 hzb cR1
              have kx := t1.below hW hb1 j _ hX
              have hzb := Nat.lt_of_lt_of_le hb1 hW.size
              obtain ⟨kx0, kx1, a6, kx2⟩ := kx
              dsimp only at kx0 kx1 kx2
              have ky := t1.below hW hb1 (j + 1) Y hY
              obtain ⟨y1, y2, y3⟩ := Y
              obtain ⟨ky0, ky1, c3, ky2⟩ := ky
              dsimp only at ky0 ky1 ky2 hO
              have cO1 := fun W => cO y1 y2 c3 W
              rw [hO] at cO1
              clear hX hY hd
              go_wp2_with fail
              refine (cO1 _).mono ?_; rintro e w2 ⟨rfl, hb2⟩
              have hW2 := after hW hb2
              clear hb2
              go_wp2
              go_ret2
              exact ⟨rfl, hW2⟩
            · rw [print_good decED _ _ _ _ (by dsimp only; rw [hA, hB7, hd, hO]; rfl)] at hI
              have HI := Lib.hid hI
              clear hI
              go_wp2_with fail
              refine (cR1 _).mono ?_; rintro e w1 ⟨rfl, hb1'⟩
              replace hW := after hW hb1'
              clear hb1' kx0 kx1 kx2 hzb cR1
              have kx := t1.below hW hb1 j _ hX
              have hzb := Nat.lt_of_lt_of_le hb1 hW.size
              obtain ⟨kx0, kx1, a6, kx2⟩ := kx
              dsimp only at kx0 kx1 kx2
              have ky := t1.below hW hb1 (j + 1) Y hY
              obtain ⟨y1, y2, y3⟩ := Y
              obtain ⟨ky0, ky1, c3, ky2⟩ := ky
              dsimp only at ky0 ky1 ky2 hO
              have cO1 := fun W => cO y1 y2 c3 W
              rw [hO] at cO1
              clear hY hd
              go_wp2_with fail
              refine (cO1 _).mono ?_; rintro e WW ⟨rfl, hb2⟩
              replace hW := after hW hb2
              clear hb2 hzb ky0 ky1 ky2 kx0 kx1 kx2 cO1 hO
              have kx := t1.below hW hb1 j _ hX
              have hzb := Nat.lt_of_lt_of_le hb1 hW.size
              obtain ⟨kx0, kx1, a6, kx2⟩ := kx
              dsimp only at kx0 kx1 kx2
              by_cases j0 : j = 0
              · have hlp : lastT L j = none := by unfold lastT; rw [if_pos j0]
                rw [hlp] at HI
                have e0 : decide (0 < j) = false := decide_eq_false (by omega)
                clear j0 hlp
                have kc := gcell WW
                go_wp2_with fail
                refine region_below (by kernel_rfl) (by kernel_rfl) ?_
                repeat (go_big_quiet_step (fail))
                refine wpQuiet_nil ?_
                intro w3 hb3
                replace hW := after hW hb3
                clear hb3 kc
                clear kx0 kx1 kx2 hzb
                have kx := t1.below hW hb1 j _ hX
                obtain ⟨kx0, kx1, a4, kx2⟩ := kx
                dsimp only at kx0 kx1 kx2
                have hzb := Nat.lt_of_lt_of_le hb1 hW.size
                have a0 : ¬ 9223372036854775807 < acc.length + 1 := by omega
                have cS1 := cS p1 p2 (by omega) a4
                go_wp2_with fail
                refine (cS1 _).mono ?_; rintro e w5 ⟨rfl, hb5⟩
                replace hW := after hW hb5
                clear hb5 kx0 kx1 kx2 hzb cS1
                obtain ⟨S, hS⟩ : ∃ S, standsD p1 p2 = S := ⟨_, rfl⟩
                have hsl : S.length ≤ 2002 := by rw [← hS]; have := stands_len p1 p2; omega
                have hI := HI.out
                replace hI : (if 200 < (acc ++ [] ++ standsD p1 p2).length then none else printF decED (L.drop (j + 1)) (some (p1, p2, p3)) (acc ++ [] ++ standsD p1 p2)) = R := hI
                rw [hS] at hI ⊢
                clear hS
                obtain ⟨N, hN⟩ : ∃ N, acc ++ [] ++ S = N := ⟨_, rfl⟩
                rw [hN] at hI
                have hNl : N.length ≤ 3000 := by rw [← hN]; simp only [List.length_append, List.length_nil]; omega
                have eN : (⟨acc.toArray⟩ : ByteArray) ++ ⟨S.toArray⟩ = ⟨N.toArray⟩ := by
                  rw [← hN]
                  apply ByteArray.ext
                  simp [ByteArray.data_append]
                have eNs : (⟨N.toArray⟩ : ByteArray).size = N.length := by show N.toArray.size = _; simp
                have eAS : acc.length + S.length = N.length := by
                  have h := congrArg List.length hN
                  simp only [List.length_append, List.length_nil] at h; omega
                have hS9 : ¬ 9223372036854775807 < N.length := by omega
                clear hN
                by_cases h200 : 200 < N.length
                · rw [if_pos h200] at hI
                  subst hI
                  have e200 : decide (200 < (N.length : Int)) = true := decide_eq_true (by omega)
                  clear HI
                  go_wp2
                  go_ret2
                  exact ⟨rfl, hW⟩
                · rw [if_neg h200] at hI
                  have e200 : decide (200 < (N.length : Int)) = false := decide_eq_false (by omega)
                  have HI2 := Lib.hid hI
                  clear hI HI
                  go_wp2
                  go_roundw
                  case rel => exact ⟨j + 1, N, rfl, rfl, hlt, by omega, by rw [lastT_succ L j _ hX]; exact HI2.out, hW⟩
                  case measure => simp [intOf]; omega
              · obtain ⟨m, hm⟩ : ∃ m, m + 1 = j := ⟨j - 1, by omega⟩
                obtain ⟨P, hP⟩ : ∃ P, L[m]? = some P := ⟨_, List.getElem?_eq_getElem (by omega)⟩
                have e0 : decide (0 < j) = true := decide_eq_true (by omega)
                have kp := t1.below hW hb1 m P hP
                have hlp : lastT L j = some P := by unfold lastT; rw [if_neg j0, show j - 1 = m by omega, hP]
                rw [hlp] at HI
                obtain ⟨q1, q2, q3⟩ := P
                obtain ⟨kp0, kp1, b3, kp2⟩ := kp
                dsimp only at kp0 kp1 kp2
                have ej : IntKind.i64.wrap ((j : Int) - 1) = (m : Int) := by rw [IntWalk.i64_in _ (by omega)]; omega
                have hj1 : (m : Int) < (L.length : Int) := by omega
                have hj2 : (j : Int) < (L.length : Int) := by omega
                have hI := HI.out
                replace hI : (if 200 < (acc ++ (if apartD q1 q2 p1 p2 then [32] else []) ++ standsD p1 p2).length then none else printF decED (L.drop (j + 1)) (some (p1, p2, p3)) (acc ++ (if apartD q1 q2 p1 p2 then [32] else []) ++ standsD p1 p2)) = R := hI
                have cA1 := fun W => cA q1 q2 b3 p1 p2 a6 (fun h => right_sign decED p2 (by rw [← h]; exact hA)) W
                obtain ⟨G, hG⟩ : ∃ G, apartD q1 q2 p1 p2 = G := ⟨_, rfl⟩
                rw [hG] at hI cA1
                have HI := Lib.hid hI
                clear hI hG hlp hP hm
                cases G
                ·
                  have kc := gcell WW
                  go_wp2_with fail
                  refine region_below (by kernel_rfl) (by kernel_rfl) ?_
                  repeat (go_big_quiet_step (exact Ret.grown (fun W _ => cA1 W)))
                  refine wpQuiet_nil ?_
                  intro w3 hb3
                  replace hW := after hW hb3
                  clear hb3 kc
                  clear kp0 kp1 kp2 kx0 kx1 kx2 hzb hj1 hj2
                  have kx := t1.below hW hb1 j _ hX
                  obtain ⟨kx0, kx1, a4, kx2⟩ := kx
                  dsimp only at kx0 kx1 kx2
                  have hzb := Nat.lt_of_lt_of_le hb1 hW.size
                  have a0 : ¬ 9223372036854775807 < acc.length + 1 := by omega
                  have cS1 := cS p1 p2 (by omega) a4
                  go_wp2_with fail
                  refine (cS1 _).mono ?_; rintro e w5 ⟨rfl, hb5⟩
                  replace hW := after hW hb5
                  clear hb5 kx0 kx1 kx2 hzb cS1
                  obtain ⟨S, hS⟩ : ∃ S, standsD p1 p2 = S := ⟨_, rfl⟩
                  have hsl : S.length ≤ 2002 := by rw [← hS]; have := stands_len p1 p2; omega
                  have hI := HI.out
                  replace hI : (if 200 < (acc ++ [] ++ standsD p1 p2).length then none else printF decED (L.drop (j + 1)) (some (p1, p2, p3)) (acc ++ [] ++ standsD p1 p2)) = R := hI
                  rw [hS] at hI ⊢
                  clear hS
                  obtain ⟨N, hN⟩ : ∃ N, acc ++ [] ++ S = N := ⟨_, rfl⟩
                  rw [hN] at hI
                  have hNl : N.length ≤ 3000 := by rw [← hN]; simp only [List.length_append, List.length_nil]; omega
                  have eN : (⟨acc.toArray⟩ : ByteArray) ++ ⟨S.toArray⟩ = ⟨N.toArray⟩ := by
                    rw [← hN]
                    apply ByteArray.ext
                    simp [ByteArray.data_append]
                  have eNs : (⟨N.toArray⟩ : ByteArray).size = N.length := by show N.toArray.size = _; simp
                  have eAS : acc.length + S.length = N.length := by
                    have h := congrArg List.length hN
                    simp only [List.length_append, List.length_nil] at h; omega
                  have hS9 : ¬ 9223372036854775807 < N.length := by omega
                  clear hN
                  by_cases h200 : 200 < N.length
                  · rw [if_pos h200] at hI
                    subst hI
                    have e200 : decide (200 < (N.length : Int)) = true := decide_eq_true (by omega)
                    clear HI
                    go_wp2
                    go_ret2
                    exact ⟨rfl, hW⟩
                  · rw [if_neg h200] at hI
                    have e200 : decide (200 < (N.length : Int)) = false := decide_eq_false (by omega)
                    have HI2 := Lib.hid hI
                    clear hI HI
                    go_wp2
                    go_roundw
                    case rel => exact ⟨j + 1, N, rfl, rfl, hlt, by omega, by rw [lastT_succ L j _ hX]; exact HI2.out, hW⟩
                    case measure => simp [intOf]; omega
                ·
                  have kc := gcell WW
                  go_wp2_with fail
                  refine region_below (by kernel_rfl) (by kernel_rfl) ?_
                  repeat (go_big_quiet_step (exact Ret.grown (fun W _ => cA1 W)))
                  refine wpQuiet_nil ?_
                  intro w3 hb3
                  replace hW := after hW hb3
                  clear hb3 kc
                  clear kp0 kp1 kp2 kx0 kx1 kx2 hzb hj1 hj2
                  have a32 : ¬ 9223372036854775807 < acc.length + 1 + 2002 := by omega
                  have kx := t1.below hW hb1 j _ hX
                  obtain ⟨kx0, kx1, a4, kx2⟩ := kx
                  dsimp only at kx0 kx1 kx2
                  have hzb := Nat.lt_of_lt_of_le hb1 hW.size
                  have a0 : ¬ 9223372036854775807 < acc.length + 1 := by omega
                  have cS1 := cS p1 p2 (by omega) a4
                  go_wp2_with fail
                  refine (cS1 _).mono ?_; rintro e w5 ⟨rfl, hb5⟩
                  replace hW := after hW hb5
                  clear hb5 kx0 kx1 kx2 hzb cS1
                  obtain ⟨S, hS⟩ : ∃ S, standsD p1 p2 = S := ⟨_, rfl⟩
                  have hsl : S.length ≤ 2002 := by rw [← hS]; have := stands_len p1 p2; omega
                  have hI := HI.out
                  replace hI : (if 200 < (acc ++ [32] ++ standsD p1 p2).length then none else printF decED (L.drop (j + 1)) (some (p1, p2, p3)) (acc ++ [32] ++ standsD p1 p2)) = R := hI
                  rw [hS] at hI ⊢
                  clear hS
                  obtain ⟨N, hN⟩ : ∃ N, acc ++ [32] ++ S = N := ⟨_, rfl⟩
                  rw [hN] at hI
                  have hNl : N.length ≤ 3000 := by rw [← hN]; simp only [List.length_append, List.length_cons, List.length_nil]; omega
                  have eN : (⟨acc.toArray⟩ : ByteArray) ++ ⟨#[32]⟩ ++ ⟨S.toArray⟩ = ⟨N.toArray⟩ := by
                    rw [← hN]
                    apply ByteArray.ext
                    simp [ByteArray.data_append]
                  have eNs : (⟨N.toArray⟩ : ByteArray).size = N.length := by show N.toArray.size = _; simp
                  have eAS : acc.length + 1 + S.length = N.length := by
                    have h := congrArg List.length hN
                    simp only [List.length_append, List.length_cons, List.length_nil] at h; omega
                  have hS9 : ¬ 9223372036854775807 < N.length := by omega
                  clear hN
                  by_cases h200 : 200 < N.length
                  · rw [if_pos h200] at hI
                    subst hI
                    have e200 : decide (200 < (N.length : Int)) = true := decide_eq_true (by omega)
                    clear HI
                    go_wp2
                    go_ret2
                    exact ⟨rfl, hW⟩
                  · rw [if_neg h200] at hI
                    have e200 : decide (200 < (N.length : Int)) = false := decide_eq_false (by omega)
                    have HI2 := Lib.hid hI
                    clear hI HI
                    go_wp2
                    go_roundw
                    case rel => exact ⟨j + 1, N, rfl, rfl, hlt, by omega, by rw [lastT_succ L j _ hX]; exact HI2.out, hW⟩
                    case measure => simp [intOf]; omega
          · have hd : L.drop (j + 1) = [] := List.drop_eq_nil_of_le (by omega)
            rw [print_bad decED _ _ _ _ (by dsimp only; rw [hA, hB7, hd]; rfl)] at hI
            subst hI
            have el1 : (((j + 1 : Nat) : Int) == (L.length : Int)) = true := beq_iff_eq.2 (by omega)
            have el2 : ((j : Int) + 1 == (L.length : Int)) = true := beq_iff_eq.2 (by omega)
            go_wp2_with fail
            refine (cR1 _).mono ?_; rintro e w1 ⟨rfl, hb1'⟩
            replace hW := after hW hb1'
            clear hb1' kx0 kx1 kx2 hzb cR1
            have kx := t1.below hW hb1 j _ hX
            have hzb := Nat.lt_of_lt_of_le hb1 hW.size
            obtain ⟨kx0, kx1, a6, kx2⟩ := kx
            dsimp only at kx0 kx1 kx2
            go_wp2
            go_ret2
            exact ⟨rfl, hW⟩
    · have hI := HI.out
      have hjL : j = L.length := by omega
      subst hjL
      rw [List.drop_length] at hI
      replace hI : some acc = R := hI
      subst hI
      go_wp2
      go_ret2
      exact ⟨rfl, hW⟩
end Go.Proofs.YtgnejohiagagmaaGreatDoor
