/- The walk of tabulalaw04.LexKinds. -/
import Derived.Test.YtgnejohiagagmaaGreatDoorG15
import Derived.Test.YtgnejohiagagmaaGreatDoorG17
import Derived.Test.YtgnejohiagagmaaGreatDoorG14
namespace Tab
theorem kind_range {decE : Bs → Int} {l S : Bs} {k : Int} {n : Nat} (h : PieceOk decE l k S n) : 1 ≤ k ∧ k ≤ 9 := by cases h <;> decide
theorem sign_len : ∀ x ∈ signsB, x.length = 1 ∨ x.length = 2 := by decide
theorem fault_first : ∀ x ∈ faultsB, ∃ t, x = 35 :: t := by
  intro x hx
  unfold faultsB at hx
  simp only [List.mem_cons, List.not_mem_nil, or_false] at hx
  rcases hx with rfl | rfl | rfl | rfl | rfl | rfl | rfl | rfl | rfl <;> exact ⟨_, rfl⟩
end Tab
namespace Go.Proofs.YtgnejohiagagmaaGreatDoor
open Go.RowKit Tab
theorem first_at (c : UInt8) (t : Bs) : (⟨(c :: t).toArray⟩ : ByteArray)[0]'(by show 0 < (c :: t).toArray.size; simp) = c := rfl

theorem wp_then_self {P : Program} {c : Code} {Q : Exit → Act → World → Prop} {a : Act} {w : World} (h : ∀ K : Act → World → Prop, (∀ a w, Q .normal a w → K a w) → c.wp P (Exit.then K Q) a w) : c.wp P Q a w := by
  have h1 := h (fun a w => Q .normal a w) (fun _ _ h => h)
  have e : Exit.then (fun a w => Q .normal a w) Q = Q := by funext e a w; cases e <;> rfl
  rwa [e] at h1

set_option maxRecDepth 100000 in
set_option maxHeartbeats 32000000 in
theorem kinds_walk (s : ByteArray) (m : Nat) (hm : m ≤ 100) (hm' : m ≤ s.size) (hmin : min (s.size : Int) 100 = (m : Int)) (_hs : s.size ≤ 9223372036854775807) (w : World) (hg : Good w) (hwd : Words w) : Calls Tryz.prog 7 #[.string s] w (Ret (.bool true) w) := by
  have cE := examples_any w hg hwd
  have cT : ∀ (s : ByteArray) (W : World), Below w.heap.size w W → s.size ≤ 1000 → Calls Tryz.prog 17 #[.string s] W (Toks (tokensD decED s.data.toList) W) := fun s W hb hs => Tokens_any decED decIs s W (hg.below hb) (hwd.below hb) (by omega)
  have cI : ∀ (s : ByteArray) (W : World), Below w.heap.size w W → s.size ≤ 1000 → Calls Tryz.prog 14 #[.string s] W (Ret (.bool (isNameD s.data.toList)) W) := fun s W hb hs => isName_any s W (hg.below hb) (by omega)
  have cD : ∀ (s : ByteArray) (W : World), Below w.heap.size w W → s.size ≤ 1000 → Calls Tryz.prog 19 #[.string s] W (Ret (.tuple #[decV (decReadD s.data.toList).1, .int .i64 (decReadD s.data.toList).2]) W) := fun s W hb hs => decRead_any s (by omega) W (hg.below hb)
  have cR : ∀ (s : ByteArray) (W : World), Below w.heap.size w W → s.size ≤ 1000 → Calls Tryz.prog 20 #[.string s] W (Ret (.tuple #[refV (readD s).1, .int .i64 (readD s).2]) W) := fun s W hb hs => Read_any s W (hg.below hb) (by omega)
  obtain ⟨A, hA⟩ : ∃ A, s.extract 0 m = A := ⟨_, rfl⟩
  have hAs : A.size = m := by rw [← hA, ByteArray.size_extract]; omega
  go_enter Tryz.func7, Tryz.ntmps7
  go_wp2_with fail
  refine cE.mono ?_; rintro e w1 ⟨rfl, hW⟩
  clear cE
  go_wp2_with fail
  have hl : A.data.toList.length = A.size := rfl
  have cT1 := cT A w1 hW (by omega)
  rw [tokens_told decED _ (by omega)] at cT1
  refine cT1.mono ?_
  clear cT1 cT
  cases ht : toldD decED A.data.toList with
  | error n =>
    rintro e w2 ⟨rfl, hb2⟩
    replace hW := after hW hb2
    clear hb2 ht hA hmin cI cD cR
    go_wp2_with fail
    go_loopw [7] (fun i w' => i = .int .i64 0 ∧ w2 = w') (fun _ _ => 0)
    case atStart => exact ⟨rfl, rfl⟩
    case round =>
      obtain ⟨rfl, rfl⟩ := hrel
      go_wp2
      go_ret
      exact ⟨rfl, hW⟩
  | ok L =>
    rintro e w2 ⟨v, rfl, hown, hb2⟩
    have hst := told_stand decED _ _ 0 L (by omega) ht
    have hcnt : L.length ≤ 100 := by rcases stand_count hst with h | h <;> omega
    have hrow := tokRow_of_own hown
    replace hW := after hW hb2
    clear hown hb2 ht hmin hA
    obtain ⟨ao, c1, rfl, h1⟩ : ∃ ao c, v = .slice ao L.length c ∧ (L = [] ∨ ∃ b o, ao = some ⟨b, o, none⟩ ∧ L.length ≤ c ∧ b < w2.heap.size ∧ TokCells w2 b o L) := by
      rcases hrow with ⟨rfl, rfl⟩ | ⟨b, o, c, rfl, h⟩
      · exact ⟨none, 0, rfl, .inl rfl⟩
      · exact ⟨_, c, rfl, .inr ⟨b, o, rfl, h⟩⟩
    clear hrow
    have HS := Lib.hid hst
    clear hst
    go_wp2_with fail
    go_loopw [7] (fun i w' => ∃ (e j : Nat), i = .int .i64 (j : Int) ∧ j ≤ L.length ∧ Stand decED A.data.toList e (L.drop j) ∧ Below w2.heap.size w2 w') (fun i _ => L.length - (intOf i).toNat)
    case atStart => exact ⟨0, 0, rfl, by omega, HS.out, Below.refl _ _⟩
    case round =>
      clear HS
      obtain ⟨e, j, rfl, hj, hI, hB⟩ := hrel
      have HI := Lib.hid hI
      clear hI
      have hWr := after hW hB
      by_cases hlt : j < L.length
      · rcases h1 with h1 | ⟨b, o, rfl, hc1, hb1, t1⟩
        · rw [h1] at hlt; simp at hlt
        obtain ⟨X, hX⟩ : ∃ X, L[j]? = some X := ⟨_, List.getElem?_eq_getElem hlt⟩
        have kx := t1.below hB hb1 j X hX
        have hI := HI.out
        rw [drop_at_some L j X hX] at hI
        obtain ⟨p1, p2, p3⟩ := X
        obtain ⟨kx0, kx1, kx2⟩ := kx
        dsimp only at kx0 kx1 kx2
        have hzb := Nat.lt_of_lt_of_le hb1 hB.size
        obtain ⟨n, -, hi2, -, -, hx, ⟨hn1, hn2⟩, hL⟩ := stand_inv hI
        rw [hl] at hi2 hn2
        have hok := next_ok decED _ _ hx
        have hbd := next_bound decED _ _ _ _ hx
        rw [List.length_drop, hl] at hbd
        dsimp only at hok
        have HL := Lib.hid hL
        have hsz : (⟨p2.toArray⟩ : ByteArray).size = p2.length := by show p2.toArray.size = _; simp
        have hcl : ∀ M, p1 = 7 → L.drop (j + 1) = M → ∃ N, M = (8, [40], p3 + p2.length) :: N := fun M h7 hM => by
          subst h7
          rw [← hM]
          exact call_next hI
        clear HI hI hL hx
        have cD1 := fun W hb => cD ⟨p2.toArray⟩ W hb (by omega)
        have cR1 := fun W hb => cR ⟨p2.toArray⟩ W hb (by omega)
        have cI1 := fun W hb => cI ⟨p2.toArray⟩ W hb (by omega)
        have ed : (⟨p2.toArray⟩ : ByteArray).data.toList = p2 := rfl
        rw [ed] at cD1 cI1
        clear cD cR cI ed
        obtain ⟨D, hD⟩ : ∃ D, decReadD p2 = D := ⟨_, rfl⟩
        have hDE : decED p2 = D.2 := by unfold decED; rw [hD]
        rw [hD] at cD1
        clear hD
        obtain ⟨Q, hQ⟩ : ∃ Q, readD ⟨p2.toArray⟩ = Q := ⟨_, rfl⟩
        have hQE : isRefD p2 = (Q.2 == 0) := by unfold isRefD; rw [hQ]
        rw [hQ] at cR1
        clear hQ
        obtain ⟨N, hN⟩ : ∃ N, isNameD p2 = N := ⟨_, rfl⟩
        rw [hN] at cI1
        obtain ⟨⟨d1, d2⟩, d3⟩ := D
        obtain ⟨⟨q1, q2, q3, q4, q5, q6⟩, q7⟩ := Q
        unfold decV at cD1
        unfold refV at cR1
        dsimp only at cD1 cR1 hDE hQE
        go_wp2_with fail
        refine (cD1 _ hWr).mono ?_; rintro e w3 ⟨rfl, hb3⟩
        have hB3 := after hB hb3
        have hW3 := after hW hB3
        have ky := t1.below hB3 hb1 j _ hX
        obtain ⟨ky0, ky1, ky2⟩ := ky
        dsimp only at ky0 ky1 ky2
        have hz3 := Nat.lt_of_lt_of_le hb1 hB3.size
        clear hb3 kx0 kx1 kx2
        go_wp2_with fail
        refine (cR1 _ (allocB hW3)).mono ?_; rintro e w4 ⟨rfl, hb4⟩
        have hB4 := after (allocB hB3) hb4
        have hW4 := after hW hB4
        have kz := t1.below hB4 hb1 j _ hX
        obtain ⟨kz0, kz1, kz2⟩ := kz
        dsimp only at kz0 kz1 kz2
        have hz4 := Nat.lt_of_lt_of_le hb1 hB4.size
        clear hb4 ky0 ky1 ky2
        go_wp2_with fail
        refine (cI1 _ (allocB hW4)).mono ?_; rintro e w5 ⟨rfl, hb5⟩
        have hB5 := after (allocB hB4) hb5
        have kf := t1.below hB5 hb1 j _ hX
        obtain ⟨kf0, kf1, kf2⟩ := kf
        dsimp only at kf0 kf1 kf2
        have hz5 := Nat.lt_of_lt_of_le hb1 hB5.size
        clear hb5 kz0 kz1 kz2 cD1 cR1 cI1 hW3 hW4 hB3 hB4 hz3 hz4
        obtain ⟨hp1, hp9⟩ := kind_range hok
        go_upto_if 62 with fail
        refine wp_then_self ?_
        intro KK hKK
        go_cut [13] from 231 (fun c wx => c = .bool true ∧ Below w2.heap.size w2 wx)
        case rest =>
          as_aux_lemma =>
            obtain ⟨rfl, hB6⟩ := hcut
            have kg := t1.below hB6 hb1 j _ hX
            obtain ⟨kg0, kg1, kg2⟩ := kg
            dsimp only at kg0 kg1 kg2
            have hz6 := Nat.lt_of_lt_of_le hb1 hB6.size
            have ew : IntKind.i64.wrap ((j : Int) + 1) = ((j + 1 : Nat) : Int) := by rw [IntWalk.i64_in _ (by omega)]; omega
            have el1 : decide (p1 < 1) = false := decide_eq_false (by omega)
            have el9 : decide (9 < p1) = false := decide_eq_false (by omega)
            clear kf0 kf1 kf2 hDE hQE hN hcl hok hp1 hp9
            refine hKK _ _ ?_
            clear hKK
            go_wp2
            go_roundw
            case rel => exact ⟨_, j + 1, rfl, hlt, HL.out, hB6⟩
            case measure => simp [intOf]; omega
        case first =>
          clear hp1 hp9 hKK
          have ew : IntKind.i64.wrap ((j : Int) + 1) = ((j + 1 : Nat) : Int) := by rw [IntWalk.i64_in _ (by omega)]; omega
          cases hok with
          | num _ h hS hd h1 =>
            as_aux_lemma =>
              obtain ⟨t, ht⟩ := num_head _ hd
              rw [← hS] at ht
              have hc := hd
              generalize ((A.data.toList.drop p3).getD 0 0) = c at ht hc
              have e3 : d3 = 0 := by rw [← hDE]; exact h
              have hc45 : ((c.toNat : Int) != 45) = true := by
                rw [bne_iff_ne]
                intro e
                have : c.toNat = 45 := by omega
                rw [this] at hc; revert hc; decide
              subst e3
              subst ht
              have ei := first_at c t
              clear hDE hQE hN hS hc hd h hcl
              go_wp2
              go_meet
              case rel => exact ⟨rfl, hB5⟩
          | text _ _ h1 =>
            as_aux_lemma =>
              clear hDE hQE hN hcl
              go_wp2
              go_meet
              case rel => exact ⟨rfl, hB5⟩
          | truth _ h =>
            as_aux_lemma =>
              clear hDE hQE hN hcl
              rcases h with rfl | rfl
              all_goals (
                go_wp2
                go_meet
                case rel => exact ⟨rfl, hB5⟩)
          | fault _ h ht =>
            as_aux_lemma =>
              obtain ⟨t, rfl⟩ := fault_first _ h
              have ei := first_at 35 t
              have hne : (t == [82, 69, 70, 33]) = false := by rw [beq_eq_false_iff_ne]; intro e; exact ht (by rw [e]; rfl)
              clear hDE hQE hN hcl h ht
              go_wp2
              go_meet
              case rel => exact ⟨rfl, hB5⟩
          | ref _ h h1 =>
            rw [h] at hQE
            have e7 : q7 = 0 := by simpa using hQE.symm
            subst e7
            clear hDE hQE hN hcl
            go_wp2
            go_meet
            case rel => exact ⟨rfl, hB5⟩
          | name _ h h1 =>
            rw [h] at hN
            subst hN
            have h2 := name_dec _ h
            rw [h2] at hDE
            have h3 := (name_call h).2.1
            rw [h3] at hQE
            have e7 : (q7 == 0) = false := hQE.symm
            have n7 : (q7 != 0) = true := by unfold bne; rw [e7]; rfl
            subst hDE
            clear hQE hcl h2 h3 h e7
            go_wp2
            go_meet
            case rel => exact ⟨rfl, hB5⟩
          | call _ h h1 hp =>
            as_aux_lemma =>
              obtain ⟨N2, hN2⟩ := hcl _ rfl rfl
              have hY : L[j + 1]? = some (8, [40], p3 + p2.length) := by
                have := congrArg (·[0]?) hN2
                simpa [List.getElem?_drop] using this
              have hla : j + 1 < L.length := (List.getElem?_eq_some_iff.1 hY).1
              have ks := t1.below hB5 hb1 (j + 1) _ hY
              obtain ⟨ks0, ks1, ks2⟩ := ks
              dsimp only at ks0 ks1 ks2
              have el : decide ((j : Int) + 1 < (L.length : Int)) = true := decide_eq_true (by omega)
              have ewS : IntKind.i64.wrap ((p3 : Int) + (p2.length : Int)) = ((p3 + p2.length : Nat) : Int) := by rw [IntWalk.i64_in _ (by omega)]; omega
              clear hDE hQE hN hcl hN2 hp h
              go_wp2_with fail
              have kc := gcell w5
              refine region_below (by kernel_rfl) (by kernel_rfl) ?_
              repeat (go_big_quiet_step (fail))
              refine wpQuiet_nil ?_
              intro w6 hb6
              have hB6 := after hB5 hb6
              go_wp2
              go_meet
              case rel => exact ⟨rfl, hB6⟩
          | sign _ h hp =>
            as_aux_lemma =>
              have hsl := sign_len _ h
              clear hDE hQE hN hcl h hp
              rcases hsl with hsl | hsl
              all_goals (
                go_wp2
                go_meet
                case rel => exact ⟨rfl, hB5⟩)
          | col S =>
            as_aux_lemma =>
              obtain ⟨T, hT⟩ : ∃ T, S ++ [93] = T := ⟨_, rfl⟩
              have hTl : T.length = S.length + 1 := by rw [← hT]; simp
              have ei : ∀ h, (⟨T.toArray⟩ : ByteArray)[S.length]'h = 93 := by
                subst hT
                intro h
                show (S ++ [93])[S.length]'_ = 93
                simp
              rw [hT] at kf1 hsz HL hn2
              clear hDE hQE hN hcl
              have HT := Lib.hid hT
              clear hT
              generalize S.length = k at *
              rw [hTl] at hsz
              have ewc : IntKind.i64.wrap (((k + 1 : Nat) : Int) - 1) = (k : Int) := by rw [IntWalk.i64_in _ (by omega)]; omega
              have ewd : IntKind.i64.wrap (k : Int) = (k : Int) := IntWalk.i64_in _ (by omega)
              go_wp2_with fail
              have kc := gcell w5
              refine region_below (by kernel_rfl) (by kernel_rfl) ?_
              repeat (go_big_quiet_step (fail))
              refine wpQuiet_nil ?_
              intro w6 hb6
              have hB6 := after hB5 hb6
              go_wp2
              go_meet
              case rel => exact ⟨rfl, hB6⟩
      · clear HI
        go_wp2
        go_ret
        exact ⟨rfl, hWr⟩

theorem law_LexKinds (s : ByteArray) (w : World) (hg : Good w) (hwd : Words w) (hs : s.size ≤ 9223372036854775807) : Calls Tryz.prog 7 #[.string s] w (Ret (.bool true) w) :=
  kinds_walk s (min s.size 100) (by omega) (by omega) (by omega) hs w hg hwd
end Go.Proofs.YtgnejohiagagmaaGreatDoor
