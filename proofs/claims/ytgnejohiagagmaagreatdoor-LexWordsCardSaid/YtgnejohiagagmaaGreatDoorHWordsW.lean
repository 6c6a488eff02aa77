/- The walk of tabulalaw04.LexWords. -/
import Derived.Test.YtgnejohiagagmaaGreatDoorG15
import Derived.Test.YtgnejohiagagmaaGreatDoorHWordsP
import Derived.Test.YtgnejohiagagmaaGreatDoorHByteR
namespace Go.Proofs.YtgnejohiagagmaaGreatDoor
open Go.RowKit Tab

theorem first_byte (c : UInt8) (t : Bs) : (⟨(c :: t).toArray⟩ : ByteArray)[0]'(by show 0 < (c :: t).toArray.size; simp) = c := rfl
theorem any_step (S : Bs) (j : Nat) (h : j < S.length) : (S.take (j + 1)).any (· == 36) = ((S.take j).any (· == 36) || (S[j] == 36)) := by
  rw [List.take_succ_eq_append_getElem h, List.any_append]; simp
theorem tok_form {w : World} {v : Value} {x : TokT} {L : List TokT} (h : TokRow w v (x :: L)) : ∃ b o cap, v = .slice (some ⟨b, o, none⟩) (L.length + 1) cap ∧ L.length + 1 ≤ cap ∧ b < w.heap.size ∧ w.cell? ⟨b, o, none⟩ = some (.int .i64 x.1) ∧ w.cell? ⟨b, o + 1, none⟩ = some (.string ⟨x.2.1.toArray⟩) := by
  rcases h with ⟨_, h⟩ | ⟨b, o, c, h1, h2, h3, h4⟩
  · cases h
  · have k := h4 0 x rfl
    rw [Nat.zero_mul, Nat.add_zero] at k
    exact ⟨b, o, c, h1, h2, h3, k.1, k.2.1⟩
set_option maxRecDepth 100000 in
set_option maxHeartbeats 16000000 in
theorem words_walk (v : Value) (l : List Int) (w : World) (hg : Good w) (hwd : Words w) (hv : ByteRow w v l) (hr : ∀ z ∈ l, 0 ≤ z ∧ z ≤ 255) (hlen : l.length ≤ 9223372036854775807) : Calls Tryz.prog 8 #[v] w (Ret (.bool true) w) := by
  have cE := examples_any w hg hwd
  have cT : ∀ (s : ByteArray) (W : World), Below w.heap.size w W → s.size ≤ 200 → Calls Tryz.prog 17 #[.string s] W (Toks (toldD decED s.data.toList) W) := fun s W hb hs => by
    have := Tokens_any decED decIs s W (hg.below hb) (hwd.below hb) (by omega)
    rw [tokens_told decED _ (by rw [ba_size]; exact hs)] at this
    exact this
  have cI : ∀ (s : ByteArray) (W : World), Below w.heap.size w W → s.size ≤ 1000 → Calls Tryz.prog 14 #[.string s] W (Ret (.bool (isNameD s.data.toList)) W) := fun s W hb hs => isName_any s W (hg.below hb) (by omega)
  have cR : ∀ (s : ByteArray) (W : World), Below w.heap.size w W → s.size ≤ 1000 → Calls Tryz.prog 20 #[.string s] W (Ret (.tuple #[refV (readD s).1, .int .i64 (readD s).2]) W) := fun s W hb hs => Read_any s W (hg.below hb) (by omega)
  obtain ⟨ao, c1, rfl, h1⟩ : ∃ ao c, v = .slice ao l.length c ∧ (l = [] ∨ ∃ a : Addr, ao = some a ∧ l.length ≤ c ∧ ∀ i, i < l.length → w.cell? (a.add i) = some (.int .u8 (l.getD i 0))) := by
    rcases hv with ⟨rfl, rfl⟩ | ⟨a, c, rfl, h⟩
    · exact ⟨none, 0, rfl, .inl rfl⟩
    · exact ⟨_, c, rfl, .inr ⟨a, rfl, h⟩⟩
  clear hv
  go_enter Tryz.func8, Tryz.ntmps8
  go_wp2_with fail
  refine cE.mono ?_; rintro e w1 ⟨rfl, hW⟩
  clear cE
  go_wp2_with fail
  go_loopw [4, 5] (fun sv i w' => ∃ (S : Bs), sv = .string ⟨S.toArray⟩ ∧ i = .int .i64 (S.length : Int) ∧ S.length ≤ l.length ∧ S.length ≤ 12 ∧ (∀ b ∈ S, wordR b.toNat = true) ∧ Below w.heap.size w w') (fun _ i _ => 12 - (intOf i).toNat)
  case atStart => exact ⟨[], rfl, rfl, by simp, by simp, by simp, hW⟩
  case round =>
    obtain ⟨S, rfl, rfl, hS1, hS2, hS3, hB⟩ := hrel
    have HS3 := Lib.hid hS3
    clear hS3
    by_cases hlt : S.length < l.length ∧ S.length < 12
    · obtain ⟨hl1, hl2⟩ := hlt
      rcases h1 with h1 | ⟨a, rfl, hc, hcell⟩
      · rw [h1] at hl1; simp at hl1
      have k0 := hcell S.length hl1
      have hbk : (a.add S.length).block = a.block := by unfold Addr.add; split <;> rfl
      have hb : a.block < w.heap.size := by rw [← hbk]; exact World.block_lt_of_cell? w _ k0
      have hz := Nat.lt_of_lt_of_le hb hB.size
      have k1 : wr.cell? (a.add S.length) = some (.int .u8 (l.getD S.length 0)) := by
        rw [← k0]
        exact World.cell?_of_block (w := w) (hB.block _ (by rw [hbk]; exact hb))
      have hzr := hr (l.getD S.length 0) (by rw [List.getD_eq_getElem?_getD, List.getElem?_eq_getElem hl1]; exact List.getElem_mem _)
      generalize l.getD S.length 0 = z at *
      obtain ⟨b, hb1, hb2⟩ : ∃ b, b ∈ alphaB ∧ ∀ h, (⟨#[65, 98, 84, 49, 95, 46, 48, 36, 57, 114, 85, 101, 70, 65, 76, 83, 69, 90]⟩ : ByteArray)[(z % 18).toNat]'h = b := by
        have hlt : (z % 18).toNat < alphaB.length := by show _ < 18; omega
        exact ⟨alphaB[(z % 18).toNat], List.getElem_mem _, fun h => rfl⟩
      have hbw := alpha_word b hb1
      have hcv : (convert 31 9 (.slice (some ⟨wr.heap.size, 0, none⟩) 1 1)).run Tryz.prog (wr.alloc (.cells #[.int .u8 (b.toNat : Int)] 5)) = .ok (.string ⟨[b].toArray⟩) (wr.alloc (.cells #[.int .u8 (b.toNat : Int)] 5)) :=
        own_string (base := wr.heap.size) (xs := [b]) ⟨rfl, .inr ⟨wr.heap.size, 1, #[.int .u8 (b.toNat : Int)], rfl, Nat.le_refl _, heap_alloc_new wr _, Nat.le_refl _, by unfold maxLen; decide, rfl, rfl⟩⟩
      have ec : (⟨S.toArray⟩ : ByteArray) ++ ⟨[b].toArray⟩ = ⟨(S ++ [b]).toArray⟩ := by
        apply ByteArray.ext; rw [ByteArray.data_append]; simp
      have ec2 : (⟨S.toArray⟩ : ByteArray) ++ ⟨#[b]⟩ = ⟨(S ++ [b]).toArray⟩ := ec
      have ew : IntKind.i64.wrap ((S.length : Int) + 1) = ((S.length + 1 : Nat) : Int) := by rw [IntWalk.i64_in _ (by omega)]; omega
      have HCV := Lib.hid hcv
      clear hcv hcell k0 cT cI cR
      go_wp2_with (simp only [HCV.out])
      go_roundw
      case rel => exact ⟨S ++ [b], rfl, by simp, by simp; omega, by simp; omega, (by
        intro x hx
        rcases List.mem_append.1 hx with h | h
        · exact HS3.out x h
        · simp at h; rw [h]; exact hbw), allocB hB⟩
      case measure => simp [intOf]; omega
    · have hor : ¬ S.length < l.length ∨ (S.length < l.length ∧ ¬ S.length < 12) := by omega
      clear h1
      rcases hor with hx | ⟨hx, hy⟩
      all_goals (
        clear hlt
        go_upto_region 10 with fail
        have hI0 := cI ⟨S.toArray⟩
        rw [show (⟨S.toArray⟩ : ByteArray).data.toList = S from rfl] at hI0
        have hsz : (⟨S.toArray⟩ : ByteArray).size = S.length := by show S.toArray.size = _; simp
        rw [hsz] at hI0
        cases S with
        | nil =>
          have hI1 := fun W hb => hI0 W hb (by decide)
          rw [show isNameD [] = false from by decide +kernel] at hI1
          clear cT cR cI hI0
          go_wp2_with fail
          refine (hI1 _ hB).mono ?_; rintro e w9 ⟨rfl, hb9⟩
          have hW9 := after hB hb9
          clear hb9
          go_wp2
          go_ret
          exact ⟨rfl, hW9⟩
        | cons c t =>
          have hI1 := fun W hb => hI0 W hb (by omega)
          have ei := first_byte c t
          have hn : ∀ (_ : callD (c :: t) = false), isNameD (c :: t) = false := fun h => by unfold isNameD; rw [h]; rfl
          by_cases h46 : c = 46
          · rw [hn (by subst h46; unfold callD; simp)] at hI1
            have e46 : ((c.toNat : Int) == 46) = true := by rw [h46]; rfl
            clear cT cR cI hI0 h46
            go_wp2_with fail
            refine (hI1 _ hB).mono ?_; rintro e w9 ⟨rfl, hb9⟩
            have hW9 := after hB hb9
            clear hb9
            go_wp2
            go_ret
            exact ⟨rfl, hW9⟩
          · have e46 : ((c.toNat : Int) == 46) = false := by rw [u8_beq c 46 46 rfl, beq_eq_false_iff_ne]; exact h46
            cases hd : digR c.toNat
            · have hcall := call_is c t HS3.out hS2 hd h46
              have hta := told_word decED c t HS3.out hd h46
              have htb := told_brack decED c t HS3.out hd h46
              have hdd : ¬ (48 ≤ c.toNat ∧ c.toNat ≤ 57) := by unfold digR at hd; simpa using hd
              go_cut [58] from 219 (fun x wx => x = .bool false ∧ wr = wx)
              case first =>
                rcases (show c.toNat < 48 ∨ (48 ≤ c.toNat ∧ 57 < c.toNat) by omega) with h8 | ⟨h8, h9⟩
                · have e1 : decide (48 ≤ c.toNat) = false := decide_eq_false (by omega)
                  have e2 : decide (48 ≤ (c.toNat : Int)) = false := decide_eq_false (by omega)
                  go_wp2
                  go_meet
                  case rel => exact ⟨rfl, rfl⟩
                · have e1 : decide (48 ≤ c.toNat) = true := decide_eq_true (by omega)
                  have e2 : decide (48 ≤ (c.toNat : Int)) = true := decide_eq_true (by omega)
                  have e3 : decide (c.toNat ≤ 57) = false := decide_eq_false (by omega)
                  have e4 : decide ((c.toNat : Int) ≤ 57) = false := decide_eq_false (by omega)
                  go_wp2
                  go_meet
                  case rel => exact ⟨rfl, rfl⟩
              case rest =>
                obtain ⟨rfl, rfl⟩ := hcut
                as_aux_lemma =>
                  obtain ⟨S, hS⟩ : ∃ S, c :: t = S := ⟨_, rfl⟩
                  have hSl : S.length ≤ 12 := by rw [← hS]; exact hS2
                  have htl : t.length + 1 = S.length := by rw [← hS]; rfl
                  rw [htl] at htb
                  rw [hS] at hcall hta htb hI0 hsz ⊢
                  clear hI1 ei hn e46 hdd hd h46 hS2 HS3 htl hS hS1
                  have cR1 := fun W hb => cR ⟨S.toArray⟩ W hb (by rw [hsz]; omega)
                  have cI1 := fun W hb => hI0 W hb (by omega)
                  obtain ⟨Q, hQ⟩ : ∃ Q, readD ⟨S.toArray⟩ = Q := ⟨_, rfl⟩
                  have hQE : isRefD S = (Q.2 == 0) := by unfold isRefD; rw [hQ]
                  rw [hQ] at cR1
                  clear hQ cR cI hI0
                  obtain ⟨⟨q1, q2, q3, q4, q5, q6⟩, q7⟩ := Q
                  unfold refV at cR1
                  dsimp only at cR1 hQE
                  obtain ⟨F, hF⟩ : ∃ F, S.any (· == 36) = F := ⟨_, rfl⟩
                  rw [hF] at hcall
                  have HF := Lib.hid hF
                  clear hF
                  have ec : (⟨S.toArray⟩ : ByteArray) ++ ⟨#[40]⟩ = ⟨(S ++ [40]).toArray⟩ := by
                    apply ByteArray.ext; rw [ByteArray.data_append]; simp
                  obtain ⟨I, hI⟩ : ∃ I, isNameD S = I := ⟨_, rfl⟩
                  obtain ⟨T, hT⟩ : ∃ T, truthD S = T := ⟨_, rfl⟩
                  obtain ⟨R, hR⟩ : ∃ R, isRefD S = R := ⟨_, rfl⟩
                  have hII : I = (callD S && (!R && !T)) := by rw [← hI, ← hT, ← hR]; rfl
                  rw [hcall] at hII
                  have hC := hcall
                  rw [hR] at hQE
                  rw [hI] at cI1
                  cases F
                  · cases R
                    · cases T
                      · have e7 : (q7 == 0) = false := hQE.symm
                        have hIv : I = true := by rw [hII]; rfl
                        subst hIv
                        clear hII hQE hcall

                        have hK : wordK S = some (6, S, S.length) := by unfold wordK; rw [hR, if_neg Bool.false_ne_true, hT, if_neg Bool.false_ne_true, hI, if_pos rfl]
                        have cA := fun W hb => cT ⟨S.toArray⟩ W hb (by rw [hsz]; omega)
                        rw [show (⟨S.toArray⟩ : ByteArray).data.toList = S from rfl, hta, hK] at cA

                        have cB := fun W hb => cT ⟨(S ++ [40]).toArray⟩ W hb (by show (S ++ [40]).toArray.size ≤ _; simp; omega)
                        have edB : (ByteArray.mk (S ++ [40]).toArray).data.toList = S ++ [40] := by simp
                        rw [edB, htb, hC] at cB
                        clear edB
                        rw [if_pos (show (!false) = true from rfl)] at cB
                        dsimp only at cA cB
                        clear hta htb hK hC hR hT hI cT
                        go_wp2_with fail
                        refine (cA _ hB).mono ?_
                        rintro e w2 ⟨v2, rfl, hown2, hb2⟩
                        replace hB := after hB hb2
                        have R2 := tokRow_of_own hown2
                        clear hb2 hown2 cA
                        go_wp2_with fail
                        refine (cB _ hB).mono ?_
                        rintro e w3 ⟨v3, rfl, hown3, hb3⟩
                        replace hB := after hB hb3
                        replace R2 := R2.below hb3
                        have R3 := tokRow_of_own hown3
                        clear hb3 hown3 cB

                        go_wp2_with fail
                        refine (cR1 _ hB).mono ?_; rintro e w4 ⟨rfl, hb4⟩
                        replace hB := after hB hb4
                        replace R2 := R2.below hb4
                        replace R3 := R3.below hb4
                        clear hb4 cR1
                        go_wp2_with fail
                        go_loopw [15, 16] (fun fx i w' => ∃ (j : Nat), fx = .bool ((S.take j).any (· == 36)) ∧ i = .int .i64 (j : Int) ∧ j ≤ S.length ∧ Below w4.heap.size w4 w') (fun _ i _ => S.length - (intOf i).toNat)
                        case atStart => exact ⟨0, rfl, rfl, by omega, (by repeat' (first | with_reducible assumption | with_reducible exact Below.refl _ _ | with_reducible refine allocB ?_ | with_reducible refine setB ?_ ?_ | with_reducible refine drewB ?_ | with_reducible refine after ?_ (by assumption) | (simp; omega) | omega))⟩
                        case round =>
                          obtain ⟨j, rfl, rfl, hj, hBl⟩ := hrel
                          by_cases hjl : j < S.length
                          · have hst := any_step S j hjl
                            have ex : ∀ h, (⟨S.toArray⟩ : ByteArray)[j]'h = S[j] := fun h => rfl
                            have e36 := u8_beq S[j] 36 36 rfl
                            obtain ⟨G, hG⟩ : ∃ G, (S[j] == 36) = G := ⟨_, rfl⟩
                            obtain ⟨H, hH⟩ : ∃ H, (S.take j).any (· == 36) = H := ⟨_, rfl⟩
                            rw [hG, hH] at hst
                            rw [hG] at e36
                            rw [hH]

                            have hjs : j < (⟨S.toArray⟩ : ByteArray).size := by rw [hsz]; exact hjl
                            have ewj : IntKind.i64.wrap ((j : Int) + 1) = ((j + 1 : Nat) : Int) := by rw [IntWalk.i64_in _ (by omega)]; omega
                            have HST := Lib.hid hst
                            clear hst hG hH
                            cases H
                            · go_wp2
                              go_roundw
                              case rel => exact ⟨j + 1, by rw [HST.out]; simp, rfl, hjl, hBl⟩
                              case measure => simp [intOf]; omega
                            · go_wp2
                              go_roundw
                              case rel => exact ⟨j + 1, by rw [HST.out]; simp, rfl, hjl, hBl⟩
                              case measure => simp [intOf]; omega
                          · have hje : j = S.length := by omega
                            subst hje
                            have hall : (S.take S.length).any (· == 36) = false := by rw [List.take_length]; exact HF.out
                            rw [hall]
                            have hBf := after hB hBl
                            obtain ⟨b2, o2, d2, rfl, hd2, hz2, k20, k21⟩ := tok_form (R2.below hBl)

                            obtain ⟨b3, o3, d3, rfl, hd3, hz3, k30, k31⟩ := tok_form (R3.below hBl)
                            clear hBl

                            go_wp2_with fail
                            refine (cI1 _ hBf).mono ?_; rintro e w9 ⟨rfl, hb9⟩

                            have k22 : w9.cell? ⟨b2, o2, none⟩ = _ := (hb9.cell (p := ⟨b2, o2, none⟩) hz2).trans k20
                            have k23 : w9.cell? ⟨b2, o2 + 1, none⟩ = _ := (hb9.cell (p := ⟨b2, o2 + 1, none⟩) hz2).trans k21
                            clear k20 k21

                            have hW9 := after hBf hb9
                            clear hb9
                            go_wp2
                            go_ret
                            exact ⟨rfl, hW9⟩
                      · have e7 : (q7 == 0) = false := hQE.symm
                        have hIv : I = false := by rw [hII]; rfl
                        subst hIv
                        clear hII hQE hcall

                        have hK : wordK S = some (3, upperD S, S.length) := by unfold wordK; rw [hR, if_neg Bool.false_ne_true, hT, if_pos rfl]
                        have cA := fun W hb => cT ⟨S.toArray⟩ W hb (by rw [hsz]; omega)
                        rw [show (⟨S.toArray⟩ : ByteArray).data.toList = S from rfl, hta, hK] at cA

                        have cB := fun W hb => cT ⟨(S ++ [40]).toArray⟩ W hb (by show (S ++ [40]).toArray.size ≤ _; simp; omega)
                        have edB : (ByteArray.mk (S ++ [40]).toArray).data.toList = S ++ [40] := by simp
                        rw [edB, htb, hC] at cB
                        clear edB
                        rw [if_pos (show (!false) = true from rfl)] at cB
                        dsimp only at cA cB
                        clear hta htb hK hC hR hT hI cT
                        generalize upperD S = U at *
                        go_wp2_with fail
                        refine (cA _ hB).mono ?_
                        rintro e w2 ⟨v2, rfl, hown2, hb2⟩
                        replace hB := after hB hb2
                        have R2 := tokRow_of_own hown2
                        clear hb2 hown2 cA
                        go_wp2_with fail
                        refine (cB _ hB).mono ?_
                        rintro e w3 ⟨v3, rfl, hown3, hb3⟩
                        replace hB := after hB hb3
                        replace R2 := R2.below hb3
                        have R3 := tokRow_of_own hown3
                        clear hb3 hown3 cB

                        go_wp2_with fail
                        refine (cR1 _ hB).mono ?_; rintro e w4 ⟨rfl, hb4⟩
                        replace hB := after hB hb4
                        replace R2 := R2.below hb4
                        replace R3 := R3.below hb4
                        clear hb4 cR1
                        go_wp2_with fail
                        go_loopw [15, 16] (fun fx i w' => ∃ (j : Nat), fx = .bool ((S.take j).any (· == 36)) ∧ i = .int .i64 (j : Int) ∧ j ≤ S.length ∧ Below w4.heap.size w4 w') (fun _ i _ => S.length - (intOf i).toNat)
                        case atStart => exact ⟨0, rfl, rfl, by omega, (by repeat' (first | with_reducible assumption | with_reducible exact Below.refl _ _ | with_reducible refine allocB ?_ | with_reducible refine setB ?_ ?_ | with_reducible refine drewB ?_ | with_reducible refine after ?_ (by assumption) | (simp; omega) | omega))⟩
                        case round =>
                          obtain ⟨j, rfl, rfl, hj, hBl⟩ := hrel
                          by_cases hjl : j < S.length
                          · have hst := any_step S j hjl
                            have ex : ∀ h, (⟨S.toArray⟩ : ByteArray)[j]'h = S[j] := fun h => rfl
                            have e36 := u8_beq S[j] 36 36 rfl
                            obtain ⟨G, hG⟩ : ∃ G, (S[j] == 36) = G := ⟨_, rfl⟩
                            obtain ⟨H, hH⟩ : ∃ H, (S.take j).any (· == 36) = H := ⟨_, rfl⟩
                            rw [hG, hH] at hst
                            rw [hG] at e36
                            rw [hH]

                            have hjs : j < (⟨S.toArray⟩ : ByteArray).size := by rw [hsz]; exact hjl
                            have ewj : IntKind.i64.wrap ((j : Int) + 1) = ((j + 1 : Nat) : Int) := by rw [IntWalk.i64_in _ (by omega)]; omega
                            have HST := Lib.hid hst
                            clear hst hG hH
                            cases H
                            · go_wp2
                              go_roundw
                              case rel => exact ⟨j + 1, by rw [HST.out]; simp, rfl, hjl, hBl⟩
                              case measure => simp [intOf]; omega
                            · go_wp2
                              go_roundw
                              case rel => exact ⟨j + 1, by rw [HST.out]; simp, rfl, hjl, hBl⟩
                              case measure => simp [intOf]; omega
                          · have hje : j = S.length := by omega
                            subst hje
                            have hall : (S.take S.length).any (· == 36) = false := by rw [List.take_length]; exact HF.out
                            rw [hall]
                            have hBf := after hB hBl
                            obtain ⟨b2, o2, d2, rfl, hd2, hz2, k20, k21⟩ := tok_form (R2.below hBl)

                            obtain ⟨b3, o3, d3, rfl, hd3, hz3, k30, k31⟩ := tok_form (R3.below hBl)
                            clear hBl

                            go_wp2_with fail
                            refine (cI1 _ hBf).mono ?_; rintro e w9 ⟨rfl, hb9⟩

                            have k22 : w9.cell? ⟨b2, o2, none⟩ = _ := (hb9.cell (p := ⟨b2, o2, none⟩) hz2).trans k20
                            have k23 : w9.cell? ⟨b2, o2 + 1, none⟩ = _ := (hb9.cell (p := ⟨b2, o2 + 1, none⟩) hz2).trans k21
                            clear k20 k21

                            have hW9 := after hBf hb9
                            clear hb9
                            go_wp2
                            go_ret
                            exact ⟨rfl, hW9⟩
                    · have e7 : q7 = 0 := by simpa using hQE.symm
                      subst e7
                      have hIv : I = false := by rw [hII]; simp
                      subst hIv
                      clear hII hQE hcall

                      have hK : wordK S = some (5, S, S.length) := by unfold wordK; rw [hR, if_pos rfl]
                      have cA := fun W hb => cT ⟨S.toArray⟩ W hb (by rw [hsz]; omega)
                      rw [show (⟨S.toArray⟩ : ByteArray).data.toList = S from rfl, hta, hK] at cA

                      have cB := fun W hb => cT ⟨(S ++ [40]).toArray⟩ W hb (by show (S ++ [40]).toArray.size ≤ _; simp; omega)
                      have edB : (ByteArray.mk (S ++ [40]).toArray).data.toList = S ++ [40] := by simp
                      rw [edB, htb, hC] at cB
                      clear edB
                      rw [if_pos (show (!false) = true from rfl)] at cB
                      dsimp only at cA cB
                      clear hta htb hK hC hR hT hI cT
                      go_wp2_with fail
                      refine (cA _ hB).mono ?_
                      rintro e w2 ⟨v2, rfl, hown2, hb2⟩
                      replace hB := after hB hb2
                      have R2 := tokRow_of_own hown2
                      clear hb2 hown2 cA
                      go_wp2_with fail
                      refine (cB _ hB).mono ?_
                      rintro e w3 ⟨v3, rfl, hown3, hb3⟩
                      replace hB := after hB hb3
                      replace R2 := R2.below hb3
                      have R3 := tokRow_of_own hown3
                      clear hb3 hown3 cB

                      go_wp2_with fail
                      refine (cR1 _ hB).mono ?_; rintro e w4 ⟨rfl, hb4⟩
                      replace hB := after hB hb4
                      replace R2 := R2.below hb4
                      replace R3 := R3.below hb4
                      clear hb4 cR1
                      go_wp2_with fail
                      go_loopw [15, 16] (fun fx i w' => ∃ (j : Nat), fx = .bool ((S.take j).any (· == 36)) ∧ i = .int .i64 (j : Int) ∧ j ≤ S.length ∧ Below w4.heap.size w4 w') (fun _ i _ => S.length - (intOf i).toNat)
                      case atStart => exact ⟨0, rfl, rfl, by omega, (by repeat' (first | with_reducible assumption | with_reducible exact Below.refl _ _ | with_reducible refine allocB ?_ | with_reducible refine setB ?_ ?_ | with_reducible refine drewB ?_ | with_reducible refine after ?_ (by assumption) | (simp; omega) | omega))⟩
                      case round =>
                        obtain ⟨j, rfl, rfl, hj, hBl⟩ := hrel
                        by_cases hjl : j < S.length
                        · have hst := any_step S j hjl
                          have ex : ∀ h, (⟨S.toArray⟩ : ByteArray)[j]'h = S[j] := fun h => rfl
                          have e36 := u8_beq S[j] 36 36 rfl
                          obtain ⟨G, hG⟩ : ∃ G, (S[j] == 36) = G := ⟨_, rfl⟩
                          obtain ⟨H, hH⟩ : ∃ H, (S.take j).any (· == 36) = H := ⟨_, rfl⟩
                          rw [hG, hH] at hst
                          rw [hG] at e36
                          rw [hH]

                          have hjs : j < (⟨S.toArray⟩ : ByteArray).size := by rw [hsz]; exact hjl
                          have ewj : IntKind.i64.wrap ((j : Int) + 1) = ((j + 1 : Nat) : Int) := by rw [IntWalk.i64_in _ (by omega)]; omega
                          have HST := Lib.hid hst
                          clear hst hG hH
                          cases H
                          · go_wp2
                            go_roundw
                            case rel => exact ⟨j + 1, by rw [HST.out]; simp, rfl, hjl, hBl⟩
                            case measure => simp [intOf]; omega
                          · go_wp2
                            go_roundw
                            case rel => exact ⟨j + 1, by rw [HST.out]; simp, rfl, hjl, hBl⟩
                            case measure => simp [intOf]; omega
                        · have hje : j = S.length := by omega
                          subst hje
                          have hall : (S.take S.length).any (· == 36) = false := by rw [List.take_length]; exact HF.out
                          rw [hall]
                          have hBf := after hB hBl
                          obtain ⟨b2, o2, d2, rfl, hd2, hz2, k20, k21⟩ := tok_form (R2.below hBl)

                          obtain ⟨b3, o3, d3, rfl, hd3, hz3, k30, k31⟩ := tok_form (R3.below hBl)
                          clear hBl

                          go_wp2_with fail
                          refine (cI1 _ hBf).mono ?_; rintro e w9 ⟨rfl, hb9⟩

                          have hW9 := after hBf hb9
                          clear hb9
                          go_wp2
                          go_ret
                          exact ⟨rfl, hW9⟩

                  · cases R
                    · cases T
                      · have e7 : (q7 == 0) = false := hQE.symm
                        have hIv : I = false := by rw [hII]; rfl
                        subst hIv
                        clear hII hQE hcall

                        have hK : wordK S = none := by unfold wordK; rw [hR, if_neg Bool.false_ne_true, hT, if_neg Bool.false_ne_true, hI, if_neg Bool.false_ne_true]
                        have cA := fun W hb => cT ⟨S.toArray⟩ W hb (by rw [hsz]; omega)
                        rw [show (⟨S.toArray⟩ : ByteArray).data.toList = S from rfl, hta, hK] at cA

                        have cB := fun W hb => cT ⟨(S ++ [40]).toArray⟩ W hb (by show (S ++ [40]).toArray.size ≤ _; simp; omega)
                        have edB : (ByteArray.mk (S ++ [40]).toArray).data.toList = S ++ [40] := by simp
                        rw [edB, htb, hC] at cB
                        clear edB
                        rw [if_neg (show ¬ (!true) = true by decide), hK] at cB
                        dsimp only at cA cB
                        clear hta htb hK hC hR hT hI cT
                        go_wp2_with fail
                        refine (cA _ hB).mono ?_
                        rintro e w2 ⟨rfl, hb2⟩
                        replace hB := after hB hb2
                        clear hb2 cA
                        go_wp2_with fail
                        refine (cB _ hB).mono ?_
                        rintro e w3 ⟨rfl, hb3⟩
                        replace hB := after hB hb3
                        clear hb3 cB

                        go_wp2_with fail
                        refine (cR1 _ hB).mono ?_; rintro e w4 ⟨rfl, hb4⟩
                        replace hB := after hB hb4

                        clear hb4 cR1
                        go_wp2_with fail
                        go_loopw [15, 16] (fun fx i w' => ∃ (j : Nat), fx = .bool ((S.take j).any (· == 36)) ∧ i = .int .i64 (j : Int) ∧ j ≤ S.length ∧ Below w4.heap.size w4 w') (fun _ i _ => S.length - (intOf i).toNat)
                        case atStart => exact ⟨0, rfl, rfl, by omega, (by repeat' (first | with_reducible assumption | with_reducible exact Below.refl _ _ | with_reducible refine allocB ?_ | with_reducible refine setB ?_ ?_ | with_reducible refine drewB ?_ | with_reducible refine after ?_ (by assumption) | (simp; omega) | omega))⟩
                        case round =>
                          obtain ⟨j, rfl, rfl, hj, hBl⟩ := hrel
                          by_cases hjl : j < S.length
                          · have hst := any_step S j hjl
                            have ex : ∀ h, (⟨S.toArray⟩ : ByteArray)[j]'h = S[j] := fun h => rfl
                            have e36 := u8_beq S[j] 36 36 rfl
                            obtain ⟨G, hG⟩ : ∃ G, (S[j] == 36) = G := ⟨_, rfl⟩
                            obtain ⟨H, hH⟩ : ∃ H, (S.take j).any (· == 36) = H := ⟨_, rfl⟩
                            rw [hG, hH] at hst
                            rw [hG] at e36
                            rw [hH]

                            have hjs : j < (⟨S.toArray⟩ : ByteArray).size := by rw [hsz]; exact hjl
                            have ewj : IntKind.i64.wrap ((j : Int) + 1) = ((j + 1 : Nat) : Int) := by rw [IntWalk.i64_in _ (by omega)]; omega
                            have HST := Lib.hid hst
                            clear hst hG hH
                            cases H
                            · go_wp2
                              go_roundw
                              case rel => exact ⟨j + 1, by rw [HST.out]; simp, rfl, hjl, hBl⟩
                              case measure => simp [intOf]; omega
                            · go_wp2
                              go_roundw
                              case rel => exact ⟨j + 1, by rw [HST.out]; simp, rfl, hjl, hBl⟩
                              case measure => simp [intOf]; omega
                          · have hje : j = S.length := by omega
                            subst hje
                            have hall : (S.take S.length).any (· == 36) = true := by rw [List.take_length]; exact HF.out
                            rw [hall]
                            have hBf := after hB hBl
                            clear hBl

                            go_wp2_with fail
                            refine (cI1 _ hBf).mono ?_; rintro e w9 ⟨rfl, hb9⟩

                            have hW9 := after hBf hb9
                            clear hb9
                            go_wp2
                            go_ret
                            exact ⟨rfl, hW9⟩
                      · have e7 : (q7 == 0) = false := hQE.symm
                        have hIv : I = false := by rw [hII]; rfl
                        subst hIv
                        clear hII hQE hcall

                        have hK : wordK S = some (3, upperD S, S.length) := by unfold wordK; rw [hR, if_neg Bool.false_ne_true, hT, if_pos rfl]
                        have cA := fun W hb => cT ⟨S.toArray⟩ W hb (by rw [hsz]; omega)
                        rw [show (⟨S.toArray⟩ : ByteArray).data.toList = S from rfl, hta, hK] at cA

                        have cB := fun W hb => cT ⟨(S ++ [40]).toArray⟩ W hb (by show (S ++ [40]).toArray.size ≤ _; simp; omega)
                        have edB : (ByteArray.mk (S ++ [40]).toArray).data.toList = S ++ [40] := by simp
                        rw [edB, htb, hC] at cB
                        clear edB
                        rw [if_neg (show ¬ (!true) = true by decide), hK] at cB
                        dsimp only at cA cB
                        clear hta htb hK hC hR hT hI cT
                        generalize upperD S = U at *
                        go_wp2_with fail
                        refine (cA _ hB).mono ?_
                        rintro e w2 ⟨v2, rfl, hown2, hb2⟩
                        replace hB := after hB hb2
                        have R2 := tokRow_of_own hown2
                        clear hb2 hown2 cA
                        go_wp2_with fail
                        refine (cB _ hB).mono ?_
                        rintro e w3 ⟨v3, rfl, hown3, hb3⟩
                        replace hB := after hB hb3
                        replace R2 := R2.below hb3
                        have R3 := tokRow_of_own hown3
                        clear hb3 hown3 cB

                        go_wp2_with fail
                        refine (cR1 _ hB).mono ?_; rintro e w4 ⟨rfl, hb4⟩
                        replace hB := after hB hb4
                        replace R2 := R2.below hb4
                        replace R3 := R3.below hb4
                        clear hb4 cR1
                        go_wp2_with fail
                        go_loopw [15, 16] (fun fx i w' => ∃ (j : Nat), fx = .bool ((S.take j).any (· == 36)) ∧ i = .int .i64 (j : Int) ∧ j ≤ S.length ∧ Below w4.heap.size w4 w') (fun _ i _ => S.length - (intOf i).toNat)
                        case atStart => exact ⟨0, rfl, rfl, by omega, (by repeat' (first | with_reducible assumption | with_reducible exact Below.refl _ _ | with_reducible refine allocB ?_ | with_reducible refine setB ?_ ?_ | with_reducible refine drewB ?_ | with_reducible refine after ?_ (by assumption) | (simp; omega) | omega))⟩
                        case round =>
                          obtain ⟨j, rfl, rfl, hj, hBl⟩ := hrel
                          by_cases hjl : j < S.length
                          · have hst := any_step S j hjl
                            have ex : ∀ h, (⟨S.toArray⟩ : ByteArray)[j]'h = S[j] := fun h => rfl
                            have e36 := u8_beq S[j] 36 36 rfl
                            obtain ⟨G, hG⟩ : ∃ G, (S[j] == 36) = G := ⟨_, rfl⟩
                            obtain ⟨H, hH⟩ : ∃ H, (S.take j).any (· == 36) = H := ⟨_, rfl⟩
                            rw [hG, hH] at hst
                            rw [hG] at e36
                            rw [hH]

                            have hjs : j < (⟨S.toArray⟩ : ByteArray).size := by rw [hsz]; exact hjl
                            have ewj : IntKind.i64.wrap ((j : Int) + 1) = ((j + 1 : Nat) : Int) := by rw [IntWalk.i64_in _ (by omega)]; omega
                            have HST := Lib.hid hst
                            clear hst hG hH
                            cases H
                            · go_wp2
                              go_roundw
                              case rel => exact ⟨j + 1, by rw [HST.out]; simp, rfl, hjl, hBl⟩
                              case measure => simp [intOf]; omega
                            · go_wp2
                              go_roundw
                              case rel => exact ⟨j + 1, by rw [HST.out]; simp, rfl, hjl, hBl⟩
                              case measure => simp [intOf]; omega
                          · have hje : j = S.length := by omega
                            subst hje
                            have hall : (S.take S.length).any (· == 36) = true := by rw [List.take_length]; exact HF.out
                            rw [hall]
                            have hBf := after hB hBl
                            obtain ⟨b2, o2, d2, rfl, hd2, hz2, k20, k21⟩ := tok_form (R2.below hBl)
                            clear hBl

                            go_wp2_with fail
                            refine (cI1 _ hBf).mono ?_; rintro e w9 ⟨rfl, hb9⟩

                            have k22 : w9.cell? ⟨b2, o2, none⟩ = _ := (hb9.cell (p := ⟨b2, o2, none⟩) hz2).trans k20
                            have k23 : w9.cell? ⟨b2, o2 + 1, none⟩ = _ := (hb9.cell (p := ⟨b2, o2 + 1, none⟩) hz2).trans k21
                            clear k20 k21

                            have hW9 := after hBf hb9
                            clear hb9
                            go_wp2
                            go_ret
                            exact ⟨rfl, hW9⟩
                    · have e7 : q7 = 0 := by simpa using hQE.symm
                      subst e7
                      have hIv : I = false := by rw [hII]; simp
                      subst hIv
                      clear hII hQE hcall

                      have hK : wordK S = some (5, S, S.length) := by unfold wordK; rw [hR, if_pos rfl]
                      have cA := fun W hb => cT ⟨S.toArray⟩ W hb (by rw [hsz]; omega)
                      rw [show (⟨S.toArray⟩ : ByteArray).data.toList = S from rfl, hta, hK] at cA

                      have cB := fun W hb => cT ⟨(S ++ [40]).toArray⟩ W hb (by show (S ++ [40]).toArray.size ≤ _; simp; omega)
                      have edB : (ByteArray.mk (S ++ [40]).toArray).data.toList = S ++ [40] := by simp
                      rw [edB, htb, hC] at cB
                      clear edB
                      rw [if_neg (show ¬ (!true) = true by decide), hK] at cB
                      dsimp only at cA cB
                      clear hta htb hK hC hR hT hI cT
                      go_wp2_with fail
                      refine (cA _ hB).mono ?_
                      rintro e w2 ⟨v2, rfl, hown2, hb2⟩
                      replace hB := after hB hb2
                      have R2 := tokRow_of_own hown2
                      clear hb2 hown2 cA
                      go_wp2_with fail
                      refine (cB _ hB).mono ?_
                      rintro e w3 ⟨v3, rfl, hown3, hb3⟩
                      replace hB := after hB hb3
                      replace R2 := R2.below hb3
                      have R3 := tokRow_of_own hown3
                      clear hb3 hown3 cB

                      go_wp2_with fail
                      refine (cR1 _ hB).mono ?_; rintro e w4 ⟨rfl, hb4⟩
                      replace hB := after hB hb4
                      replace R2 := R2.below hb4
                      replace R3 := R3.below hb4
                      clear hb4 cR1
                      go_wp2_with fail
                      go_loopw [15, 16] (fun fx i w' => ∃ (j : Nat), fx = .bool ((S.take j).any (· == 36)) ∧ i = .int .i64 (j : Int) ∧ j ≤ S.length ∧ Below w4.heap.size w4 w') (fun _ i _ => S.length - (intOf i).toNat)
                      case atStart => exact ⟨0, rfl, rfl, by omega, (by repeat' (first | with_reducible assumption | with_reducible exact Below.refl _ _ | with_reducible refine allocB ?_ | with_reducible refine setB ?_ ?_ | with_reducible refine drewB ?_ | with_reducible refine after ?_ (by assumption) | (simp; omega) | omega))⟩
                      case round =>
                        obtain ⟨j, rfl, rfl, hj, hBl⟩ := hrel
                        by_cases hjl : j < S.length
                        · have hst := any_step S j hjl
                          have ex : ∀ h, (⟨S.toArray⟩ : ByteArray)[j]'h = S[j] := fun h => rfl
                          have e36 := u8_beq S[j] 36 36 rfl
                          obtain ⟨G, hG⟩ : ∃ G, (S[j] == 36) = G := ⟨_, rfl⟩
                          obtain ⟨H, hH⟩ : ∃ H, (S.take j).any (· == 36) = H := ⟨_, rfl⟩
                          rw [hG, hH] at hst
                          rw [hG] at e36
                          rw [hH]

                          have hjs : j < (⟨S.toArray⟩ : ByteArray).size := by rw [hsz]; exact hjl
                          have ewj : IntKind.i64.wrap ((j : Int) + 1) = ((j + 1 : Nat) : Int) := by rw [IntWalk.i64_in _ (by omega)]; omega
                          have HST := Lib.hid hst
                          clear hst hG hH
                          cases H
                          · go_wp2
                            go_roundw
                            case rel => exact ⟨j + 1, by rw [HST.out]; simp, rfl, hjl, hBl⟩
                            case measure => simp [intOf]; omega
                          · go_wp2
                            go_roundw
                            case rel => exact ⟨j + 1, by rw [HST.out]; simp, rfl, hjl, hBl⟩
                            case measure => simp [intOf]; omega
                        · have hje : j = S.length := by omega
                          subst hje
                          have hall : (S.take S.length).any (· == 36) = true := by rw [List.take_length]; exact HF.out
                          rw [hall]
                          have hBf := after hB hBl
                          obtain ⟨b2, o2, d2, rfl, hd2, hz2, k20, k21⟩ := tok_form (R2.below hBl)
                          clear hBl

                          go_wp2_with fail
                          refine (cI1 _ hBf).mono ?_; rintro e w9 ⟨rfl, hb9⟩

                          have hW9 := after hBf hb9
                          clear hb9
                          go_wp2
                          go_ret
                          exact ⟨rfl, hW9⟩
            · rw [hn (by unfold callD; rw [show (c :: t).getD 0 0 = c from rfl, hd]; simp)] at hI1
              have hdd : 48 ≤ c.toNat ∧ c.toNat ≤ 57 := by unfold digR at hd; simpa using hd
              have e1 : decide (48 ≤ (c.toNat : Int)) = true := decide_eq_true (by omega)
              have e2 : decide ((c.toNat : Int) ≤ 57) = true := decide_eq_true (by omega)
              have e3 : decide (48 ≤ c.toNat) = true := decide_eq_true (by omega)
              have e4 : decide (c.toNat ≤ 57) = true := decide_eq_true (by omega)
              clear cT cR cI hI0 h46
              go_wp2_with fail
              refine (hI1 _ hB).mono ?_; rintro e w9 ⟨rfl, hb9⟩
              have hW9 := after hB hb9
              clear hb9
              go_wp2
              go_ret
              exact ⟨rfl, hW9⟩)
end Go.Proofs.YtgnejohiagagmaaGreatDoor
