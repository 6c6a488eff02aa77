/- The walk of tabulalaw04.LexBlanks. -/
import Derived.Test.YtgnejohiagagmaaGreatDoorHBlanksP
namespace Tab
theorem tabK_len (n : Nat) : ∀ x ∈ pieceT n, n < 44 → InT x.1 x.2.1 ∧ x.2.2 = 0 := by
  intro x hx hn
  unfold pieceT at hx
  have hb : InT 8 [40] := ⟨37, by decide, rfl, rfl⟩
  split at hx
  · rename_i h
    simp at hx; subst hx
    exact ⟨⟨n, hn, by unfold tabK; rw [if_pos h], by unfold tabS; rw [if_pos h]; simp⟩, rfl⟩
  · rename_i h
    rcases List.mem_cons.1 hx with rfl | hx
    · exact ⟨⟨n, hn, by unfold tabK; rw [if_neg h], by unfold tabS; rw [if_neg h]⟩, rfl⟩
    · split at hx
      · simp at hx; subst hx; exact ⟨hb, rfl⟩
      · cases hx
theorem pieces_in (l : List Int) : ∀ x ∈ piecesT l, InT x.1 x.2.1 ∧ x.2.2 = 0 := by
  intro x hx
  unfold piecesT at hx
  obtain ⟨z, _, hz⟩ := List.mem_flatMap.1 hx
  exact tabK_len _ x hz (by omega)
/-- behind a call stands its bracket. -/
def CallsOk : List TokT → Prop
  | [] => True
  | x :: L => (x.1 = 7 → ∃ M, L = (8, [40], 0) :: M) ∧ CallsOk L
theorem callsOk_app : ∀ (A B : List TokT), (∀ x ∈ A.getLast?, x.1 ≠ 7) → CallsOk A → CallsOk B → CallsOk (A ++ B)
  | [], _, _, _, h => h
  | [x], B, hl, _, hB => ⟨fun h => absurd h (hl x (by simp)), hB⟩
  | x :: y :: A, B, hl, hA, hB => by
    refine ⟨fun h => ?_, callsOk_app (y :: A) B (by simpa using hl) hA.2 hB⟩
    obtain ⟨M, hM⟩ := hA.1 h
    exact ⟨M ++ B, by rw [hM]; rfl⟩
theorem piece_calls (n : Nat) : CallsOk (pieceT n) ∧ ∀ x ∈ (pieceT n).getLast?, x.1 ≠ 7 := by
  unfold pieceT
  split
  · exact ⟨⟨fun h => absurd h (show ¬ (8 : Int) = 7 by decide), trivial⟩, by simp⟩
  · split
    · exact ⟨⟨fun _ => ⟨[], rfl⟩, ⟨fun h => absurd h (show ¬ (8 : Int) = 7 by decide), trivial⟩⟩, by simp⟩
    · rename_i h
      exact ⟨⟨fun h7 => absurd (beq_iff_eq.2 h7) h, trivial⟩, by simpa using h⟩
theorem pieces_calls : ∀ (l : List Int), CallsOk (l.flatMap fun z => pieceT (z % 44).toNat)
  | [] => trivial
  | z :: l => by
    rw [List.flatMap_cons]
    exact callsOk_app _ _ (piece_calls _).2 (piece_calls _).1 (pieces_calls l)
theorem calls_next : ∀ (L : List TokT) (i : Nat) (x : TokT), CallsOk L → L[i]? = some x → x.1 = 7 → L[i + 1]? = some (8, [40], 0)
  | [], _, _, _, h, _ => by simp at h
  | y :: L, 0, x, hC, h, h7 => by
    simp at h; subst h
    obtain ⟨M, rfl⟩ := hC.1 h7
    rfl
  | y :: L, i + 1, x, hC, h, h7 => calls_next L i x hC.2 (by simpa using h) h7
theorem len_all : (List.range 44).all (fun n => decide ((tabS n).length ≤ 13)) = true := by kernel_rfl
theorem in_len {k : Int} {S : Bs} (h : InT k S) : S.length ≤ 13 := by
  obtain ⟨n, hn, -, rfl⟩ := h
  simpa using List.all_eq_true.1 len_all n (List.mem_range.2 hn)
/-- whether a call stands ahead of a place. -/
def pendT (X : List TokT) (j : Nat) : Bool := match j with
  | 0 => false
  | i + 1 => match X[i]? with
    | some x => x.1 == 7
    | none => false
end Tab
namespace Go.Proofs.YtgnejohiagagmaaGreatDoor
open Go.RowKit Tab

theorem tokRow_take {w : World} {v : Value} {L : List TokT} (h : TokRow w v L) (k : Nat) (hk : k ≤ L.length) (hk0 : 1 ≤ L.length) : ∃ b o cap, v = .slice (some ⟨b, o, none⟩) L.length cap ∧ L.length ≤ cap ∧ b < w.heap.size ∧ TokCells w b o (L.take k) := by
  rcases h with ⟨_, rfl⟩ | ⟨b, o, cap, h1, h2, h3, h4⟩
  · simp at hk0
  · refine ⟨b, o, cap, h1, h2, h3, fun i x hx => ?_⟩
    rw [List.getElem?_take] at hx
    split at hx
    · exact h4 i x hx
    · cases hx

set_option maxRecDepth 100000 in
set_option maxHeartbeats 16000000 in
theorem blanks_walk (v u : Value) (l m : List Int) (w : World) (hg : Good w) (hwd : Words w) (hv : ByteRow w v l) (hr : ∀ z ∈ l, 0 ≤ z ∧ z ≤ 255) (hlen : l.length ≤ 9223372036854775807) (hu : ByteRow w u m) (hr2 : ∀ z ∈ m, 0 ≤ z ∧ z ≤ 255) (hlen2 : m.length ≤ 9223372036854775807) : Calls Tryz.prog 5 #[v, u] w (Ret (.bool true) w) := by
  have cE := examples_any w hg hwd
  have cT : ∀ (s : ByteArray) (W : World), Below w.heap.size w W → s.size ≤ 200 → Calls Tryz.prog 17 #[.string s] W (Toks (toldD decED s.data.toList) W) := fun s W hb hs => by
    have := Tokens_any decED decIs s W (hg.below hb) (hwd.below hb) (by omega)
    rw [tokens_told decED _ (by rw [ba_size]; exact hs)] at this
    exact this
  have cP : ∀ L hn hl v W, Below w.heap.size w W → TokRow W v L → Calls Tryz.prog 11 #[v] W (Ret (.tuple #[strV (printD decED L).1, .int .i64 (printD decED L).2]) W) := fun L hn hl v W hb h => print_any decED decIs L hn hl v W (hg.below hb) (hwd.below hb) h
  have cX := fun W hb => pieces_any v l W hb hr hlen
  go_enter Tryz.func5, Tryz.ntmps5
  go_wp2_with fail
  refine cE.mono ?_; rintro e w1 ⟨rfl, hW⟩
  clear cE
  go_wp2_with fail
  refine (cX w1 (by
    rcases hv with h | ⟨a, cap, h1, h2, h3⟩
    · exact .inl h
    · refine .inr ⟨a, cap, h1, h2, fun i hi => ?_⟩
      rw [← h3 i hi]
      have hb := World.block_lt_of_cell? w _ (h3 i hi)
      exact World.cell?_of_block (w := w) (hW.block _ hb))).mono ?_
  rintro e w2 ⟨v2, rfl, hown, hb2⟩
  replace hW := after hW hb2
  have hrow := tokRow_of_own hown
  clear hb2 hown cX
  have hin := pieces_in l
  have hcl : CallsOk (piecesT l) := pieces_calls _
  generalize piecesT l = X0 at *
  by_cases h0 : X0.length = 0
  · have hX0 := List.length_eq_zero_iff.1 h0
    subst hX0
    have ht0 : toldD decED [32, 32] = .ok [] := rfl
    have cT1 := fun W hb => cT ⟨#[32, 32]⟩ W hb (by decide)
    rw [show (ByteArray.mk #[32, 32]).data.toList = [32, 32] from rfl, ht0] at cT1
    clear hv hu cT cP hin hcl h0 ht0
    have ec : (⟨#[]⟩ : ByteArray) ++ ⟨#[32, 32]⟩ = ⟨#[32, 32]⟩ := by decide
    rcases hrow with ⟨rfl, -⟩ | ⟨b, o, cap, rfl, hcap, hb, -⟩
    · go_wp2_with fail
      go_loopw [7, 8] (fun t i w' => t = .string ⟨#[]⟩ ∧ i = .int .i64 0 ∧ w2 = w') (fun _ _ _ => 0)
      case atStart => exact ⟨rfl, rfl, rfl⟩
      case round =>
        obtain ⟨rfl, rfl, rfl⟩ := hrel
        go_wp2_with fail
        refine (cT1 _ hW).mono ?_; rintro e w5 ⟨v5, rfl, hown5, hb5⟩
        have cS := same_any [] [] (by simp) (by simp) v5 (.slice none 0 0) w5 (tokRow_of_own hown5) (.inl ⟨rfl, rfl⟩)
        have hW5 := after hW hb5
        clear hb5 hown5 cT1
        go_wp2_with fail
        refine cS.mono ?_; rintro e w6 ⟨rfl, hb6⟩
        have hW6 := after hW5 hb6
        clear hb6
        go_wp2
        go_ret
        exact ⟨rfl, hW6⟩
    · rw [List.length_nil]
      go_wp2_with fail
      go_loopw [7, 8] (fun t i w' => t = .string ⟨#[]⟩ ∧ i = .int .i64 0 ∧ w2 = w') (fun _ _ _ => 0)
      case atStart => exact ⟨rfl, rfl, rfl⟩
      case round =>
        obtain ⟨rfl, rfl, rfl⟩ := hrel
        go_wp2_with fail
        refine (cT1 _ hW).mono ?_; rintro e w5 ⟨v5, rfl, hown5, hb5⟩
        have cS := same_any [] [] (by simp) (by simp) v5 (.slice (some ⟨b, o, none⟩) 0 cap) w5 (tokRow_of_own hown5) (.inr ⟨b, o, cap, rfl, Nat.zero_le _, Nat.lt_of_lt_of_le hb hb5.size, fun i x hx => by simp at hx⟩)
        have hW5 := after hW hb5
        clear hb5 hown5 cT1
        go_wp2_with fail
        refine cS.mono ?_; rintro e w6 ⟨rfl, hb6⟩
        have hW6 := after hW5 hb6
        clear hb6
        go_wp2
        go_ret
        exact ⟨rfl, hW6⟩
  · obtain ⟨k, hk1, hk2, hk3⟩ : ∃ k : Nat, min (X0.length : Int) 8 = (k : Int) ∧ k ≤ X0.length ∧ k ≤ 8 := ⟨min X0.length 8, by omega, by omega, by omega⟩
    obtain ⟨b, o, cap, rfl, hcap, hb, hc⟩ := tokRow_take hrow k hk2 (by omega)
    obtain ⟨X, hX⟩ : ∃ X, X0.take k = X := ⟨_, rfl⟩
    have hXl : X.length = k := by rw [← hX, List.length_take]; omega
    have hinX : ∀ x ∈ X, InT x.1 x.2.1 ∧ x.2.2 = 0 := fun x hx => hin x (by rw [← hX] at hx; exact List.mem_of_mem_take hx)
    have hclX : ∀ i x, X[i]? = some x → x.1 = 7 → i + 1 < k → X[i + 1]? = some (8, [40], 0) := fun i x hx h7 hi => by
      rw [← hX] at hx ⊢
      rw [List.getElem?_take] at hx ⊢
      split at hx
      · rw [if_pos hi]; exact calls_next X0 i x hcl hx h7
      · cases hx
    rw [hX] at hc
    clear hin hcl hrow hX hv
    have HIN := Lib.hid hinX
    have HCL := Lib.hid hclX
    clear hinX hclX
    obtain ⟨au, cu, rfl, hu1⟩ : ∃ ao c, u = .slice ao m.length c ∧ (m = [] ∨ ∃ a : Addr, ao = some a ∧ m.length ≤ c ∧ ∀ i, i < m.length → w.cell? (a.add i) = some (.int .u8 (m.getD i 0))) := by
      rcases hu with ⟨rfl, rfl⟩ | ⟨a, c, rfl, h⟩
      · exact ⟨none, 0, rfl, .inl rfl⟩
      · exact ⟨_, c, rfl, .inr ⟨a, rfl, h⟩⟩
    clear hu
    go_wp2_with fail
    go_loopw [7, 8] (fun t i w' => ∃ (j : Nat) (T : Bs) (L : List TokT), t = .string ⟨T.toArray⟩ ∧ i = .int .i64 (j : Int) ∧ j ≤ k ∧ T.length ≤ 17 * j ∧ L.map (fun x => (x.1, x.2.1)) = (X.take j).map (fun x => (x.1, x.2.1)) ∧ AheadT T L (pendT X j) ∧ Below w2.heap.size w2 w') (fun _ i _ => k - (intOf i).toNat)
    case atStart => exact ⟨0, [], [], rfl, rfl, by omega, by simp, rfl, ahead_nil, Below.refl _ _⟩
    case round =>
      obtain ⟨j, T, L, rfl, rfl, hj, hT, hLm, hA, hB⟩ := hrel
      have HLM := Lib.hid hLm
      have HA := Lib.hid hA
      clear hLm hA
      have hWr := after hW hB
      have hzb := Nat.lt_of_lt_of_le hb hB.size
      by_cases hlt : j < k
      · obtain ⟨x, hx⟩ : ∃ x, X[j]? = some x := ⟨_, List.getElem?_eq_getElem (by omega)⟩
        obtain ⟨p1, p2, p3⟩ := x
        obtain ⟨kx0, kx1, -⟩ := hc.below hB hb j _ hx
        obtain ⟨hit, h30⟩ := HIN.out _ (List.mem_of_getElem? hx)
        dsimp only at hit h30 kx0 kx1
        subst h30
        have hpl := in_len hit
        have ewj : IntKind.i64.wrap ((j : Int) + 1) = ((j + 1 : Nat) : Int) := by rw [IntWalk.i64_in _ (by omega)]; omega
        obtain ⟨pd, hpd⟩ : ∃ pd, pendT X j = pd := ⟨_, rfl⟩
        rw [hpd] at HA
        go_upto_if 34 with fail
        go_cut [9] from 125 (fun c wx => (∃ N : Nat, c = .int .i64 (N : Int) ∧ 1 ≤ N ∧ N ≤ 4) ∧ wr = wx)
        case first =>
          rcases hu1 with rfl | ⟨a, rfl, hcu, hcellu⟩
          · go_wp2
            go_meet
            case rel => exact ⟨⟨1, rfl, by omega, by omega⟩, rfl⟩
          · by_cases hm0 : m.length = 0
            · have hm1 : decide (0 < m.length) = false := decide_eq_false (by omega)
              have hm2 : decide (0 < (m.length : Int)) = false := decide_eq_false (by omega)
              go_wp2
              go_meet
              case rel => exact ⟨⟨1, rfl, by omega, by omega⟩, rfl⟩
            · have hm1 : decide (0 < m.length) = true := decide_eq_true (by omega)
              have hm2 : decide (0 < (m.length : Int)) = true := decide_eq_true (by omega)
              obtain ⟨q, hq⟩ : ∃ q : Nat, (j : Int) % (m.length : Int) = (q : Int) := ⟨j % m.length, by simp⟩
              have hqm : q < m.length := by
                have := Int.emod_lt_of_pos (j : Int) (show (0 : Int) < (m.length : Int) by omega)
                omega
              have hq2 : (j : Int).tmod (m.length : Int) = (q : Int) := by rw [Int.tmod_eq_emod_of_nonneg (by omega)]; exact hq
              have k0 := hcellu q hqm
              have hbk : (a.add q).block = a.block := by unfold Addr.add; split <;> rfl
              have hba : (a.add q).block < w.heap.size := World.block_lt_of_cell? w _ k0
              have k1 : wr.cell? (a.add q) = some (.int .u8 (m.getD q 0)) := by
                rw [← k0]; exact World.cell?_of_block (w := w) (hWr.block _ hba)
              have hzr := hr2 (m.getD q 0) (by rw [List.getD_eq_getElem?_getD, List.getElem?_eq_getElem hqm]; exact List.getElem_mem _)
              generalize m.getD q 0 = z at *
              obtain ⟨r4, hr4⟩ : ∃ r4 : Nat, z % 4 = (r4 : Int) := ⟨(z % 4).toNat, by omega⟩
              have hr5 : r4 ≤ 3 := by omega
              have hr6 : z.tmod 4 = (r4 : Int) := by rw [Int.tmod_eq_emod_of_nonneg (by omega)]; exact hr4
              have hmne : ¬ (m.length : Int) = 0 := by omega
              clear hcellu k0
              go_wp2
              go_meet
              case rel => exact ⟨⟨1 + r4, by simp, by omega, by omega⟩, rfl⟩
        case rest =>
          obtain ⟨⟨N, rfl, hN1, hN4⟩, rfl⟩ := hcut
          go_upto_region 13 with fail
          go_cut [55] from 125 (fun c wx => c = .bool pd ∧ wr = wx)
          case first =>
            cases j with
            | zero =>
              replace hpd : false = pd := hpd
              subst hpd
              go_wp2
              go_meet
              case rel => exact ⟨rfl, rfl⟩
            | succ i =>
              obtain ⟨y, hy⟩ : ∃ y, X[i]? = some y := ⟨_, List.getElem?_eq_getElem (by omega)⟩
              obtain ⟨y1, y2, y3⟩ := y
              obtain ⟨ky0, -, -⟩ := hc.below hB hb i _ hy
              dsimp only at ky0
              have hpv : (y1 == 7) = pd := by rw [← hpd]; unfold pendT; dsimp only; rw [hy]
              have ei : IntKind.i64.wrap (((i + 1 : Nat) : Int) - 1) = (i : Int) := by rw [IntWalk.i64_in _ (by omega)]; omega
              have ei2 : IntKind.i64.wrap (i : Int) = (i : Int) := IntWalk.i64_in _ (by omega)
              have hik : (i : Int) < (k : Int) := by omega
              clear hpd
              go_wp2
              go_meet
              case rel => exact ⟨rfl, rfl⟩
          case rest =>
            obtain ⟨rfl, rfl⟩ := hcut
            clear hu1
            cases pd
            · by_cases h7 : p1 = 7
              · have htk : TokRow wr (.slice (some ⟨b, o + j * 3, none⟩) 1 (cap - j)) [(p1, p2, 0)] := .inr ⟨b, o + j * 3, cap - j, rfl, by show 1 ≤ _; omega, hzb, fun i y hy => by
                  cases i with
                  | zero =>
                    simp at hy; subst hy
                    have := hc.below hB hb j _ hx
                    simpa using this
                  | succ i => simp at hy⟩
                have cP1 := cP [(p1, p2, 0)] (by simp) (by intro y hy; simp at hy; subst hy; show p2.length ≤ 1000; omega) _ wr hWr htk
                obtain ⟨PV, hPV⟩ : ∃ PV, printD decED [(p1, p2, 0)] = PV := ⟨_, rfl⟩
                rw [hPV] at cP1
                clear hPV
                obtain ⟨pv1, pv2⟩ := PV

                unfold strV at cP1
                dsimp only at cP1
                clear cP htk
                go_wp2_with fail
                refine cP1.mono ?_; rintro e w5 ⟨rfl, hb5⟩
                have hB5 := after hB hb5
                obtain ⟨kz0, kz1, -⟩ := hc.below hB5 hb j _ hx
                dsimp only at kz0 kz1
                have hz5 := Nat.lt_of_lt_of_le hb hB5.size
                clear hb5 cP1 kx0 kx1
                have e7 : (p1 == 7) = true := beq_iff_eq.2 h7
                have H7 := Lib.hid h7
                clear h7

                obtain ⟨W, hW0⟩ : ∃ W, p2 = W := ⟨_, rfl⟩
                have hWl : W.length ≤ 13 := by rw [← hW0]; exact hpl
                have HW := Lib.hid hW0
                rw [hW0] at kz1
                clear hW0

                go_wp2_with fail
                go_loopw [7, 12] (fun t q w' => ∃ i : Nat, t = .string ⟨(T ++ blanksB i).toArray⟩ ∧ q = .int .i64 (i : Int) ∧ i ≤ N ∧ w5 = w') (fun _ q _ => N - (intOf q).toNat)
                case atStart => exact ⟨0, by simp [blanksB], rfl, by omega, rfl⟩
                case round =>
                  obtain ⟨i, rfl, rfl, hi, rfl⟩ := hrel
                  have hbl : (T ++ blanksB i).length ≤ 200 := by rw [List.length_append]; unfold blanksB; rw [List.length_replicate]; omega
                  by_cases hi2 : i < N
                  · have ec : (⟨(T ++ blanksB i).toArray⟩ : ByteArray) ++ ⟨#[32]⟩ = ⟨(T ++ blanksB (i + 1)).toArray⟩ := by
                      apply ByteArray.ext; rw [ByteArray.data_append]; simp [blanksB, List.replicate_succ']
                    have ewi : IntKind.i64.wrap ((i : Int) + 1) = ((i + 1 : Nat) : Int) := by rw [IntWalk.i64_in _ (by omega)]; omega
                    have hs1 : (⟨(T ++ blanksB i).toArray⟩ : ByteArray).size ≤ 200 := by show (T ++ blanksB i).toArray.size ≤ _; simpa using hbl
                    generalize T ++ blanksB i = Bi at *
                    go_wp2
                    go_roundw
                    case rel => exact ⟨i + 1, rfl, rfl, hi2, trivial⟩
                    case measure => simp [intOf]; omega
                  · have : i = N := by omega
                    subst this
                    obtain ⟨Bi, hBi⟩ : ∃ Bi, T ++ blanksB i = Bi := ⟨_, rfl⟩
                    have ec : (⟨Bi.toArray⟩ : ByteArray) ++ ⟨W.toArray⟩ = ⟨(Bi ++ W).toArray⟩ := by
                      apply ByteArray.ext; rw [ByteArray.data_append]; simp
                    rw [hBi] at hbl ⊢
                    have HBI := Lib.hid hBi
                    clear hBi
                    go_wp2
                    go_roundw
                    case rel => exact ⟨j + 1, Bi ++ W, L ++ [(p1, p2, T.length + i)], rfl, rfl, hlt, (by rw [← HBI.out, List.length_append, List.length_append]; unfold blanksB; rw [List.length_replicate]; omega), (by rw [List.map_append, HLM.out, List.take_add_one, hx]; simp), (by
                        have hpn : pendT X (j + 1) = (p1 == 7) := by unfold pendT; dsimp only; rw [hx]
                        rw [hpn, e7, ← HBI.out, ← HW.out]
                        have h7 := H7.out
                        subst h7
                        exact ahead_call T L i p2 HA.out hit hN1), hB5⟩
                    case measure => simp [intOf]; omega
              · have htk : TokRow wr (.slice (some ⟨b, o + j * 3, none⟩) 1 (cap - j)) [(p1, p2, 0)] := .inr ⟨b, o + j * 3, cap - j, rfl, by show 1 ≤ _; omega, hzb, fun i y hy => by
                  cases i with
                  | zero =>
                    simp at hy; subst hy
                    have := hc.below hB hb j _ hx
                    simpa using this
                  | succ i => simp at hy⟩
                have cP1 := cP [(p1, p2, 0)] (by simp) (by intro y hy; simp at hy; subst hy; show p2.length ≤ 1000; omega) _ wr hWr htk
                obtain ⟨hpx1, hpx2, hpx3, hpx4⟩ := in_other hit h7
                rw [hpx4] at cP1

                unfold strV at cP1
                dsimp only at cP1
                clear cP htk
                go_wp2_with fail
                refine cP1.mono ?_; rintro e w5 ⟨rfl, hb5⟩
                have hB5 := after hB hb5
                obtain ⟨kz0, kz1, -⟩ := hc.below hB5 hb j _ hx
                dsimp only at kz0 kz1
                have hz5 := Nat.lt_of_lt_of_le hb hB5.size
                clear hb5 cP1 kx0 kx1
                have e7 : (p1 == 7) = false := beq_eq_false_iff_ne.2 h7
                have H7 := Lib.hid h7
                clear h7

                obtain ⟨W, hW0⟩ : ∃ W, standsD p1 p2 = W := ⟨_, rfl⟩
                have hWl : W.length ≤ 13 := by rw [← hW0]; exact hpx3
                have HW := Lib.hid hW0
                rw [hW0]
                clear hW0 hpx1 hpx2 hpx3 hpx4

                go_wp2_with fail
                go_loopw [7, 12] (fun t q w' => ∃ i : Nat, t = .string ⟨(T ++ blanksB i).toArray⟩ ∧ q = .int .i64 (i : Int) ∧ i ≤ N ∧ w5 = w') (fun _ q _ => N - (intOf q).toNat)
                case atStart => exact ⟨0, by simp [blanksB], rfl, by omega, rfl⟩
                case round =>
                  obtain ⟨i, rfl, rfl, hi, rfl⟩ := hrel
                  have hbl : (T ++ blanksB i).length ≤ 200 := by rw [List.length_append]; unfold blanksB; rw [List.length_replicate]; omega
                  by_cases hi2 : i < N
                  · have ec : (⟨(T ++ blanksB i).toArray⟩ : ByteArray) ++ ⟨#[32]⟩ = ⟨(T ++ blanksB (i + 1)).toArray⟩ := by
                      apply ByteArray.ext; rw [ByteArray.data_append]; simp [blanksB, List.replicate_succ']
                    have ewi : IntKind.i64.wrap ((i : Int) + 1) = ((i + 1 : Nat) : Int) := by rw [IntWalk.i64_in _ (by omega)]; omega
                    have hs1 : (⟨(T ++ blanksB i).toArray⟩ : ByteArray).size ≤ 200 := by show (T ++ blanksB i).toArray.size ≤ _; simpa using hbl
                    generalize T ++ blanksB i = Bi at *
                    go_wp2
                    go_roundw
                    case rel => exact ⟨i + 1, rfl, rfl, hi2, trivial⟩
                    case measure => simp [intOf]; omega
                  · have : i = N := by omega
                    subst this
                    obtain ⟨Bi, hBi⟩ : ∃ Bi, T ++ blanksB i = Bi := ⟨_, rfl⟩
                    have ec : (⟨Bi.toArray⟩ : ByteArray) ++ ⟨W.toArray⟩ = ⟨(Bi ++ W).toArray⟩ := by
                      apply ByteArray.ext; rw [ByteArray.data_append]; simp
                    rw [hBi] at hbl ⊢
                    have HBI := Lib.hid hBi
                    clear hBi
                    go_wp2
                    go_roundw
                    case rel => exact ⟨j + 1, Bi ++ W, L ++ [(p1, p2, T.length + i)], rfl, rfl, hlt, (by rw [← HBI.out, List.length_append, List.length_append]; unfold blanksB; rw [List.length_replicate]; omega), (by rw [List.map_append, HLM.out, List.take_add_one, hx]; simp), (by
                        have hpn : pendT X (j + 1) = (p1 == 7) := by unfold pendT; dsimp only; rw [hx]
                        rw [hpn, e7, ← HBI.out, ← HW.out]
                        exact ahead_other T L false i p1 p2 HA.out hit H7.out (fun h => by cases h) (fun _ => hN1)), hB5⟩
                    case measure => simp [intOf]; omega
            · have h840 : p1 = 8 ∧ p2 = [40] := by
                unfold pendT at hpd
                cases j with
                | zero => cases hpd
                | succ i =>
                  obtain ⟨y, hy⟩ : ∃ y, X[i]? = some y := ⟨_, List.getElem?_eq_getElem (by omega)⟩
                  dsimp only at hpd
                  rw [hy] at hpd
                  have := HCL.out i y hy (by simpa using hpd) hlt
                  rw [hx] at this
                  injection this with h
                  injection h with h1 h2
                  injection h2 with h2 h3
                  exact ⟨h1, h2⟩
              have h7 : p1 ≠ 7 := by rw [h840.1]; decide
              have H840 := Lib.hid h840
              clear h840
              have htk : TokRow wr (.slice (some ⟨b, o + j * 3, none⟩) 1 (cap - j)) [(p1, p2, 0)] := .inr ⟨b, o + j * 3, cap - j, rfl, by show 1 ≤ _; omega, hzb, fun i y hy => by
                cases i with
                | zero =>
                  simp at hy; subst hy
                  have := hc.below hB hb j _ hx
                  simpa using this
                | succ i => simp at hy⟩
              have cP1 := cP [(p1, p2, 0)] (by simp) (by intro y hy; simp at hy; subst hy; show p2.length ≤ 1000; omega) _ wr hWr htk
              obtain ⟨hpx1, hpx2, hpx3, hpx4⟩ := in_other hit h7
              rw [hpx4] at cP1

              unfold strV at cP1
              dsimp only at cP1
              clear cP htk
              go_wp2_with fail
              refine cP1.mono ?_; rintro e w5 ⟨rfl, hb5⟩
              have hB5 := after hB hb5
              obtain ⟨kz0, kz1, -⟩ := hc.below hB5 hb j _ hx
              dsimp only at kz0 kz1
              have hz5 := Nat.lt_of_lt_of_le hb hB5.size
              clear hb5 cP1 kx0 kx1
              have e7 : (p1 == 7) = false := beq_eq_false_iff_ne.2 h7
              clear h7

              obtain ⟨W, hW0⟩ : ∃ W, standsD p1 p2 = W := ⟨_, rfl⟩
              have hWl : W.length ≤ 13 := by rw [← hW0]; exact hpx3
              have HW := Lib.hid hW0
              rw [hW0]
              clear hW0 hpx1 hpx2 hpx3 hpx4

              go_wp2_with fail
              go_loopw [7, 12] (fun t q w' => ∃ i : Nat, t = .string ⟨(T ++ blanksB i).toArray⟩ ∧ q = .int .i64 (i : Int) ∧ i ≤ 0 ∧ w5 = w') (fun _ q _ => 0 - (intOf q).toNat)
              case atStart => exact ⟨0, by simp [blanksB], rfl, by omega, rfl⟩
              case round =>
                obtain ⟨i, rfl, rfl, hi, rfl⟩ := hrel
                have hbl : (T ++ blanksB i).length ≤ 200 := by rw [List.length_append]; unfold blanksB; rw [List.length_replicate]; omega
                by_cases hi2 : i < 0
                · exact absurd hi2 (by omega)
                · have : i = 0 := by omega
                  subst this
                  obtain ⟨Bi, hBi⟩ : ∃ Bi, T ++ blanksB 0 = Bi := ⟨_, rfl⟩
                  have ec : (⟨Bi.toArray⟩ : ByteArray) ++ ⟨W.toArray⟩ = ⟨(Bi ++ W).toArray⟩ := by
                    apply ByteArray.ext; rw [ByteArray.data_append]; simp
                  rw [hBi] at hbl ⊢
                  have HBI := Lib.hid hBi
                  clear hBi
                  go_wp2
                  go_roundw
                  case rel => exact ⟨j + 1, Bi ++ W, L ++ [(p1, p2, T.length + 0)], rfl, rfl, hlt, (by rw [← HBI.out, List.length_append, List.length_append]; unfold blanksB; rw [List.length_replicate]; omega), (by rw [List.map_append, HLM.out, List.take_add_one, hx]; simp), (by
                        have hpn : pendT X (j + 1) = (p1 == 7) := by unfold pendT; dsimp only; rw [hx]
                        rw [hpn, e7, ← HBI.out, ← HW.out]
                        exact ahead_other T L true 0 p1 p2 HA.out hit (by rw [H840.out.1]; decide) (fun _ => ⟨rfl, H840.out⟩) (fun h => by cases h)), hB5⟩
                  case measure => simp [intOf]; omega
      · have hjk : j = k := by omega
        subst hjk
        have hLM : L.map (fun x => (x.1, x.2.1)) = X.map (fun x => (x.1, x.2.1)) := by rw [HLM.out, List.take_of_length_le (by omega)]
        have hLl : L.length = j := by have := congrArg List.length hLM; simpa [hXl] using this
        obtain ⟨i, rfl⟩ : ∃ i, j = i + 1 := ⟨j - 1, by omega⟩
        obtain ⟨y, hy⟩ : ∃ y, X[i]? = some y := ⟨_, List.getElem?_eq_getElem (by omega)⟩
        have hXr : TokRow wr (.slice (some ⟨b, o, none⟩) (i + 1) cap) X := .inr ⟨b, o, cap, by rw [hXl], by omega, hzb, hc.below hB hb⟩
        obtain ⟨y1, y2, y3⟩ := y
        obtain ⟨ky0, -, -⟩ := hc.below hB hb i _ hy
        dsimp only at ky0
        have hpv : pendT X (i + 1) = (y1 == 7) := by unfold pendT; dsimp only; rw [hy]
        have hA := HA.out
        rw [hpv] at hA
        have ei : IntKind.i64.wrap (((i + 1 : Nat) : Int) - 1) = (i : Int) := by rw [IntWalk.i64_in _ (by omega)]; omega
        have ei2 : IntKind.i64.wrap (i : Int) = (i : Int) := IntWalk.i64_in _ (by omega)
        have hTl : T.length ≤ 17 * (i + 1) := hT
        clear hu1 HA HLM cP hpv
        cases h7 : (y1 == 7)
        · rw [h7] at hA
          have hend := ahead_end T L hA
          have ec : (⟨T.toArray⟩ : ByteArray) ++ ⟨#[32, 32]⟩ = ⟨(T ++ [32, 32]).toArray⟩ := by
            apply ByteArray.ext; rw [ByteArray.data_append]; simp
          have hs1 : (⟨T.toArray⟩ : ByteArray).size ≤ 136 := by show T.toArray.size ≤ _; simp; omega
          have cT1 := cT ⟨(T ++ [32, 32]).toArray⟩ wr hWr (by show (T ++ [32, 32]).toArray.size ≤ _; simp; omega)
          have ed : (ByteArray.mk (T ++ [32, 32]).toArray).data.toList = T ++ [32, 32] := by simp
          rw [ed, hend] at cT1
          clear hA hend ed cT
          go_wp2_with fail
          refine cT1.mono ?_; rintro e w5 ⟨v5, rfl, hown5, hb5⟩
          have cS := same_any L X (by omega) (by omega) v5 _ w5 (tokRow_of_own hown5) (hXr.below hb5)
          rw [sameT_map L X hLM] at cS
          have hW5 := after hWr hb5
          clear hb5 hown5 cT1
          go_wp2_with fail
          refine cS.mono ?_; rintro e w6 ⟨rfl, hb6⟩
          have hW6 := after hW5 hb6
          clear hb6
          go_wp2
          go_ret
          exact ⟨rfl, hW6⟩
        · rw [h7] at hA
          have hin40 : InT 8 [40] := ⟨37, by decide, rfl, rfl⟩
          have hA2 := ahead_other T L true 0 8 [40] hA hin40 (by decide) (fun _ => ⟨rfl, rfl, rfl⟩) (fun h => by cases h)
          rw [show T ++ blanksB 0 ++ standsD 8 [40] = T ++ [40] from by simp [blanksB, standsD]] at hA2
          have hend := ahead_end _ _ hA2
          have ec1 : (⟨T.toArray⟩ : ByteArray) ++ ⟨#[40]⟩ = ⟨(T ++ [40]).toArray⟩ := by
            apply ByteArray.ext; rw [ByteArray.data_append]; simp
          have hs1 : (⟨T.toArray⟩ : ByteArray).size ≤ 136 := by show T.toArray.size ≤ _; simp; omega
          have hT4 : (T ++ [40]).length ≤ 137 := by rw [List.length_append]; simp; omega
          have hLM2 : (L ++ [((8 : Int), ([40] : Bs), T.length + 0)]).map (fun x : TokT => (x.1, x.2.1)) = ([] ++ X ++ [((8 : Int), ([40] : Bs), 0)]).map (fun x : TokT => (x.1, x.2.1)) := by
            rw [List.nil_append, List.map_append, List.map_append, hLM]; rfl
          obtain ⟨L2, hL2⟩ : ∃ L2, L ++ [((8 : Int), ([40] : Bs), T.length + 0)] = L2 := ⟨_, rfl⟩
          have hL2l : L2.length ≤ 100 := by rw [← hL2, List.length_append]; simp; omega
          rw [hL2] at hend hLM2
          generalize T ++ [40] = T4 at *
          have ec : (⟨T4.toArray⟩ : ByteArray) ++ ⟨#[32, 32]⟩ = ⟨(T4 ++ [32, 32]).toArray⟩ := by
            apply ByteArray.ext; rw [ByteArray.data_append]; simp
          have hs2 : (⟨T4.toArray⟩ : ByteArray).size ≤ 137 := by show T4.toArray.size ≤ _; simpa using hT4
          have cT1 := fun W hb => cT ⟨(T4 ++ [32, 32]).toArray⟩ W hb (by show (T4 ++ [32, 32]).toArray.size ≤ _; simp; omega)
          have ed : (ByteArray.mk (T4 ++ [32, 32]).toArray).data.toList = T4 ++ [32, 32] := by simp
          rw [ed, hend] at cT1
          clear hA hA2 hend ed cT hL2 hLM
          go_wp2_with (at_builtin; refine held ?_)
          unfold Held
          refine wpList_want (by rfl) ?_
          intro KK hKK
          refine tok_append _ _ rfl wr.heap.size (.slice none 0 0) _ [] X rfl rfl (World.ownsRow_nil _ _ _ _) hXr (by simp; omega) (Nat.le_refl _) ?_
          intro v5 w5 own5 hg5
          refine hKK _ _ ?_
          clear hKK
          have hb5 := (Below.refl wr.heap.size wr).grown hg5 (Nat.le_refl _) (fun k hk => by cases hk)
          go_wp2_with (at_builtin; refine held ?_)
          unfold Held
          refine wpList_want (by rfl) ?_
          intro KK hKK
          refine tok_append _ _ rfl wr.heap.size v5 _ ([] ++ X) [(8, [40], 0)] rfl rfl (own5.alloc _) (tokRow_new _ _ [(8, [40], 0)] _ rfl) (by simp; omega) (by have := hb5.size; simp; omega) ?_
          intro v6 w6 own6 hg6
          refine hKK _ _ ?_
          clear hKK
          have hb6 := (hb5.alloc hb5.size _).grown hg6 (by have := hb5.size; simp; omega) (fun k hk => (own5.lt k hk).1)
          have hW6 := after hWr hb6
          have R6 := tokRow_of_own own6
          clear own5 own6 hg5 hg6 hb5 hb6 hXr ky0
          go_wp2_with fail
          refine (cT1 _ hW6).mono ?_; rintro e w7 ⟨v7, rfl, hown7, hb7⟩
          have cS := same_any L2 ([] ++ X ++ [(8, [40], 0)]) (by omega) (by simp; omega) v7 v6 w7 (tokRow_of_own hown7) (R6.below hb7)
          rw [sameT_map _ _ hLM2] at cS
          have hW7 := after hW6 hb7
          clear hb7 hown7 cT1
          go_wp2_with fail
          refine cS.mono ?_; rintro e w8 ⟨rfl, hb8⟩
          have hW8 := after hW7 hb8
          clear hb8
          go_wp2
          go_ret
          exact ⟨rfl, hW8⟩
end Go.Proofs.YtgnejohiagagmaaGreatDoor
