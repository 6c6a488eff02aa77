/- The walk of tabulalaw04.LexBack. -/
import Derived.Test.YtgnejohiagagmaaGreatDoorHBackP
import Derived.Test.YtgnejohiagagmaaGreatDoorHPiecesW
import Derived.Test.YtgnejohiagagmaaGreatDoorHBlanksW
namespace Tab
theorem printD_cases (decE : Bs → Int) (L : List TokT) : (∃ t, printD decE L = (t, 0)) ∨ printD decE L = ([], 40) := by
  unfold printD
  cases printF decE L none [] with
  | none => exact .inr rfl
  | some t => exact .inl ⟨t, rfl⟩
theorem stand_short {decE : Bs → Int} {s : Bs} {a : Nat} {L : List TokT} (h : Stand decE s a L) : ∀ x ∈ L, x.2.1.length ≤ s.length := by
  induction h with
  | none => intro x hx; cases hx
  | some a b k S n L hab hb h h32 hx hn hL ih =>
    intro x hxm
    rcases List.mem_cons.1 hxm with rfl | hxm
    · have := next_bound decE _ _ _ _ hx
      rw [List.length_drop] at this
      dsimp only
      omega
    · exact ih x hxm
theorem pieces_few (l : List Int) : (piecesT l).length ≤ 1000000 := by
  have h : ∀ (l : List Int), (l.flatMap fun z => pieceT (z % 44).toNat).length ≤ 2 * l.length := by
    intro l
    induction l with
    | nil => simp
    | cons z l ih =>
      have := pieceT_len (z % 44).toNat
      rw [List.flatMap_cons, List.length_append, List.length_cons]
      omega
  have h1 := h (l.take 18)
  have h2 : (l.take 18).length ≤ 18 := by rw [List.length_take]; omega
  unfold piecesT
  omega
theorem sameT_swap (L M : List TokT) (h : sameT L M = true) : sameT M L = true := (sameT_iff M L).2 ((sameT_iff L M).1 h).symm
theorem sameT_count (L M : List TokT) (h : sameT L M = true) : L.length = M.length := by
  have := congrArg List.length ((sameT_iff L M).1 h)
  simpa using this
end Tab
namespace Go.Proofs.YtgnejohiagagmaaGreatDoor
open Go.RowKit Tab

theorem byteRow_below {w W : World} {v : Value} {l : List Int} (hv : ByteRow w v l) (hW : Below w.heap.size w W) : ByteRow W v l := by
  rcases hv with h | ⟨a, cap, h1, h2, h3⟩
  · exact .inl h
  · refine .inr ⟨a, cap, h1, h2, fun i hi => ?_⟩
    rw [← h3 i hi]
    have hb := World.block_lt_of_cell? w _ (h3 i hi)
    exact World.cell?_of_block (w := w) (hW.block _ hb)

set_option maxRecDepth 100000 in
set_option maxHeartbeats 16000000 in
theorem back_walk (v u : Value) (l q : List Int) (s : ByteArray) (m : Nat) (hm : m ≤ 100) (hm' : m ≤ s.size) (hmin : min (s.size : Int) 100 = (m : Int)) (_hs : s.size ≤ 9223372036854775807) (w : World) (hg : Good w) (hwd : Words w) (hv : ByteRow w v l) (hr : ∀ z ∈ l, 0 ≤ z ∧ z ≤ 255) (hlen : l.length ≤ 9223372036854775807) (hu : ByteRow w u q) (hr2 : ∀ z ∈ q, 0 ≤ z ∧ z ≤ 255) (hlen2 : q.length ≤ 9223372036854775807) : Calls Tryz.prog 4 #[v, u, .string s] w (Ret (.bool true) w) := by
  have cE := examples_any w hg hwd
  have cT : ∀ (s : ByteArray) (W : World), Below w.heap.size w W → s.size ≤ 200 → Calls Tryz.prog 17 #[.string s] W (Toks (toldD decED s.data.toList) W) := fun s W hb hs => by
    have := Tokens_any decED decIs s W (hg.below hb) (hwd.below hb) (by omega)
    rw [tokens_told decED _ (by rw [ba_size]; exact hs)] at this
    exact this
  have cP : ∀ L hn hl v W, Below w.heap.size w W → TokRow W v L → Calls Tryz.prog 11 #[v] W (Ret (.tuple #[strV (printD decED L).1, .int .i64 (printD decED L).2]) W) := fun L hn hl v W hb h => print_any decED decIs L hn hl v W (hg.below hb) (hwd.below hb) h
  have cX := fun W hb => pieces_any v l W hb hr hlen
  have cY := fun W hb => pieces_any u q W hb hr2 hlen2
  have nX : (piecesT l).length ≤ 1000000 := pieces_few l
  have nY : (piecesT q).length ≤ 1000000 := pieces_few q
  have iX := pieces_in l
  have iY := pieces_in q
  obtain ⟨X, hX⟩ : ∃ X, piecesT l = X := ⟨_, rfl⟩
  obtain ⟨Y, hY⟩ : ∃ Y, piecesT q = Y := ⟨_, rfl⟩
  rw [hX] at cX nX iX
  rw [hY] at cY nY iY
  clear hX hY
  have sX : ∀ x ∈ X, x.2.1.length ≤ 1000 := fun x hx => by have := in_len (iX x hx).1; omega
  have sY : ∀ x ∈ Y, x.2.1.length ≤ 1000 := fun x hx => by have := in_len (iY x hx).1; omega
  clear iX iY
  have pX := fun v W hb h => cP X nX sX v W hb h
  have pY := fun v W hb h => cP Y nY sY v W hb h
  obtain ⟨A, hA⟩ : ∃ A, s.extract 0 m = A := ⟨_, rfl⟩
  have hAs : A.size = m := by rw [← hA, ByteArray.size_extract]; omega
  have hlA : A.data.toList.length ≤ 100 := by rw [ba_size]; omega
  have cA := fun W hb => cT A W hb (by omega)
  unfold strV at *
  go_enter Tryz.func4, Tryz.ntmps4
  go_wp2_with fail
  refine cE.mono ?_; rintro e w1 ⟨rfl, hW⟩
  clear cE
  go_wp2_with fail
  refine (cX w1 (byteRow_below hv hW)).mono ?_
  rintro e w2 ⟨v2, rfl, hown, hb2⟩
  replace hW := after hW hb2
  have RX := tokRow_of_own hown
  clear hb2 hown cX hv
  go_wp2_with fail
  refine (cY w2 (byteRow_below hu hW)).mono ?_
  rintro e w3 ⟨v3, rfl, hown, hb2⟩
  replace hW := after hW hb2
  replace RX := RX.below hb2
  have RY := tokRow_of_own hown
  clear hb2 hown cY hu
  rcases printD_cases decED X with ⟨t, hP⟩ | hP
  · obtain ⟨h200, M, hM, hs⟩ := back_a decED X t hP
    rw [hP] at pX
    dsimp only at pX
    have cN := fun W hb => cT ⟨t.toArray⟩ W hb (by show t.toArray.size ≤ _; simpa using h200)
    rw [show (⟨t.toArray⟩ : ByteArray).data.toList = t from rfl, hM] at cN
    have nM : M.length ≤ 1000000 := by rw [sameT_count _ _ hs]; exact nX
    clear hM h200
    rcases printD_cases decED Y with ⟨x, hQ⟩ | hQ
    · rw [hQ] at pY
      dsimp only at pY
      have hBB := back_b decED X Y t x hP hQ
      clear hP hQ
      go_wp2_with fail
      refine (pX _ _ hW RX).mono ?_; rintro e w4 ⟨rfl, hb⟩
      replace hW := after hW hb
      replace RX := RX.below hb
      replace RY := RY.below hb
      clear hb pX
      go_wp2_with fail
      refine (pY _ _ hW RY).mono ?_; rintro e w5 ⟨rfl, hb⟩
      replace hW := after hW hb
      replace RX := RX.below hb
      replace RY := RY.below hb
      clear hb pY
      go_wp2_with fail
      refine (cN _ hW).mono ?_; rintro e w6 ⟨v6, rfl, hown, hb⟩
      replace hW := after hW hb
      replace RX := RX.below hb
      replace RY := RY.below hb
      have cS := same_any M X nM nX v6 v2 w6 (tokRow_of_own hown) RX
      rw [hs] at cS
      clear hb cN hown
      go_wp2_with fail
      refine cS.mono ?_; rintro e w7 ⟨rfl, hb⟩
      replace hW := after hW hb
      replace RX := RX.below hb
      replace RY := RY.below hb
      clear hb cS
      have cS := same_any X Y nX nY v2 v3 w7 RX RY
      obtain ⟨B, hB⟩ : ∃ B, sameT X Y = B := ⟨_, rfl⟩
      rw [hB] at cS hBB
      clear hB hs
      cases B
      all_goals (
        go_wp2_with fail
        refine cS.mono ?_; rintro e w8 ⟨rfl, hb⟩
        replace hW := after hW hb
        clear hb cS RX RY

        -- the end
        go_wp2_with fail
        refine (cA _ hW).mono ?_
        cases hta : toldD decED A.data.toList with
        | error k =>
          rintro e wa ⟨rfl, hb⟩
          replace hW := after hW hb
          clear hb cA
          have pN := cP [] (by simp) (by simp) (.slice none 0 0) wa hW (.inl ⟨rfl, rfl⟩)
          rw [show printD decED [] = ([], 0) from rfl] at pN
          dsimp only at pN
          have cN := fun W hb => cT ⟨#[]⟩ W hb (by decide)
          rw [show toldD decED (ByteArray.mk #[]).data.toList = .ok [] from rfl] at cN
          clear cP cT
          go_wp2_with fail
          refine pN.mono ?_; rintro e wb ⟨rfl, hb⟩
          replace hW := after hW hb
          clear hb pN
          go_wp2_with fail
          refine (cN _ hW).mono ?_; rintro e wc ⟨vc, rfl, -, hb⟩
          replace hW := after hW hb
          clear hb cN
          go_wp2
          go_ret
          exact ⟨rfl, hW⟩
        | ok L =>
          rintro e wa ⟨va, rfl, hown, hb⟩
          replace hW := after hW hb
          have RL := tokRow_of_own hown
          have hst := told_stand decED _ _ 0 L (by omega) hta
          have nL : L.length ≤ 1000000 := by rcases stand_count hst with h | h <;> omega
          have sL : ∀ x ∈ L, x.2.1.length ≤ 1000 := fun x hx => by have := stand_short hst x hx; omega
          obtain ⟨t, ht⟩ := back_c decED _ hlA L hta
          obtain ⟨h200, M, hM, hs⟩ := back_a decED L t ht
          have pN := cP L nL sL va wa hW RL
          rw [ht] at pN
          dsimp only at pN
          have cN := fun W hb => cT ⟨t.toArray⟩ W hb (by show t.toArray.size ≤ _; simpa using h200)
          rw [show (⟨t.toArray⟩ : ByteArray).data.toList = t from rfl, hM] at cN
          have nM : M.length ≤ 1000000 := by rw [sameT_count _ _ hs]; exact nL
          have hsw := sameT_swap _ _ hs
          clear hb hown cA cP cT ht hta hst hM h200 sL
          go_wp2_with fail
          refine pN.mono ?_; rintro e wb ⟨rfl, hb⟩
          replace hW := after hW hb
          replace RL := RL.below hb
          clear hb pN
          go_wp2_with fail
          refine (cN _ hW).mono ?_; rintro e wc ⟨vc, rfl, hown, hb⟩
          replace hW := after hW hb
          replace RL := RL.below hb
          have cS := same_any L M nL nM va vc wc RL (tokRow_of_own hown)
          rw [hsw] at cS
          clear hb cN hown hsw hs
          go_wp2_with fail
          refine cS.mono ?_; rintro e wd ⟨rfl, hb⟩
          replace hW := after hW hb
          clear hb cS
          go_wp2
          go_ret
          exact ⟨rfl, hW⟩)
    · rw [hQ] at pY
      dsimp only at pY
      clear hP hQ
      go_wp2_with fail
      refine (pX _ _ hW RX).mono ?_; rintro e w4 ⟨rfl, hb⟩
      replace hW := after hW hb
      replace RX := RX.below hb
      replace RY := RY.below hb
      clear hb pX
      go_wp2_with fail
      refine (pY _ _ hW RY).mono ?_; rintro e w5 ⟨rfl, hb⟩
      replace hW := after hW hb
      replace RX := RX.below hb
      replace RY := RY.below hb
      clear hb pY
      go_wp2_with fail
      refine (cN _ hW).mono ?_; rintro e w6 ⟨v6, rfl, hown, hb⟩
      replace hW := after hW hb
      replace RX := RX.below hb
      replace RY := RY.below hb
      have cS := same_any M X nM nX v6 v2 w6 (tokRow_of_own hown) RX
      rw [hs] at cS
      clear hb cN hown
      go_wp2_with fail
      refine cS.mono ?_; rintro e w7 ⟨rfl, hb⟩
      replace hW := after hW hb
      replace RX := RX.below hb
      replace RY := RY.below hb
      clear hb cS
      clear RX RY hs

      -- the end
      go_wp2_with fail
      refine (cA _ hW).mono ?_
      cases hta : toldD decED A.data.toList with
      | error k =>
        rintro e wa ⟨rfl, hb⟩
        replace hW := after hW hb
        clear hb cA
        have pN := cP [] (by simp) (by simp) (.slice none 0 0) wa hW (.inl ⟨rfl, rfl⟩)
        rw [show printD decED [] = ([], 0) from rfl] at pN
        dsimp only at pN
        have cN := fun W hb => cT ⟨#[]⟩ W hb (by decide)
        rw [show toldD decED (ByteArray.mk #[]).data.toList = .ok [] from rfl] at cN
        clear cP cT
        go_wp2_with fail
        refine pN.mono ?_; rintro e wb ⟨rfl, hb⟩
        replace hW := after hW hb
        clear hb pN
        go_wp2_with fail
        refine (cN _ hW).mono ?_; rintro e wc ⟨vc, rfl, -, hb⟩
        replace hW := after hW hb
        clear hb cN
        go_wp2
        go_ret
        exact ⟨rfl, hW⟩
      | ok L =>
        rintro e wa ⟨va, rfl, hown, hb⟩
        replace hW := after hW hb
        have RL := tokRow_of_own hown
        have hst := told_stand decED _ _ 0 L (by omega) hta
        have nL : L.length ≤ 1000000 := by rcases stand_count hst with h | h <;> omega
        have sL : ∀ x ∈ L, x.2.1.length ≤ 1000 := fun x hx => by have := stand_short hst x hx; omega
        obtain ⟨t, ht⟩ := back_c decED _ hlA L hta
        obtain ⟨h200, M, hM, hs⟩ := back_a decED L t ht
        have pN := cP L nL sL va wa hW RL
        rw [ht] at pN
        dsimp only at pN
        have cN := fun W hb => cT ⟨t.toArray⟩ W hb (by show t.toArray.size ≤ _; simpa using h200)
        rw [show (⟨t.toArray⟩ : ByteArray).data.toList = t from rfl, hM] at cN
        have nM : M.length ≤ 1000000 := by rw [sameT_count _ _ hs]; exact nL
        have hsw := sameT_swap _ _ hs
        clear hb hown cA cP cT ht hta hst hM h200 sL
        go_wp2_with fail
        refine pN.mono ?_; rintro e wb ⟨rfl, hb⟩
        replace hW := after hW hb
        replace RL := RL.below hb
        clear hb pN
        go_wp2_with fail
        refine (cN _ hW).mono ?_; rintro e wc ⟨vc, rfl, hown, hb⟩
        replace hW := after hW hb
        replace RL := RL.below hb
        have cS := same_any L M nL nM va vc wc RL (tokRow_of_own hown)
        rw [hsw] at cS
        clear hb cN hown hsw hs
        go_wp2_with fail
        refine cS.mono ?_; rintro e wd ⟨rfl, hb⟩
        replace hW := after hW hb
        clear hb cS
        go_wp2
        go_ret
        exact ⟨rfl, hW⟩
  · rw [hP] at pX
    dsimp only at pX
    rcases printD_cases decED Y with ⟨x, hQ⟩ | hQ
    · rw [hQ] at pY
      dsimp only at pY
      clear hP hQ
      go_wp2_with fail
      refine (pX _ _ hW RX).mono ?_; rintro e w4 ⟨rfl, hb⟩
      replace hW := after hW hb
      replace RX := RX.below hb
      replace RY := RY.below hb
      clear hb pX
      go_wp2_with fail
      refine (pY _ _ hW RY).mono ?_; rintro e w5 ⟨rfl, hb⟩
      replace hW := after hW hb
      replace RX := RX.below hb
      replace RY := RY.below hb
      clear hb pY
      clear RX RY

      -- the end
      go_wp2_with fail
      refine (cA _ hW).mono ?_
      cases hta : toldD decED A.data.toList with
      | error k =>
        rintro e wa ⟨rfl, hb⟩
        replace hW := after hW hb
        clear hb cA
        have pN := cP [] (by simp) (by simp) (.slice none 0 0) wa hW (.inl ⟨rfl, rfl⟩)
        rw [show printD decED [] = ([], 0) from rfl] at pN
        dsimp only at pN
        have cN := fun W hb => cT ⟨#[]⟩ W hb (by decide)
        rw [show toldD decED (ByteArray.mk #[]).data.toList = .ok [] from rfl] at cN
        clear cP cT
        go_wp2_with fail
        refine pN.mono ?_; rintro e wb ⟨rfl, hb⟩
        replace hW := after hW hb
        clear hb pN
        go_wp2_with fail
        refine (cN _ hW).mono ?_; rintro e wc ⟨vc, rfl, -, hb⟩
        replace hW := after hW hb
        clear hb cN
        go_wp2
        go_ret
        exact ⟨rfl, hW⟩
      | ok L =>
        rintro e wa ⟨va, rfl, hown, hb⟩
        replace hW := after hW hb
        have RL := tokRow_of_own hown
        have hst := told_stand decED _ _ 0 L (by omega) hta
        have nL : L.length ≤ 1000000 := by rcases stand_count hst with h | h <;> omega
        have sL : ∀ x ∈ L, x.2.1.length ≤ 1000 := fun x hx => by have := stand_short hst x hx; omega
        obtain ⟨t, ht⟩ := back_c decED _ hlA L hta
        obtain ⟨h200, M, hM, hs⟩ := back_a decED L t ht
        have pN := cP L nL sL va wa hW RL
        rw [ht] at pN
        dsimp only at pN
        have cN := fun W hb => cT ⟨t.toArray⟩ W hb (by show t.toArray.size ≤ _; simpa using h200)
        rw [show (⟨t.toArray⟩ : ByteArray).data.toList = t from rfl, hM] at cN
        have nM : M.length ≤ 1000000 := by rw [sameT_count _ _ hs]; exact nL
        have hsw := sameT_swap _ _ hs
        clear hb hown cA cP cT ht hta hst hM h200 sL
        go_wp2_with fail
        refine pN.mono ?_; rintro e wb ⟨rfl, hb⟩
        replace hW := after hW hb
        replace RL := RL.below hb
        clear hb pN
        go_wp2_with fail
        refine (cN _ hW).mono ?_; rintro e wc ⟨vc, rfl, hown, hb⟩
        replace hW := after hW hb
        replace RL := RL.below hb
        have cS := same_any L M nL nM va vc wc RL (tokRow_of_own hown)
        rw [hsw] at cS
        clear hb cN hown hsw hs
        go_wp2_with fail
        refine cS.mono ?_; rintro e wd ⟨rfl, hb⟩
        replace hW := after hW hb
        clear hb cS
        go_wp2
        go_ret
        exact ⟨rfl, hW⟩
    · rw [hQ] at pY
      dsimp only at pY
      clear hP hQ
      go_wp2_with fail
      refine (pX _ _ hW RX).mono ?_; rintro e w4 ⟨rfl, hb⟩
      replace hW := after hW hb
      replace RX := RX.below hb
      replace RY := RY.below hb
      clear hb pX
      go_wp2_with fail
      refine (pY _ _ hW RY).mono ?_; rintro e w5 ⟨rfl, hb⟩
      replace hW := after hW hb
      replace RX := RX.below hb
      replace RY := RY.below hb
      clear hb pY
      clear RX RY

      -- the end
      go_wp2_with fail
      refine (cA _ hW).mono ?_
      cases hta : toldD decED A.data.toList with
      | error k =>
        rintro e wa ⟨rfl, hb⟩
        replace hW := after hW hb
        clear hb cA
        have pN := cP [] (by simp) (by simp) (.slice none 0 0) wa hW (.inl ⟨rfl, rfl⟩)
        rw [show printD decED [] = ([], 0) from rfl] at pN
        dsimp only at pN
        have cN := fun W hb => cT ⟨#[]⟩ W hb (by decide)
        rw [show toldD decED (ByteArray.mk #[]).data.toList = .ok [] from rfl] at cN
        clear cP cT
        go_wp2_with fail
        refine pN.mono ?_; rintro e wb ⟨rfl, hb⟩
        replace hW := after hW hb
        clear hb pN
        go_wp2_with fail
        refine (cN _ hW).mono ?_; rintro e wc ⟨vc, rfl, -, hb⟩
        replace hW := after hW hb
        clear hb cN
        go_wp2
        go_ret
        exact ⟨rfl, hW⟩
      | ok L =>
        rintro e wa ⟨va, rfl, hown, hb⟩
        replace hW := after hW hb
        have RL := tokRow_of_own hown
        have hst := told_stand decED _ _ 0 L (by omega) hta
        have nL : L.length ≤ 1000000 := by rcases stand_count hst with h | h <;> omega
        have sL : ∀ x ∈ L, x.2.1.length ≤ 1000 := fun x hx => by have := stand_short hst x hx; omega
        obtain ⟨t, ht⟩ := back_c decED _ hlA L hta
        obtain ⟨h200, M, hM, hs⟩ := back_a decED L t ht
        have pN := cP L nL sL va wa hW RL
        rw [ht] at pN
        dsimp only at pN
        have cN := fun W hb => cT ⟨t.toArray⟩ W hb (by show t.toArray.size ≤ _; simpa using h200)
        rw [show (⟨t.toArray⟩ : ByteArray).data.toList = t from rfl, hM] at cN
        have nM : M.length ≤ 1000000 := by rw [sameT_count _ _ hs]; exact nL
        have hsw := sameT_swap _ _ hs
        clear hb hown cA cP cT ht hta hst hM h200 sL
        go_wp2_with fail
        refine pN.mono ?_; rintro e wb ⟨rfl, hb⟩
        replace hW := after hW hb
        replace RL := RL.below hb
        clear hb pN
        go_wp2_with fail
        refine (cN _ hW).mono ?_; rintro e wc ⟨vc, rfl, hown, hb⟩
        replace hW := after hW hb
        replace RL := RL.below hb
        have cS := same_any L M nL nM va vc wc RL (tokRow_of_own hown)
        rw [hsw] at cS
        clear hb cN hown hsw hs
        go_wp2_with fail
        refine cS.mono ?_; rintro e wd ⟨rfl, hb⟩
        replace hW := after hW hb
        clear hb cS
        go_wp2
        go_ret
        exact ⟨rfl, hW⟩

theorem law_LexBack (v u : Value) (l q : List Int) (s : ByteArray) (w : World) (hg : Good w) (hwd : Words w) (hv : ByteRow w v l) (hr : ∀ z ∈ l, 0 ≤ z ∧ z ≤ 255) (hlen : l.length ≤ 9223372036854775807) (hu : ByteRow w u q) (hr2 : ∀ z ∈ q, 0 ≤ z ∧ z ≤ 255) (hlen2 : q.length ≤ 9223372036854775807) (hs : s.size ≤ 9223372036854775807) : Calls Tryz.prog 4 #[v, u, .string s] w (Ret (.bool true) w) :=
  back_walk v u l q s (min s.size 100) (by omega) (by omega) (by omega) hs w hg hwd hv hr hlen hu hr2 hlen2
end Go.Proofs.YtgnejohiagagmaaGreatDoor
