/- The walk of tabulalaw04.LexJoins. -/
import Derived.Test.YtgnejohiagagmaaGreatDoorG15
import Derived.Test.YtgnejohiagagmaaGreatDoorG17
import Derived.Test.YtgnejohiagagmaaGreatDoorHTokA
namespace Tab
theorem sameT_refl : ∀ (L : List TokT), sameT L L = true
  | [] => rfl
  | x :: L => by unfold sameT; rw [sameT_refl L]; simp
theorem sameT_app : ∀ (A L M : List TokT), sameT (A ++ L) (A ++ M) = sameT L M
  | [], _, _ => rfl
  | x :: A, L, M => by
    show (_ && sameT (A ++ L) (A ++ M)) = _
    rw [sameT_app A L M]; simp
theorem sameT_sh (n : Nat) : ∀ (L : List TokT), sameT (L.map (shT n)) L = true
  | [] => rfl
  | x :: L => by
    show (_ && sameT (L.map (shT n)) L) = _
    rw [sameT_sh n L]; simp [shT]
/-- what the pieces of both are, a blank between. -/
theorem told_both (decE : Bs → Int) (a b : Bs) (L : List TokT) (h : toldD decE a = .ok L) : toldD decE (a ++ 32 :: b) = (match toldD decE b with
    | .error n => .error (a.length + 1 + n)
    | .ok M => .ok (L ++ M.map (shT (a.length + 1)))) := by
  have hs := told_stand decE a a.length 0 L (by omega) h
  exact told_ahead decE a b 0 L hs (by omega) (a ++ 32 :: b).length (by simp; omega)
end Tab
namespace Go.Proofs.YtgnejohiagagmaaGreatDoor
open Go.RowKit Tab

set_option maxRecDepth 100000 in
set_option maxHeartbeats 16000000 in
theorem joins_walk (s t : ByteArray) (m n : Nat) (hm : m ≤ 90) (hm' : m ≤ s.size) (hmin : min (s.size : Int) 90 = (m : Int)) (hn : n ≤ 90) (hn' : n ≤ t.size) (hnin : min (t.size : Int) 90 = (n : Int)) (_hs : s.size ≤ 9223372036854775807) (_ht : t.size ≤ 9223372036854775807) (w : World) (hg : Good w) (hwd : Words w) : Calls Tryz.prog 9 #[.string s, .string t] w (Ret (.bool true) w) := by
  have cE := examples_any w hg hwd
  have cT : ∀ (s : ByteArray) (W : World), Below w.heap.size w W → s.size ≤ 200 → Calls Tryz.prog 17 #[.string s] W (Toks (toldD decED s.data.toList) W) := fun s W hb hs => by
    have := Tokens_any decED decIs s W (hg.below hb) (hwd.below hb) (by omega)
    rw [tokens_told decED _ (by rw [ba_size]; exact hs)] at this
    exact this
  obtain ⟨A, hA⟩ : ∃ A, s.extract 0 m = A := ⟨_, rfl⟩
  have hAs : A.size = m := by rw [← hA, ByteArray.size_extract]; omega
  obtain ⟨B, hB⟩ : ∃ B, t.extract 0 n = B := ⟨_, rfl⟩
  have hBs : B.size = n := by rw [← hB, ByteArray.size_extract]; omega
  obtain ⟨C, hC⟩ : ∃ C, A ++ ⟨#[32]⟩ ++ B = C := ⟨_, rfl⟩
  have hCs : C.size = m + 1 + n := by rw [← hC, ByteArray.size_append, ByteArray.size_append, hAs, hBs]; rfl
  have hCl : C.data.toList = A.data.toList ++ 32 :: B.data.toList := by rw [← hC, ba_append, ba_append]; simp
  have hlA : A.data.toList.length = m := hAs
  have cA := fun W hb => cT A W hb (by omega)
  have cB := fun W hb => cT B W hb (by omega)
  have cC := fun W hb => cT C W hb (by omega)
  rw [hCl] at cC
  clear cT hCl
  go_enter Tryz.func9, Tryz.ntmps9
  go_wp2_with fail
  refine cE.mono ?_; rintro e w1 ⟨rfl, hW⟩
  clear cE
  go_wp2_with fail
  refine (cA _ hW).mono ?_
  cases hta : toldD decED A.data.toList with
  | error k =>
    rintro e w2 ⟨rfl, hb2⟩
    replace hW := after hW hb2
    clear hb2 cA
    go_wp2_with fail
    refine (cB _ hW).mono ?_
    obtain ⟨RB, hRB⟩ : ∃ R, toldD decED B.data.toList = R := ⟨_, rfl⟩
    obtain ⟨RC, hRC⟩ : ∃ R, toldD decED (A.data.toList ++ 32 :: B.data.toList) = R := ⟨_, rfl⟩
    rw [hRC] at cC
    rw [hRB]
    clear hRB hRC hta
    cases RB <;> cases RC
    all_goals (
      first
        | (rintro e w3 ⟨rfl, hb3⟩; replace hW := after hW hb3; clear hb3 cB)
        | (rintro e w3 ⟨v3, rfl, -, hb3⟩; replace hW := after hW hb3; clear hb3 cB)
      go_wp2_with fail
      refine (cC _ hW).mono ?_
      first
        | (rintro e w4 ⟨rfl, hb4⟩; replace hW := after hW hb4; clear hb4 cC)
        | (rintro e w4 ⟨v4, rfl, -, hb4⟩; replace hW := after hW hb4; clear hb4 cC)
      go_wp2
      go_ret
      exact ⟨rfl, hW⟩)
  | ok L =>
    rw [told_both decED _ _ L hta] at cC
    have hsA := told_stand decED _ _ 0 L (by omega) hta
    have hcA : L.length ≤ 100 := by rcases stand_count hsA with h | h <;> omega
    rintro e w2 ⟨v2, rfl, hown2, hb2⟩
    replace hW := after hW hb2
    have R2 := tokRow_of_own hown2
    clear hb2 cA hown2 hta hsA
    go_wp2_with fail
    refine (cB _ hW).mono ?_
    cases htb : toldD decED B.data.toList with
    | error k =>
      rw [htb] at cC
      dsimp only at cC
      rw [hlA] at cC
      rintro e w3 ⟨rfl, hb3⟩
      replace hW := after hW hb3
      clear hb3 cB R2
      go_wp2_with fail
      refine (cC _ hW).mono ?_
      rintro e w4 ⟨rfl, hb4⟩
      replace hW := after hW hb4
      clear hb4 cC
      have e1 : decide ((m : Int) < ((m + 1 + k : Nat) : Int)) = true := decide_eq_true (by omega)
      have e2 : decide (m < m + 1 + k) = true := decide_eq_true (by omega)
      have e3 : decide ((m : Int) < (m : Int) + 1 + (k : Int)) = true := decide_eq_true (by omega)
      go_wp2
      go_ret
      exact ⟨rfl, hW⟩
    | ok M =>
      rw [htb] at cC
      dsimp only at cC
      have hsB := told_stand decED _ _ 0 M (by omega) htb
      have hlB : B.data.toList.length = n := hBs
      have hcB : M.length ≤ 100 := by rcases stand_count hsB with h | h <;> omega
      rintro e w3 ⟨v3, rfl, hown3, hb3⟩
      replace hW := after hW hb3
      replace R2 := R2.below hb3
      have R3 := tokRow_of_own hown3
      clear hb3 cB hown3 htb hsB
      go_wp2_with fail
      refine (cC _ hW).mono ?_
      rintro e w4 ⟨v4, rfl, hown4, hb4⟩
      replace hW := after hW hb4
      replace R2 := R2.below hb4
      replace R3 := R3.below hb4
      have R4 := tokRow_of_own hown4
      clear hb4 cC
      go_wp2_with (at_builtin; refine held ?_)
      unfold Held
      refine wpList_want (by rfl) ?_
      intro KK hKK
      refine tok_append _ _ rfl w4.heap.size (.slice none 0 0) v2 [] L rfl rfl (World.ownsRow_nil _ _ _ _) R2 (by simp; omega) (Nat.le_refl _) ?_
      intro v5 w5 hown5 hg5
      refine hKK _ _ ?_
      clear hKK
      have hb5 := (Below.refl w4.heap.size w4).grown hg5 (Nat.le_refl _) (fun k hk => by cases hk)
      replace R3 := R3.below hb5
      replace R4 := R4.below hb5
      have hW5 := after hW hb5
      go_wp2_with (at_builtin; refine held ?_)
      unfold Held
      refine wpList_want (by rfl) ?_
      intro KK hKK
      refine tok_append _ _ rfl w4.heap.size v5 v3 ([] ++ L) M rfl rfl hown5 R3 (by simp; omega) hb5.size ?_
      intro v6 w6 hown6 hg6
      refine hKK _ _ ?_
      clear hKK
      have hb6 := hb5.grown hg6 hb5.size (fun k hk => (hown5.lt k hk).1)
      have R4' := (show TokRow w4 v4 (L ++ List.map (shT (A.data.toList.length + 1)) M) from tokRow_of_own hown4).below hb6
      have hW6 := after hW hb6
      have cS := same_any (L ++ M.map (shT (A.data.toList.length + 1))) ([] ++ L ++ M) (by rw [List.length_append, List.length_map]; omega) (by rw [List.length_append, List.length_append]; simp; omega) v4 v6 w6 R4' (tokRow_of_own hown6)
      rw [List.nil_append, sameT_app, sameT_sh] at cS
      clear hown5 hown6 hg5 hg6 R3 R4 R4' hb5 hb6 hW hW5
      go_wp2_with fail
      refine cS.mono ?_; rintro e w7 ⟨rfl, hb7⟩
      have hW7 := after hW6 hb7
      clear hb7
      go_wp2
      go_ret
      exact ⟨rfl, hW7⟩

theorem law_LexJoins (s t : ByteArray) (w : World) (hg : Good w) (hwd : Words w) (hs : s.size ≤ 9223372036854775807) (ht : t.size ≤ 9223372036854775807) : Calls Tryz.prog 9 #[.string s, .string t] w (Ret (.bool true) w) :=
  joins_walk s t (min s.size 90) (min t.size 90) (by omega) (by omega) (by omega) (by omega) (by omega) (by omega) hs ht w hg hwd
end Go.Proofs.YtgnejohiagagmaaGreatDoor
