/- The walk of tabulalaw04.LexPlaces. -/
import Derived.Test.YtgnejohiagagmaaGreatDoorG15
import Derived.Test.YtgnejohiagagmaaGreatDoorG11
namespace Tab
theorem stand_late {decE : Bs → Int} {s : Bs} {a c : Nat} {L : List TokT} (h : Stand decE s a L) (hac : a ≤ c) (hc : ∀ x M, L = x :: M → c ≤ x.2.2) : Stand decE s c L := by
  cases h with
  | none _ h => exact .none c (fun k h1 h2 => h k (by omega) h2)
  | some _ b k S n L hab hb h h32 hx hn hL => exact .some c b k S n L (hc _ _ rfl) hb (fun j h1 h2 => h j (by omega) h2) h32 hx hn hL
theorem stand_lt {decE : Bs → Int} {s : Bs} {a : Nat} {x : TokT} {L : List TokT} (h : Stand decE s a (x :: L)) : a ≤ x.2.2 ∧ x.2.2 < s.length := by
  cases h with
  | some _ b k S n L hab hb => exact ⟨hab, hb⟩
theorem stand_inv {decE : Bs → Int} {s : Bs} {a b : Nat} {k : Int} {S : Bs} {L : List TokT} (h : Stand decE s a ((k, S, b) :: L)) : ∃ n, a ≤ b ∧ b < s.length ∧ (∀ j, a ≤ j → j < b → s.getD j 0 = 32) ∧ s.getD b 0 ≠ 32 ∧ nextPD decE (s.drop b) = some (k, S, n) ∧ (1 ≤ n ∧ b + n ≤ s.length) ∧ Stand decE s (b + n) L := by
  cases h with
  | some _ b k S n L hab hb h h32 hx hn hL => exact ⟨n, hab, hb, h, h32, hx, hn, hL⟩
theorem stand_count {decE : Bs → Int} {s : Bs} {a : Nat} {L : List TokT} (h : Stand decE s a L) : L.length = 0 ∨ L.length + a ≤ s.length := by
  induction h with
  | none => exact .inl rfl
  | some a b k S n L hab hb h h32 hx hn hL ih => right; simp only [List.length_cons]; rcases ih with h0 | h0 <;> omega
end Tab
namespace Go.Proofs.YtgnejohiagagmaaGreatDoor
open Go.RowKit Tab

set_option maxRecDepth 100000 in
set_option maxHeartbeats 16000000 in
theorem places_walk (s : ByteArray) (m : Nat) (hm : m ≤ 100) (hm' : m ≤ s.size) (hmin : min (s.size : Int) 100 = (m : Int)) (_hs : s.size ≤ 9223372036854775807) (w : World) (hg : Good w) (hwd : Words w) : Calls Tryz.prog 6 #[.string s] w (Ret (.bool true) w) := by
  have cE := examples_any w hg hwd
  have cT : ∀ (s : ByteArray) (W : World), Below w.heap.size w W → s.size ≤ 1000 → Calls Tryz.prog 17 #[.string s] W (Toks (tokensD decED s.data.toList) W) := fun s W hb hs => Tokens_any decED decIs s W (hg.below hb) (hwd.below hb) (by omega)
  obtain ⟨A, hA⟩ : ∃ A, s.extract 0 m = A := ⟨_, rfl⟩
  have hAs : A.size = m := by rw [← hA, ByteArray.size_extract]; omega
  go_enter Tryz.func6, Tryz.ntmps6
  go_wp2_with fail
  refine cE.mono ?_; rintro e w1 ⟨rfl, hW⟩
  clear cE
  go_wp2_with fail
  have hl : A.data.toList.length = A.size := rfl
  have cT1 := cT A w1 hW (by omega)
  rw [tokens_told decED _ (by omega)] at cT1
  refine cT1.mono ?_
  clear cT1
  cases ht : toldD decED A.data.toList with
  | error n =>
    rintro e w2 ⟨rfl, hb2⟩
    replace hW := after hW hb2
    obtain ⟨-, hn1, hn2⟩ := told_error decED _ _ _ _ ht
    rw [hl] at hn1
    have e32 : ((A[n].toNat : Int) == 32) = false := by
      rw [beq_eq_false_iff_ne]
      intro e
      apply hn2
      have h : A[n].toNat = 32 := by omega
      rw [List.getD_eq_getElem?_getD, List.getElem?_eq_getElem (by rw [hl]; exact hn1)]
      show A[n] = 32
      exact UInt8.toNat_inj.1 h
    clear hb2 hn2 ht hA hmin
    have en1 : decide ((A.size : Int) ≤ (n : Int)) = false := decide_eq_false (by omega)
    have en2 : decide (A.size ≤ n) = false := decide_eq_false (by omega)
    obtain ⟨B, hB⟩ : ∃ B, A.extract 0 n = B := ⟨_, rfl⟩
    have hBs : B.size = n := by rw [← hB, ByteArray.size_extract]; omega
    have hlB : B.data.toList.length = B.size := rfl
    go_wp2_with fail
    have cT2 := cT B w2 hW (by omega)
    rw [tokens_told decED _ (by omega)] at cT2
    refine cT2.mono ?_
    clear cT2
    cases ht2 : toldD decED B.data.toList with
    | error k =>
      rintro e w3 ⟨rfl, hb3⟩
      replace hW := after hW hb3
      obtain ⟨-, hk1, -⟩ := told_error decED _ _ _ _ ht2
      rw [hlB, hBs] at hk1
      clear hb3 ht2 hB
      go_wp2
      go_ret
      exact ⟨rfl, hW⟩
    | ok M =>
      rintro e w3 ⟨v, rfl, -, hb3⟩
      replace hW := after hW hb3
      clear hb3 ht2 hB
      go_wp2
      go_ret
      exact ⟨rfl, hW⟩
  | ok L =>
    rintro e w2 ⟨v, rfl, hown, hb2⟩
    have hst := told_stand decED _ _ 0 L (by omega) ht
    have hcnt : L.length ≤ 100 := by rcases stand_count hst with h | h <;> omega
    have hrow := tokRow_of_own hown
    replace hW := after hW hb2
    clear hown hb2 ht hmin hA
    obtain ⟨ao, c1, rfl, h1⟩ : ∃ ao c, v = .slice ao L.length c ∧ (L = [] ∨ ∃ b o, ao = some ⟨b, o, none⟩ ∧ L.length ≤ c ∧ b < w2.heap.size ∧ TokCells w2 b o L) := by
      rcases hrow with ⟨rfl, rfl⟩ | ⟨b, o, c, rfl, h⟩
      · exact ⟨none, 0, rfl, .inl rfl⟩
      · exact ⟨_, c, rfl, .inr ⟨b, o, rfl, h⟩⟩
    clear hrow
    have HS := Lib.hid hst
    clear hst
    go_wp2_with fail
    go_loopw [11, 12] (fun en i w' => ∃ (e j : Nat), en = .int .i64 (e : Int) ∧ i = .int .i64 (j : Int) ∧ j ≤ L.length ∧ e ≤ A.size ∧ Stand decED A.data.toList e (L.drop j) ∧ Below w2.heap.size w2 w') (fun _ i _ => L.length - (intOf i).toNat)
    case atStart => exact ⟨0, 0, rfl, rfl, by omega, by omega, HS.out, Below.refl _ _⟩
    case round =>
      clear HS
      obtain ⟨e, j, rfl, rfl, hj, he, hI, hB⟩ := hrel
      have HI := Lib.hid hI
      clear hI
      have hWr := after hW hB
      by_cases hlt : j < L.length
      · rcases h1 with h1 | ⟨b, o, rfl, hc1, hb1, t1⟩
        · rw [h1] at hlt; simp at hlt
        obtain ⟨X, hX⟩ : ∃ X, L[j]? = some X := ⟨_, List.getElem?_eq_getElem hlt⟩
        have kx := t1.below hB hb1 j X hX
        have hI := HI.out
        rw [drop_at_some L j X hX] at hI
        obtain ⟨p1, p2, p3⟩ := X
        obtain ⟨kx0, kx1, kx2⟩ := kx
        dsimp only at kx0 kx1 kx2
        have hzb := Nat.lt_of_lt_of_le hb1 hB.size
        obtain ⟨n, hi1, hi2, hbl, -, hx, ⟨hn1, hn2⟩, hL⟩ := stand_inv hI
        have HL := Lib.hid hL
        rw [hl] at hi2 hn2
        have hsz : (⟨p2.toArray⟩ : ByteArray).size = p2.length := by show p2.toArray.size = _; simp
        have HBL := Lib.hid hbl
        clear HI hI hL hbl
        go_wp2_with fail
        go_loopw [13] (fun k w'' => ∃ kk : Nat, k = .int .i64 (kk : Int) ∧ e ≤ kk ∧ kk ≤ p3 ∧ wr = w'') (fun k _ => p3 - (intOf k).toNat)
        case atStart => exact ⟨e, rfl, Nat.le_refl _, hi1, rfl⟩
        case round =>
          obtain ⟨kk, rfl, hk1, hk2, rfl⟩ := hrel
          by_cases hk : kk < p3
          · have hkA : kk < A.size := by omega
            have e32 : ((A[kk].toNat : Int) != 32) = false := by
              have hg := HBL.out kk hk1 hk
              rw [List.getD_eq_getElem?_getD, List.getElem?_eq_getElem (by rw [hl]; exact hkA)] at hg
              have hg2 : A[kk] = 32 := hg
              rw [hg2]; rfl
            have en1 : decide (A.size ≤ kk) = false := decide_eq_false (by omega)
            have ewk : IntKind.i64.wrap ((kk : Int) + 1) = ((kk + 1 : Nat) : Int) := by rw [IntWalk.i64_in _ (by omega)]; omega
            go_wp2
            go_roundw
            case rel => exact ⟨kk + 1, rfl, by omega, by omega, trivial⟩
            case measure => simp [intOf]; omega
          · have : kk = p3 := by omega
            subst this
            clear HBL
            have en1 : decide (kk < e) = false := decide_eq_false (by omega)
            have en2 : decide (A.size ≤ kk) = false := decide_eq_false (by omega)
            have ew1 : IntKind.i64.wrap ((j : Int) + 1) = ((j + 1 : Nat) : Int) := by rw [IntWalk.i64_in _ (by omega)]; omega
            have ew2 : IntKind.i64.wrap ((kk : Int) + 1) = ((kk + 1 : Nat) : Int) := by rw [IntWalk.i64_in _ (by omega)]; omega
            by_cases hla : j + 1 < L.length
            · obtain ⟨Y, hY⟩ : ∃ Y, L[j + 1]? = some Y := ⟨_, List.getElem?_eq_getElem hla⟩
              have ky := t1.below hB hb1 (j + 1) Y hY
              obtain ⟨y1, y2, y3⟩ := Y
              obtain ⟨-, -, ky2⟩ := ky
              dsimp only at ky2
              have hyl : kk + n ≤ y3 ∧ y3 < A.size := by
                have h := HL.out
                rw [drop_at_some L (j + 1) _ hY] at h
                exact stand_lt h
              by_cases h2 : p1 = 2
              · have n2 : (p1 != 2) = false := by rw [h2]; rfl
                clear h2
                go_wp2
                go_roundw
                case rel => exact ⟨y3, j + 1, rfl, rfl, hlt, by omega, stand_late HL.out (by omega) (by rw [drop_at_some L (j + 1) _ hY]; intro x M h; cases h; exact Nat.le_refl _), hB⟩
                case measure => simp [intOf]; omega
              · have ewS : IntKind.i64.wrap ((kk : Int) + (p2.length : Int)) = ((kk + p2.length : Nat) : Int) := by have := next_size decED _ p1 p2 n hx h2; rw [IntWalk.i64_in _ (by omega)]; omega
                have n2 : (p1 != 2) = true := by rw [bne_iff_ne]; exact h2
                have hn := next_size decED _ p1 p2 n hx h2
                subst hn
                have enx : decide (y3 < kk + p2.length) = false := decide_eq_false (by omega)
                go_wp2_with fail
                have kc := gcell wr
                refine region_below (by kernel_rfl) (by kernel_rfl) ?_
                repeat (go_big_quiet_step (fail))
                refine wpQuiet_nil ?_
                intro w3 hb3
                have hB3 := after hB hb3
                clear hb3 kc
                go_wp2
                go_roundw
                case rel => exact ⟨kk + p2.length, j + 1, rfl, rfl, hlt, by omega, HL.out, hB3⟩
                case measure => simp [intOf]; omega
            · have hd : L.drop (j + 1) = [] := List.drop_eq_nil_of_le (by omega)
              by_cases h2 : p1 = 2
              · have n2 : (p1 != 2) = false := by rw [h2]; rfl
                clear h2
                go_wp2
                go_roundw
                case rel => exact ⟨m, j + 1, rfl, rfl, hlt, by omega, stand_late HL.out (by omega) (by rw [hd]; intro x M h; cases h), hB⟩
                case measure => simp [intOf]; omega
              · have ewS : IntKind.i64.wrap ((kk : Int) + (p2.length : Int)) = ((kk + p2.length : Nat) : Int) := by have := next_size decED _ p1 p2 n hx h2; rw [IntWalk.i64_in _ (by omega)]; omega
                have n2 : (p1 != 2) = true := by rw [bne_iff_ne]; exact h2
                have hn := next_size decED _ p1 p2 n hx h2
                subst hn
                have enx : decide (A.size < kk + p2.length) = false := decide_eq_false (by omega)
                go_wp2_with fail
                have kc := gcell wr
                refine region_below (by kernel_rfl) (by kernel_rfl) ?_
                repeat (go_big_quiet_step (fail))
                refine wpQuiet_nil ?_
                intro w3 hb3
                have hB3 := after hB hb3
                clear hb3 kc
                go_wp2
                go_roundw
                case rel => exact ⟨kk + p2.length, j + 1, rfl, rfl, hlt, by omega, HL.out, hB3⟩
                case measure => simp [intOf]; omega
      · clear HI
        go_wp2
        go_ret
        exact ⟨rfl, hWr⟩

theorem law_LexPlaces (s : ByteArray) (w : World) (hg : Good w) (hwd : Words w) (hs : s.size ≤ 9223372036854775807) : Calls Tryz.prog 6 #[.string s] w (Ret (.bool true) w) :=
  places_walk s (min s.size 100) (by omega) (by omega) (by omega) hs w hg hwd
end Go.Proofs.YtgnejohiagagmaaGreatDoor
