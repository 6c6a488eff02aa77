/- The walk of the reference's Read. -/
import Derived.Test.YtgnejohiagagmaaGreatDoorHTellsQ
import Derived.Test.YtgnejohiagagmaaGreatDoorHTells3
import Derived.Test.YtgnejohiagagmaaGreatDoorG4
import Derived.Deep.CutRange
namespace Tab
open Go.Lib
theorem dbl_ge (l : Bs) : l.length ≤ (dbl l).length := by
  induction l with
  | nil => simp
  | cons b l ih => rw [dbl_cons]; split <;> (simp; omega)
theorem unqD_bound (l : Bs) : (unqD l).1.length ≤ l.length ∧ -1 ≤ (unqD l).2 ∧ (unqD l).2 ≤ l.length := by
  by_cases h : l.head? = some 39
  · cases l with
    | nil => cases h
    | cons b t =>
      injection h with h; subst h
      rw [unqD_cons]
      cases hq : unqF t with
      | none => exact ⟨by simp, by dsimp only; omega, by dsimp only; omega⟩
      | some p =>
        obtain ⟨n, c⟩ := p
        obtain ⟨y, ht, hc, _⟩ := unqF_some t n c hq
        have hd := dbl_ge n
        have hl : t.length = (dbl n).length + (1 + y.length) := by rw [ht]; simp; omega
        dsimp only
        simp only [List.length_cons]
        omega
  · rw [unqD_not l h]; exact ⟨by simp, by dsimp only; omega, by dsimp only; omega⟩
theorem fin_bound (l n : Bs) (q : Nat) (hn : n.length ≤ l.length) : (finD l n q).1.length ≤ l.length ∧ -1 ≤ (finD l n q).2 ∧ (finD l n q).2 ≤ l.length := by
  unfold finD
  split
  · rename_i h
    have : q < l.length := by
      rcases Nat.lt_or_ge q l.length with h1 | h1
      · exact h1
      · rw [List.getElem?_eq_none h1] at h; cases h.2
    exact ⟨hn, by dsimp only; omega, by dsimp only; omega⟩
  · exact ⟨by simp, by dsimp only; omega, by dsimp only; omega⟩
theorem tsheet_bound (l : Bs) : (tsheetD l).1.length ≤ l.length ∧ -1 ≤ (tsheetD l).2 ∧ (tsheetD l).2 ≤ l.length := by
  have hu := unqD_bound l
  have ht := tw_len (· != 33) l
  unfold tsheetD
  split
  · split
    · exact ⟨by simp, by dsimp only; omega, by dsimp only; omega⟩
    · split
      · exact fin_bound _ _ _ ht
      · exact ⟨by simp, by dsimp only; omega, by dsimp only; omega⟩
  · exact fin_bound _ _ _ hu.1
end Tab
namespace Go.Proofs.YtgnejohiagagmaaGreatDoor
open Go.RowKit Tab

/-- a sign of the dollar, or none. -/
theorem dollar (s : ByteArray) (q : Nat) (hq : q ≤ s.size) : ∃ (fc : Bool) (q1 : Nat), Lib.hasPrefix (s.data.toList.drop q) [36] = fc ∧ unD (s.data.toList.drop q) = s.data.toList.drop q1 ∧ q1 ≤ s.size ∧ q1 = q + fc.toNat ∧
    ((fc = true ∧ ∃ h : q < s.size, ((s[q].toNat : Int) == 36) = true) ∨ (fc = false ∧ (∃ h : q < s.size, ((s[q].toNat : Int) == 36) = false)) ∨ (fc = false ∧ ¬ q < s.size)) := by
  by_cases h : q < s.size
  · have hd := drop_at s q h
    rw [hd]
    by_cases hb : s[q] = 36
    · refine ⟨true, q + 1, ?_, ?_, by omega, rfl, .inl ⟨rfl, h, by rw [hb]; rfl⟩⟩
      · rw [hb]; unfold Lib.hasPrefix; simp [List.isPrefixOf]
      · rw [hb]; unfold unD Lib.trimPrefix; rw [if_pos (by unfold Lib.hasPrefix; simp [List.isPrefixOf])]; simp
    · have hp : Lib.hasPrefix (s[q] :: s.data.toList.drop (q + 1)) [36] = false := by
        unfold Lib.hasPrefix; simp [List.isPrefixOf]; exact fun e => hb e.symm
      refine ⟨false, q, hp, ?_, hq, rfl, .inr (.inl ⟨rfl, h, ?_⟩)⟩
      · unfold unD Lib.trimPrefix; rw [hp, if_neg Bool.false_ne_true, hd]
      · rw [beq_eq_false_iff_ne]; intro e
        have e3 : s[q].toNat = 36 := by omega
        exact hb (UInt8.toNat_inj.1 (e3.trans rfl))
  · have hn : s.data.toList.drop q = [] := List.drop_eq_nil_of_le (by rw [ba_size]; omega)
    refine ⟨false, q, by rw [hn]; rfl, by rw [hn]; rfl, hq, rfl, .inr (.inr ⟨rfl, h⟩)⟩
/-- letters, up to a place. -/
theorem letters (s : ByteArray) (q : Nat) (hq : q ≤ s.size) : ∃ q2, q ≤ q2 ∧ q2 ≤ s.size ∧ (s.extract q q2).data.toList = (s.data.toList.drop q).takeWhile isLetterB ∧ (s.data.toList.drop q).dropWhile isLetterB = s.data.toList.drop q2 ∧
    (∀ j (h : j < s.size), q ≤ j → j < q2 → isLetter (s[j].toNat : Int) = true) ∧ (∀ h : q2 < s.size, isLetter (s[q2].toNat : Int) = false) := by
  have key : ∀ (m q : Nat), s.size - q ≤ m → q ≤ s.size → ∃ q2, q ≤ q2 ∧ q2 ≤ s.size ∧ (s.data.toList.take q2).drop q = (s.data.toList.drop q).takeWhile isLetterB ∧ (s.data.toList.drop q).dropWhile isLetterB = s.data.toList.drop q2 ∧
    (∀ j (h : j < s.size), q ≤ j → j < q2 → isLetter (s[j].toNat : Int) = true) ∧ (∀ h : q2 < s.size, isLetter (s[q2].toNat : Int) = false) := by
    intro m
    induction m with
    | zero =>
      intro q h1 h2
      have hn : s.data.toList.drop q = [] := List.drop_eq_nil_of_le (by rw [ba_size]; omega)
      refine ⟨q, Nat.le_refl _, h2, ?_, by rw [hn]; rfl, fun j h a b => by omega, fun h => by omega⟩
      rw [hn, List.drop_eq_nil_of_le (by rw [List.length_take]; omega)]; rfl
    | succ m ih =>
      intro q h1 h2
      by_cases h : q < s.size
      · have hd := drop_at s q h
        cases hb : isLetter (s[q].toNat : Int)
        · refine ⟨q, Nat.le_refl _, h2, ?_, ?_, fun j h a b => by omega, fun h => hb⟩
          · rw [hd, List.takeWhile_cons, if_neg (by show ¬ isLetterB _ = true; unfold isLetterB; rw [hb]; exact Bool.false_ne_true), List.drop_eq_nil_of_le (by rw [List.length_take]; omega)]
          · rw [hd, List.dropWhile_cons, if_neg (by show ¬ isLetterB _ = true; unfold isLetterB; rw [hb]; exact Bool.false_ne_true)]
        · obtain ⟨q2, a1, a2, a3, a4, a5, a6⟩ := ih (q + 1) (by omega) (by omega)
          refine ⟨q2, by omega, a2, ?_, ?_, fun j hj b c => ?_, a6⟩
          · rw [hd, List.takeWhile_cons, if_pos (show isLetterB _ = true from hb), ← a3]
            rw [List.drop_eq_getElem_cons (by rw [List.length_take, ba_size]; omega), List.getElem_take]
            rfl
          · rw [hd, List.dropWhile_cons, if_pos (show isLetterB _ = true from hb), a4]
          · by_cases e : j = q
            · subst e; exact hb
            · exact a5 j hj (by omega) c
      · have hn : s.data.toList.drop q = [] := List.drop_eq_nil_of_le (by rw [ba_size]; omega)
        refine ⟨q, Nat.le_refl _, h2, ?_, by rw [hn]; rfl, fun j h a b => by omega, fun h' => by omega⟩
        rw [hn, List.drop_eq_nil_of_le (by rw [List.length_take]; omega)]; rfl
  obtain ⟨q2, a1, a2, a3, a4, a5, a6⟩ := key _ q (Nat.le_refl _) hq
  exact ⟨q2, a1, a2, by rw [ba_extract]; exact a3, a4, a5, a6⟩
theorem findRow_step (g : Bs) (n k : Nat) : findRow g (n + 1) k = if g == Lib.itoa ((k + 1 : Nat) : Int) then some k else findRow g n (k + 1) := rfl

set_option maxRecDepth 100000 in
set_option maxHeartbeats 8000000 in
theorem TRead_at (s : ByteArray) (w : World) (hs : s.size ≤ 1000000) (hne : (s.toList == [35, 82, 69, 70, 33]) = false) (n : Bs) (q : Nat)
    (cS : ∀ W, Calls Tryz.prog 107 #[.string s] W (Still (.tuple #[.string ⟨n.toArray⟩, .int .i64 (q : Int)]) W))
    (fc fr : Bool) (q1 q2 q3 : Nat) (e1 : q1 = q + fc.toNat) (e3 : q3 = q2 + fr.toNat) (lq : q ≤ s.size) (l1 : q1 ≤ s.size) (l12 : q1 ≤ q2) (l2 : q2 ≤ s.size) (l3 : q3 ≤ s.size)
    (d1 : (fc = true ∧ ∃ h : q < s.size, ((s[q].toNat : Int) == 36) = true) ∨ (fc = false ∧ (∃ h : q < s.size, ((s[q].toNat : Int) == 36) = false)) ∨ (fc = false ∧ ¬ q < s.size))
    (d2 : (fr = true ∧ ∃ h : q2 < s.size, ((s[q2].toNat : Int) == 36) = true) ∨ (fr = false ∧ (∃ h : q2 < s.size, ((s[q2].toNat : Int) == 36) = false)) ∨ (fr = false ∧ ¬ q2 < s.size))
    (a5 : ∀ j (h : j < s.size), q1 ≤ j → j < q2 → isLetter (s[j].toNat : Int) = true) (a6 : ∀ h : q2 < s.size, isLetter (s[q2].toNat : Int) = false)
    (L g : Bs) (hL : (s.extract q1 q2).data.toList = L) (hgs : s.extract q3 s.size = ⟨g.toArray⟩)
    (Q : RefD) (e : Int) (hV : (match colOf L with
      | none => ((RefD.zero, 20) : RefD × Int)
      | some c => match findRow g 200 0 with
        | none => (RefD.zero, 20)
        | some r => (⟨⟨n.toArray⟩, r, c, fr, fc, false⟩, 0)) = (Q, e)) :
    Calls Tryz.prog 67 #[.string s] w (Ret (.tuple #[refV Q, .int .i64 e]) w) := by
  have cC : ∀ W, Calls Tryz.prog 109 #[.string (s.extract q1 q2)] W (Ret (colV (colOf L)) W) := fun W => by
    rw [← hL]; exact TReadColumn_any _ W (by rw [ByteArray.size_extract]; omega)
  have HV := Lib.hid hV
  have D1 := Lib.hid d1
  have D2 := Lib.hid d2
  have E1 := Lib.hid e1
  have E3 := Lib.hid e3
  have A := Lib.hid (And.intro a5 a6)
  have HG := Lib.hid hgs
  clear hV d1 d2 e1 e3 a5 a6 hL hgs
  go_enter Tryz.func67, Tryz.ntmps67
  go_wp2_with fail
  refine (cS _).mono ?_; rintro e' w1 ⟨rfl, rfl⟩
  clear cS
  go_upto_region 7 with fail
  refine wp_abs2 (fun W => Blk W (w.heap.size) #[.string ⟨#[]⟩, .int .i64 0, .int .i64 0, .bool false, .bool false, .bool false] ∧ Blk W (w.heap.size + 1) #[.string ⟨n.toArray⟩, .int .i64 0, .int .i64 0, .bool false, .bool false, .bool false] ∧ Below w.heap.size w W) ⟨(by apply Blk.eq; (repeat' (first | with_reducible assumption | with_reducible apply Blk.set | with_reducible apply Blk.other | (with_reducible refine Blk.new ?_; simp; done) | with_reducible apply Blk.alloc | omega)); rfl), (by apply Blk.eq; (repeat' (first | with_reducible assumption | with_reducible apply Blk.set | with_reducible apply Blk.other | (with_reducible refine Blk.new ?_; simp; done) | with_reducible apply Blk.alloc | omega)); rfl), (by repeat' (first | with_reducible assumption | with_reducible exact Below.refl _ _ | with_reducible refine allocB ?_ | with_reducible refine setB ?_ ?_ | with_reducible refine drewB ?_ | with_reducible refine after ?_ (by assumption) | (simp; omega) | omega))⟩ ?_
  rintro wa ⟨k2, k6, hb0⟩
  obtain ⟨f2, g2, z2⟩ := k2.facts
  obtain ⟨f6, g6, z6⟩ := k6.facts
  go_cut [34] from 25 to 34 (fun c wx => c = .bool fc ∧ wa = wx)
  case first =>
    rcases D1.out with ⟨rfl, h, hb⟩ | ⟨rfl, h, hb⟩ | ⟨rfl, h⟩
    all_goals (
      clear HV D1 D2 E1 E3 A HG
      go_wp2
      go_meet
      case rel => exact ⟨rfl, rfl⟩)
  case rest =>
    obtain ⟨rfl, rfl⟩ := hcut
    go_upto_if 34 with fail
    go_cut [5] from 35 to 37 (fun a wx => a = .int .i64 (q1 : Int) ∧ Blk wx w.heap.size #[.string ⟨#[]⟩, .int .i64 0, .int .i64 0, .bool false, .bool false, .bool false] ∧ Blk wx (w.heap.size + 1) #[.string ⟨n.toArray⟩, .int .i64 0, .int .i64 0, .bool false, .bool fc, .bool false] ∧ Below w.heap.size w wx)
    case first =>
      have E1 := E1.out
      clear HV D1 D2 E3 A HG
      cases fc
      all_goals (
        simp only [Bool.toNat_true, Bool.toNat_false, Nat.add_zero] at E1
        subst E1
        go_wp2
        go_meet
        case rel => exact ⟨by go_num, (by apply Blk.eq; (repeat' (first | with_reducible assumption | with_reducible apply Blk.set | with_reducible apply Blk.other | (with_reducible refine Blk.new ?_; simp; done) | with_reducible apply Blk.alloc | omega)); rfl), (by apply Blk.eq; (repeat' (first | with_reducible assumption | with_reducible apply Blk.set | with_reducible apply Blk.other | (with_reducible refine Blk.new ?_; simp; done) | with_reducible apply Blk.alloc | omega)); rfl), (by repeat' (first | with_reducible assumption | with_reducible exact Below.refl _ _ | with_reducible refine allocB ?_ | with_reducible refine setB ?_ ?_ | with_reducible refine drewB ?_ | with_reducible refine after ?_ (by assumption) | (simp; omega) | omega))⟩)
    case rest =>
      clear f2 g2 z2 f6 g6 z6 k2 k6 hb0
      obtain ⟨rfl, k2, k6, hb0⟩ := hcut
      obtain ⟨f2, g2, z2⟩ := k2.facts
      obtain ⟨f6, g6, z6⟩ := k6.facts
      clear D1 E1 lq
      go_wp2_with fail
      go_loop [5] (fun i => ∃ k : Nat, q1 ≤ k ∧ k ≤ q2 ∧ i = .int .i64 k) (fun i => s.size - (intOf i).toNat)
      case atStart => exact ⟨q1, by omega, by omega, rfl⟩
      case round =>
        obtain ⟨k, hk1, hk2, rfl⟩ := hrel
        by_cases hlt : k < q2
        · have hks : k < s.size := by omega
          have hb := A.out.1 k hks hk1 hlt
          clear HV D2 E3 A HG cC
          go_wp2_with (go_at_call 108; refine (Letter_any _ _).mono ?_; rintro e' w1 ⟨rfl, rfl⟩; rw [hb])
          go_round
          case rel => exact ⟨k + 1, by omega, by omega, by go_num⟩
          case measure => simp [intOf]; omega
        · obtain rfl : k = q2 := by omega
          clear hlt hk1 hk2
          by_cases hl : k < s.size
          · have hb := A.out.2 hl
            clear A
            cases hc : colOf L with
            | none =>
              have hV := HV.out
              rw [hc] at hV
              injection hV with h1 h2
              subst h1 h2
              rw [hc] at cC
              replace cC : ∀ W, Calls Tryz.prog 109 #[.string (s.extract q1 k)] W (Ret (.tuple #[.int .i64 0, .int .i64 20]) W) := cC
              clear HV D2 E3 HG hc
              go_wp2_with (go_at_call 108; refine (Letter_any _ _).mono ?_; rintro e' w1 ⟨rfl, rfl⟩; rw [hb])
              refine (cC _).mono ?_; rintro e' w2 ⟨rfl, hb2⟩
              replace k2 := k2.below hb2
              replace k6 := k6.below hb2
              replace hb0 : Below w.heap.size w w2 := after hb0 hb2
              clear f2 g2 z2 f6 g6 z6 hb2 cC
              obtain ⟨f2, g2, z2⟩ := k2.facts
              obtain ⟨f6, g6, z6⟩ := k6.facts
              go_wp2
              exact bodyPost_ret (v := .tuple #[.agg #[.string ⟨#[]⟩, .int .i64 0, .int .i64 0, .bool false, .bool false, .bool false], .int .i64 20]) (by simp [results, Tryz.results67, go_sem, *]) rfl ⟨rfl, (by repeat' (first | with_reducible assumption | with_reducible exact Below.refl _ _ | with_reducible refine allocB ?_ | with_reducible refine setB ?_ ?_ | with_reducible refine drewB ?_ | with_reducible refine after ?_ (by assumption) | (simp; omega) | omega))⟩
            | some c =>
              have hV := HV.out
              rw [hc] at hV
              have HV := Lib.hid hV
              clear hV
              rw [hc] at cC
              replace cC : ∀ W, Calls Tryz.prog 109 #[.string (s.extract q1 k)] W (Ret (.tuple #[.int .i64 (c : Int), .int .i64 0]) W) := cC
              clear hc
              go_wp2_with (go_at_call 108; refine (Letter_any _ _).mono ?_; rintro e' w1 ⟨rfl, rfl⟩; rw [hb])
              refine (cC _).mono ?_; rintro e' w2 ⟨rfl, hb2⟩
              replace k2 := k2.below hb2
              replace k6 := k6.below hb2
              replace hb0 : Below w.heap.size w w2 := after hb0 hb2
              clear f2 g2 z2 f6 g6 z6 hb2 cC
              obtain ⟨f2, g2, z2⟩ := k2.facts
              obtain ⟨f6, g6, z6⟩ := k6.facts
              go_upto_region 19 with fail
              refine wp_abs2 (fun W => Blk W w.heap.size #[.string ⟨#[]⟩, .int .i64 0, .int .i64 0, .bool false, .bool false, .bool false] ∧ Blk W (w.heap.size + 1) #[.string ⟨n.toArray⟩, .int .i64 0, .int .i64 (c : Int), .bool false, .bool fc, .bool false] ∧ Below w.heap.size w W) ⟨(by apply Blk.eq; (repeat' (first | with_reducible assumption | with_reducible apply Blk.set | with_reducible apply Blk.other | (with_reducible refine Blk.new ?_; simp; done) | with_reducible apply Blk.alloc | omega)); rfl), (by apply Blk.eq; (repeat' (first | with_reducible assumption | with_reducible apply Blk.set | with_reducible apply Blk.other | (with_reducible refine Blk.new ?_; simp; done) | with_reducible apply Blk.alloc | omega)); rfl), (by repeat' (first | with_reducible assumption | with_reducible exact Below.refl _ _ | with_reducible refine allocB ?_ | with_reducible refine setB ?_ ?_ | with_reducible refine drewB ?_ | with_reducible refine after ?_ (by assumption) | (simp; omega) | omega))⟩ ?_
              clear f2 g2 z2 f6 g6 z6 k2 k6 hb0
              rintro wb ⟨k2, k6, hb0⟩
              obtain ⟨f2, g2, z2⟩ := k2.facts
              obtain ⟨f6, g6, z6⟩ := k6.facts
              go_cut [74] from 65 to 74 (fun c wx => c = .bool fr ∧ wb = wx)
              case first =>
                clear hb
                rcases D2.out with ⟨rfl, h, hb'⟩ | ⟨rfl, h, hb'⟩ | ⟨rfl, h⟩
                all_goals first
                  | exact absurd h hl
                  | exact absurd hl h
                  | (
                    clear HV D2 E3 HG
                    go_wp2
                    go_meet
                    case rel => exact ⟨rfl, rfl⟩)
              case rest =>
                obtain ⟨rfl, rfl⟩ := hcut
                go_upto_if 74 with fail
                go_cut [5] from 75 to 77 (fun a wx => a = .int .i64 (q3 : Int) ∧ Blk wx w.heap.size #[.string ⟨#[]⟩, .int .i64 0, .int .i64 0, .bool false, .bool false, .bool false] ∧ Blk wx (w.heap.size + 1) #[.string ⟨n.toArray⟩, .int .i64 0, .int .i64 (c : Int), .bool fr, .bool fc, .bool false] ∧ Below w.heap.size w wx)
                case first =>
                  have E3 := E3.out
                  clear HV D2 HG
                  cases fr
                  all_goals (
                    simp only [Bool.toNat_true, Bool.toNat_false, Nat.add_zero] at E3
                    subst E3
                    first
                    | (exfalso; omega; done)
                    | (
                      go_wp2
                      go_meet
                      case rel => exact ⟨by go_num, (by apply Blk.eq; (repeat' (first | with_reducible assumption | with_reducible apply Blk.set | with_reducible apply Blk.other | (with_reducible refine Blk.new ?_; simp; done) | with_reducible apply Blk.alloc | omega)); rfl), (by apply Blk.eq; (repeat' (first | with_reducible assumption | with_reducible apply Blk.set | with_reducible apply Blk.other | (with_reducible refine Blk.new ?_; simp; done) | with_reducible apply Blk.alloc | omega)); rfl), (by repeat' (first | with_reducible assumption | with_reducible exact Below.refl _ _ | with_reducible refine allocB ?_ | with_reducible refine setB ?_ ?_ | with_reducible refine drewB ?_ | with_reducible refine after ?_ (by assumption) | (simp; omega) | omega))⟩))
                case rest =>
                  clear f2 g2 z2 f6 g6 z6 k2 k6 hb0
                  obtain ⟨rfl, k2, k6, hb0⟩ := hcut
                  clear D2 E3
                  go_wp2_with fail
                  go_loopw [11] (fun i w' => ∃ j : Nat, j ≤ 200 ∧ i = .int .i64 j ∧ findRow g (200 - j) j = findRow g 200 0 ∧ Blk w' w.heap.size #[.string ⟨#[]⟩, .int .i64 0, .int .i64 0, .bool false, .bool false, .bool false] ∧ Blk w' (w.heap.size + 1) #[.string ⟨n.toArray⟩, .int .i64 0, .int .i64 (c : Int), .bool fr, .bool fc, .bool false] ∧ Below w.heap.size w w') (fun i _ => 200 - (intOf i).toNat)
                  case atStart => exact ⟨0, by omega, rfl, rfl, k2, k6, hb0⟩
                  case round =>
                    clear k2 k6 hb0
                    obtain ⟨j, hj, rfl, hI, k2, k6, hb0⟩ := hrel
                    obtain ⟨f2, g2, z2⟩ := k2.facts
                    obtain ⟨f6, g6, z6⟩ := k6.facts
                    have HI := Lib.hid hI; clear hI
                    by_cases hlt : j < 200
                    · have hst := findRow_step g (200 - (j + 1)) j
                      rw [show 200 - (j + 1) + 1 = 200 - j from by omega] at hst
                      have Hst := Lib.hid hst; clear hst
                      have cD : ∀ W, Calls Tryz.prog 110 #[.int .i64 ((j : Int) + 1)] W (Ret (.string ⟨(Lib.itoa ((j + 1 : Nat) : Int)).toArray⟩) W) := fun W => (Digits_any (j + 1) W (by omega)).mono fun _ _ h => h.ret
                      generalize Lib.itoa ((j + 1 : Nat) : Int) = I at *
                      have hgs := HG.out
                      have kc := gcell wr
                      have ew : IntKind.i64.wrap ((j : Int) + 1) = (j : Int) + 1 := IntWalk.i64_in _ (by omega)
                      cases he : (g == I)
                      · have Hn : Hid (findRow g (200 - (j + 1)) (j + 1) = findRow g 200 0) := by
                          show _ = _
                          rw [← HI.out, Hst.out, he]; rfl
                        clear HV HI Hst
                        go_upto_region 25 with fail
                        refine region_below (by kernel_rfl) (by kernel_rfl) ?_
                        repeat (quiet_step (exact Ret.grown (fun W _ => cD W)))
                        refine wpQuiet_nil ?_
                        intro wq hbr
                        replace k2 := k2.below hbr
                        replace k6 := k6.below hbr
                        replace hb0 : Below w.heap.size w wq := after hb0 hbr
                        clear f2 g2 z2 f6 g6 z6 kc ew
                        go_wp2
                        go_roundw
                        case rel => exact ⟨j + 1, by omega, by go_num, Hn.out, k2, k6, hb0⟩
                        case measure => simp [intOf]; omega
                      · have hV := HV.out
                        rw [← HI.out, Hst.out, he] at hV
                        injection hV with h1 h2
                        subst h1 h2
                        clear HV HI Hst
                        go_upto_region 25 with fail
                        refine region_below (by kernel_rfl) (by kernel_rfl) ?_
                        repeat (quiet_step (exact Ret.grown (fun W _ => cD W)))
                        refine wpQuiet_nil ?_
                        intro wq hbr
                        replace k2 := k2.below hbr
                        replace k6 := k6.below hbr
                        replace hb0 : Below w.heap.size w wq := after hb0 hbr
                        clear f2 g2 z2 f6 g6 z6 kc ew
                        obtain ⟨f2, g2, z2⟩ := k2.facts
                        obtain ⟨f6, g6, z6⟩ := k6.facts
                        go_wp2
                        exact bodyPost_ret (v := .tuple #[.agg #[.string ⟨n.toArray⟩, .int .i64 (j : Int), .int .i64 (c : Int), .bool fr, .bool fc, .bool false], .int .i64 0]) (by simp [results, Tryz.results67, go_sem, *]) rfl ⟨rfl, (by repeat' (first | with_reducible assumption | with_reducible exact Below.refl _ _ | with_reducible refine allocB ?_ | with_reducible refine setB ?_ ?_ | with_reducible refine drewB ?_ | with_reducible refine after ?_ (by assumption) | (simp; omega) | omega))⟩
                    · have hV := HV.out
                      rw [← HI.out, show 200 - j = 0 from by omega] at hV
                      injection hV with h1 h2
                      subst h1 h2
                      clear HV HI HG
                      go_wp2
                      exact bodyPost_ret (v := .tuple #[.agg #[.string ⟨#[]⟩, .int .i64 0, .int .i64 0, .bool false, .bool false, .bool false], .int .i64 20]) (by simp [results, Tryz.results67, go_sem, *]) rfl ⟨rfl, (by repeat' (first | with_reducible assumption | with_reducible exact Below.refl _ _ | with_reducible refine allocB ?_ | with_reducible refine setB ?_ ?_ | with_reducible refine drewB ?_ | with_reducible refine after ?_ (by assumption) | (simp; omega) | omega))⟩
          · clear A
            cases hc : colOf L with
            | none =>
              have hV := HV.out
              rw [hc] at hV
              injection hV with h1 h2
              subst h1 h2
              rw [hc] at cC
              replace cC : ∀ W, Calls Tryz.prog 109 #[.string (s.extract q1 k)] W (Ret (.tuple #[.int .i64 0, .int .i64 20]) W) := cC
              clear HV D2 E3 HG hc
              go_wp2_with fail
              refine (cC _).mono ?_; rintro e' w2 ⟨rfl, hb2⟩
              replace k2 := k2.below hb2
              replace k6 := k6.below hb2
              replace hb0 : Below w.heap.size w w2 := after hb0 hb2
              clear f2 g2 z2 f6 g6 z6 hb2 cC
              obtain ⟨f2, g2, z2⟩ := k2.facts
              obtain ⟨f6, g6, z6⟩ := k6.facts
              go_wp2
              exact bodyPost_ret (v := .tuple #[.agg #[.string ⟨#[]⟩, .int .i64 0, .int .i64 0, .bool false, .bool false, .bool false], .int .i64 20]) (by simp [results, Tryz.results67, go_sem, *]) rfl ⟨rfl, (by repeat' (first | with_reducible assumption | with_reducible exact Below.refl _ _ | with_reducible refine allocB ?_ | with_reducible refine setB ?_ ?_ | with_reducible refine drewB ?_ | with_reducible refine after ?_ (by assumption) | (simp; omega) | omega))⟩
            | some c =>
              have hV := HV.out
              rw [hc] at hV
              have HV := Lib.hid hV
              clear hV
              rw [hc] at cC
              replace cC : ∀ W, Calls Tryz.prog 109 #[.string (s.extract q1 k)] W (Ret (.tuple #[.int .i64 (c : Int), .int .i64 0]) W) := cC
              clear hc
              go_wp2_with fail
              refine (cC _).mono ?_; rintro e' w2 ⟨rfl, hb2⟩
              replace k2 := k2.below hb2
              replace k6 := k6.below hb2
              replace hb0 : Below w.heap.size w w2 := after hb0 hb2
              clear f2 g2 z2 f6 g6 z6 hb2 cC
              obtain ⟨f2, g2, z2⟩ := k2.facts
              obtain ⟨f6, g6, z6⟩ := k6.facts
              go_upto_region 19 with fail
              refine wp_abs2 (fun W => Blk W w.heap.size #[.string ⟨#[]⟩, .int .i64 0, .int .i64 0, .bool false, .bool false, .bool false] ∧ Blk W (w.heap.size + 1) #[.string ⟨n.toArray⟩, .int .i64 0, .int .i64 (c : Int), .bool false, .bool fc, .bool false] ∧ Below w.heap.size w W) ⟨(by apply Blk.eq; (repeat' (first | with_reducible assumption | with_reducible apply Blk.set | with_reducible apply Blk.other | (with_reducible refine Blk.new ?_; simp; done) | with_reducible apply Blk.alloc | omega)); rfl), (by apply Blk.eq; (repeat' (first | with_reducible assumption | with_reducible apply Blk.set | with_reducible apply Blk.other | (with_reducible refine Blk.new ?_; simp; done) | with_reducible apply Blk.alloc | omega)); rfl), (by repeat' (first | with_reducible assumption | with_reducible exact Below.refl _ _ | with_reducible refine allocB ?_ | with_reducible refine setB ?_ ?_ | with_reducible refine drewB ?_ | with_reducible refine after ?_ (by assumption) | (simp; omega) | omega))⟩ ?_
              clear f2 g2 z2 f6 g6 z6 k2 k6 hb0
              rintro wb ⟨k2, k6, hb0⟩
              obtain ⟨f2, g2, z2⟩ := k2.facts
              obtain ⟨f6, g6, z6⟩ := k6.facts
              go_cut [74] from 65 to 74 (fun c wx => c = .bool fr ∧ wb = wx)
              case first =>
                skip
                rcases D2.out with ⟨rfl, h, hb'⟩ | ⟨rfl, h, hb'⟩ | ⟨rfl, h⟩
                all_goals first
                  | exact absurd h hl
                  | exact absurd hl h
                  | (
                    clear HV D2 E3 HG
                    go_wp2
                    go_meet
                    case rel => exact ⟨rfl, rfl⟩)
              case rest =>
                obtain ⟨rfl, rfl⟩ := hcut
                go_upto_if 74 with fail
                go_cut [5] from 75 to 77 (fun a wx => a = .int .i64 (q3 : Int) ∧ Blk wx w.heap.size #[.string ⟨#[]⟩, .int .i64 0, .int .i64 0, .bool false, .bool false, .bool false] ∧ Blk wx (w.heap.size + 1) #[.string ⟨n.toArray⟩, .int .i64 0, .int .i64 (c : Int), .bool fr, .bool fc, .bool false] ∧ Below w.heap.size w wx)
                case first =>
                  have E3 := E3.out
                  clear HV D2 HG
                  cases fr
                  all_goals (
                    simp only [Bool.toNat_true, Bool.toNat_false, Nat.add_zero] at E3
                    subst E3
                    first
                    | (exfalso; omega; done)
                    | (
                      go_wp2
                      go_meet
                      case rel => exact ⟨by go_num, (by apply Blk.eq; (repeat' (first | with_reducible assumption | with_reducible apply Blk.set | with_reducible apply Blk.other | (with_reducible refine Blk.new ?_; simp; done) | with_reducible apply Blk.alloc | omega)); rfl), (by apply Blk.eq; (repeat' (first | with_reducible assumption | with_reducible apply Blk.set | with_reducible apply Blk.other | (with_reducible refine Blk.new ?_; simp; done) | with_reducible apply Blk.alloc | omega)); rfl), (by repeat' (first | with_reducible assumption | with_reducible exact Below.refl _ _ | with_reducible refine allocB ?_ | with_reducible refine setB ?_ ?_ | with_reducible refine drewB ?_ | with_reducible refine after ?_ (by assumption) | (simp; omega) | omega))⟩))
                case rest =>
                  clear f2 g2 z2 f6 g6 z6 k2 k6 hb0
                  obtain ⟨rfl, k2, k6, hb0⟩ := hcut
                  clear D2 E3
                  go_wp2_with fail
                  go_loopw [11] (fun i w' => ∃ j : Nat, j ≤ 200 ∧ i = .int .i64 j ∧ findRow g (200 - j) j = findRow g 200 0 ∧ Blk w' w.heap.size #[.string ⟨#[]⟩, .int .i64 0, .int .i64 0, .bool false, .bool false, .bool false] ∧ Blk w' (w.heap.size + 1) #[.string ⟨n.toArray⟩, .int .i64 0, .int .i64 (c : Int), .bool fr, .bool fc, .bool false] ∧ Below w.heap.size w w') (fun i _ => 200 - (intOf i).toNat)
                  case atStart => exact ⟨0, by omega, rfl, rfl, k2, k6, hb0⟩
                  case round =>
                    clear k2 k6 hb0
                    obtain ⟨j, hj, rfl, hI, k2, k6, hb0⟩ := hrel
                    obtain ⟨f2, g2, z2⟩ := k2.facts
                    obtain ⟨f6, g6, z6⟩ := k6.facts
                    have HI := Lib.hid hI; clear hI
                    by_cases hlt : j < 200
                    · have hst := findRow_step g (200 - (j + 1)) j
                      rw [show 200 - (j + 1) + 1 = 200 - j from by omega] at hst
                      have Hst := Lib.hid hst; clear hst
                      have cD : ∀ W, Calls Tryz.prog 110 #[.int .i64 ((j : Int) + 1)] W (Ret (.string ⟨(Lib.itoa ((j + 1 : Nat) : Int)).toArray⟩) W) := fun W => (Digits_any (j + 1) W (by omega)).mono fun _ _ h => h.ret
                      generalize Lib.itoa ((j + 1 : Nat) : Int) = I at *
                      have hgs := HG.out
                      have kc := gcell wr
                      have ew : IntKind.i64.wrap ((j : Int) + 1) = (j : Int) + 1 := IntWalk.i64_in _ (by omega)
                      cases he : (g == I)
                      · have Hn : Hid (findRow g (200 - (j + 1)) (j + 1) = findRow g 200 0) := by
                          show _ = _
                          rw [← HI.out, Hst.out, he]; rfl
                        clear HV HI Hst
                        go_upto_region 25 with fail
                        refine region_below (by kernel_rfl) (by kernel_rfl) ?_
                        repeat (quiet_step (exact Ret.grown (fun W _ => cD W)))
                        refine wpQuiet_nil ?_
                        intro wq hbr
                        replace k2 := k2.below hbr
                        replace k6 := k6.below hbr
                        replace hb0 : Below w.heap.size w wq := after hb0 hbr
                        clear f2 g2 z2 f6 g6 z6 kc ew
                        go_wp2
                        go_roundw
                        case rel => exact ⟨j + 1, by omega, by go_num, Hn.out, k2, k6, hb0⟩
                        case measure => simp [intOf]; omega
                      · have hV := HV.out
                        rw [← HI.out, Hst.out, he] at hV
                        injection hV with h1 h2
                        subst h1 h2
                        clear HV HI Hst
                        go_upto_region 25 with fail
                        refine region_below (by kernel_rfl) (by kernel_rfl) ?_
                        repeat (quiet_step (exact Ret.grown (fun W _ => cD W)))
                        refine wpQuiet_nil ?_
                        intro wq hbr
                        replace k2 := k2.below hbr
                        replace k6 := k6.below hbr
                        replace hb0 : Below w.heap.size w wq := after hb0 hbr
                        clear f2 g2 z2 f6 g6 z6 kc ew
                        obtain ⟨f2, g2, z2⟩ := k2.facts
                        obtain ⟨f6, g6, z6⟩ := k6.facts
                        go_wp2
                        exact bodyPost_ret (v := .tuple #[.agg #[.string ⟨n.toArray⟩, .int .i64 (j : Int), .int .i64 (c : Int), .bool fr, .bool fc, .bool false], .int .i64 0]) (by simp [results, Tryz.results67, go_sem, *]) rfl ⟨rfl, (by repeat' (first | with_reducible assumption | with_reducible exact Below.refl _ _ | with_reducible refine allocB ?_ | with_reducible refine setB ?_ ?_ | with_reducible refine drewB ?_ | with_reducible refine after ?_ (by assumption) | (simp; omega) | omega))⟩
                    · have hV := HV.out
                      rw [← HI.out, show 200 - j = 0 from by omega] at hV
                      injection hV with h1 h2
                      subst h1 h2
                      clear HV HI HG
                      go_wp2
                      exact bodyPost_ret (v := .tuple #[.agg #[.string ⟨#[]⟩, .int .i64 0, .int .i64 0, .bool false, .bool false, .bool false], .int .i64 20]) (by simp [results, Tryz.results67, go_sem, *]) rfl ⟨rfl, (by repeat' (first | with_reducible assumption | with_reducible exact Below.refl _ _ | with_reducible refine allocB ?_ | with_reducible refine setB ?_ ?_ | with_reducible refine drewB ?_ | with_reducible refine after ?_ (by assumption) | (simp; omega) | omega))⟩

theorem TRead_any (s : ByteArray) (w : World) (hs : s.size ≤ 1000000) : Calls Tryz.prog 67 #[.string s] w (Ret (.tuple #[refV (treadD s.data.toList).1, .int .i64 (treadD s.data.toList).2]) w) := by
  have hu := unqD_bound s.data.toList
  have ht := tsheet_bound s.data.toList
  rw [ba_size] at hu ht
  have cS := fun W => TSheet_any s W hs (by omega) (by omega)
  by_cases hg : s.data.toList = [35, 82, 69, 70, 33]
  · have H : Hid (treadD s.data.toList = (RefD.gone, 0)) := by show _ = _; unfold treadD; rw [if_pos hg]
    have hne : (s.toList == [35, 82, 69, 70, 33]) = true := by rw [ByteArray.toList_eq, hg]; rfl
    clear hg cS hu ht
    go_enter Tryz.func67, Tryz.ntmps67
    go_wp2
    exact bodyPost_ret (v := .tuple #[.agg #[.string ⟨#[]⟩, .int .i64 0, .int .i64 0, .bool false, .bool false, .bool true], .int .i64 0]) (by simp [results, Tryz.results67, go_sem, *]) rfl ⟨by rw [H.out]; rfl, (by repeat' (first | with_reducible assumption | with_reducible exact Below.refl _ _ | with_reducible refine allocB ?_ | with_reducible refine setB ?_ ?_ | with_reducible refine drewB ?_ | with_reducible refine after ?_ (by assumption) | (simp; omega) | omega))⟩
  · have hne : (s.toList == [35, 82, 69, 70, 33]) = false := by rw [ByteArray.toList_eq, beq_eq_false_iff_ne]; exact hg
    have hT : treadD s.data.toList = if (tsheetD s.data.toList).2 < 0 then (RefD.zero, 20) else treadRest (tsheetD s.data.toList).1 (s.data.toList.drop (tsheetD s.data.toList).2.toNat) := by unfold treadD; rw [if_neg hg]
    rw [hT]
    clear hT hg hu
    generalize tsheetD s.data.toList = p at *
    obtain ⟨n, at'⟩ := p
    dsimp only at *
    by_cases h0 : at' < 0
    · rw [if_pos h0]
      obtain rfl : at' = -1 := by omega
      clear ht h0
      unfold strV at cS
      go_enter Tryz.func67, Tryz.ntmps67
      go_wp2_with fail
      refine (cS _).mono ?_; rintro e' w1 ⟨rfl, rfl⟩
      clear cS
      go_wp2
      exact bodyPost_ret (v := .tuple #[.agg #[.string ⟨#[]⟩, .int .i64 0, .int .i64 0, .bool false, .bool false, .bool false], .int .i64 20]) (by simp [results, Tryz.results67, go_sem, *]) rfl ⟨rfl, (by repeat' (first | with_reducible assumption | with_reducible exact Below.refl _ _ | with_reducible refine allocB ?_ | with_reducible refine setB ?_ ?_ | with_reducible refine drewB ?_ | with_reducible refine after ?_ (by assumption) | (simp; omega) | omega))⟩
    · rw [if_neg h0]
      obtain ⟨q, rfl⟩ : ∃ q : Nat, at' = (q : Int) := ⟨at'.toNat, by omega⟩
      rw [Int.toNat_natCast]
      have lq : q ≤ s.size := by omega
      obtain ⟨fc, q1, c1, c2, l1, e1, d1⟩ := dollar s q lq
      obtain ⟨q2, l12, l2, c3, c4, a5, a6⟩ := letters s q1 l1
      obtain ⟨fr, q3, c5, c6, l3, e3, d2⟩ := dollar s q2 l2
      have hg2 : unD (restD (s.data.toList.drop q)) = s.data.toList.drop q3 := by unfold restD; rw [c2, c4, c6]
      refine TRead_at s w hs hne n q (fun W => cS W) fc fr q1 q2 q3 e1 e3 lq l1 l12 l2 l3 d1 d2 a5 a6 _ (s.data.toList.drop q3) rfl ?_ _ _ ?_
      · rw [← drop_ext, ba_eta]
      · unfold treadRest
        rw [c2, ← c3, hg2, c1]
        unfold restD
        rw [c2, c4, c5]
        rfl
end Go.Proofs.YtgnejohiagagmaaGreatDoor
