/- The walk of ref.sheet: a text parted into a sheet's name and the rest. -/
import Derived.Test.YtmeiboajpbflcaaGreatDoorNames
import Derived.Test.YtmeiboajpbflcaaGreatDoorRepl
import Derived.Deep.QuietTactic
import Derived.BigQuiet
namespace Tab
open Go.Lib
/-- a text parted at its last sign of exclamation. -/
def partD (n rest : Bs) : Bs × Bs × Bool :=
  if plainB n then (n, rest, nameB n)
  else if n.length < 3 ∨ n.head? ≠ some 39 ∨ n.getLast? ≠ some 39 then ([], [], false)
  else (und ((n.take (n.length - 1)).drop 1), rest, !contains (non ((n.take (n.length - 1)).drop 1)) [39] && nameB (und ((n.take (n.length - 1)).drop 1)))
def sheetD (s : ByteArray) : Bs × Bs × Bool :=
  if lastIndexByte s 33 < 0 then ([], s.data.toList, true)
  else partD (s.data.toList.take (lastIndexByte s 33).toNat) (s.data.toList.drop ((lastIndexByte s 33).toNat + 1))
end Tab
namespace Go.Proofs.YtmeiboajpbflcaaGreatDoor
open Go.RowKit Tab

set_option maxRecDepth 100000 in
set_option maxHeartbeats 1000000 in
theorem sheet_none (s : ByteArray) (w : World) (hs : s.size ≤ 1000000) (hi : Lib.lastIndexByte s 33 < 0) : Calls Tryz.prog 30 #[.string s] w (Ret (.tuple #[strV (sheetD s).1, strV (sheetD s).2.1, .bool (sheetD s).2.2]) w) := by
  have cL := Tryz.strings_LastIndexByte s 33 (by omega) w
  have Hv : Hid (sheetD s = ([], s.data.toList, true)) := by show _ = _; rw [sheetD, if_pos hi]
  have e1 : decide (Lib.lastIndexByte s 33 < 0) = true := decide_eq_true hi
  clear hi
  generalize Lib.lastIndexByte s 33 = i at *
  go_enter Tryz.func30, Tryz.ntmps30
  go_wp2_with fail
  refine cL.mono ?_; rintro e w1 ⟨rfl, rfl⟩
  go_wp2
  go_ret3
  exact Ret.mk3 (by rw [Hv.out]; rfl) (by rw [Hv.out]; rfl) (by rw [Hv.out]; rfl) (Below.refl _ _)

theorem sheet_at (s : ByteArray) (k : Nat) (hi : Lib.lastIndexByte s 33 = k) : sheetD s = partD (s.extract 0 k).data.toList (s.extract (k + 1) s.size).data.toList := by
  rw [sheetD, hi, if_neg (by omega), ba_extract, ba_extract, List.drop_zero, List.take_of_length_le (l := s.data.toList) (i := s.size) (by rw [ba_size]; omega)]; rfl
theorem head_of (n : ByteArray) (h : 0 < n.size) : n.data.toList.head? = some n[0] := by
  have : n.data.toList ≠ [] := by
    intro e
    have hz := congrArg List.length e
    rw [ba_size] at hz; simp only [List.length_nil] at hz; omega
  rw [List.head?_eq_getElem?, List.getElem?_eq_getElem (by rw [ba_size]; exact h)]; rfl
theorem last_of (n : ByteArray) (m : Nat) (h : m < n.size) (hm : n.size = m + 1) : n.data.toList.getLast? = some n[m] := by
  rw [List.getLast?_eq_getElem?, ba_size, hm, Nat.add_sub_cancel, List.getElem?_eq_getElem (by rw [ba_size]; exact h)]; rfl

set_option maxRecDepth 100000 in
set_option maxHeartbeats 1000000 in
theorem sheet_plain (s : ByteArray) (k : Nat) (w : World) (hg : Good w) (hs : s.size ≤ 1000000) (hi : Lib.lastIndexByte s 33 = k) (hk : k < s.size) (n r : ByteArray) (hn : s.extract 0 k = n) (hr : s.extract (k + 1) s.size = r) (P1 : plainB n.data.toList = true) : Calls Tryz.prog 30 #[.string s] w (Ret (.tuple #[strV (sheetD s).1, strV (sheetD s).2.1, .bool (sheetD s).2.2]) w) := by
  have cL := Tryz.strings_LastIndexByte s 33 (by omega) w
  rw [sheet_at s k hi, hn, hr]
  rw [hi] at cL
  have e1 : decide ((k : Int) < 0) = false := decide_eq_false (by omega)
  have hns : n.size ≤ 1000000 := by rw [← hn, ByteArray.size_extract]; omega
  clear hi
  have Hv : Hid (partD n.data.toList r.data.toList = (n.data.toList, r.data.toList, nameB n.data.toList)) := by show _ = _; rw [partD, if_pos P1]
  go_enter Tryz.func30, Tryz.ntmps30
  go_wp2_with fail
  refine cL.mono ?_; rintro e w1 ⟨rfl, rfl⟩
  go_wp2_with fail
  go_quiet (fail)
  clear hn hr
  obtain ⟨w3, hw3, hb3⟩ := drewN_abs w1 nq
  rw [hw3]
  clear hw3 cL
  go_wp2_with fail
  refine (plain_any n w3 (by omega)).mono ?_; rintro e w4 ⟨rfl, hb4⟩
  have hb0 : Below w1.heap.size w1 w4 := after hb3 hb4
  clear hb3 hb4
  rw [P1]
  go_wp2_with fail
  refine (name_any n w4 (hg.below hb0) (by omega)).mono ?_; rintro e w5 ⟨rfl, hb5⟩
  replace hb0 : Below w1.heap.size w1 w5 := after hb0 hb5
  clear hb5 hg
  go_wp2
  go_ret3
  exact Ret.mk3 (by rw [Hv.out]; rfl) (by rw [Hv.out]; rfl) (by rw [Hv.out]; rfl) hb0

set_option maxRecDepth 100000 in
set_option maxHeartbeats 1000000 in
theorem sheet_short (s : ByteArray) (k : Nat) (w : World) (hg : Good w) (hs : s.size ≤ 1000000) (hi : Lib.lastIndexByte s 33 = k) (hk : k < s.size) (n r : ByteArray) (hn : s.extract 0 k = n) (hr : s.extract (k + 1) s.size = r) (P1 : plainB n.data.toList = false) (h3 : n.size < 3) : Calls Tryz.prog 30 #[.string s] w (Ret (.tuple #[strV (sheetD s).1, strV (sheetD s).2.1, .bool (sheetD s).2.2]) w) := by
  have cL := Tryz.strings_LastIndexByte s 33 (by omega) w
  rw [sheet_at s k hi, hn, hr]
  rw [hi] at cL
  have e1 : decide ((k : Int) < 0) = false := decide_eq_false (by omega)
  have hns : n.size ≤ 1000000 := by rw [← hn, ByteArray.size_extract]; omega
  clear hi
  have Hv : Hid (partD n.data.toList r.data.toList = ([], [], false)) := by show _ = _; rw [partD, if_neg (by rw [P1]; exact Bool.false_ne_true), if_pos (.inl (by rw [ba_size]; exact h3))]
  have e3 : decide ((n.size : Int) < 3) = true := decide_eq_true (by omega)
  go_enter Tryz.func30, Tryz.ntmps30
  go_wp2_with fail
  refine cL.mono ?_; rintro e w1 ⟨rfl, rfl⟩
  go_wp2_with fail
  go_quiet (fail)
  clear hn hr
  obtain ⟨w3, hw3, hb3⟩ := drewN_abs w1 nq
  rw [hw3]
  clear hw3 cL
  go_wp2_with fail
  refine (plain_any n w3 (by omega)).mono ?_; rintro e w4 ⟨rfl, hb4⟩
  have hb0 : Below w1.heap.size w1 w4 := after hb3 hb4
  clear hb3 hb4
  rw [P1]
  go_wp2
  go_ret3
  exact Ret.mk3 (by rw [Hv.out]; rfl) (by rw [Hv.out]; rfl) (by rw [Hv.out]; rfl) hb0

set_option maxRecDepth 100000 in
set_option maxHeartbeats 1000000 in
theorem sheet_first (s : ByteArray) (k : Nat) (w : World) (hg : Good w) (hs : s.size ≤ 1000000) (hi : Lib.lastIndexByte s 33 = k) (hk : k < s.size) (n r : ByteArray) (hn : s.extract 0 k = n) (hr : s.extract (k + 1) s.size = r) (P1 : plainB n.data.toList = false) (h3 : 3 ≤ n.size) (hf : n[0].toNat ≠ 39) : Calls Tryz.prog 30 #[.string s] w (Ret (.tuple #[strV (sheetD s).1, strV (sheetD s).2.1, .bool (sheetD s).2.2]) w) := by
  have cL := Tryz.strings_LastIndexByte s 33 (by omega) w
  rw [sheet_at s k hi, hn, hr]
  rw [hi] at cL
  have e1 : decide ((k : Int) < 0) = false := decide_eq_false (by omega)
  have hns : n.size ≤ 1000000 := by rw [← hn, ByteArray.size_extract]; omega
  clear hi
  have Hv : Hid (partD n.data.toList r.data.toList = ([], [], false)) := by
    show _ = _; rw [partD, if_neg (by rw [P1]; exact Bool.false_ne_true), if_pos (.inr (.inl (by rw [head_of n (by omega)]; intro e; injection e with e; apply hf; rw [e]; rfl)))]
  have e3 : decide ((n.size : Int) < 3) = false := decide_eq_false (by omega)
  have e4 : ((n[0].toNat : Int) == 39) = false := by rw [beq_eq_false_iff_ne]; omega
  have i0 : 0 < n.size := by omega
  clear hf
  go_enter Tryz.func30, Tryz.ntmps30
  go_wp2_with fail
  refine cL.mono ?_; rintro e w1 ⟨rfl, rfl⟩
  go_wp2_with fail
  go_quiet (fail)
  clear hn hr
  obtain ⟨w3, hw3, hb3⟩ := drewN_abs w1 nq
  rw [hw3]
  clear hw3 cL
  go_wp2_with fail
  refine (plain_any n w3 (by omega)).mono ?_; rintro e w4 ⟨rfl, hb4⟩
  have hb0 : Below w1.heap.size w1 w4 := after hb3 hb4
  clear hb3 hb4
  rw [P1]
  go_wp2
  go_ret3
  exact Ret.mk3 (by rw [Hv.out]; rfl) (by rw [Hv.out]; rfl) (by rw [Hv.out]; rfl) hb0

set_option maxRecDepth 100000 in
set_option maxHeartbeats 1000000 in
theorem sheet_last (s : ByteArray) (k : Nat) (w : World) (hg : Good w) (hs : s.size ≤ 1000000) (hi : Lib.lastIndexByte s 33 = k) (hk : k < s.size) (n r : ByteArray) (hn : s.extract 0 k = n) (hr : s.extract (k + 1) s.size = r) (P1 : plainB n.data.toList = false) (m : Nat) (hm : n.size = m + 1) (h3 : 2 ≤ m) (hf : n[0].toNat = 39) (hl : n[m].toNat ≠ 39) : Calls Tryz.prog 30 #[.string s] w (Ret (.tuple #[strV (sheetD s).1, strV (sheetD s).2.1, .bool (sheetD s).2.2]) w) := by
  have cL := Tryz.strings_LastIndexByte s 33 (by omega) w
  rw [sheet_at s k hi, hn, hr]
  rw [hi] at cL
  have e1 : decide ((k : Int) < 0) = false := decide_eq_false (by omega)
  have hns : n.size ≤ 1000000 := by rw [← hn, ByteArray.size_extract]; omega
  clear hi
  have Hv : Hid (partD n.data.toList r.data.toList = ([], [], false)) := by
    show _ = _; rw [partD, if_neg (by rw [P1]; exact Bool.false_ne_true), if_pos (.inr (.inr (by rw [last_of n m (by omega) hm]; intro e; injection e with e; apply hl; rw [e]; rfl)))]
  have e3 : decide ((m : Int) + 1 < 3) = false := decide_eq_false (by omega)
  have e4 : ((n[0].toNat : Int) != 39) = false := by rw [bne_eq_false_iff_eq]; omega
  have e5 : ((n[m].toNat : Int) != 39) = true := by rw [bne_iff_ne]; omega
  have e6 : decide ((m : Int) < (m : Int) + 1) = true := decide_eq_true (by omega)
  have i0 : 0 < n.size := by omega
  have i1 : m < n.size := by omega
  have i2 : (m : Int) < (m : Int) + 1 := by omega
  clear hf hl
  go_enter Tryz.func30, Tryz.ntmps30
  go_wp2_with fail
  refine cL.mono ?_; rintro e w1 ⟨rfl, rfl⟩
  go_wp2_with fail
  go_quiet (fail)
  clear hn hr
  obtain ⟨w3, hw3, hb3⟩ := drewN_abs w1 nq
  rw [hw3]
  clear hw3 cL
  go_wp2_with fail
  refine (plain_any n w3 (by omega)).mono ?_; rintro e w4 ⟨rfl, hb4⟩
  have hb0 : Below w1.heap.size w1 w4 := after hb3 hb4
  clear hb3 hb4
  rw [P1]
  go_wp2
  go_ret3
  exact Ret.mk3 (by rw [Hv.out]; rfl) (by rw [Hv.out]; rfl) (by rw [Hv.out]; rfl) hb0

set_option maxRecDepth 100000 in
set_option maxHeartbeats 1000000 in
theorem sheet_quoted (s : ByteArray) (k : Nat) (w : World) (hg : Good w) (hs : s.size ≤ 1000000) (hi : Lib.lastIndexByte s 33 = k) (hk : k < s.size) (n r : ByteArray) (hn : s.extract 0 k = n) (hr : s.extract (k + 1) s.size = r) (P1 : plainB n.data.toList = false) (m : Nat) (hm : n.size = m + 1) (h3 : 2 ≤ m) (hf : n[0].toNat = 39) (hl : n[m].toNat = 39) (q : ByteArray) (hq : n.extract 1 m = q) (B : Bool) (C1 : Lib.contains (non q.data.toList) [39] = B) : Calls Tryz.prog 30 #[.string s] w (Ret (.tuple #[strV (sheetD s).1, strV (sheetD s).2.1, .bool (sheetD s).2.2]) w) := by
  have cL := Tryz.strings_LastIndexByte s 33 (by omega) w
  rw [sheet_at s k hi, hn, hr]
  rw [hi] at cL
  have e1 : decide ((k : Int) < 0) = false := decide_eq_false (by omega)
  have hns : n.size ≤ 1000000 := by rw [← hn, ByteArray.size_extract]; omega
  clear hi
  have Hv : Hid (partD n.data.toList r.data.toList = (und q.data.toList, r.data.toList, !B && nameB (und q.data.toList))) := by
    show _ = _
    rw [partD, if_neg (by rw [P1]; exact Bool.false_ne_true), if_neg (by rw [last_of n m (by omega) hm, head_of n (by omega), ba_size]; rintro (h | h | h); omega; exact h (congrArg some (UInt8.toNat_inj.1 hf)); exact h (congrArg some (UInt8.toNat_inj.1 hl))), ← C1, ← hq, ba_extract, ba_size, hm]; rfl
  have hqs : q.size ≤ 1000000 := by rw [← hq, ByteArray.size_extract]; omega
  have e3 : decide ((m : Int) + 1 < 3) = false := decide_eq_false (by omega)
  have e4 : ((n[0].toNat : Int) != 39) = false := by rw [bne_eq_false_iff_eq]; omega
  have e5 : ((n[m].toNat : Int) != 39) = false := by rw [bne_eq_false_iff_eq]; omega
  have e6 : decide ((m : Int) < (m : Int) + 1) = true := decide_eq_true (by omega)
  have i0 : 0 < n.size := by omega
  have i1 : m < n.size := by omega
  have i2 : (m : Int) < (m : Int) + 1 := by omega
  have hcb : Lib.countB q ⟨#[39, 39]⟩ ≤ q.size := Lib.countB_le ⟨#[39, 39]⟩ (by decide) q.size q (Nat.le_refl _)
  have cA1 : ∀ W, Below w.heap.size w W → Calls Tryz.prog 46 #[.string q, .string ⟨#[39, 39]⟩, .string ⟨#[]⟩] W (Ret (.string ⟨(Lib.replaceAll q.data.toList [39, 39] []).toArray⟩) W) := fun W hb => Tryz.strings_ReplaceAll_shaped q ⟨#[39, 39]⟩ ⟨#[]⟩ W (hg.below hb).shaped (by omega) (by decide) (by rw [show (ByteArray.mk #[]).size = 0 from rfl]; omega)
  have cA2 : ∀ W, Below w.heap.size w W → Calls Tryz.prog 46 #[.string q, .string ⟨#[39, 39]⟩, .string ⟨#[39]⟩] W (Ret (.string ⟨(Lib.replaceAll q.data.toList [39, 39] [39]).toArray⟩) W) := fun W hb => Tryz.strings_ReplaceAll_shaped q ⟨#[39, 39]⟩ ⟨#[39]⟩ W (hg.below hb).shaped (by omega) (by decide) (by rw [show (ByteArray.mk #[39]).size = 1 from rfl]; omega)
  rw [repl_non] at cA1
  rw [repl_und] at cA2
  have hul := und_len q.data.toList
  have hnl := non_len q.data.toList
  rw [ba_size] at hul hnl
  have cC : ∀ W, Below w.heap.size w W → Calls Tryz.prog 55 #[.string ⟨(non q.data.toList).toArray⟩, .string ⟨#[39]⟩] W (Still (.bool B) W) := fun W hb => (Tryz.strings_Contains_shaped ⟨(non q.data.toList).toArray⟩ ⟨#[39]⟩ W (hg.below hb).shaped (by show (non q.data.toList).toArray.size < _; rw [List.size_toArray]; omega)).mono fun e w' h => ⟨by rw [← C1]; exact h.1, h.2.symm⟩
  have cN : ∀ W, Below w.heap.size w W → Calls Tryz.prog 47 #[.string ⟨(und q.data.toList).toArray⟩] W (Ret (.bool (nameB (und q.data.toList))) W) := fun W hb => name_any ⟨(und q.data.toList).toArray⟩ W (hg.below hb) (by show (und q.data.toList).toArray.size ≤ _; rw [List.size_toArray]; omega)
  clear hf hl hcb C1
  go_enter Tryz.func30, Tryz.ntmps30
  go_wp2_with fail
  refine cL.mono ?_; rintro e w1 ⟨rfl, rfl⟩
  go_wp2_with fail
  go_quiet (fail)
  clear hn hr hg
  obtain ⟨w3, hw3, hb3⟩ := drewN_abs w1 nq
  rw [hw3]
  clear hw3 cL
  go_wp2_with fail
  refine (plain_any n w3 (by omega)).mono ?_; rintro e w4 ⟨rfl, hb4⟩
  have hb0 : Below w1.heap.size w1 w4 := after hb3 hb4
  clear hb3 hb4
  rw [P1]
  go_wp2_with fail
  refine (cA1 w4 hb0).mono ?_; rintro e w5 ⟨rfl, hb5⟩
  replace hb0 : Below w1.heap.size w1 w5 := after hb0 hb5
  clear hb5 cA1
  go_wp2_with fail
  refine (cA2 w5 hb0).mono ?_; rintro e w6 ⟨rfl, hb6⟩
  replace hb0 : Below w1.heap.size w1 w6 := after hb0 hb6
  clear hb6 cA2
  go_wp2_with fail
  refine (cC w6 hb0).mono ?_; rintro e w7 ⟨rfl, rfl⟩
  clear cC
  cases B
  · go_wp2_with fail
    refine (cN w6 hb0).mono ?_; rintro e w7 ⟨rfl, hb7⟩
    replace hb0 : Below w1.heap.size w1 w7 := after hb0 hb7
    clear hb7
    go_wp2
    go_ret3
    exact Ret.mk3 (by rw [Hv.out]; rfl) (by rw [Hv.out]; rfl) (by rw [Hv.out]; rfl) hb0
  · go_wp2
    go_ret3
    exact Ret.mk3 (by rw [Hv.out]; rfl) (by rw [Hv.out]; rfl) (by rw [Hv.out]; rfl) hb0

theorem sheet_any (s : ByteArray) (w : World) (hg : Good w) (hs : s.size ≤ 1000000) : Calls Tryz.prog 30 #[.string s] w (Ret (.tuple #[strV (sheetD s).1, strV (sheetD s).2.1, .bool (sheetD s).2.2]) w) := by
  rcases Lib.lastIndexByte_spec s 33 with ⟨e, _⟩ | ⟨k, hk, hi, _, _⟩
  · exact sheet_none s w hs (by rw [e]; decide)
  · by_cases P : plainB (s.extract 0 k).data.toList = true
    · exact sheet_plain s k w hg hs hi hk _ _ rfl rfl P
    rw [Bool.not_eq_true] at P
    by_cases h3 : (s.extract 0 k).size < 3
    · exact sheet_short s k w hg hs hi hk _ _ rfl rfl P h3
    by_cases hf : (s.extract 0 k)[0].toNat = 39
    · by_cases hl : (s.extract 0 k)[(s.extract 0 k).size - 1].toNat = 39
      · exact sheet_quoted s k w hg hs hi hk _ _ rfl rfl P ((s.extract 0 k).size - 1) (by omega) (by omega) hf hl _ rfl _ rfl
      · exact sheet_last s k w hg hs hi hk _ _ rfl rfl P ((s.extract 0 k).size - 1) (by omega) (by omega) hf hl
    · exact sheet_first s k w hg hs hi hk _ _ rfl rfl P (by omega) hf
end Go.Proofs.YtmeiboajpbflcaaGreatDoor
