/- What Read computes, in plain Lean. No program in sight. -/
import Derived.Test.YtmeiboajpbflcaaGreatDoorPart
namespace Tab
open Go.Lib
/-- the number that digits tell, if it is written so. -/
def rowOf (D : Bs) : Option Int := match atoiAll D with
  | .ok v => if itoa v = D then some v else none
  | _ => none
def readOf (n : Bs) (is fc fr : Bool) (L D r4 : Bs) : RefD × Int :=
  match is, colOf L, rowOf D with
  | true, some c, some v => if r4 = [] ∧ RefD.right ⟨⟨n.toArray⟩, v - 1, c, fr, fc, false⟩ = true then (⟨⟨n.toArray⟩, v - 1, c, fr, fc, false⟩, 0) else (RefD.zero, 20)
  | _, _, _ => (RefD.zero, 20)
def RefD.gone : RefD := ⟨⟨#[]⟩, 0, 0, false, false, true⟩
def unD (l : Bs) : Bs := trimPrefix l [36]
def restD (rest : Bs) : Bs := (unD rest).dropWhile isLetterB
def readRest (n rest : Bs) (is : Bool) : RefD × Int :=
  readOf n is (hasPrefix rest [36]) (hasPrefix (restD rest) [36]) ((unD rest).takeWhile isLetterB) ((unD (restD rest)).takeWhile isDigitB) ((unD (restD rest)).dropWhile isDigitB)
def readD (s : ByteArray) : RefD × Int :=
  if s.data.toList = [35, 82, 69, 70, 33] then (RefD.gone, 0) else readRest (sheetD s).1 (sheetD s).2.1 (sheetD s).2.2
theorem readOf_is (n : Bs) (fc fr : Bool) (L D r4 : Bs) : readOf n false fc fr L D r4 = (RefD.zero, 20) := by unfold readOf; rfl
theorem readOf_col (n : Bs) (is fc fr : Bool) (L D r4 : Bs) (h : colOf L = none) : readOf n is fc fr L D r4 = (RefD.zero, 20) := by unfold readOf; rw [h]; cases is <;> rfl
theorem readOf_row (n : Bs) (is fc fr : Bool) (L D r4 : Bs) (h : rowOf D = none) : readOf n is fc fr L D r4 = (RefD.zero, 20) := by unfold readOf; rw [h]; cases is <;> cases colOf L <;> rfl
theorem readOf_more (n : Bs) (is fc fr : Bool) (L D r4 : Bs) (h : r4 ≠ []) : readOf n is fc fr L D r4 = (RefD.zero, 20) := by
  unfold readOf
  cases is <;> cases colOf L <;> cases rowOf D <;> first | rfl | exact if_neg (fun e => h e.1)
theorem readOf_yes (n : Bs) (fc fr : Bool) (L D : Bs) (c : Nat) (v : Int) (hc : colOf L = some c) (hv : rowOf D = some v) : readOf n true fc fr L D [] = if RefD.right ⟨⟨n.toArray⟩, v - 1, c, fr, fc, false⟩ = true then (⟨⟨n.toArray⟩, v - 1, c, fr, fc, false⟩, 0) else (RefD.zero, 20) := by
  unfold readOf; rw [hc, hv]; simp
theorem rowOf_bad {D : Bs} (h : ∀ v, atoiAll D ≠ .ok v) : rowOf D = none := by
  unfold rowOf; rcases e : atoiAll D with v | _ | _
  · exact absurd e (h v)
  · rfl
  · rfl
theorem rowOf_odd {D : Bs} {v : Int} (h : atoiAll D = .ok v) (hn : itoa v ≠ D) : rowOf D = none := by unfold rowOf; rw [h]; exact if_neg hn
theorem rowOf_ok {D : Bs} {v : Int} (h : atoiAll D = .ok v) (hn : itoa v = D) : rowOf D = some v := by unfold rowOf; rw [h]; exact if_pos hn
theorem atoi_digits {D : Bs} {v : Int} (hD : D.all isDigitB = true) (h : atoiAll D = .ok v) : 0 ≤ v ∧ v ≤ 9223372036854775807 := by
  cases D with
  | nil => cases h
  | cons c r =>
    have hc : 48 ≤ c.toNat ∧ c.toNat ≤ 57 := by
      rw [List.all_cons, Bool.and_eq_true] at hD
      have := hD.1; unfold isDigitB at this; exact of_decide_eq_true this
    unfold atoiAll at h
    dsimp only at h
    rw [if_neg (by omega)] at h
    split at h
    · cases h
    · cases h
    · split at h
      · cases h
      · split at h
        · cases h
        · rw [if_neg (by omega)] at h; injection h with h; omega
theorem tw_all (P : UInt8 → Bool) : ∀ l : Bs, (l.takeWhile P).all P = true
  | [] => rfl
  | b :: l => by
    rw [List.takeWhile_cons]
    cases h : P b
    · rfl
    · rw [if_pos rfl, List.all_cons, h, tw_all P l]; rfl
theorem tw_len (P : UInt8 → Bool) (l : Bs) : (l.takeWhile P).length ≤ l.length := (List.takeWhile_sublist P).length_le
theorem dw_len (P : UInt8 → Bool) (l : Bs) : (l.dropWhile P).length ≤ l.length := (List.dropWhile_sublist P).length_le
theorem unD_len (l : Bs) : (unD l).length ≤ l.length := by unfold unD trimPrefix; split <;> simp
theorem part_len (n rest : Bs) : (partD n rest).1.length ≤ n.length ∧ (partD n rest).2.1.length ≤ rest.length := by
  unfold partD
  split
  · exact ⟨Nat.le_refl _, Nat.le_refl _⟩
  · split
    · exact ⟨by simp, by simp⟩
    · refine ⟨Nat.le_trans (und_len _) ?_, Nat.le_refl _⟩
      simp; omega
theorem sheet_len (s : ByteArray) : (sheetD s).1.length ≤ s.size ∧ (sheetD s).2.1.length ≤ s.size := by
  have hs : s.data.toList.length = s.size := rfl
  unfold sheetD
  split
  · exact ⟨by simp, Nat.le_of_eq hs⟩
  · have := part_len (s.data.toList.take (lastIndexByte s 33).toNat) (s.data.toList.drop ((lastIndexByte s 33).toNat + 1))
    rw [List.length_take, List.length_drop] at this
    omega
end Tab
