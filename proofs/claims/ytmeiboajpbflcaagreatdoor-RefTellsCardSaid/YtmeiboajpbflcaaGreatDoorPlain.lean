/- Plain laws and plain functions: what the functions of the packages ref and tabularef02 compute, in plain Lean. No program in sight. -/
import Derived.WalkKit
namespace Tab
abbrev Bs := List UInt8
/-- a column's letters; none: no such column. -/
def colL (n : Int) : Bs := if n < 0 ∨ 52 ≤ n then [] else if n < 26 then [(65 + n).toNat.toUInt8] else [(65 + n / 26 - 1).toNat.toUInt8, (65 + n % 26).toNat.toUInt8]
def colE (n : Int) : Int := if n < 0 ∨ 52 ≤ n then 20 else 0
theorem colL_out (n : Int) (h : n < 0 ∨ 52 ≤ n) : colL n = [] := by rw [colL, if_pos h]
theorem colE_out (n : Int) (h : n < 0 ∨ 52 ≤ n) : colE n = 20 := by rw [colE, if_pos h]
theorem colE_in (n : Int) (h : 0 ≤ n) (h2 : n < 52) : colE n = 0 := by rw [colE, if_neg (by omega)]
theorem colL_one (n : Int) (h : 0 ≤ n) (h2 : n < 26) : colL n = [(65 + n).toNat.toUInt8] := by rw [colL, if_neg (by omega), if_pos h2]
theorem colL_two (n : Int) (h : 26 ≤ n) (h2 : n < 52) : colL n = [UInt8.ofNat ((65 + n / 26).toNat - 1), UInt8.ofNat (65 + n % 26).toNat] := by
  rw [colL, if_neg (by omega), if_neg (by omega)]
  have : (65 + n / 26 - 1).toNat = (65 + n / 26).toNat - 1 := by omega
  rw [this]
def pickI (c n : Int) : Int := (if c < 0 then -(c + 1) else c) % n
def isLetter (c : Int) : Bool := decide (65 ≤ c ∧ c ≤ 90 ∨ 97 ≤ c ∧ c ≤ 122)
/-- may an area be? -/
def areaOk (sheet row col rows cols : Int) : Bool := decide (0 ≤ sheet ∧ sheet < 8 ∧ 0 ≤ row ∧ row < 200 ∧ 0 ≤ col ∧ col < 52 ∧ 1 ≤ rows ∧ rows ≤ 200 - row ∧ 1 ≤ cols ∧ cols ≤ 52 - col)
structure AreaD where
  sheet : Int
  row : Int
  col : Int
  rows : Int
  cols : Int
  deriving DecidableEq
def AreaD.ok (a : AreaD) : Bool := areaOk a.sheet a.row a.col a.rows a.cols
def AreaD.zero : AreaD := ⟨0, 0, 0, 0, 0⟩
/-- Meet's area, without the question whether there is one. -/
def meetRaw (a b : AreaD) : AreaD := ⟨a.sheet, max a.row b.row, max a.col b.col, min (a.row + a.rows) (b.row + b.rows) - max a.row b.row, min (a.col + a.cols) (b.col + b.cols) - max a.col b.col⟩
def meetB (a b : AreaD) : Bool := a.ok && b.ok && decide (a.sheet = b.sheet ∧ 1 ≤ (meetRaw a b).rows ∧ 1 ≤ (meetRaw a b).cols)
def meetA (a b : AreaD) : AreaD := if meetB a b then meetRaw a b else AreaD.zero
theorem meet_no (a b : AreaD) (h : meetB a b = false) : meetA a b = AreaD.zero ∧ meetB a b = false := ⟨by rw [meetA, h]; rfl, h⟩
theorem meet_yes (s r1 c1 n1 m1 r2 c2 n2 m2 R C N M : Int) (ha : areaOk s r1 c1 n1 m1 = true) (hb : areaOk s r2 c2 n2 m2 = true)
    (hR : (if r1 < r2 then r2 else r1) = R) (hC : (if c1 < c2 then c2 else c1) = C) (hN : (if r2 + n2 < r1 + n1 then r2 + n2 else r1 + n1) - R = N) (hM : (if c2 + m2 < c1 + m1 then c2 + m2 else c1 + m1) - C = M)
    (h1 : 1 ≤ N) (h2 : 1 ≤ M) : meetA ⟨s, r1, c1, n1, m1⟩ ⟨s, r2, c2, n2, m2⟩ = ⟨s, R, C, N, M⟩ ∧ meetB ⟨s, r1, c1, n1, m1⟩ ⟨s, r2, c2, n2, m2⟩ = true := by
  have e : meetRaw ⟨s, r1, c1, n1, m1⟩ ⟨s, r2, c2, n2, m2⟩ = ⟨s, R, C, N, M⟩ := by
    simp only [meetRaw, AreaD.mk.injEq, true_and]
    refine ⟨?_, ?_, ?_, ?_⟩ <;> (split at hR <;> split at hC <;> split at hN <;> split at hM <;> omega)
  have y : meetB ⟨s, r1, c1, n1, m1⟩ ⟨s, r2, c2, n2, m2⟩ = true := by
    simp only [meetB, e, AreaD.ok, ha, hb, Bool.true_and, decide_eq_true_eq, true_and]
    exact ⟨h1, h2⟩
  exact ⟨by rw [meetA, y, if_pos rfl, e], y⟩
theorem meet_off (s r1 c1 n1 m1 r2 c2 n2 m2 R C N M : Int)
    (hR : (if r1 < r2 then r2 else r1) = R) (hC : (if c1 < c2 then c2 else c1) = C) (hN : (if r2 + n2 < r1 + n1 then r2 + n2 else r1 + n1) - R = N) (hM : (if c2 + m2 < c1 + m1 then c2 + m2 else c1 + m1) - C = M)
    (h : N < 1 ∨ M < 1) : meetB ⟨s, r1, c1, n1, m1⟩ ⟨s, r2, c2, n2, m2⟩ = false := by
  rw [Bool.eq_false_iff]
  simp only [meetB, meetRaw, ne_eq, Bool.and_eq_true, decide_eq_true_eq, true_and]
  rintro ⟨_, h1, h2⟩
  split at hR <;> split at hC <;> split at hN <;> split at hM <;> omega
def hasB (a : AreaD) (sheet row col : Int) : Bool := meetB a ⟨sheet, row, col, 1, 1⟩
end Tab
