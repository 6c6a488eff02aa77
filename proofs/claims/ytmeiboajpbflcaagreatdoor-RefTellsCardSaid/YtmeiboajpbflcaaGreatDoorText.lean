/- Plain laws on texts: which bytes a text may have, plain names, runes and bytes. No program in sight. -/
import Derived.Test.YtmeiboajpbflcaaGreatDoorPlain
import Derived.Lib.MapLaws
import Derived.Lib.ValidLaws
import Derived.Lib.Replace
import Derived.Lib.LastIndexByte
import Derived.Lib.AtoiAll
import Derived.Lib.Itoa
namespace Tab
open Go.Lib

def isLetterB (b : UInt8) : Bool := isLetter b.toNat
def isDigitB (b : UInt8) : Bool := decide (48 ≤ b.toNat ∧ b.toNat ≤ 57)
/-- may a byte stand in a text? -/
def okByte (b : UInt8) : Bool := decide (32 ≤ b.toNat ∧ b.toNat ≠ 127)
/-- may a text be a sheet's name? -/
def nameB (l : Bs) : Bool := l.all okByte && (!l.isEmpty && decide (l.length ≤ 30) && validD l)
/-- is a name plain? -/
def plainFrom : Bool → Bs → Bool
  | _, [] => true
  | first, b :: r => (isLetterB b || b == 95 || (isDigitB b && !first)) && plainFrom false r
def plainB (l : Bs) : Bool := plainFrom true l && !l.isEmpty
/-- may a reference be? -/
def rightB (s : Bs) (row col : Int) (fr fc bad : Bool) : Bool :=
  if bad then s.isEmpty && row == 0 && col == 0 && !fr && !fc
  else (s.isEmpty || nameB s) && decide (0 ≤ row ∧ row < 200 ∧ 0 ≤ col ∧ col < 52)
def upI (c : Int) : Int := if 97 ≤ c ∧ c ≤ 122 then c - 32 else c
structure RefD where
  s : ByteArray
  row : Int
  col : Int
  fr : Bool
  fc : Bool
  bad : Bool
def RefD.right (r : RefD) : Bool := rightB r.s.data.toList r.row r.col r.fr r.fc r.bad
def RefD.zero : RefD := ⟨⟨#[]⟩, 0, 0, false, false, false⟩
/-- the area between two references: its error, and itself. -/
def areaOf (a b : RefD) (sheet : Int) : AreaD × Int :=
  if sheet < 0 ∨ 8 ≤ sheet then (AreaD.zero, 2)
  else if a.right && b.right && !a.bad && !b.bad then
    (⟨sheet, if b.row < a.row then b.row else a.row, if b.col < a.col then b.col else a.col, (if a.row < b.row then b.row else a.row) - (if b.row < a.row then b.row else a.row) + 1, (if a.col < b.col then b.col else a.col) - (if b.col < a.col then b.col else a.col) + 1⟩, 0)
  else (AreaD.zero, 20)
/-- a number cut to a range. -/
def clamp (x m : Int) : Int := max (min x m) (-m)
def RefD.shifted (r : RefD) (rows cols : Int) : RefD := { r with row := if r.fr then r.row else r.row + clamp rows 200, col := if r.fc then r.col else r.col + clamp cols 52 }
def movedOf (r : RefD) (rows cols : Int) : RefD × Int :=
  if !r.right then (RefD.zero, 20) else if r.bad then (r, 0) else if (r.shifted rows cols).right then (r.shifted rows cols, 0) else (RefD.zero, 20)
/-- the first column from k on, of n, whose letters these are. -/
def findCol (g : Bs) : Nat → Nat → Option Nat
  | 0, _ => none
  | n + 1, k => if colL k == g then some k else findCol g n (k + 1)
def colOf (l : Bs) : Option Nat := if 2 < l.length then none else findCol (mapD upI l) 52 0

/-- the first rune of a text: an ASCII byte, or none of its bytes is ASCII. -/
theorem decode_facts (b : UInt8) (r : Bs) : (b.toNat < 128 ∧ decodeL (b :: r) = (b.toNat, 1)) ∨ (128 ≤ b.toNat ∧ 128 ≤ (decodeL (b :: r)).1 ∧ ∀ x ∈ (b :: r).take (decodeL (b :: r)).2, 128 ≤ x.toNat) := by
  rw [decodeL_N]
  generalize hl : b :: r = l
  have h0 : l.getD 0 0 = b := by rw [← hl]; rfl
  have hlen : 0 < l.length := by rw [← hl]; simp
  have k1 := (l.getD 1 0).toNat_lt
  have k2 := (l.getD 2 0).toNat_lt
  have k3 := (l.getD 3 0).toNat_lt
  rw [h0]
  rcases decodeN_shape l.length b.toNat (l.getD 1 0).toNat (l.getD 2 0).toNat (l.getD 3 0).toNat with ⟨c, e⟩ | ⟨c1, c2, c3, cv, e⟩ | ⟨c1, c2, c3, c4, cv, cs, e⟩ | ⟨c1, c2, c3, c4, c5, cv, cw, e⟩ | e
  · exact .inl ⟨c, e⟩
  · refine .inr ⟨by omega, by rw [e]; exact cv, ?_⟩
    rw [e]; dsimp only; rw [takeB l c2, h0]
    intro x hx; simp only [List.mem_cons, List.not_mem_nil, or_false] at hx; rcases hx with rfl | rfl <;> omega
  · refine .inr ⟨by omega, by rw [e]; dsimp only; omega, ?_⟩
    rw [e]; dsimp only; rw [takeC l c2, h0]
    intro x hx; simp only [List.mem_cons, List.not_mem_nil, or_false] at hx; rcases hx with rfl | rfl | rfl <;> omega
  · refine .inr ⟨by omega, by rw [e]; dsimp only; omega, ?_⟩
    rw [e]; dsimp only; rw [takeD l c2, h0]
    intro x hx; simp only [List.mem_cons, List.not_mem_nil, or_false] at hx; rcases hx with rfl | rfl | rfl | rfl <;> omega
  · by_cases hb : b.toNat < 128
    · refine .inl ⟨hb, ?_⟩
      unfold decodeN; rw [if_pos hb]
    · refine .inr ⟨by omega, by rw [e]; decide, ?_⟩
      rw [e]; dsimp only; rw [takeA l hlen, h0]
      intro x hx; simp only [List.mem_cons, List.not_mem_nil, or_false] at hx; subst hx; omega

theorem ok_high (b : UInt8) (h : 128 ≤ b.toNat) : okByte b = true := by simp only [okByte, decide_eq_true_eq]; omega
/-- a step of the loop that asks each rune. -/
theorem ok_step (l : Bs) (hne : l ≠ []) : l.all okByte = (decide (¬ (((decodeL l).1 : Int) < 32 ∨ ((decodeL l).1 : Int) = 127)) && (l.drop (decodeL l).2).all okByte) := by
  obtain ⟨b, r, rfl⟩ : ∃ b r, l = b :: r := by cases l with | nil => exact absurd rfl hne | cons b r => exact ⟨b, r, rfl⟩
  rcases decode_facts b r with ⟨hb, e⟩ | ⟨hb, hr, ha⟩
  · rw [e]
    simp only [List.drop_succ_cons, List.drop_zero, List.all_cons]
    congr 1
    simp only [okByte]; rw [decide_eq_decide]; omega
  · have h1 : ((b :: r).take (decodeL (b :: r)).2).all okByte = true := by
      rw [List.all_eq_true]; intro x hx; exact ok_high x (ha x hx)
    have h2 : decide (¬ (((decodeL (b :: r)).1 : Int) < 32 ∨ ((decodeL (b :: r)).1 : Int) = 127)) = true := decide_eq_true (by omega)
    rw [h2, Bool.true_and]
    conv => lhs; rw [← List.take_append_drop (decodeL (b :: r)).2 (b :: r)]
    rw [List.all_append, h1, Bool.true_and]

def okRune (first : Bool) (c : Int) : Bool := isLetter c || c == 95 || (decide (48 ≤ c ∧ c ≤ 57) && !first)
theorem plain_step (first : Bool) (l : Bs) (hne : l ≠ []) : plainFrom first l = (okRune first (decodeL l).1 && plainFrom false (l.drop (decodeL l).2)) := by
  obtain ⟨b, r, rfl⟩ : ∃ b r, l = b :: r := by cases l with | nil => exact absurd rfl hne | cons b r => exact ⟨b, r, rfl⟩
  rcases decode_facts b r with ⟨hb, e⟩ | ⟨hb, hr, ha⟩
  · rw [e]
    simp only [List.drop_succ_cons, List.drop_zero, plainFrom, okRune]
    congr 1
    have h1 : (b == 95) = (((b.toNat : Nat) : Int) == 95) := by
      rw [Bool.eq_iff_iff, beq_iff_eq, beq_iff_eq]
      constructor
      · rintro rfl; rfl
      · intro h; have h' : b.toNat = 95 := by omega
        exact UInt8.toNat_inj.1 h'
    have h2 : isDigitB b = decide (48 ≤ ((b.toNat : Nat) : Int) ∧ ((b.toNat : Nat) : Int) ≤ 57) := by
      simp only [isDigitB]; rw [decide_eq_decide]; omega
    rw [h1, h2]; rfl
  · have h1 : okRune first (decodeL (b :: r)).1 = false := by
      generalize (decodeL (b :: r)).1 = c at *
      simp only [okRune, isLetter]
      rw [decide_eq_false (by omega), decide_eq_false (by omega)]
      simp; omega
    have h2 : plainFrom first (b :: r) = false := by
      simp only [plainFrom, isLetterB, isLetter, isDigitB]
      rw [decide_eq_false (by omega), decide_eq_false (by omega)]
      have : (b == 95) = false := by
        rw [beq_eq_false_iff_ne]; rintro rfl; revert hb; decide
      rw [this]; simp
    rw [h1, h2]; simp
end Tab
