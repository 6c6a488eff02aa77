/- Plain laws: the document's ways to reckon tell what the program's tell. No program in sight. -/
import Derived.Test.YtmeiboajpbflcaaGreatDoorRound
import Derived.Test.YtmeiboajpbflcaaGreatDoorMoves
import Derived.Test.YtmeiboajpbflcaaGreatDoorMeets
import Derived.Test.YtmeiboajpbflcaaGreatDoorSheet
namespace Tab
open Go.Lib

/-! moved -/
def tmovedOf (r : RefD) (rows cols : Int) : RefD × Int :=
  if !r.right then (RefD.zero, 20) else if r.bad then (r, 0)
  else if !r.fr ∧ (rows < -200 ∨ 200 < rows) then (RefD.zero, 20)
  else if !r.fc ∧ (cols < -200 ∨ 200 < cols) then (RefD.zero, 20)
  else if (r.to rows cols).right then (r.to rows cols, 0) else (RefD.zero, 20)
theorem right_iff {q : RefD} (hb : q.bad = false) (h : (q.s.data.toList.isEmpty || nameB q.s.data.toList) = true) : q.right = decide (0 ≤ q.row ∧ q.row < 200 ∧ 0 ≤ q.col ∧ q.col < 52) := by
  obtain ⟨s, row, col, fr, fc, bad⟩ := q
  dsimp only at hb h; subst hb
  exact right_at s row col fr fc h
theorem tmoved_is (r : RefD) (rows cols : Int) : tmovedOf r rows cols = movedOf r rows cols := by
  unfold tmovedOf movedOf
  cases hr : r.right
  · rfl
  · cases hb : r.bad
    · simp only [Bool.not_true, Bool.false_eq_true, if_false]
      obtain ⟨hs, h1, h2, h3, h4⟩ := right_parts hr hb
      have ea : (r.shifted rows cols).right = decide (0 ≤ (r.shifted rows cols).row ∧ (r.shifted rows cols).row < 200 ∧ 0 ≤ (r.shifted rows cols).col ∧ (r.shifted rows cols).col < 52) := right_iff hb hs
      have eb : (r.to rows cols).right = decide (0 ≤ (r.to rows cols).row ∧ (r.to rows cols).row < 200 ∧ 0 ≤ (r.to rows cols).col ∧ (r.to rows cols).col < 52) := right_iff hb hs
      rw [ea, eb]
      clear ea eb hr hs
      obtain ⟨s, row, col, fr, fc, bad⟩ := r
      dsimp only at *
      simp only [RefD.shifted, RefD.to, clamp]
      cases fr <;> cases fc <;> simp only [Bool.not_false, Bool.not_true, true_and, false_and, Bool.false_eq_true, if_false, if_true, decide_eq_true_eq]
      all_goals (repeat' split)
      all_goals first
        | rfl
        | omega
        | (congr 1; congr 1 <;> omega)
    · rfl

/-! meets -/
/-- how far a count that goes up by one comes. -/
def upto (a b : Int) : Int := max 0 (b - a)
def tmeetA (a b : AreaD) : AreaD × Bool :=
  if a.ok && b.ok && decide (a.sheet = b.sheet) then
    let n := upto (max a.row b.row) (min (a.row + a.rows) (b.row + b.rows))
    let m := upto (max a.col b.col) (min (a.col + a.cols) (b.col + b.cols))
    if n = 0 ∨ m = 0 then (AreaD.zero, false) else (⟨a.sheet, max a.row b.row, max a.col b.col, n, m⟩, true)
  else (AreaD.zero, false)
theorem tmeet_is (a b : AreaD) : tmeetA a b = (meetA a b, meetB a b) := by
  unfold tmeetA
  cases h : meetB a b
  · rw [meetA_no h]
    split
    · rename_i hk
      rw [Bool.and_eq_true, Bool.and_eq_true, decide_eq_true_iff] at hk
      have : ¬ (1 ≤ min (a.row + a.rows) (b.row + b.rows) - max a.row b.row ∧ 1 ≤ min (a.col + a.cols) (b.col + b.cols) - max a.col b.col) := fun hh => by
        rw [(meetB_iff a b).2 ⟨(ok_iff _).1 hk.1.1, (ok_iff _).1 hk.1.2, hk.2, hh.1, hh.2⟩] at h; cases h
      dsimp only
      rw [if_pos]
      unfold upto; omega
    · rfl
  · rw [meetA_yes h]
    obtain ⟨h1, h2, h3, h4, h5⟩ := (meetB_iff a b).1 h
    rw [if_pos (by rw [(ok_iff _).2 h1, (ok_iff _).2 h2, decide_eq_true h3]; rfl)]
    dsimp only
    rw [if_neg (by unfold upto; omega)]
    unfold meetRaw upto
    congr 2 <;> omega
/-! columns -/
def upB (b : UInt8) : UInt8 := if 97 ≤ b ∧ b ≤ 122 then b - 32 else b
theorem has_high (l : Bs) (h : ∃ b ∈ l, 128 ≤ b.toNat) : ∀ n k, k + n ≤ 52 → findCol l n k = none
  | 0, _, _ => rfl
  | n + 1, k, hk => by
    unfold findCol
    rw [if_neg, has_high l h n (k + 1) (by omega)]
    intro e
    rw [beq_iff_eq] at e
    obtain ⟨b, hb, hh⟩ := h
    rw [← e] at hb
    obtain ⟨⟨hl, _⟩, _⟩ := col_of (k : Int) (by omega) (by omega)
    have := List.all_eq_true.1 hl b hb
    unfold isLetterB isLetter at this
    have := of_decide_eq_true this
    omega
theorem enc_high (c : Int) (h : 128 ≤ c) : ∃ b ∈ encodeRune c, 128 ≤ b.toNat := by
  unfold encodeRune
  obtain ⟨x, r, hx, h1, h2⟩ : ∃ x r, encodeRuneZ c = x :: r ∧ 192 ≤ x ∧ x < 256 := by
    unfold encodeRuneZ
    rw [if_neg (by omega)]
    split
    · exact ⟨_, _, rfl, by omega, by omega⟩
    · split
      · exact ⟨_, _, rfl, by omega, by omega⟩
      · split
        · exact ⟨_, _, rfl, by omega, by omega⟩
        · exact ⟨_, _, rfl, by omega, by omega⟩
  refine ⟨x.toNat.toUInt8, by rw [hx]; simp, ?_⟩
  have : x.toNat % 256 = x.toNat := Nat.mod_eq_of_lt (by omega)
  simp only [Nat.toUInt8_eq, UInt8.toNat_ofNat']
  omega
theorem upB_low (b : UInt8) (h : b.toNat < 128) : encodeRune (upI (b.toNat : Int)) = [upB b] ∧ 0 ≤ upI (b.toNat : Int) := by
  have key : ∀ n : Fin 128, encodeRune (upI ((n.val : Nat) : Int)) = [upB (UInt8.ofNat n.val)] ∧ 0 ≤ upI ((n.val : Nat) : Int) := by decide +kernel
  have := key ⟨b.toNat, h⟩
  dsimp only at this
  rw [UInt8.ofNat_toNat] at this
  exact this
/-- letters made great rune by rune, or byte by byte: alike, or no letters alone in either. -/
theorem up_cases (l : Bs) : ∀ n, l.length ≤ n → mapD upI l = l.map upB ∨ ((∃ b ∈ mapD upI l, 128 ≤ b.toNat) ∧ ∃ b ∈ l.map upB, 128 ≤ b.toNat) := by
  intro n
  induction n generalizing l with
  | zero => intro h; left; rw [List.length_eq_zero_iff.1 (by omega : l.length = 0)]; rfl
  | succ n ih =>
    intro h
    cases l with
    | nil => left; rfl
    | cons b r =>
      rw [mapD_step upI (b :: r) (by simp)]
      rcases decode_facts b r with ⟨hb, e⟩ | ⟨hb, hr, ha⟩
      · rw [e]
        obtain ⟨k1, k2⟩ := upB_low b hb
        rw [if_pos k2, k1]
        simp only [List.drop_succ_cons, List.drop_zero, List.map_cons]
        rcases ih r (by simp at h; omega) with hh | ⟨⟨x, hx, h1⟩, y, hy, h2⟩
        · left; rw [hh]; rfl
        · right
          exact ⟨⟨x, by simp [hx], h1⟩, ⟨y, List.mem_cons_of_mem _ hy, h2⟩⟩
      · right
        constructor
        · have hc : upI (decodeL (b :: r)).1 = (decodeL (b :: r)).1 := by unfold upI; rw [if_neg (by omega)]
          rw [hc, if_pos (by omega)]
          obtain ⟨x, hx, h1⟩ := enc_high _ (show (128 : Int) ≤ (decodeL (b :: r)).1 by omega)
          exact ⟨x, List.mem_append_left _ hx, h1⟩
        · refine ⟨upB b, by simp, ?_⟩
          unfold upB
          rw [if_neg]
          · exact hb
          · rintro ⟨_, e2⟩
            have e2 := UInt8.le_iff_toNat_le.1 e2
            have k2 : (122 : UInt8).toNat = 122 := rfl
            omega
/-- the column of letters, as the document tells it. -/
def tcolOf (l : Bs) : Option Nat := if 2 < l.length then none else findCol (l.map upB) 52 0
theorem tcol_is (l : Bs) : tcolOf l = colOf l := by
  unfold tcolOf colOf
  split
  · rfl
  · rcases up_cases l l.length (Nat.le_refl _) with h | ⟨h1, h2⟩
    · rw [h]
    · rw [has_high _ h1 52 0 (by omega), has_high _ h2 52 0 (by omega)]
end Tab
