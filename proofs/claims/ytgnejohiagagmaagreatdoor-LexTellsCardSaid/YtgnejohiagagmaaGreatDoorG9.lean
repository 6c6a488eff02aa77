/- Plain laws on moved references. No program in sight. Plain laws on areas: what meets, what an area has. No program in sight. Plain laws: the document's ways to reckon tell what the program's tell. No program in sight. Plain laws: pieces are some bytes, and no more than there are. No program in sight. -/
import Derived.Test.YtgnejohiagagmaaGreatDoorG1
import Derived.Test.YtgnejohiagagmaaGreatDoorG4
import Derived.Test.YtgnejohiagagmaaGreatDoorG8
namespace Tab
/-- a reference moved so far, whether it may be or not. -/
def RefD.to (q : RefD) (m n : Int) : RefD := { q with row := if q.fr then q.row else q.row + m, col := if q.fc then q.col else q.col + n }
theorem clamp_id (x m : Int) (h : -m ≤ x ∧ x ≤ m) : clamp x m = x := by unfold clamp; omega
theorem moved_small (q : RefD) (hq : q.right = true) (hb : q.bad = false) (m n : Int) (hm : -200 ≤ m ∧ m ≤ 200) (hn : -52 ≤ n ∧ n ≤ 52) :
    movedOf q m n = if (q.to m n).right then (q.to m n, 0) else (RefD.zero, 20) := by
  unfold movedOf
  have e : q.shifted m n = q.to m n := by unfold RefD.shifted RefD.to; rw [clamp_id m 200 hm, clamp_id n 52 hn]
  rw [hq, hb, e]; rfl
theorem right_at (t : ByteArray) (R C : Int) (fr fc : Bool) (ht : (t.data.toList.isEmpty || nameB t.data.toList) = true) : RefD.right ⟨t, R, C, fr, fc, false⟩ = decide (0 ≤ R ∧ R < 200 ∧ 0 ≤ C ∧ C < 52) := by
  unfold RefD.right rightB
  rw [if_neg Bool.false_ne_true]
  rw [ht, Bool.true_and]
theorem moved_at (t : ByteArray) (R C : Int) (fr fc : Bool) (ht : (t.data.toList.isEmpty || nameB t.data.toList) = true) (hR : 0 ≤ R ∧ R < 200) (hC : 0 ≤ C ∧ C < 52) (m n : Int) (hm : -200 ≤ m ∧ m ≤ 200) (hn : -52 ≤ n ∧ n ≤ 52)
    (R' C' : Int) (h1 : (if fr then R else R + m) = R') (h2 : (if fc then C else C + n) = C') :
    movedOf ⟨t, R, C, fr, fc, false⟩ m n = if 0 ≤ R' ∧ R' < 200 ∧ 0 ≤ C' ∧ C' < 52 then (⟨t, R', C', fr, fc, false⟩, 0) else (RefD.zero, 20) := by
  rw [moved_small _ (by rw [right_at t R C fr fc ht]; exact decide_eq_true (by omega)) rfl m n hm hn]
  have e : RefD.to ⟨t, R, C, fr, fc, false⟩ m n = ⟨t, R', C', fr, fc, false⟩ := by unfold RefD.to; dsimp only; rw [h1, h2]
  rw [e, right_at t R' C' fr fc ht]
  by_cases h : 0 ≤ R' ∧ R' < 200 ∧ 0 ≤ C' ∧ C' < 52
  · rw [if_pos h, decide_eq_true h]; rfl
  · rw [if_neg h, decide_eq_false h]; rfl
theorem moved_gone (m n : Int) : movedOf ⟨⟨#[]⟩, 0, 0, false, false, true⟩ m n = (⟨⟨#[]⟩, 0, 0, false, false, true⟩, 0) := rfl
end Tab

namespace Tab
def AreaD.Ok (a : AreaD) : Prop := 0 ≤ a.sheet ∧ a.sheet < 8 ∧ 0 ≤ a.row ∧ a.row < 200 ∧ 0 ≤ a.col ∧ a.col < 52 ∧ 1 ≤ a.rows ∧ a.rows ≤ 200 - a.row ∧ 1 ≤ a.cols ∧ a.cols ≤ 52 - a.col
theorem ok_iff (a : AreaD) : a.ok = true ↔ a.Ok := by simp only [AreaD.ok, areaOk, AreaD.Ok, decide_eq_true_eq]
theorem meetB_iff (a b : AreaD) : meetB a b = true ↔ a.Ok ∧ b.Ok ∧ a.sheet = b.sheet ∧ 1 ≤ min (a.row + a.rows) (b.row + b.rows) - max a.row b.row ∧ 1 ≤ min (a.col + a.cols) (b.col + b.cols) - max a.col b.col := by
  rw [meetB, Bool.and_eq_true, Bool.and_eq_true, ok_iff, ok_iff, decide_eq_true_iff, and_assoc]
  exact Iff.rfl
theorem meetA_yes {a b : AreaD} (h : meetB a b = true) : meetA a b = meetRaw a b := by rw [meetA, if_pos h]
theorem meetA_no {a b : AreaD} (h : meetB a b = false) : meetA a b = AreaD.zero := by rw [meetA, h]; rfl
theorem meetB_comm (a b : AreaD) : meetB a b = meetB b a := by
  rw [Bool.eq_iff_iff, meetB_iff, meetB_iff]
  constructor <;> (rintro ⟨h1, h2, h3, h4, h5⟩; exact ⟨h2, h1, h3.symm, by omega, by omega⟩)
theorem meetA_comm (a b : AreaD) : meetA a b = meetA b a := by
  cases h : meetB a b
  · rw [meetA_no h, meetA_no (by rw [← meetB_comm]; exact h)]
  · rw [meetA_yes h, meetA_yes (by rw [← meetB_comm]; exact h)]
    obtain ⟨_, _, h3, _, _⟩ := (meetB_iff a b).1 h
    simp only [meetRaw, AreaD.mk.injEq]
    exact ⟨h3, by omega, by omega, by omega, by omega⟩
theorem meetB_self {a : AreaD} (h : a.Ok) : meetB a a = true := by
  rw [meetB_iff]; obtain ⟨h1, h2, h3, h4, h5, h6, h7, h8, h9, h10⟩ := h
  exact ⟨⟨h1, h2, h3, h4, h5, h6, h7, h8, h9, h10⟩, ⟨h1, h2, h3, h4, h5, h6, h7, h8, h9, h10⟩, rfl, by omega, by omega⟩
theorem meetA_self {a : AreaD} (h : a.Ok) : meetA a a = a := by
  rw [meetA_yes (meetB_self h)]
  obtain ⟨s, r, c, n, m⟩ := a
  simp only [meetRaw, AreaD.mk.injEq]
  exact ⟨trivial, by omega, by omega, by omega, by omega⟩
theorem has_iff (a : AreaD) (s r c : Int) : hasB a s r c = true ↔ a.Ok ∧ 0 ≤ r ∧ r < 200 ∧ 0 ≤ c ∧ c < 52 ∧ a.sheet = s ∧ a.row ≤ r ∧ r < a.row + a.rows ∧ a.col ≤ c ∧ c < a.col + a.cols := by
  rw [hasB, meetB_iff]
  constructor
  · rintro ⟨h1, ⟨b1, b2, b3, b4, b5, b6, b7, b8, b9, b10⟩, h3, h4, h5⟩
    dsimp only at b1 b2 b3 b4 b5 b6 b7 b8 b9 b10 h3 h4 h5
    exact ⟨h1, b3, b4, b5, b6, h3, by omega, by omega, by omega, by omega⟩
  · rintro ⟨h1, b3, b4, b5, b6, h3, h4, h5, h6, h7⟩
    obtain ⟨a1, a2, a3, a4, a5, a6, a7, a8, a9, a10⟩ := h1
    refine ⟨⟨a1, a2, a3, a4, a5, a6, a7, a8, a9, a10⟩, ⟨?_, ?_, ?_, ?_, ?_, ?_, ?_, ?_, ?_, ?_⟩, h3, ?_, ?_⟩ <;> dsimp only <;> omega
theorem raw_ok {a b : AreaD} (h : meetB a b = true) : (meetRaw a b).Ok := by
  obtain ⟨⟨a1, a2, a3, a4, a5, a6, a7, a8, a9, a10⟩, ⟨b1, b2, b3, b4, b5, b6, b7, b8, b9, b10⟩, h3, h4, h5⟩ := (meetB_iff a b).1 h
  refine ⟨?_, ?_, ?_, ?_, ?_, ?_, ?_, ?_, ?_, ?_⟩ <;> simp only [meetRaw] <;> omega
theorem zero_not : ¬ AreaD.zero.Ok := by rintro ⟨_, _, _, _, _, _, h, _⟩; revert h; decide
theorem has_meet {a b : AreaD} (s r c : Int) : (hasB a s r c && hasB b s r c) = hasB (meetA a b) s r c := by
  cases h : meetB a b
  · rw [meetA_no h]
    have e : hasB AreaD.zero s r c = false := by
      rw [Bool.eq_false_iff]; intro e; exact zero_not ((has_iff _ _ _ _).1 e).1
    rw [e, Bool.eq_false_iff]
    intro hh
    rw [Bool.and_eq_true, has_iff, has_iff] at hh
    obtain ⟨⟨h1, q1, q2, q3, q4, q5, q6, q7, q8, q9⟩, ⟨h2, _, _, _, _, p5, p6, p7, p8, p9⟩⟩ := hh
    rw [Bool.eq_false_iff] at h
    exact h ((meetB_iff a b).2 ⟨h1, h2, q5.trans p5.symm, by omega, by omega⟩)
  · rw [meetA_yes h, Bool.eq_iff_iff, Bool.and_eq_true, has_iff, has_iff, has_iff]
    obtain ⟨h1, h2, h3, h4, h5⟩ := (meetB_iff a b).1 h
    have h6 := raw_ok h
    simp only [meetRaw] at h6 ⊢
    constructor
    · rintro ⟨⟨_, q1, q2, q3, q4, q5, q6, q7, q8, q9⟩, ⟨_, _, _, _, _, p5, p6, p7, p8, p9⟩⟩
      exact ⟨h6, q1, q2, q3, q4, q5, by omega, by omega, by omega, by omega⟩
    · rintro ⟨_, q1, q2, q3, q4, q5, q6, q7, q8, q9⟩
      exact ⟨⟨h1, q1, q2, q3, q4, q5, by omega, by omega, by omega, by omega⟩, h2, q1, q2, q3, q4, h3.symm.trans q5, by omega, by omega, by omega, by omega⟩
set_option maxHeartbeats 4000000 in
/-- what meets three: in whatever turn. -/
theorem meet_three {a b c : AreaD} (h : meetB a b = true) : meetB (meetRaw a b) c = (meetB b c && meetB a (meetA b c)) ∧ (meetB (meetRaw a b) c = true → meetA (meetRaw a b) c = meetA a (meetA b c)) := by
  obtain ⟨h1, h2, h3, h4, h5⟩ := (meetB_iff a b).1 h
  have h6 := raw_ok h
  have e : meetB (meetRaw a b) c = (meetB b c && meetB a (meetA b c)) := by
    cases hb : meetB b c
    · rw [Bool.false_and, Bool.eq_false_iff]
      intro hm
      obtain ⟨_, c2, c3, c4, c5⟩ := (meetB_iff _ _).1 hm
      simp only [meetRaw] at c3 c4 c5
      rw [Bool.eq_false_iff] at hb
      exact hb ((meetB_iff b c).2 ⟨h2, c2, h3.symm.trans c3, by omega, by omega⟩)
    · obtain ⟨_, c2, c3, c4, c5⟩ := (meetB_iff _ _).1 hb
      rw [Bool.true_and, meetA_yes hb, Bool.eq_iff_iff, meetB_iff, meetB_iff]
      have h7 := raw_ok hb
      simp only [meetRaw] at h6 h7 ⊢
      constructor
      · rintro ⟨_, _, d3, d4, d5⟩; exact ⟨h1, h7, h3, by omega, by omega⟩
      · rintro ⟨_, _, d3, d4, d5⟩; exact ⟨h6, c2, h3.trans c3, by omega, by omega⟩
  refine ⟨e, fun hm => ?_⟩
  rw [e, Bool.and_eq_true] at hm
  have hm' : meetB (meetRaw a b) c = true := by rw [e, hm.1, hm.2]; rfl
  rw [meetA_yes hm', meetA_yes hm.2, meetA_yes hm.1]
  simp only [meetRaw, AreaD.mk.injEq]
  exact ⟨trivial, by omega, by omega, by omega, by omega⟩
/-- the first and the last place of what meets are in both. -/
theorem meet_corner {a b : AreaD} (h : meetB a b = true) : (hasB a (meetRaw a b).sheet (meetRaw a b).row (meetRaw a b).col = true ∧ hasB b (meetRaw a b).sheet (meetRaw a b).row (meetRaw a b).col = true) ∧
    hasB a (meetRaw a b).sheet ((meetRaw a b).row + (meetRaw a b).rows - 1) ((meetRaw a b).col + (meetRaw a b).cols - 1) = true ∧ hasB b (meetRaw a b).sheet ((meetRaw a b).row + (meetRaw a b).rows - 1) ((meetRaw a b).col + (meetRaw a b).cols - 1) = true := by
  obtain ⟨h1, h2, h3, h4, h5⟩ := (meetB_iff a b).1 h
  have h1' := h1
  have h2' := h2
  obtain ⟨a1, a2, a3, a4, a5, a6, a7, a8, a9, a10⟩ := h1'
  obtain ⟨b1, b2, b3, b4, b5, b6, b7, b8, b9, b10⟩ := h2'
  simp only [has_iff, meetRaw]
  refine ⟨⟨⟨h1, ?_, ?_, ?_, ?_, ?_, ?_, ?_, ?_, ?_⟩, ⟨h2, ?_, ?_, ?_, ?_, ?_, ?_, ?_, ?_, ?_⟩⟩, ⟨h1, ?_, ?_, ?_, ?_, ?_, ?_, ?_, ?_, ?_⟩, ⟨h2, ?_, ?_, ?_, ?_, ?_, ?_, ?_, ?_, ?_⟩⟩ <;> first | omega | trivial
end Tab

namespace Tab
open Go.Lib

/-! moved -/
def tmovedOf (r : RefD) (rows cols : Int) : RefD × Int :=
  if !r.right then (RefD.zero, 20) else if r.bad then (r, 0)
  else if !r.fr ∧ (rows < -200 ∨ 200 < rows) then (RefD.zero, 20)
  else if !r.fc ∧ (cols < -200 ∨ 200 < cols) then (RefD.zero, 20)
  else if (r.to rows cols).right then (r.to rows cols, 0) else (RefD.zero, 20)
theorem right_iff {q : RefD} (hb : q.bad = false) (h : (q.s.data.toList.isEmpty || nameB q.s.data.toList) = true) : q.right = decide (0 ≤ q.row ∧ q.row < 200 ∧ 0 ≤ q.col ∧ q.col < 52) := by
  obtain ⟨s, row, col, fr, fc, bad⟩ := q
  dsimp only at hb h; subst hb
  exact right_at s row col fr fc h
theorem tmoved_is (r : RefD) (rows cols : Int) : tmovedOf r rows cols = movedOf r rows cols := by
  unfold tmovedOf movedOf
  cases hr : r.right
  · rfl
  · cases hb : r.bad
    · simp only [Bool.not_true, Bool.false_eq_true, if_false]
      obtain ⟨hs, h1, h2, h3, h4⟩ := right_parts hr hb
      have ea : (r.shifted rows cols).right = decide (0 ≤ (r.shifted rows cols).row ∧ (r.shifted rows cols).row < 200 ∧ 0 ≤ (r.shifted rows cols).col ∧ (r.shifted rows cols).col < 52) := right_iff hb hs
      have eb : (r.to rows cols).right = decide (0 ≤ (r.to rows cols).row ∧ (r.to rows cols).row < 200 ∧ 0 ≤ (r.to rows cols).col ∧ (r.to rows cols).col < 52) := right_iff hb hs
      rw [ea, eb]
      clear ea eb hr hs
      obtain ⟨s, row, col, fr, fc, bad⟩ := r
      dsimp only at *
      simp only [RefD.shifted, RefD.to, clamp]
      cases fr <;> cases fc <;> simp only [Bool.not_false, Bool.not_true, true_and, false_and, Bool.false_eq_true, if_false, if_true, decide_eq_true_eq]
      all_goals (repeat' split)
      all_goals first
        | rfl
        | omega
        | (congr 1; congr 1 <;> omega)
    · rfl

/-! meets -/
/-- how far a count that goes up by one comes. -/
def upto (a b : Int) : Int := max 0 (b - a)
def tmeetA (a b : AreaD) : AreaD × Bool :=
  if a.ok && b.ok && decide (a.sheet = b.sheet) then
    let n := upto (max a.row b.row) (min (a.row + a.rows) (b.row + b.rows))
    let m := upto (max a.col b.col) (min (a.col + a.cols) (b.col + b.cols))
    if n = 0 ∨ m = 0 then (AreaD.zero, false) else (⟨a.sheet, max a.row b.row, max a.col b.col, n, m⟩, true)
  else (AreaD.zero, false)
theorem tmeet_is (a b : AreaD) : tmeetA a b = (meetA a b, meetB a b) := by
  unfold tmeetA
  cases h : meetB a b
  · rw [meetA_no h]
    split
    · rename_i hk
      rw [Bool.and_eq_true, Bool.and_eq_true, decide_eq_true_iff] at hk
      have : ¬ (1 ≤ min (a.row + a.rows) (b.row + b.rows) - max a.row b.row ∧ 1 ≤ min (a.col + a.cols) (b.col + b.cols) - max a.col b.col) := fun hh => by
        rw [(meetB_iff a b).2 ⟨(ok_iff _).1 hk.1.1, (ok_iff _).1 hk.1.2, hk.2, hh.1, hh.2⟩] at h; cases h
      dsimp only
      rw [if_pos]
      unfold upto; omega
    · rfl
  · rw [meetA_yes h]
    obtain ⟨h1, h2, h3, h4, h5⟩ := (meetB_iff a b).1 h
    rw [if_pos (by rw [(ok_iff _).2 h1, (ok_iff _).2 h2, decide_eq_true h3]; rfl)]
    dsimp only
    rw [if_neg (by unfold upto; omega)]
    unfold meetRaw upto
    congr 2 <;> omega
/-! columns -/
def upB (b : UInt8) : UInt8 := if 97 ≤ b ∧ b ≤ 122 then b - 32 else b
theorem has_high (l : Bs) (h : ∃ b ∈ l, 128 ≤ b.toNat) : ∀ n k, k + n ≤ 52 → findCol l n k = none
  | 0, _, _ => rfl
  | n + 1, k, hk => by
    unfold findCol
    rw [if_neg, has_high l h n (k + 1) (by omega)]
    intro e
    rw [beq_iff_eq] at e
    obtain ⟨b, hb, hh⟩ := h
    rw [← e] at hb
    obtain ⟨⟨hl, _⟩, _⟩ := col_of (k : Int) (by omega) (by omega)
    have := List.all_eq_true.1 hl b hb
    unfold isLetterB isLetter at this
    have := of_decide_eq_true this
    omega
theorem enc_high (c : Int) (h : 128 ≤ c) : ∃ b ∈ encodeRune c, 128 ≤ b.toNat := by
  unfold encodeRune
  obtain ⟨x, r, hx, h1, h2⟩ : ∃ x r, encodeRuneZ c = x :: r ∧ 192 ≤ x ∧ x < 256 := by
    unfold encodeRuneZ
    rw [if_neg (by omega)]
    split
    · exact ⟨_, _, rfl, by omega, by omega⟩
    · split
      · exact ⟨_, _, rfl, by omega, by omega⟩
      · split
        · exact ⟨_, _, rfl, by omega, by omega⟩
        · exact ⟨_, _, rfl, by omega, by omega⟩
  refine ⟨x.toNat.toUInt8, by rw [hx]; simp, ?_⟩
  have : x.toNat % 256 = x.toNat := Nat.mod_eq_of_lt (by omega)
  simp only [Nat.toUInt8_eq, UInt8.toNat_ofNat']
  omega
theorem upB_low (b : UInt8) (h : b.toNat < 128) : encodeRune (upI (b.toNat : Int)) = [upB b] ∧ 0 ≤ upI (b.toNat : Int) := by
  have key : ∀ n : Fin 128, encodeRune (upI ((n.val : Nat) : Int)) = [upB (UInt8.ofNat n.val)] ∧ 0 ≤ upI ((n.val : Nat) : Int) := by decide +kernel
  have := key ⟨b.toNat, h⟩
  dsimp only at this
  rw [UInt8.ofNat_toNat] at this
  exact this
/-- letters made great rune by rune, or byte by byte: alike, or no letters alone in either. -/
theorem up_cases (l : Bs) : ∀ n, l.length ≤ n → mapD upI l = l.map upB ∨ ((∃ b ∈ mapD upI l, 128 ≤ b.toNat) ∧ ∃ b ∈ l.map upB, 128 ≤ b.toNat) := by
  intro n
  induction n generalizing l with
  | zero => intro h; left; rw [List.length_eq_zero_iff.1 (by omega : l.length = 0)]; rfl
  | succ n ih =>
    intro h
    cases l with
    | nil => left; rfl
    | cons b r =>
      rw [mapD_step upI (b :: r) (by simp)]
      rcases decode_facts b r with ⟨hb, e⟩ | ⟨hb, hr, ha⟩
      · rw [e]
        obtain ⟨k1, k2⟩ := upB_low b hb
        rw [if_pos k2, k1]
        simp only [List.drop_succ_cons, List.drop_zero, List.map_cons]
        rcases ih r (by simp at h; omega) with hh | ⟨⟨x, hx, h1⟩, y, hy, h2⟩
        · left; rw [hh]; rfl
        · right
          exact ⟨⟨x, by simp [hx], h1⟩, ⟨y, List.mem_cons_of_mem _ hy, h2⟩⟩
      · right
        constructor
        · have hc : upI (decodeL (b :: r)).1 = (decodeL (b :: r)).1 := by unfold upI; rw [if_neg (by omega)]
          rw [hc, if_pos (by omega)]
          obtain ⟨x, hx, h1⟩ := enc_high _ (show (128 : Int) ≤ (decodeL (b :: r)).1 by omega)
          exact ⟨x, List.mem_append_left _ hx, h1⟩
        · refine ⟨upB b, by simp, ?_⟩
          unfold upB
          rw [if_neg]
          · exact hb
          · rintro ⟨_, e2⟩
            have e2 := UInt8.le_iff_toNat_le.1 e2
            have k2 : (122 : UInt8).toNat = 122 := rfl
            omega
/-- the column of letters, as the document tells it. -/
def tcolOf (l : Bs) : Option Nat := if 2 < l.length then none else findCol (l.map upB) 52 0
theorem tcol_is (l : Bs) : tcolOf l = colOf l := by
  unfold tcolOf colOf
  split
  · rfl
  · rcases up_cases l l.length (Nat.le_refl _) with h | ⟨h1, h2⟩
    · rw [h]
    · rw [has_high _ h1 52 0 (by omega), has_high _ h2 52 0 (by omega)]
end Tab

namespace Tab
open Go
theorem pre_len (l p : Bs) (h : Lib.hasPrefix l p = true) : p.length ≤ l.length := by
  unfold Lib.hasPrefix at h
  exact (List.isPrefixOf_iff_prefix.1 h).length_le
theorem mk_range {k : Int} {s : Bs} {n : Nat} {x : Int × Bs × Nat} (h : mkD k s n = some x) : x = (k, s, n) ∧ 1 ≤ n := by
  unfold mkD at h
  split at h
  · cases h
  · injection h with h; exact ⟨h.symm, by omega⟩
theorem while_len (P : Nat → Bool) (l : Bs) : (whileD P l).length ≤ l.length := tw_len _ _
theorem num_len (l : Bs) : (numD l).length ≤ l.length := by
  have h1 := while_len digR l
  unfold numD
  dsimp only
  split
  · rename_i hp
    have h2 := pre_len _ _ hp
    rw [List.length_drop] at h2
    split
    · exact h1
    · have h3 := while_len digR (Lib.trimPrefix (l.drop (whileD digR l).length) [46])
      have h4 : (Lib.trimPrefix (l.drop (whileD digR l).length) [46]).length = l.length - (whileD digR l).length - 1 := by
        unfold Lib.trimPrefix
        rw [if_pos hp]; simp; omega
      simp only [List.length_append, List.length_cons, List.length_nil] at *
      omega
  · exact h1
theorem far_range (l : Bs) (n : Nat) (x : Int × Bs × Nat) (h : farD l n = some x) : 1 ≤ x.2.2 ∧ x.2.2 ≤ l.length := by
  unfold farD at h
  split at h
  · rename_i hp
    split at h
    · obtain ⟨rfl, h1⟩ := mk_range h
      refine ⟨h1, ?_⟩
      dsimp only
      have h2 := pre_len _ _ hp.1
      rw [List.length_drop] at h2
      have h3 := while_len cellR (Lib.trimPrefix (l.drop n) [33])
      have h4 : (Lib.trimPrefix (l.drop n) [33]).length = l.length - n - 1 := by
        unfold Lib.trimPrefix
        rw [if_pos hp.1]; simp; omega
      simp only [List.length_append, List.length_take, List.length_cons, List.length_nil] at *
      omega
    · cases h
  · cases h
theorem index_le1 (c : UInt8) : ∀ (s : Bs), Lib.index s [c] + 1 ≤ s.length ∨ Lib.index s [c] = -1
  | [] => .inr rfl
  | b :: x => by
    unfold Lib.index
    split
    · left; simp; omega
    · rcases index_le1 c x with h | h
      · split
        · right; rfl
        · left; simp; omega
      · right; rw [h]; rfl
theorem enc_first (c : Int) (h : 128 ≤ c) (d : UInt8) (r : Bs) (e : Lib.encodeRune c = d :: r) : 128 ≤ d.toNat := by
  unfold Lib.encodeRune at e
  obtain ⟨x, r', hx, h1, h2⟩ : ∃ x r', Lib.encodeRuneZ c = x :: r' ∧ 192 ≤ x ∧ x < 256 := by
    unfold Lib.encodeRuneZ
    rw [if_neg (by omega)]
    split
    · exact ⟨_, _, rfl, by omega, by omega⟩
    · split
      · exact ⟨_, _, rfl, by omega, by omega⟩
      · split
        · exact ⟨_, _, rfl, by omega, by omega⟩
        · exact ⟨_, _, rfl, by omega, by omega⟩
  rw [hx, List.map_cons] at e
  injection e with e1 _
  rw [← e1]
  have : x.toNat % 256 = x.toNat := Nat.mod_eq_of_lt (by omega)
  simp only [Nat.toUInt8_eq, UInt8.toNat_ofNat']
  omega
theorem column_range (l t : Bs) (x : Int × Bs × Nat) (h : columnD l t = some x) : 1 ≤ x.2.2 ∧ x.2.2 ≤ l.length := by
  unfold columnD at h
  split at h
  · rename_i hp
    obtain ⟨rfl, h1⟩ := mk_range h
    refine ⟨h1, ?_⟩
    dsimp only
    have hc := hp.1
    unfold Lib.cut at hc
    have hi := index_le1 93 (l.drop (t.length + 1))
    rw [List.length_drop] at hi
    unfold Lib.cut
    split at hc
    · rename_i h0
      rw [if_pos h0]
      simp only [List.length_append, List.length_take, List.length_drop, List.length_cons, List.length_nil] at *
      omega
    · cases hc
  · cases h
theorem word_range (l : Bs) (x : Int × Bs × Nat) (h : wordPD l = some x) : 1 ≤ x.2.2 ∧ x.2.2 ≤ l.length := by
  have hw := while_len wordR l
  unfold wordPD at h
  dsimp only at h
  repeat' split at h
  all_goals first
    | exact far_range _ _ _ h
    | exact column_range _ _ _ h
    | (obtain ⟨rfl, h1⟩ := mk_range h; exact ⟨h1, hw⟩)
    | cases h
/-- a text of letters, made great, begins so: it is as long. -/
theorem up_prefix : ∀ (x l : Bs), (∀ b ∈ x, b.toNat < 128) → Lib.hasPrefix (upperD l) x = true → x.length ≤ l.length
  | [], l, _, _ => by simp
  | c :: x, [], _, h => by cases h
  | c :: x, b :: l, hx, h => by
    unfold upperD at h
    rw [Lib.mapD_step upI (b :: l) (by simp)] at h
    rcases decode_facts b l with ⟨hb, e⟩ | ⟨hb, hr, ha⟩
    · rw [e] at h
      obtain ⟨k1, k2⟩ := upB_low b hb
      rw [if_pos k2, k1] at h
      simp only [List.drop_succ_cons, List.drop_zero] at h
      have := up_prefix x l (fun y hy => hx y (List.mem_cons_of_mem _ hy)) (by
        unfold Lib.hasPrefix at h ⊢
        unfold upperD
        simp [List.isPrefixOf] at h ⊢
        exact h.2)
      simp; omega
    · exfalso
      have hc : upI (Lib.decodeL (b :: l)).1 = (Lib.decodeL (b :: l)).1 := by unfold upI; rw [if_neg (by omega)]
      rw [hc, if_pos (by omega)] at h
      have h128 := hx c (by simp)
      have hne : Lib.encodeRune ((Lib.decodeL (b :: l)).1 : Int) ≠ [] := by
        obtain ⟨y, hy, _⟩ := enc_high ((Lib.decodeL (b :: l)).1 : Int) (by omega)
        intro e; rw [e] at hy; cases hy
      obtain ⟨d, r, hdr⟩ : ∃ d r, Lib.encodeRune ((Lib.decodeL (b :: l)).1 : Int) = d :: r := by
        cases hh : Lib.encodeRune ((Lib.decodeL (b :: l)).1 : Int) with
        | nil => exact absurd hh hne
        | cons d r => exact ⟨d, r, rfl⟩
      have hd := enc_first ((Lib.decodeL (b :: l)).1 : Int) (by omega) d r hdr
      rw [hdr] at h
      unfold Lib.hasPrefix at h
      simp [List.isPrefixOf] at h
      rw [h.1] at h128
      omega
theorem fault_range (l : Bs) (x : Int × Bs × Nat) (h : faultPD l = some x) : 1 ≤ x.2.2 ∧ x.2.2 ≤ l.length := by
  unfold faultPD faultOf at h
  split at h
  · cases h
  · rename_i y hy
    have hm := List.mem_of_find?_eq_some hy
    have hp := List.find?_some hy
    have hasc : ∀ y ∈ faultsB, ∀ b ∈ y, b.toNat < 128 := by decide
    have hl := up_prefix y l (hasc y hm) hp
    split at h <;> (obtain ⟨rfl, h1⟩ := mk_range h; exact ⟨h1, hl⟩)
theorem sign_range (l : Bs) (x : Int × Bs × Nat) (h : signPD l = some x) : 1 ≤ x.2.2 ∧ x.2.2 ≤ l.length := by
  unfold signPD signOf at h
  split at h
  · rename_i y hy
    have hp := List.find?_some hy
    obtain ⟨rfl, h1⟩ := mk_range h
    exact ⟨h1, pre_len _ _ hp⟩
  · cases h
theorem next_range (decE : Bs → Int) (l : Bs) (x : Int × Bs × Nat) (h : nextPD decE l = some x) : 1 ≤ x.2.2 ∧ x.2.2 ≤ l.length := by
  unfold nextPD at h
  repeat' split at h
  · unfold numberPD at h
    split at h
    · obtain ⟨rfl, h1⟩ := mk_range h; exact ⟨h1, num_len l⟩
    · cases h
  · unfold textPD at h
    split at h
    · obtain ⟨rfl, h1⟩ := mk_range h; exact ⟨h1, (quoted_range l).1⟩
    · cases h
  · exact fault_range _ _ h
  · exact far_range _ _ _ h
  · exact word_range _ _ h
  · exact sign_range _ _ h
end Tab
