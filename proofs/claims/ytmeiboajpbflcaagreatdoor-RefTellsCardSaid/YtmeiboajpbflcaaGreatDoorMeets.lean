/- Plain laws on areas: what meets, what an area has. No program in sight. -/
import Derived.Test.YtmeiboajpbflcaaGreatDoorPlain
namespace Tab
def AreaD.Ok (a : AreaD) : Prop := 0 ≤ a.sheet ∧ a.sheet < 8 ∧ 0 ≤ a.row ∧ a.row < 200 ∧ 0 ≤ a.col ∧ a.col < 52 ∧ 1 ≤ a.rows ∧ a.rows ≤ 200 - a.row ∧ 1 ≤ a.cols ∧ a.cols ≤ 52 - a.col
theorem ok_iff (a : AreaD) : a.ok = true ↔ a.Ok := by simp only [AreaD.ok, areaOk, AreaD.Ok, decide_eq_true_eq]
theorem meetB_iff (a b : AreaD) : meetB a b = true ↔ a.Ok ∧ b.Ok ∧ a.sheet = b.sheet ∧ 1 ≤ min (a.row + a.rows) (b.row + b.rows) - max a.row b.row ∧ 1 ≤ min (a.col + a.cols) (b.col + b.cols) - max a.col b.col := by
  rw [meetB, Bool.and_eq_true, Bool.and_eq_true, ok_iff, ok_iff, decide_eq_true_iff, and_assoc]
  exact Iff.rfl
theorem meetA_yes {a b : AreaD} (h : meetB a b = true) : meetA a b = meetRaw a b := by rw [meetA, if_pos h]
theorem meetA_no {a b : AreaD} (h : meetB a b = false) : meetA a b = AreaD.zero := by rw [meetA, h]; rfl
theorem meetB_comm (a b : AreaD) : meetB a b = meetB b a := by
  rw [Bool.eq_iff_iff, meetB_iff, meetB_iff]
  constructor <;> (rintro ⟨h1, h2, h3, h4, h5⟩; exact ⟨h2, h1, h3.symm, by omega, by omega⟩)
theorem meetA_comm (a b : AreaD) : meetA a b = meetA b a := by
  cases h : meetB a b
  · rw [meetA_no h, meetA_no (by rw [← meetB_comm]; exact h)]
  · rw [meetA_yes h, meetA_yes (by rw [← meetB_comm]; exact h)]
    obtain ⟨_, _, h3, _, _⟩ := (meetB_iff a b).1 h
    simp only [meetRaw, AreaD.mk.injEq]
    exact ⟨h3, by omega, by omega, by omega, by omega⟩
theorem meetB_self {a : AreaD} (h : a.Ok) : meetB a a = true := by
  rw [meetB_iff]; obtain ⟨h1, h2, h3, h4, h5, h6, h7, h8, h9, h10⟩ := h
  exact ⟨⟨h1, h2, h3, h4, h5, h6, h7, h8, h9, h10⟩, ⟨h1, h2, h3, h4, h5, h6, h7, h8, h9, h10⟩, rfl, by omega, by omega⟩
theorem meetA_self {a : AreaD} (h : a.Ok) : meetA a a = a := by
  rw [meetA_yes (meetB_self h)]
  obtain ⟨s, r, c, n, m⟩ := a
  simp only [meetRaw, AreaD.mk.injEq]
  exact ⟨trivial, by omega, by omega, by omega, by omega⟩
theorem has_iff (a : AreaD) (s r c : Int) : hasB a s r c = true ↔ a.Ok ∧ 0 ≤ r ∧ r < 200 ∧ 0 ≤ c ∧ c < 52 ∧ a.sheet = s ∧ a.row ≤ r ∧ r < a.row + a.rows ∧ a.col ≤ c ∧ c < a.col + a.cols := by
  rw [hasB, meetB_iff]
  constructor
  · rintro ⟨h1, ⟨b1, b2, b3, b4, b5, b6, b7, b8, b9, b10⟩, h3, h4, h5⟩
    dsimp only at b1 b2 b3 b4 b5 b6 b7 b8 b9 b10 h3 h4 h5
    exact ⟨h1, b3, b4, b5, b6, h3, by omega, by omega, by omega, by omega⟩
  · rintro ⟨h1, b3, b4, b5, b6, h3, h4, h5, h6, h7⟩
    obtain ⟨a1, a2, a3, a4, a5, a6, a7, a8, a9, a10⟩ := h1
    refine ⟨⟨a1, a2, a3, a4, a5, a6, a7, a8, a9, a10⟩, ⟨?_, ?_, ?_, ?_, ?_, ?_, ?_, ?_, ?_, ?_⟩, h3, ?_, ?_⟩ <;> dsimp only <;> omega
theorem raw_ok {a b : AreaD} (h : meetB a b = true) : (meetRaw a b).Ok := by
  obtain ⟨⟨a1, a2, a3, a4, a5, a6, a7, a8, a9, a10⟩, ⟨b1, b2, b3, b4, b5, b6, b7, b8, b9, b10⟩, h3, h4, h5⟩ := (meetB_iff a b).1 h
  refine ⟨?_, ?_, ?_, ?_, ?_, ?_, ?_, ?_, ?_, ?_⟩ <;> simp only [meetRaw] <;> omega
theorem zero_not : ¬ AreaD.zero.Ok := by rintro ⟨_, _, _, _, _, _, h, _⟩; revert h; decide
theorem has_meet {a b : AreaD} (s r c : Int) : (hasB a s r c && hasB b s r c) = hasB (meetA a b) s r c := by
  cases h : meetB a b
  · rw [meetA_no h]
    have e : hasB AreaD.zero s r c = false := by
      rw [Bool.eq_false_iff]; intro e; exact zero_not ((has_iff _ _ _ _).1 e).1
    rw [e, Bool.eq_false_iff]
    intro hh
    rw [Bool.and_eq_true, has_iff, has_iff] at hh
    obtain ⟨⟨h1, q1, q2, q3, q4, q5, q6, q7, q8, q9⟩, ⟨h2, _, _, _, _, p5, p6, p7, p8, p9⟩⟩ := hh
    rw [Bool.eq_false_iff] at h
    exact h ((meetB_iff a b).2 ⟨h1, h2, q5.trans p5.symm, by omega, by omega⟩)
  · rw [meetA_yes h, Bool.eq_iff_iff, Bool.and_eq_true, has_iff, has_iff, has_iff]
    obtain ⟨h1, h2, h3, h4, h5⟩ := (meetB_iff a b).1 h
    have h6 := raw_ok h
    simp only [meetRaw] at h6 ⊢
    constructor
    · rintro ⟨⟨_, q1, q2, q3, q4, q5, q6, q7, q8, q9⟩, ⟨_, _, _, _, _, p5, p6, p7, p8, p9⟩⟩
      exact ⟨h6, q1, q2, q3, q4, q5, by omega, by omega, by omega, by omega⟩
    · rintro ⟨_, q1, q2, q3, q4, q5, q6, q7, q8, q9⟩
      exact ⟨⟨h1, q1, q2, q3, q4, q5, by omega, by omega, by omega, by omega⟩, h2, q1, q2, q3, q4, h3.symm.trans q5, by omega, by omega, by omega, by omega⟩
set_option maxHeartbeats 4000000 in
/-- what meets three: in whatever turn. -/
theorem meet_three {a b c : AreaD} (h : meetB a b = true) : meetB (meetRaw a b) c = (meetB b c && meetB a (meetA b c)) ∧ (meetB (meetRaw a b) c = true → meetA (meetRaw a b) c = meetA a (meetA b c)) := by
  obtain ⟨h1, h2, h3, h4, h5⟩ := (meetB_iff a b).1 h
  have h6 := raw_ok h
  have e : meetB (meetRaw a b) c = (meetB b c && meetB a (meetA b c)) := by
    cases hb : meetB b c
    · rw [Bool.false_and, Bool.eq_false_iff]
      intro hm
      obtain ⟨_, c2, c3, c4, c5⟩ := (meetB_iff _ _).1 hm
      simp only [meetRaw] at c3 c4 c5
      rw [Bool.eq_false_iff] at hb
      exact hb ((meetB_iff b c).2 ⟨h2, c2, h3.symm.trans c3, by omega, by omega⟩)
    · obtain ⟨_, c2, c3, c4, c5⟩ := (meetB_iff _ _).1 hb
      rw [Bool.true_and, meetA_yes hb, Bool.eq_iff_iff, meetB_iff, meetB_iff]
      have h7 := raw_ok hb
      simp only [meetRaw] at h6 h7 ⊢
      constructor
      · rintro ⟨_, _, d3, d4, d5⟩; exact ⟨h1, h7, h3, by omega, by omega⟩
      · rintro ⟨_, _, d3, d4, d5⟩; exact ⟨h6, c2, h3.trans c3, by omega, by omega⟩
  refine ⟨e, fun hm => ?_⟩
  rw [e, Bool.and_eq_true] at hm
  have hm' : meetB (meetRaw a b) c = true := by rw [e, hm.1, hm.2]; rfl
  rw [meetA_yes hm', meetA_yes hm.2, meetA_yes hm.1]
  simp only [meetRaw, AreaD.mk.injEq]
  exact ⟨trivial, by omega, by omega, by omega, by omega⟩
/-- the first and the last place of what meets are in both. -/
theorem meet_corner {a b : AreaD} (h : meetB a b = true) : (hasB a (meetRaw a b).sheet (meetRaw a b).row (meetRaw a b).col = true ∧ hasB b (meetRaw a b).sheet (meetRaw a b).row (meetRaw a b).col = true) ∧
    hasB a (meetRaw a b).sheet ((meetRaw a b).row + (meetRaw a b).rows - 1) ((meetRaw a b).col + (meetRaw a b).cols - 1) = true ∧ hasB b (meetRaw a b).sheet ((meetRaw a b).row + (meetRaw a b).rows - 1) ((meetRaw a b).col + (meetRaw a b).cols - 1) = true := by
  obtain ⟨h1, h2, h3, h4, h5⟩ := (meetB_iff a b).1 h
  have h1' := h1
  have h2' := h2
  obtain ⟨a1, a2, a3, a4, a5, a6, a7, a8, a9, a10⟩ := h1'
  obtain ⟨b1, b2, b3, b4, b5, b6, b7, b8, b9, b10⟩ := h2'
  simp only [has_iff, meetRaw]
  refine ⟨⟨⟨h1, ?_, ?_, ?_, ?_, ?_, ?_, ?_, ?_, ?_⟩, ⟨h2, ?_, ?_, ?_, ?_, ?_, ?_, ?_, ?_, ?_⟩⟩, ⟨h1, ?_, ?_, ?_, ?_, ?_, ?_, ?_, ?_, ?_⟩, ⟨h2, ?_, ?_, ?_, ?_, ?_, ?_, ?_, ?_, ?_⟩⟩ <;> first | omega | trivial
end Tab
