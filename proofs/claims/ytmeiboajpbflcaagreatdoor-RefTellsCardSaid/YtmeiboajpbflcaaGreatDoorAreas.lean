/- The functions on areas: right, Meet, Has. -/
import Derived.Test.YtmeiboajpbflcaaGreatDoorInts
import Derived.Deep.QuietTactic
import Derived.BigQuiet
namespace Go.Proofs.YtmeiboajpbflcaaGreatDoor
open Go.RowKit Tab

/-- what may come in: five ints. -/
def AreaIn (a : AreaD) : Prop := (-9223372036854775808 ≤ a.sheet ∧ a.sheet ≤ 9223372036854775807) ∧ (-9223372036854775808 ≤ a.row ∧ a.row ≤ 9223372036854775807) ∧ (-9223372036854775808 ≤ a.col ∧ a.col ≤ 9223372036854775807) ∧ (-9223372036854775808 ≤ a.rows ∧ a.rows ≤ 9223372036854775807) ∧ (-9223372036854775808 ≤ a.cols ∧ a.cols ≤ 9223372036854775807)

set_option maxRecDepth 100000 in
set_option maxHeartbeats 400000 in
theorem right_any (sheet row col rows cols : Int) (w : World) : Calls Tryz.prog 51 #[.agg #[.int .i64 sheet, .int .i64 row, .int .i64 col, .int .i64 rows, .int .i64 cols]] w (Ret (.bool (areaOk sheet row col rows cols)) w) := by
  by_cases h1 : 0 ≤ row ∧ row < 200
  · obtain ⟨h1, h2⟩ := h1
    by_cases h3 : 0 ≤ col ∧ col < 52
    · obtain ⟨h3, h4⟩ := h3
      go_enter Tryz.func51, Tryz.ntmps51
      go_wp2
      all_goals (go_ret; refine Ret.mk' (congrArg Value.bool ?_) (by repeat (first | exact Below.refl _ _ | refine allocB ?_)))
      all_goals (simp only [areaOk]; rw [Bool.eq_iff_iff]; simp; omega)
    · go_enter Tryz.func51, Tryz.ntmps51
      go_wp2
      all_goals (go_ret; refine Ret.mk' (congrArg Value.bool ?_) (by repeat (first | exact Below.refl _ _ | refine allocB ?_)))
      all_goals (simp only [areaOk]; rw [Bool.eq_iff_iff]; simp; omega)
  · go_enter Tryz.func51, Tryz.ntmps51
    go_wp2
    all_goals (go_ret; refine Ret.mk' (congrArg Value.bool ?_) (by repeat (first | exact Below.refl _ _ | refine allocB ?_)))
    all_goals (simp only [areaOk]; rw [Bool.eq_iff_iff]; simp; omega)

theorem areaOk_iff (sheet row col rows cols : Int) : areaOk sheet row col rows cols = true ↔ (0 ≤ sheet ∧ sheet < 8 ∧ 0 ≤ row ∧ row < 200 ∧ 0 ≤ col ∧ col < 52 ∧ 1 ≤ rows ∧ rows ≤ 200 - row ∧ 1 ≤ cols ∧ cols ≤ 52 - col) := by simp [areaOk]

theorem Ret.area {a : AreaD} {t : Bool} {s r c n m : Int} {u : Bool} {w w' : World} (h : a = ⟨s, r, c, n, m⟩ ∧ t = u) (hb : Below w.heap.size w w') : Ret (.tuple #[areaV a, .bool t]) w (.returned (.tuple #[.agg #[.int .i64 s, .int .i64 r, .int .i64 c, .int .i64 n, .int .i64 m], .bool u])) w' := by
  obtain ⟨rfl, rfl⟩ := h
  exact ⟨rfl, hb⟩

set_option maxRecDepth 100000 in
set_option maxHeartbeats 1000000 in
theorem Meet_d (s1 r1 c1 n1 m1 s2 r2 c2 n2 m2 : Int) (w : World) (ha : areaOk s1 r1 c1 n1 m1 = true) (hb : areaOk s2 r2 c2 n2 m2 = true) (hs : s1 = s2) :
    Calls Tryz.prog 25 #[.agg #[.int .i64 s1, .int .i64 r1, .int .i64 c1, .int .i64 n1, .int .i64 m1], .agg #[.int .i64 s2, .int .i64 r2, .int .i64 c2, .int .i64 n2, .int .i64 m2]] w (Ret (.tuple #[areaV (meetA ⟨s1, r1, c1, n1, m1⟩ ⟨s2, r2, c2, n2, m2⟩), .bool (meetB ⟨s1, r1, c1, n1, m1⟩ ⟨s2, r2, c2, n2, m2⟩)]) w) := by
  subst hs
  obtain ⟨a1, a2, a3, a4, a5, a6, a7, a8, a9, a10⟩ := (areaOk_iff _ _ _ _ _).1 ha
  obtain ⟨b1, b2, b3, b4, b5, b6, b7, b8, b9, b10⟩ := (areaOk_iff _ _ _ _ _).1 hb
  go_enter Tryz.func25, Tryz.ntmps25
  go_wp2_with fail
  refine (right_any _ _ _ _ _ _).mono ?_; rintro e w1 ⟨rfl, hb1⟩; obtain ⟨hc1, hf1⟩ := bcell hb1
  obtain ⟨z10, z11, z12⟩ : w.heap.size < w1.heap.size ∧ w.heap.size + 1 < w1.heap.size ∧ w.heap.size + 1 + 1 < w1.heap.size := by have := hb1.size; simp at this; omega
  rw [ha]
  go_wp2_with fail
  refine (right_any _ _ _ _ _ _).mono ?_; rintro e w2 ⟨rfl, hb2⟩; obtain ⟨hc2, hf2⟩ := bcell hb2
  obtain ⟨z20, z21, z22⟩ : w.heap.size < w2.heap.size ∧ w.heap.size + 1 < w2.heap.size ∧ w.heap.size + 1 + 1 < w2.heap.size := by have := hb2.size; omega
  rw [hb]
  go_wp2_with fail
  go_quiet (fail)
  obtain ⟨w3, e3, hb3⟩ := drewN_abs w2 nq
  rw [e3]; clear e3
  have hb0 : Below w.heap.size w w3 := by repeat (first | exact Below.refl _ _ | refine allocB ?_ | refine after ?_ (by assumption))
  obtain ⟨hc3, hf3⟩ := bcell hb3
  obtain ⟨z30, z31, z32⟩ : w.heap.size < w3.heap.size ∧ w.heap.size + 1 < w3.heap.size ∧ w.heap.size + 1 + 1 < w3.heap.size := by have := hb3.size; omega
  generalize hR : (if r1 < r2 then r2 else r1) = R
  generalize hC : (if c1 < c2 then c2 else c1) = C
  have i1 : 0 ≤ R ∧ R < 200 ∧ 0 ≤ C ∧ C < 52 := by subst hR; subst hC; split <;> split <;> omega
  obtain ⟨i1, i2, i3, i4⟩ := i1
  have HR := Lib.hid hR; have HC := Lib.hid hC
  clear hR hC hb1 hb2 hb3
  by_cases hx : r2 + n2 < r1 + n1
  · by_cases hy : c2 + m2 < c1 + m1
    · by_cases hn : r2 + n2 - R < 1 ∨ c2 + m2 - C < 1
      · have Ho := Lib.hid (meet_no _ _ (meet_off s1 r1 c1 n1 m1 r2 c2 n2 m2 R C _ _ HR.out HC.out rfl rfl (by rw [if_pos hx, if_pos hy]; exact hn)))
        go_wp2
        all_goals exact bodyPost_ret (v := .tuple #[.agg #[.int .i64 0, .int .i64 0, .int .i64 0, .int .i64 0, .int .i64 0], .bool false]) (by simp [results, Tryz.results25, go_sem, *]) rfl (Ret.area Ho.out (by repeat' (first | with_reducible assumption | with_reducible exact Below.refl _ _ | with_reducible refine allocB ?_ | with_reducible refine setB ?_ ?_ | with_reducible refine after ?_ (by assumption) | (simp; omega) | omega)))
      · have Ho := Lib.hid (meet_yes s1 r1 c1 n1 m1 r2 c2 n2 m2 R C _ _ ha hb HR.out HC.out rfl rfl (by rw [if_pos hx]; omega) (by rw [if_pos hy]; omega))
        rw [if_pos hx, if_pos hy] at Ho
        go_wp2
        all_goals exact bodyPost_ret (v := .tuple #[.agg #[.int .i64 s1, .int .i64 R, .int .i64 C, .int .i64 (r2 + n2 - R), .int .i64 (c2 + m2 - C)], .bool true]) (by simp [results, Tryz.results25, go_sem, *]) rfl (Ret.area Ho.out (by repeat' (first | with_reducible assumption | with_reducible exact Below.refl _ _ | with_reducible refine allocB ?_ | with_reducible refine setB ?_ ?_ | with_reducible refine after ?_ (by assumption) | (simp; omega) | omega)))
    · by_cases hn : r2 + n2 - R < 1 ∨ c1 + m1 - C < 1
      · have Ho := Lib.hid (meet_no _ _ (meet_off s1 r1 c1 n1 m1 r2 c2 n2 m2 R C _ _ HR.out HC.out rfl rfl (by rw [if_pos hx, if_neg hy]; exact hn)))
        go_wp2
        all_goals exact bodyPost_ret (v := .tuple #[.agg #[.int .i64 0, .int .i64 0, .int .i64 0, .int .i64 0, .int .i64 0], .bool false]) (by simp [results, Tryz.results25, go_sem, *]) rfl (Ret.area Ho.out (by repeat' (first | with_reducible assumption | with_reducible exact Below.refl _ _ | with_reducible refine allocB ?_ | with_reducible refine setB ?_ ?_ | with_reducible refine after ?_ (by assumption) | (simp; omega) | omega)))
      · have Ho := Lib.hid (meet_yes s1 r1 c1 n1 m1 r2 c2 n2 m2 R C _ _ ha hb HR.out HC.out rfl rfl (by rw [if_pos hx]; omega) (by rw [if_neg hy]; omega))
        rw [if_pos hx, if_neg hy] at Ho
        go_wp2
        all_goals exact bodyPost_ret (v := .tuple #[.agg #[.int .i64 s1, .int .i64 R, .int .i64 C, .int .i64 (r2 + n2 - R), .int .i64 (c1 + m1 - C)], .bool true]) (by simp [results, Tryz.results25, go_sem, *]) rfl (Ret.area Ho.out (by repeat' (first | with_reducible assumption | with_reducible exact Below.refl _ _ | with_reducible refine allocB ?_ | with_reducible refine setB ?_ ?_ | with_reducible refine after ?_ (by assumption) | (simp; omega) | omega)))
  · by_cases hy : c2 + m2 < c1 + m1
    · by_cases hn : r1 + n1 - R < 1 ∨ c2 + m2 - C < 1
      · have Ho := Lib.hid (meet_no _ _ (meet_off s1 r1 c1 n1 m1 r2 c2 n2 m2 R C _ _ HR.out HC.out rfl rfl (by rw [if_neg hx, if_pos hy]; exact hn)))
        go_wp2
        all_goals exact bodyPost_ret (v := .tuple #[.agg #[.int .i64 0, .int .i64 0, .int .i64 0, .int .i64 0, .int .i64 0], .bool false]) (by simp [results, Tryz.results25, go_sem, *]) rfl (Ret.area Ho.out (by repeat' (first | with_reducible assumption | with_reducible exact Below.refl _ _ | with_reducible refine allocB ?_ | with_reducible refine setB ?_ ?_ | with_reducible refine after ?_ (by assumption) | (simp; omega) | omega)))
      · have Ho := Lib.hid (meet_yes s1 r1 c1 n1 m1 r2 c2 n2 m2 R C _ _ ha hb HR.out HC.out rfl rfl (by rw [if_neg hx]; omega) (by rw [if_pos hy]; omega))
        rw [if_neg hx, if_pos hy] at Ho
        go_wp2
        all_goals exact bodyPost_ret (v := .tuple #[.agg #[.int .i64 s1, .int .i64 R, .int .i64 C, .int .i64 (r1 + n1 - R), .int .i64 (c2 + m2 - C)], .bool true]) (by simp [results, Tryz.results25, go_sem, *]) rfl (Ret.area Ho.out (by repeat' (first | with_reducible assumption | with_reducible exact Below.refl _ _ | with_reducible refine allocB ?_ | with_reducible refine setB ?_ ?_ | with_reducible refine after ?_ (by assumption) | (simp; omega) | omega)))
    · by_cases hn : r1 + n1 - R < 1 ∨ c1 + m1 - C < 1
      · have Ho := Lib.hid (meet_no _ _ (meet_off s1 r1 c1 n1 m1 r2 c2 n2 m2 R C _ _ HR.out HC.out rfl rfl (by rw [if_neg hx, if_neg hy]; exact hn)))
        go_wp2
        all_goals exact bodyPost_ret (v := .tuple #[.agg #[.int .i64 0, .int .i64 0, .int .i64 0, .int .i64 0, .int .i64 0], .bool false]) (by simp [results, Tryz.results25, go_sem, *]) rfl (Ret.area Ho.out (by repeat' (first | with_reducible assumption | with_reducible exact Below.refl _ _ | with_reducible refine allocB ?_ | with_reducible refine setB ?_ ?_ | with_reducible refine after ?_ (by assumption) | (simp; omega) | omega)))
      · have Ho := Lib.hid (meet_yes s1 r1 c1 n1 m1 r2 c2 n2 m2 R C _ _ ha hb HR.out HC.out rfl rfl (by rw [if_neg hx]; omega) (by rw [if_neg hy]; omega))
        rw [if_neg hx, if_neg hy] at Ho
        go_wp2
        all_goals exact bodyPost_ret (v := .tuple #[.agg #[.int .i64 s1, .int .i64 R, .int .i64 C, .int .i64 (r1 + n1 - R), .int .i64 (c1 + m1 - C)], .bool true]) (by simp [results, Tryz.results25, go_sem, *]) rfl (Ret.area Ho.out (by repeat' (first | with_reducible assumption | with_reducible exact Below.refl _ _ | with_reducible refine allocB ?_ | with_reducible refine setB ?_ ?_ | with_reducible refine after ?_ (by assumption) | (simp; omega) | omega)))

set_option maxRecDepth 100000 in
set_option maxHeartbeats 1000000 in
theorem Meet_no (s1 r1 c1 n1 m1 s2 r2 c2 n2 m2 : Int) (w : World) (h : areaOk s1 r1 c1 n1 m1 = false ∨ areaOk s2 r2 c2 n2 m2 = false ∨ s1 ≠ s2) :
    Calls Tryz.prog 25 #[.agg #[.int .i64 s1, .int .i64 r1, .int .i64 c1, .int .i64 n1, .int .i64 m1], .agg #[.int .i64 s2, .int .i64 r2, .int .i64 c2, .int .i64 n2, .int .i64 m2]] w (Ret (.tuple #[areaV (meetA ⟨s1, r1, c1, n1, m1⟩ ⟨s2, r2, c2, n2, m2⟩), .bool (meetB ⟨s1, r1, c1, n1, m1⟩ ⟨s2, r2, c2, n2, m2⟩)]) w) := by
  have Ho := Lib.hid (meet_no ⟨s1, r1, c1, n1, m1⟩ ⟨s2, r2, c2, n2, m2⟩ (by
    rw [Bool.eq_false_iff]
    simp only [meetB, AreaD.ok, ne_eq, Bool.and_eq_true, decide_eq_true_eq, Bool.and_eq_true]
    rintro ⟨⟨ha, hb⟩, hs, _⟩
    rcases h with h | h | h
    · rw [h] at ha; cases ha
    · rw [h] at hb; cases hb
    · exact h hs))
  cases ha : areaOk s1 r1 c1 n1 m1
  · clear h
    go_enter Tryz.func25, Tryz.ntmps25
    go_wp2_with fail
    refine (right_any _ _ _ _ _ _).mono ?_; rintro e w1 ⟨rfl, hb1⟩; obtain ⟨hc1, hf1⟩ := bcell hb1
    obtain ⟨z10, z11, z12⟩ : w.heap.size < w1.heap.size ∧ w.heap.size + 1 < w1.heap.size ∧ w.heap.size + 1 + 1 < w1.heap.size := by have := hb1.size; simp at this; omega
    rw [ha]
    have hb0 : Below w.heap.size w w1 := by repeat' (first | with_reducible assumption | with_reducible exact Below.refl _ _ | with_reducible refine allocB ?_ | with_reducible refine setB ?_ ?_ | with_reducible refine after ?_ (by assumption) | (simp; omega) | omega)
    clear hb1
    go_wp2
    all_goals exact bodyPost_ret (v := .tuple #[.agg #[.int .i64 0, .int .i64 0, .int .i64 0, .int .i64 0, .int .i64 0], .bool false]) (by simp [results, Tryz.results25, go_sem, *]) rfl (Ret.area Ho.out (by repeat' (first | with_reducible assumption | with_reducible exact Below.refl _ _ | with_reducible refine allocB ?_ | with_reducible refine setB ?_ ?_ | with_reducible refine after ?_ (by assumption) | (simp; omega) | omega)))
  · cases hb : areaOk s2 r2 c2 n2 m2
    · clear h
      go_enter Tryz.func25, Tryz.ntmps25
      go_wp2_with fail
      refine (right_any _ _ _ _ _ _).mono ?_; rintro e w1 ⟨rfl, hb1⟩; obtain ⟨hc1, hf1⟩ := bcell hb1
      obtain ⟨z10, z11, z12⟩ : w.heap.size < w1.heap.size ∧ w.heap.size + 1 < w1.heap.size ∧ w.heap.size + 1 + 1 < w1.heap.size := by have := hb1.size; simp at this; omega
      rw [ha]
      go_wp2_with fail
      refine (right_any _ _ _ _ _ _).mono ?_; rintro e w2 ⟨rfl, hb2⟩; obtain ⟨hc2, hf2⟩ := bcell hb2
      obtain ⟨z20, z21, z22⟩ : w.heap.size < w2.heap.size ∧ w.heap.size + 1 < w2.heap.size ∧ w.heap.size + 1 + 1 < w2.heap.size := by have := hb2.size; omega
      rw [hb]
      have hb0 : Below w.heap.size w w2 := by repeat' (first | with_reducible assumption | with_reducible exact Below.refl _ _ | with_reducible refine allocB ?_ | with_reducible refine setB ?_ ?_ | with_reducible refine after ?_ (by assumption) | (simp; omega) | omega)
      clear hb1 hb2
      go_wp2
      all_goals exact bodyPost_ret (v := .tuple #[.agg #[.int .i64 0, .int .i64 0, .int .i64 0, .int .i64 0, .int .i64 0], .bool false]) (by simp [results, Tryz.results25, go_sem, *]) rfl (Ret.area Ho.out (by repeat' (first | with_reducible assumption | with_reducible exact Below.refl _ _ | with_reducible refine allocB ?_ | with_reducible refine setB ?_ ?_ | with_reducible refine after ?_ (by assumption) | (simp; omega) | omega)))
    · have hs : (s1 == s2) = false := by rw [ha, hb] at h; simpa using h
      have hs' : (s1 != s2) = true := by rw [bne, hs]; rfl
      clear h
      go_enter Tryz.func25, Tryz.ntmps25
      go_wp2_with fail
      refine (right_any _ _ _ _ _ _).mono ?_; rintro e w1 ⟨rfl, hb1⟩; obtain ⟨hc1, hf1⟩ := bcell hb1
      obtain ⟨z10, z11, z12⟩ : w.heap.size < w1.heap.size ∧ w.heap.size + 1 < w1.heap.size ∧ w.heap.size + 1 + 1 < w1.heap.size := by have := hb1.size; simp at this; omega
      rw [ha]
      go_wp2_with fail
      refine (right_any _ _ _ _ _ _).mono ?_; rintro e w2 ⟨rfl, hb2⟩; obtain ⟨hc2, hf2⟩ := bcell hb2
      obtain ⟨z20, z21, z22⟩ : w.heap.size < w2.heap.size ∧ w.heap.size + 1 < w2.heap.size ∧ w.heap.size + 1 + 1 < w2.heap.size := by have := hb2.size; omega
      rw [hb]
      have hb0 : Below w.heap.size w w2 := by repeat' (first | with_reducible assumption | with_reducible exact Below.refl _ _ | with_reducible refine allocB ?_ | with_reducible refine setB ?_ ?_ | with_reducible refine after ?_ (by assumption) | (simp; omega) | omega)
      clear hb1 hb2
      go_wp2
      all_goals exact bodyPost_ret (v := .tuple #[.agg #[.int .i64 0, .int .i64 0, .int .i64 0, .int .i64 0, .int .i64 0], .bool false]) (by simp [results, Tryz.results25, go_sem, *]) rfl (Ret.area Ho.out (by repeat' (first | with_reducible assumption | with_reducible exact Below.refl _ _ | with_reducible refine allocB ?_ | with_reducible refine setB ?_ ?_ | with_reducible refine after ?_ (by assumption) | (simp; omega) | omega)))

theorem Meet_any (a b : AreaD) (w : World) : Calls Tryz.prog 25 #[areaV a, areaV b] w (Ret (.tuple #[areaV (meetA a b), .bool (meetB a b)]) w) := by
  obtain ⟨s1, r1, c1, n1, m1⟩ := a
  obtain ⟨s2, r2, c2, n2, m2⟩ := b
  by_cases h : areaOk s1 r1 c1 n1 m1 = false ∨ areaOk s2 r2 c2 n2 m2 = false ∨ s1 ≠ s2
  · exact Meet_no _ _ _ _ _ _ _ _ _ _ w h
  · simp only [not_or, Bool.not_eq_false, ne_eq, Decidable.not_not] at h
    exact Meet_d _ _ _ _ _ _ _ _ _ _ w h.1 h.2.1 h.2.2
end Go.Proofs.YtmeiboajpbflcaaGreatDoor
