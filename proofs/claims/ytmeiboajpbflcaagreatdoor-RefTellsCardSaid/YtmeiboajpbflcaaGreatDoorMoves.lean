/- Plain laws on moved references. No program in sight. -/
import Derived.Test.YtmeiboajpbflcaaGreatDoorText
namespace Tab
/-- a reference moved so far, whether it may be or not. -/
def RefD.to (q : RefD) (m n : Int) : RefD := { q with row := if q.fr then q.row else q.row + m, col := if q.fc then q.col else q.col + n }
theorem clamp_id (x m : Int) (h : -m ≤ x ∧ x ≤ m) : clamp x m = x := by unfold clamp; omega
theorem moved_small (q : RefD) (hq : q.right = true) (hb : q.bad = false) (m n : Int) (hm : -200 ≤ m ∧ m ≤ 200) (hn : -52 ≤ n ∧ n ≤ 52) :
    movedOf q m n = if (q.to m n).right then (q.to m n, 0) else (RefD.zero, 20) := by
  unfold movedOf
  have e : q.shifted m n = q.to m n := by unfold RefD.shifted RefD.to; rw [clamp_id m 200 hm, clamp_id n 52 hn]
  rw [hq, hb, e]; rfl
theorem right_at (t : ByteArray) (R C : Int) (fr fc : Bool) (ht : (t.data.toList.isEmpty || nameB t.data.toList) = true) : RefD.right ⟨t, R, C, fr, fc, false⟩ = decide (0 ≤ R ∧ R < 200 ∧ 0 ≤ C ∧ C < 52) := by
  unfold RefD.right rightB
  rw [if_neg Bool.false_ne_true]
  rw [ht, Bool.true_and]
theorem moved_at (t : ByteArray) (R C : Int) (fr fc : Bool) (ht : (t.data.toList.isEmpty || nameB t.data.toList) = true) (hR : 0 ≤ R ∧ R < 200) (hC : 0 ≤ C ∧ C < 52) (m n : Int) (hm : -200 ≤ m ∧ m ≤ 200) (hn : -52 ≤ n ∧ n ≤ 52)
    (R' C' : Int) (h1 : (if fr then R else R + m) = R') (h2 : (if fc then C else C + n) = C') :
    movedOf ⟨t, R, C, fr, fc, false⟩ m n = if 0 ≤ R' ∧ R' < 200 ∧ 0 ≤ C' ∧ C' < 52 then (⟨t, R', C', fr, fc, false⟩, 0) else (RefD.zero, 20) := by
  rw [moved_small _ (by rw [right_at t R C fr fc ht]; exact decide_eq_true (by omega)) rfl m n hm hn]
  have e : RefD.to ⟨t, R, C, fr, fc, false⟩ m n = ⟨t, R', C', fr, fc, false⟩ := by unfold RefD.to; dsimp only; rw [h1, h2]
  rw [e, right_at t R' C' fr fc ht]
  by_cases h : 0 ≤ R' ∧ R' < 200 ∧ 0 ≤ C' ∧ C' < 52
  · rw [if_pos h, decide_eq_true h]; rfl
  · rw [if_neg h, decide_eq_false h]; rfl
theorem moved_gone (m n : Int) : movedOf ⟨⟨#[]⟩, 0, 0, false, false, true⟩ m n = (⟨⟨#[]⟩, 0, 0, false, false, true⟩, 0) := rfl
end Tab
