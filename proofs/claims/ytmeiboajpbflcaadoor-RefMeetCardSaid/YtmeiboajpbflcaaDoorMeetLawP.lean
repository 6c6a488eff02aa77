/- The law RefMeet: its walk, at whatever areas. -/
import Derived.Test.YtmeiboajpbflcaaDoorMeetLawW
namespace Go.Proofs.YtmeiboajpbflcaaDoor
open Go.RowKit Tab

theorem law_RefMeet (a b c : AreaD) (t1 t2 t3 : Int) (w : World) (hg : Good w) (ha : AreaIn a) (hb : AreaIn b) (hc : AreaIn c) (h1 : Int64 t1) (h2 : Int64 t2) (h3 : Int64 t3) :
    Calls Tryd.prog 7 #[areaV a, areaV b, areaV c, .agg #[.int .i64 t1, .int .i64 t2, .int .i64 t3]] w (Ret (.bool true) w) := by
  have okx := (ok_iff _).1 (mkArea_ok a).1
  have oky := (ok_iff _).1 (mkArea_ok b).1
  have cX : ∀ W, Calls Tryd.prog 20 #[areaV a] W (Ret (areaV (mkArea a)) W) := fun W => RefArea_any _ _ _ _ _ W ha.1 ha.2.1 ha.2.2.1 ha.2.2.2.1 ha.2.2.2.2
  have cY : ∀ W, Calls Tryd.prog 20 #[areaV b] W (Ret (areaV (mkArea b)) W) := fun W => RefArea_any _ _ _ _ _ W hb.1 hb.2.1 hb.2.2.1 hb.2.2.2.1 hb.2.2.2.2
  have cZ : ∀ W, Calls Tryd.prog 20 #[areaV c] W (Ret (areaV (mkArea c)) W) := fun W => RefArea_any _ _ _ _ _ W hc.1 hc.2.1 hc.2.2.1 hc.2.2.2.1 hc.2.2.2.2
  have cP := fun W => RefAt_any t1 t2 t3 W h1 h2 h3
  generalize mkArea a = X at *
  generalize mkArea b = Y at *
  generalize mkArea c = Z at *
  have e2 := meetA_comm X Y
  have f2 := meetB_comm X Y
  have e3 := meetA_self okx
  have f3 := meetB_self okx
  have hm := has_meet (a := X) (b := Y) (pickI t1 2) (pickI t2 200) (pickI t3 52)
  have hyes := fun h : meetB X Y = true => meetA_yes h
  have hraw := fun h : meetB X Y = true => raw_ok h
  have hno := fun h : meetB X Y = false => meetA_no h
  have h3' := fun h : meetB X Y = true => meet_three (c := Z) h
  have hcor := fun h : meetB X Y = true => meet_corner h
  have hyes' : meetB X Y = true → meetRaw X Y = meetA X Y := fun h => (hyes h).symm
  have hraw' : meetB X Y = true → (meetA X Y).Ok := fun h => hyes' h ▸ hraw h
  have h3'' : meetB X Y = true → meetB (meetA X Y) Z = (meetB Y Z && meetB X (meetA Y Z)) ∧ (meetB (meetA X Y) Z = true → meetA (meetA X Y) Z = meetA X (meetA Y Z)) := fun h => by have := h3' h; rw [hyes' h] at this; exact this
  have hcor' : meetB X Y = true → (hasB X (meetA X Y).sheet (meetA X Y).row (meetA X Y).col = true ∧ hasB Y (meetA X Y).sheet (meetA X Y).row (meetA X Y).col = true) ∧
    hasB X (meetA X Y).sheet ((meetA X Y).row + (meetA X Y).rows - 1) ((meetA X Y).col + (meetA X Y).cols - 1) = true ∧ hasB Y (meetA X Y).sheet ((meetA X Y).row + (meetA X Y).rows - 1) ((meetA X Y).col + (meetA X Y).cols - 1) = true := fun h => by have := hcor h; rw [hyes' h] at this; exact this
  clear hyes hraw h3' hcor hyes'
  obtain ⟨M, hM⟩ : ∃ M, meetA X Y = M := ⟨_, rfl⟩
  obtain ⟨U, hU⟩ : ∃ U, meetA M Z = U := ⟨_, rfl⟩
  obtain ⟨I, hI⟩ : ∃ I, meetA Y Z = I := ⟨_, rfl⟩
  obtain ⟨V, hV⟩ : ∃ V, meetA X I = V := ⟨_, rfl⟩
  rw [hM] at hno hraw' h3'' hcor' e2 hm
  rw [hI, hV, hU] at h3''
  obtain ⟨x1, x2, x3, x4, x5⟩ := X
  obtain ⟨y1, y2, y3, y4, y5⟩ := Y
  obtain ⟨z1, z2, z3, z4, z5⟩ := Z
  obtain ⟨m1, m2, m3, m4, m5⟩ := M
  obtain ⟨u1, u2, u3, u4, u5⟩ := U
  obtain ⟨i1, i2, i3, i4, i5⟩ := I
  obtain ⟨v1, v2, v3, v4, v5⟩ := V
  obtain ⟨a1, a2, a3, a4, a5⟩ := a
  obtain ⟨b1, b2, b3, b4, b5⟩ := b
  obtain ⟨c1, c2, c3, c4, c5⟩ := c
  refine Meet_walk a1 a2 a3 a4 a5 b1 b2 b3 b4 b5 c1 c2 c3 c4 c5 t1 t2 t3 w hg x1 x2 x3 x4 x5 y1 y2 y3 y4 y5 z1 z2 z3 z4 z5 _ _ _ cX cY cZ cP m1 m2 m3 m4 m5 _ hM rfl e2.symm f2.symm e3 f3 _ _ rfl rfl hm.symm ?_
    (m2 + m4 - 1) (m3 + m5 - 1) ?_ ?_ ?_ ?_ ?_ (fun h => (hcor' h).1.1) (fun h => (hcor' h).1.2) (fun h => (hcor' h).2.1) (fun h => (hcor' h).2.2) u1 u2 u3 u4 u5 i1 i2 i3 i4 i5 v1 v2 v3 v4 v5 _ _ hU (fun h => (h3'' h).1) hI rfl hV rfl ?_
  · intro h
    have := hno h
    simp only [AreaD.zero, AreaD.mk.injEq] at this
    exact this
  · intro h
    obtain ⟨q1, q2, q3, q4, q5, q6, q7, q8, q9, q10⟩ := hraw' h
    dsimp only at q1 q2 q3 q4 q5 q6 q7 q8 q9 q10
    omega
  · intro h
    obtain ⟨q1, q2, q3, q4, q5, q6, q7, q8, q9, q10⟩ := hraw' h
    dsimp only at q1 q2 q3 q4 q5 q6 q7 q8 q9 q10
    rw [IntWalk.i64_in _ (by omega)]; omega
  · intro h
    obtain ⟨q1, q2, q3, q4, q5, q6, q7, q8, q9, q10⟩ := hraw' h
    dsimp only at q1 q2 q3 q4 q5 q6 q7 q8 q9 q10
    rw [IntWalk.i64_in _ (by omega)]; omega
  · intro h
    obtain ⟨q1, q2, q3, q4, q5, q6, q7, q8, q9, q10⟩ := hraw' h
    dsimp only at q1 q2 q3 q4 q5 q6 q7 q8 q9 q10
    rw [IntWalk.i64_in _ (by omega)]; omega
  · intro h
    obtain ⟨q1, q2, q3, q4, q5, q6, q7, q8, q9, q10⟩ := hraw' h
    dsimp only at q1 q2 q3 q4 q5 q6 q7 q8 q9 q10
    rw [IntWalk.i64_in _ (by omega)]; omega
  · intro h h'
    have := (h3'' h).2 ((h3'' h).1.trans h')
    simp only [AreaD.mk.injEq] at this
    exact this
end Go.Proofs.YtmeiboajpbflcaaDoor
