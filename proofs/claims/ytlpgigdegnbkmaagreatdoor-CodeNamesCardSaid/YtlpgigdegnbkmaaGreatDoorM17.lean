import Derived.Test.YtlpgigdegnbkmaaGreatDoorM09
import Derived.Test.YtlpgigdegnbkmaaGreatDoorM08
import Derived.Deep.CutRange
set_option maxRecDepth 100000
set_option maxHeartbeats 4000000
namespace Go.Proofs.YtlpgigdegnbkmaaGreatDoor
open Go.RowKit Tab Tryz
theorem decEq_run (d : Nat) (m e m' e' : Int) (w : World) : (Op.equalIn (d + 2) 25 (.agg #[.int .i64 m, .int .i64 e]) (.agg #[.int .i64 m', .int .i64 e'])).run prog w = .ok ((m == m') && (e == e')) w := by
 generalize hA : (m == m') = A
 generalize hB : (e == e') = B
 go_simp
 cases A <;> cases B <;> rfl
theorem ba_list (a : ByteArray) : a.toList = a.data.toList := ByteArray.toList_eq a
theorem refEq_run (d : Nat) (x y : RefD) (w : World) : (Op.equalIn (d + 2) 27 (.agg #[.string x.s, .int .i64 x.row, .int .i64 x.col, .bool x.fr, .bool x.fc, .bool x.bad]) (.agg #[.string y.s, .int .i64 y.row, .int .i64 y.col, .bool y.fr, .bool y.fc, .bool y.bad])).run prog w = .ok (sameR x y) w := by
 unfold sameR
 generalize h0 : (x.s.data.toList == y.s.data.toList) = A0
 generalize h1 : (x.row == y.row) = A1
 generalize h2 : (x.col == y.col) = A2
 generalize h3 : (x.fr == y.fr) = A3
 generalize h4 : (x.fc == y.fc) = A4
 generalize h5 : (x.bad == y.bad) = A5
 rw [<- ba_list, <- ba_list] at h0
 go_simp
 cases A0
 ·rfl
 cases A1
 ·rfl
 cases A2
 ·rfl
 cases A3
 ·rfl
 cases A4
 ·rfl
 cases A5 <;> rfl
theorem insEq_run (d : Nat) (x y : InsD) (w : World) : (Op.equalIn (d + 3) 43 (insV x) (insV y)).run prog w = .ok (sameI x y) w := by
 unfold sameI sameR insV
 generalize h0 : (x.op == y.op) = A0
 generalize h1 : (x.a == y.a) = A1
 generalize h2 : (x.b == y.b) = A2
 generalize h3 : (x.s == y.s) = A3
 generalize h4 : (x.m == y.m) = A4
 generalize h5 : (x.e == y.e) = A5
 generalize h6 : (x.ref.s.data.toList == y.ref.s.data.toList) = A6
 generalize h7 : (x.ref.row == y.ref.row) = A7
 generalize h8 : (x.ref.col == y.ref.col) = A8
 generalize h9 : (x.ref.fr == y.ref.fr) = A9
 generalize h10 : (x.ref.fc == y.ref.fc) = A10
 generalize h11 : (x.ref.bad == y.ref.bad) = A11
 generalize h12 : (x.far.s.data.toList == y.far.s.data.toList) = A12
 generalize h13 : (x.far.row == y.far.row) = A13
 generalize h14 : (x.far.col == y.far.col) = A14
 generalize h15 : (x.far.fr == y.far.fr) = A15
 generalize h16 : (x.far.fc == y.far.fc) = A16
 generalize h17 : (x.far.bad == y.far.bad) = A17
 rw [<- ba_list, <- ba_list] at h6 h12
 have h3' : ((⟨x.s.toArray⟩ : ByteArray).toList == (⟨y.s.toArray⟩ : ByteArray).toList) = A3 := by rw [ba_list, ba_list]; exact h3
 go_simp
 cases A0
 ·rfl
 cases A1
 ·rfl
 cases A2
 ·rfl
 cases A3
 ·rfl
 cases A4
 ·rfl
 cases A5
 ·rfl
 cases A6
 ·rfl
 cases A7
 ·rfl
 cases A8
 ·rfl
 cases A9
 ·rfl
 cases A10
 ·rfl
 cases A11
 ·rfl
 cases A12
 ·rfl
 cases A13
 ·rfl
 cases A14
 ·rfl
 cases A15
 ·rfl
 cases A16
 ·rfl
 cases A17 <;> rfl
theorem decRight_any (m e : Int) (hm : -9000000000000000000 <= m /\ m <= 9000000000000000000) (w : World) : Calls prog 57 #[.agg #[.int .i64 m, .int .i64 e]] w (Ret (.bool (decOkD m e)) w) := by
 have cA := fun W => decAbs_any m hm W
 unfold decOkD
 have e1 : decide ((999999999999999 : Int) < (m.natAbs : Int)) = decide (999999999999999 < m.natAbs) := by
  by_cases h : 999999999999999 < m.natAbs
  ·rw [decide_eq_true h]; exact decide_eq_true (by omega)
  ·rw [decide_eq_false h]; exact decide_eq_false (by omega)
 generalize decide (999999999999999 < m.natAbs) = A at *
 generalize hB : decide (e < -9) = B
 generalize hC : decide (9 < e) = C
 cases A
 ·cases B
  ·cases C
   ·by_cases hm0 : m = 0
    ·have hE : (m == 0) = true := beq_iff_eq.2 hm0
     have hE2 : (m != 0) = false := by rw [bne, hE]; rfl
     rw [hE]
     generalize hZ : (e == 0) = Z
     clear hm hm0
     cases Z
     all_goals (
      go_enter func57, ntmps57
      go_upto_region 3 with (refine (cA _).mono ?_; rintro e w1 ⟨rfl, rfl⟩)
      refine wp_region_lit ?_
      iterate 4 refine st ?_
      clear hE hZ
      go_wp2
      go_ret; exact Ret.mk' rfl belx)
    ·have hE : (m == 0) = false := beq_eq_false_iff_ne.2 hm0
     have hq : ∀ W, (Op.equalIn 10000 25 (.agg #[.int .i64 m, .int .i64 e]) (.agg #[.int .i64 0, .int .i64 0])).run prog W = .ok false W := fun W => by
      have := decEq_run 9998 m e 0 0 W
      rw [hE] at this; exact this
     rw [hE]
     have hE2 : (m != 0) = true := by rw [bne, hE]; rfl
     generalize hF : (m.tmod 10 == 0) = F
     have hF2 : (m.tmod 10 != 0) = !F := by rw [bne, hF]
     generalize hG : (e == 9) = G
     clear hm
     cases F <;> cases G
     all_goals (
      go_enter func57, ntmps57
      go_wp2_with (refine (cA _).mono ?_; rintro e w1 ⟨rfl, rfl⟩)
      go_ret; exact Ret.mk' rfl belx)
   ·go_enter func57, ntmps57
    go_wp2_with (refine (cA _).mono ?_; rintro e w1 ⟨rfl, rfl⟩)
    go_ret; exact Ret.mk' rfl belx
  ·go_enter func57, ntmps57
   go_wp2_with (refine (cA _).mono ?_; rintro e w1 ⟨rfl, rfl⟩)
   go_ret; exact Ret.mk' rfl belx
 ·go_enter func57, ntmps57
  go_wp2_with (refine (cA _).mono ?_; rintro e w1 ⟨rfl, rfl⟩)
  go_ret; exact Ret.mk' rfl belx
end Go.Proofs.YtlpgigdegnbkmaaGreatDoor
