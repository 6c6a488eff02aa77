/- The law RefMoved: its walk. -/
import Derived.Test.YtmeiboajpbflcaaDoorAwake
import Derived.Test.YtmeiboajpbflcaaDoorRefOf
import Derived.Test.YtmeiboajpbflcaaDoorMoves
namespace Go.Proofs.YtmeiboajpbflcaaDoor
open Go.RowKit Tab

/-- a contract of Moved at a reference that is known. -/
theorem Moved_is {t : ByteArray} {R C : Int} {fr fc bad : Bool} {m n : Int} {t' : ByteArray} {R' C' : Int} {fr' fc' bad' : Bool} {e : Int} {w : World} (hg : Good w) (ht : t.size ≤ 9223372036854775807) (hR : Int64 R) (hC : Int64 C)
    (h : movedOf ⟨t, R, C, fr, fc, bad⟩ m n = (⟨t', R', C', fr', fc', bad'⟩, e)) (W : World) (hb : Below w.heap.size w W) :
    Calls Tryd.prog 19 #[.agg #[.string t, .int .i64 R, .int .i64 C, .bool fr, .bool fc, .bool bad], .int .i64 m, .int .i64 n] W (Ret (.tuple #[.agg #[.string t', .int .i64 R', .int .i64 C', .bool fr', .bool fc', .bool bad'], .int .i64 e]) W) := by
  have := Moved_any ⟨t, R, C, fr, fc, bad⟩ m n W (hg.below hb) ⟨ht, hR, hC⟩
  rw [h] at this
  exact this
theorem pick_is (c n : Int) (h : Int64 c) (hn : 1 ≤ n) (hn1 : n ≤ 1000000) (P : Int) (hP : pickI c n = P) (W : World) : Calls Tryd.prog 15 #[.int .i64 c, .int .i64 n] W (Still (.int .i64 P) W) := by
  rw [← hP]; exact pick_any c n W h.1 h.2 hn hn1

set_option maxRecDepth 100000 in
set_option maxHeartbeats 8000000 in
theorem law_RefMoved (a : RefD) (rows cols more wide : Int) (w : World) (hg : Good w) (ha : RefIn a) (hrows : Int64 rows) (hcols : Int64 cols) (hmore : Int64 more) (hwide : Int64 wide) :
    Calls Tryd.prog 6 #[refV a, .int .i64 rows, .int .i64 cols, .int .i64 more, .int .i64 wide] w (Ret (.bool true) w) := by
  have cO : ∀ W, Below w.heap.size w W → _ := fun W (_ : Below w.heap.size w W) => RefOf_any a W ha.2.1 ha.2.2 ha.1
  obtain ⟨s, row, col, x, y, z⟩ := a
  obtain ⟨M0, hM0⟩ : ∃ P, pickI rows 101 = P := ⟨_, rfl⟩
  obtain ⟨N0, hN0⟩ : ∃ P, pickI cols 41 = P := ⟨_, rfl⟩
  obtain ⟨X0, hX0⟩ : ∃ P, pickI more 101 = P := ⟨_, rfl⟩
  obtain ⟨Y0, hY0⟩ : ∃ P, pickI wide 41 = P := ⟨_, rfl⟩
  have c1 := pick_is rows 101 hrows (by omega) (by omega) M0 hM0
  have c2 := pick_is cols 41 hcols (by omega) (by omega) N0 hN0
  have c3 := pick_is more 101 hmore (by omega) (by omega) X0 hX0
  have c4 := pick_is wide 41 hwide (by omega) (by omega) Y0 hY0
  have rM := pickI_range rows 101 (by omega)
  have rN := pickI_range cols 41 (by omega)
  have rX := pickI_range more 101 (by omega)
  have rY := pickI_range wide 41 (by omega)
  rw [hM0] at rM
  rw [hN0] at rN
  rw [hX0] at rX
  rw [hY0] at rY
  clear hM0 hN0 hX0 hY0 hrows hcols hmore hwide ha
  obtain ⟨M, hM, eM⟩ : ∃ P, M0 - 50 = P ∧ IntKind.i64.wrap (M0 - 50) = P := ⟨_, rfl, IntWalk.i64_in _ (by omega)⟩
  obtain ⟨N, hN, eN⟩ : ∃ P, N0 - 20 = P ∧ IntKind.i64.wrap (N0 - 20) = P := ⟨_, rfl, IntWalk.i64_in _ (by omega)⟩
  obtain ⟨X, hX, eX⟩ : ∃ P, X0 - 50 = P ∧ IntKind.i64.wrap (X0 - 50) = P := ⟨_, rfl, IntWalk.i64_in _ (by omega)⟩
  obtain ⟨Y, hY, eY⟩ : ∃ P, Y0 - 20 = P ∧ IntKind.i64.wrap (Y0 - 20) = P := ⟨_, rfl, IntWalk.i64_in _ (by omega)⟩
  obtain ⟨M', hM', eM'⟩ : ∃ P, -M = P ∧ IntKind.i64.wrap (-M) = P := ⟨_, rfl, IntWalk.i64_in _ (by omega)⟩
  obtain ⟨N', hN', eN'⟩ : ∃ P, -N = P ∧ IntKind.i64.wrap (-N) = P := ⟨_, rfl, IntWalk.i64_in _ (by omega)⟩
  obtain ⟨S, hS, eS⟩ : ∃ P, M + X = P ∧ IntKind.i64.wrap (M + X) = P := ⟨_, rfl, IntWalk.i64_in _ (by omega)⟩
  obtain ⟨T, hT, eT⟩ : ∃ P, N + Y = P ∧ IntKind.i64.wrap (N + Y) = P := ⟨_, rfl, IntWalk.i64_in _ (by omega)⟩
  show Calls _ _ #[.agg #[.string s, .int .i64 row, .int .i64 col, .bool x, .bool y, .bool z], .int .i64 rows, .int .i64 cols, .int .i64 more, .int .i64 wide] w _
  go_enter Tryd.func6, Tryd.ntmps6
  go_wp2_with fail
  refine calls_abs (fun W => Blk W (w.heap.size) #[.string s, .int .i64 row, .int .i64 col, .bool x, .bool y, .bool z] ∧ Below w.heap.size w W) ⟨(by apply Blk.eq; (repeat' (first | with_reducible assumption | with_reducible apply Blk.set | with_reducible apply Blk.other | with_reducible exact Blk.new rfl | with_reducible apply Blk.alloc | omega)); rfl), (by repeat' (first | with_reducible assumption | with_reducible exact Below.refl _ _ | with_reducible refine allocB ?_ | with_reducible refine setB ?_ ?_ | with_reducible refine drewB ?_ | with_reducible refine after ?_ (by assumption) | (simp; omega) | omega))⟩ ?_
  rintro wa ⟨k5, hb0⟩
  obtain ⟨f5, g5, z5⟩ := k5.facts
  refine (awake_any wa (hg.below hb0)).mono ?_; rintro e w1 ⟨rfl, hb1⟩
  replace k5 := k5.below hb1
  replace hb0 : Below w.heap.size w w1 := after hb0 hb1
  clear f5 g5 z5
  clear hb1
  obtain ⟨f5, g5, z5⟩ := k5.facts
  go_wp2_with fail
  refine (cO w1 hb0).mono ?_; rintro e w2 ⟨q, hq, rfl, hb2⟩
  replace k5 := k5.below hb2
  replace hb0 : Below w.heap.size w w2 := after hb0 hb2
  clear f5 g5 z5
  clear hb2
  obtain ⟨f5, g5, z5⟩ := k5.facts
  clear k5 f5 g5 z5
  rcases hq with ⟨_, rfl⟩ | ⟨t, ht, rfl⟩
  · simp only [refV]
    have cG : ∀ m n W, Below w.heap.size w W → _ := fun m n W hb => Moved_is (m := m) (n := n) hg (by decide) (by unfold Int64; decide) (by unfold Int64; decide) (moved_gone m n) W hb
    go_wp2_with fail
    refine calls_abs (fun W => Blk W (w2.heap.size) #[.string ⟨#[]⟩, .int .i64 0, .int .i64 0, .bool false, .bool false, .bool true] ∧ Below w.heap.size w W) ⟨(by apply Blk.eq; (repeat' (first | with_reducible assumption | with_reducible apply Blk.set | with_reducible apply Blk.other | with_reducible exact Blk.new rfl | with_reducible apply Blk.alloc | omega)); rfl), (by repeat' (first | with_reducible assumption | with_reducible exact Below.refl _ _ | with_reducible refine allocB ?_ | with_reducible refine setB ?_ ?_ | with_reducible refine drewB ?_ | with_reducible refine after ?_ (by assumption) | (simp; omega) | omega))⟩ ?_
    clear hb0
    rintro w2a ⟨k12, hb0⟩
    generalize w2.heap.size = b12 at *
    obtain ⟨f12, g12, z12⟩ := k12.facts
    refine (c1 w2a).mono ?_; rintro e w3 ⟨rfl, rfl⟩
    go_wp2_with fail
    refine (c2 w2a).mono ?_; rintro e w4 ⟨rfl, rfl⟩
    go_wp2_with fail
    refine (cG _ _ w2a hb0).mono ?_; rintro e w5 ⟨rfl, hb5⟩
    replace k12 := k12.below hb5
    replace hb0 : Below w.heap.size w w5 := after hb0 hb5
    clear f12 g12 z12
    clear hb5
    obtain ⟨f12, g12, z12⟩ := k12.facts
    go_wp2_with fail
    refine calls_abs (fun W => Blk W (b12) #[.string ⟨#[]⟩, .int .i64 0, .int .i64 0, .bool false, .bool false, .bool true] ∧ Blk W (w5.heap.size) #[.string ⟨#[]⟩, .int .i64 0, .int .i64 0, .bool false, .bool false, .bool true] ∧ Below w.heap.size w W) ⟨(by apply Blk.eq; (repeat' (first | with_reducible assumption | with_reducible apply Blk.set | with_reducible apply Blk.other | with_reducible exact Blk.new rfl | with_reducible apply Blk.alloc | omega)); rfl), (by apply Blk.eq; (repeat' (first | with_reducible assumption | with_reducible apply Blk.set | with_reducible apply Blk.other | with_reducible exact Blk.new rfl | with_reducible apply Blk.alloc | omega)); rfl), (by repeat' (first | with_reducible assumption | with_reducible exact Below.refl _ _ | with_reducible refine allocB ?_ | with_reducible refine setB ?_ ?_ | with_reducible refine drewB ?_ | with_reducible refine after ?_ (by assumption) | (simp; omega) | omega))⟩ ?_
    clear f12 g12 z12
    clear k12 hb0
    rintro w5a ⟨k12, k15, hb0⟩
    generalize w5.heap.size = b15 at *
    obtain ⟨f12, g12, z12⟩ := k12.facts
    obtain ⟨f15, g15, z15⟩ := k15.facts
    refine (cG _ _ w5a hb0).mono ?_; rintro e w6 ⟨rfl, hb6⟩
    replace k12 := k12.below hb6
    replace k15 := k15.below hb6
    replace hb0 : Below w.heap.size w w6 := after hb0 hb6
    clear f12 g12 z12
    clear f15 g15 z15
    clear hb6
    obtain ⟨f12, g12, z12⟩ := k12.facts
    obtain ⟨f15, g15, z15⟩ := k15.facts
    go_wp2_with fail
    refine calls_abs (fun W => Blk W (b12) #[.string ⟨#[]⟩, .int .i64 0, .int .i64 0, .bool false, .bool false, .bool true] ∧ Blk W (b15) #[.string ⟨#[]⟩, .int .i64 0, .int .i64 0, .bool false, .bool false, .bool true] ∧ Blk W (w6.heap.size) #[.string ⟨#[]⟩, .int .i64 0, .int .i64 0, .bool false, .bool false, .bool true] ∧ Below w.heap.size w W) ⟨(by apply Blk.eq; (repeat' (first | with_reducible assumption | with_reducible apply Blk.set | with_reducible apply Blk.other | with_reducible exact Blk.new rfl | with_reducible apply Blk.alloc | omega)); rfl), (by apply Blk.eq; (repeat' (first | with_reducible assumption | with_reducible apply Blk.set | with_reducible apply Blk.other | with_reducible exact Blk.new rfl | with_reducible apply Blk.alloc | omega)); rfl), (by apply Blk.eq; (repeat' (first | with_reducible assumption | with_reducible apply Blk.set | with_reducible apply Blk.other | with_reducible exact Blk.new rfl | with_reducible apply Blk.alloc | omega)); rfl), (by repeat' (first | with_reducible assumption | with_reducible exact Below.refl _ _ | with_reducible refine allocB ?_ | with_reducible refine setB ?_ ?_ | with_reducible refine drewB ?_ | with_reducible refine after ?_ (by assumption) | (simp; omega) | omega))⟩ ?_
    clear f12 g12 z12
    clear f15 g15 z15
    clear k12 k15 hb0
    rintro w6a ⟨k12, k15, k17, hb0⟩
    generalize w6.heap.size = b17 at *
    obtain ⟨f12, g12, z12⟩ := k12.facts
    obtain ⟨f15, g15, z15⟩ := k15.facts
    obtain ⟨f17, g17, z17⟩ := k17.facts
    refine (c3 w6a).mono ?_; rintro e w7 ⟨rfl, rfl⟩
    go_wp2_with fail
    refine (c4 w6a).mono ?_; rintro e w8 ⟨rfl, rfl⟩
    go_wp2_with fail
    refine (cG _ _ w6a hb0).mono ?_; rintro e w9 ⟨rfl, hb9⟩
    replace k12 := k12.below hb9
    replace k15 := k15.below hb9
    replace k17 := k17.below hb9
    replace hb0 : Below w.heap.size w w9 := after hb0 hb9
    clear f12 g12 z12
    clear f15 g15 z15
    clear f17 g17 z17
    clear hb9
    obtain ⟨f12, g12, z12⟩ := k12.facts
    obtain ⟨f15, g15, z15⟩ := k15.facts
    obtain ⟨f17, g17, z17⟩ := k17.facts
    go_wp2_with fail
    refine calls_abs (fun W => Blk W (b12) #[.string ⟨#[]⟩, .int .i64 0, .int .i64 0, .bool false, .bool false, .bool true] ∧ Blk W (b15) #[.string ⟨#[]⟩, .int .i64 0, .int .i64 0, .bool false, .bool false, .bool true] ∧ Blk W (b17) #[.string ⟨#[]⟩, .int .i64 0, .int .i64 0, .bool false, .bool false, .bool true] ∧ Blk W (w9.heap.size) #[.string ⟨#[]⟩, .int .i64 0, .int .i64 0, .bool false, .bool false, .bool true] ∧ Below w.heap.size w W) ⟨(by apply Blk.eq; (repeat' (first | with_reducible assumption | with_reducible apply Blk.set | with_reducible apply Blk.other | with_reducible exact Blk.new rfl | with_reducible apply Blk.alloc | omega)); rfl), (by apply Blk.eq; (repeat' (first | with_reducible assumption | with_reducible apply Blk.set | with_reducible apply Blk.other | with_reducible exact Blk.new rfl | with_reducible apply Blk.alloc | omega)); rfl), (by apply Blk.eq; (repeat' (first | with_reducible assumption | with_reducible apply Blk.set | with_reducible apply Blk.other | with_reducible exact Blk.new rfl | with_reducible apply Blk.alloc | omega)); rfl), (by apply Blk.eq; (repeat' (first | with_reducible assumption | with_reducible apply Blk.set | with_reducible apply Blk.other | with_reducible exact Blk.new rfl | with_reducible apply Blk.alloc | omega)); rfl), (by repeat' (first | with_reducible assumption | with_reducible exact Below.refl _ _ | with_reducible refine allocB ?_ | with_reducible refine setB ?_ ?_ | with_reducible refine drewB ?_ | with_reducible refine after ?_ (by assumption) | (simp; omega) | omega))⟩ ?_
    clear f12 g12 z12
    clear f15 g15 z15
    clear f17 g17 z17
    clear k12 k15 k17 hb0
    rintro w9a ⟨k12, k15, k17, k21, hb0⟩
    generalize w9.heap.size = b21 at *
    obtain ⟨f12, g12, z12⟩ := k12.facts
    obtain ⟨f15, g15, z15⟩ := k15.facts
    obtain ⟨f17, g17, z17⟩ := k17.facts
    obtain ⟨f21, g21, z21⟩ := k21.facts
    refine (cG _ _ w9a hb0).mono ?_; rintro e w10 ⟨rfl, hb10⟩
    replace k12 := k12.below hb10
    replace k15 := k15.below hb10
    replace k17 := k17.below hb10
    replace k21 := k21.below hb10
    replace hb0 : Below w.heap.size w w10 := after hb0 hb10
    clear f12 g12 z12
    clear f15 g15 z15
    clear f17 g17 z17
    clear f21 g21 z21
    clear hb10
    obtain ⟨f12, g12, z12⟩ := k12.facts
    obtain ⟨f15, g15, z15⟩ := k15.facts
    obtain ⟨f17, g17, z17⟩ := k17.facts
    obtain ⟨f21, g21, z21⟩ := k21.facts
    go_wp2
    go_ret; exact Ret.mk' rfl (by repeat' (first | with_reducible assumption | with_reducible exact Below.refl _ _ | with_reducible refine allocB ?_ | with_reducible refine setB ?_ ?_ | with_reducible refine drewB ?_ | with_reducible refine after ?_ (by assumption) | (simp; omega) | omega))
  · have ht' : (t.data.toList.isEmpty || nameB t.data.toList) = true := by rcases ht with rfl | h; exact rfl; rw [h, Bool.or_true]
    have hts : t.size ≤ 9223372036854775807 := by rcases ht with rfl | h; decide; simp only [nameB, Bool.and_eq_true, decide_eq_true_eq] at h; rw [ba_size] at h; omega
    have rR := pickI_range row 200 (by omega)
    have rC := pickI_range col 52 (by omega)
    simp only [refV]
    generalize pickI row 200 = R at *
    generalize pickI col 52 = C at *
    obtain ⟨R', hR'⟩ : ∃ P, (if x then R else R + M) = P := ⟨_, rfl⟩
    obtain ⟨C', hC'⟩ : ∃ P, (if y then C else C + N) = P := ⟨_, rfl⟩
    have bR' : -50 ≤ R' ∧ R' ≤ 250 := by rw [← hR']; split <;> omega
    have bC' : -20 ≤ C' ∧ C' ≤ 72 := by rw [← hC']; split <;> omega
    have E1 := moved_at t R C x y ht' rR rC M N (by omega) (by omega) R' C' hR' hC'
    by_cases hok : 0 ≤ R' ∧ R' < 200 ∧ 0 ≤ C' ∧ C' < 52
    · rw [if_pos hok] at E1
      have E2 : movedOf ⟨t, R', C', x, y, false⟩ M' N' = (⟨t, R, C, x, y, false⟩, 0) := by rw [moved_at t R' C' x y ht' (by omega) (by omega) M' N' (by omega) (by omega) R C (by rw [← hR']; split <;> omega) (by rw [← hC']; split <;> omega), if_pos (by omega)]
      obtain ⟨⟨v1, v2, v3, v4, v5, v6⟩, e, E3⟩ : ∃ V e, movedOf ⟨t, R', C', x, y, false⟩ X Y = (V, e) := ⟨_, _, rfl⟩
      obtain ⟨R2, hR2⟩ : ∃ P, (if x then R' else R' + X) = P := ⟨_, rfl⟩
      obtain ⟨C2, hC2⟩ : ∃ P, (if y then C' else C' + Y) = P := ⟨_, rfl⟩
      have E3' := moved_at t R' C' x y ht' (by omega) (by omega) X Y (by omega) (by omega) R2 C2 hR2 hC2
      have E4' := moved_at t R C x y ht' rR rC S T (by omega) (by omega) R2 C2 (by rw [← hR2, ← hR', ← hS]; split <;> omega) (by rw [← hC2, ← hC', ← hT]; split <;> omega)
      have E4 : movedOf ⟨t, R, C, x, y, false⟩ S T = (⟨v1, v2, v3, v4, v5, v6⟩, e) := E4'.trans (E3'.symm.trans E3)
      have m1 := Moved_is hg hts (by unfold Int64; omega) (by unfold Int64; omega) E1
      have m2 := Moved_is hg hts (by unfold Int64; omega) (by unfold Int64; omega) E2
      have m3 := Moved_is hg hts (by unfold Int64; omega) (by unfold Int64; omega) E3
      have m4 := Moved_is hg hts (by unfold Int64; omega) (by unfold Int64; omega) E4
      have xR : x = true → R' = R := fun h => by rw [← hR', h]; rfl
      have xR2 : x = false → IntKind.i64.wrap (R + M) = R' := fun h => by rw [IntWalk.i64_in _ (by omega), ← hR', h]; rfl
      have yC : y = true → C' = C := fun h => by rw [← hC', h]; rfl
      have yC2 : y = false → IntKind.i64.wrap (C + N) = C' := fun h => by rw [IntWalk.i64_in _ (by omega), ← hC', h]; rfl
      clear E1 E2 E3 E4 hR' hC' hM hN hX hY hM' hN' hS hT rM rN rX rY rR rC bR' bC' hok ht ht' hts
      go_wp2_with fail
      refine calls_abs (fun W => Blk W (w2.heap.size) #[.string t, .int .i64 R, .int .i64 C, .bool x, .bool y, .bool false] ∧ Below w.heap.size w W) ⟨(by apply Blk.eq; (repeat' (first | with_reducible assumption | with_reducible apply Blk.set | with_reducible apply Blk.other | with_reducible exact Blk.new rfl | with_reducible apply Blk.alloc | omega)); rfl), (by repeat' (first | with_reducible assumption | with_reducible exact Below.refl _ _ | with_reducible refine allocB ?_ | with_reducible refine setB ?_ ?_ | with_reducible refine drewB ?_ | with_reducible refine after ?_ (by assumption) | (simp; omega) | omega))⟩ ?_
      clear hb0
      rintro w2a ⟨k12, hb0⟩
      generalize w2.heap.size = b12 at *
      obtain ⟨f12, g12, z12⟩ := k12.facts
      refine (c1 w2a).mono ?_; rintro e w3 ⟨rfl, rfl⟩
      go_wp2_with fail
      refine (c2 w2a).mono ?_; rintro e w4 ⟨rfl, rfl⟩
      go_wp2_with fail
      refine (m1 w2a hb0).mono ?_; rintro e w5 ⟨rfl, hb5⟩
      replace k12 := k12.below hb5
      replace hb0 : Below w.heap.size w w5 := after hb0 hb5
      clear f12 g12 z12
      clear hb5
      obtain ⟨f12, g12, z12⟩ := k12.facts
      go_wp2_with fail
      refine calls_abs (fun W => Blk W (b12) #[.string t, .int .i64 R, .int .i64 C, .bool x, .bool y, .bool false] ∧ Blk W (w5.heap.size) #[.string t, .int .i64 R', .int .i64 C', .bool x, .bool y, .bool false] ∧ Below w.heap.size w W) ⟨(by apply Blk.eq; (repeat' (first | with_reducible assumption | with_reducible apply Blk.set | with_reducible apply Blk.other | with_reducible exact Blk.new rfl | with_reducible apply Blk.alloc | omega)); rfl), (by apply Blk.eq; (repeat' (first | with_reducible assumption | with_reducible apply Blk.set | with_reducible apply Blk.other | with_reducible exact Blk.new rfl | with_reducible apply Blk.alloc | omega)); rfl), (by repeat' (first | with_reducible assumption | with_reducible exact Below.refl _ _ | with_reducible refine allocB ?_ | with_reducible refine setB ?_ ?_ | with_reducible refine drewB ?_ | with_reducible refine after ?_ (by assumption) | (simp; omega) | omega))⟩ ?_
      clear f12 g12 z12
      clear k12 hb0
      rintro w5a ⟨k12, k15, hb0⟩
      generalize w5.heap.size = b15 at *
      obtain ⟨f12, g12, z12⟩ := k12.facts
      obtain ⟨f15, g15, z15⟩ := k15.facts
      refine (m2 w5a hb0).mono ?_; rintro e w6 ⟨rfl, hb6⟩
      replace k12 := k12.below hb6
      replace k15 := k15.below hb6
      replace hb0 : Below w.heap.size w w6 := after hb0 hb6
      clear f12 g12 z12
      clear f15 g15 z15
      clear hb6
      obtain ⟨f12, g12, z12⟩ := k12.facts
      obtain ⟨f15, g15, z15⟩ := k15.facts
      go_wp2_with fail
      refine calls_abs (fun W => Blk W (b12) #[.string t, .int .i64 R, .int .i64 C, .bool x, .bool y, .bool false] ∧ Blk W (b15) #[.string t, .int .i64 R', .int .i64 C', .bool x, .bool y, .bool false] ∧ Blk W (w6.heap.size) #[.string t, .int .i64 R, .int .i64 C, .bool x, .bool y, .bool false] ∧ Below w.heap.size w W) ⟨(by apply Blk.eq; (repeat' (first | with_reducible assumption | with_reducible apply Blk.set | with_reducible apply Blk.other | with_reducible exact Blk.new rfl | with_reducible apply Blk.alloc | omega)); rfl), (by apply Blk.eq; (repeat' (first | with_reducible assumption | with_reducible apply Blk.set | with_reducible apply Blk.other | with_reducible exact Blk.new rfl | with_reducible apply Blk.alloc | omega)); rfl), (by apply Blk.eq; (repeat' (first | with_reducible assumption | with_reducible apply Blk.set | with_reducible apply Blk.other | with_reducible exact Blk.new rfl | with_reducible apply Blk.alloc | omega)); rfl), (by repeat' (first | with_reducible assumption | with_reducible exact Below.refl _ _ | with_reducible refine allocB ?_ | with_reducible refine setB ?_ ?_ | with_reducible refine drewB ?_ | with_reducible refine after ?_ (by assumption) | (simp; omega) | omega))⟩ ?_
      clear f12 g12 z12
      clear f15 g15 z15
      clear k12 k15 hb0
      rintro w6a ⟨k12, k15, k17, hb0⟩
      generalize w6.heap.size = b17 at *
      obtain ⟨f12, g12, z12⟩ := k12.facts
      obtain ⟨f15, g15, z15⟩ := k15.facts
      obtain ⟨f17, g17, z17⟩ := k17.facts
      refine (c3 w6a).mono ?_; rintro e w7 ⟨rfl, rfl⟩
      go_wp2_with fail
      refine (c4 w6a).mono ?_; rintro e w8 ⟨rfl, rfl⟩
      go_wp2_with fail
      refine (m3 w6a hb0).mono ?_; rintro e w9 ⟨rfl, hb9⟩
      replace k12 := k12.below hb9
      replace k15 := k15.below hb9
      replace k17 := k17.below hb9
      replace hb0 : Below w.heap.size w w9 := after hb0 hb9
      clear f12 g12 z12
      clear f15 g15 z15
      clear f17 g17 z17
      clear hb9
      obtain ⟨f12, g12, z12⟩ := k12.facts
      obtain ⟨f15, g15, z15⟩ := k15.facts
      obtain ⟨f17, g17, z17⟩ := k17.facts
      go_wp2_with fail
      refine calls_abs (fun W => Blk W (b12) #[.string t, .int .i64 R, .int .i64 C, .bool x, .bool y, .bool false] ∧ Blk W (b15) #[.string t, .int .i64 R', .int .i64 C', .bool x, .bool y, .bool false] ∧ Blk W (b17) #[.string t, .int .i64 R, .int .i64 C, .bool x, .bool y, .bool false] ∧ Blk W (w9.heap.size) #[.string v1, .int .i64 v2, .int .i64 v3, .bool v4, .bool v5, .bool v6] ∧ Below w.heap.size w W) ⟨(by apply Blk.eq; (repeat' (first | with_reducible assumption | with_reducible apply Blk.set | with_reducible apply Blk.other | with_reducible exact Blk.new rfl | with_reducible apply Blk.alloc | omega)); rfl), (by apply Blk.eq; (repeat' (first | with_reducible assumption | with_reducible apply Blk.set | with_reducible apply Blk.other | with_reducible exact Blk.new rfl | with_reducible apply Blk.alloc | omega)); rfl), (by apply Blk.eq; (repeat' (first | with_reducible assumption | with_reducible apply Blk.set | with_reducible apply Blk.other | with_reducible exact Blk.new rfl | with_reducible apply Blk.alloc | omega)); rfl), (by apply Blk.eq; (repeat' (first | with_reducible assumption | with_reducible apply Blk.set | with_reducible apply Blk.other | with_reducible exact Blk.new rfl | with_reducible apply Blk.alloc | omega)); rfl), (by repeat' (first | with_reducible assumption | with_reducible exact Below.refl _ _ | with_reducible refine allocB ?_ | with_reducible refine setB ?_ ?_ | with_reducible refine drewB ?_ | with_reducible refine after ?_ (by assumption) | (simp; omega) | omega))⟩ ?_
      clear f12 g12 z12
      clear f15 g15 z15
      clear f17 g17 z17
      clear k12 k15 k17 hb0
      rintro w9a ⟨k12, k15, k17, k21, hb0⟩
      generalize w9.heap.size = b21 at *
      obtain ⟨f12, g12, z12⟩ := k12.facts
      obtain ⟨f15, g15, z15⟩ := k15.facts
      obtain ⟨f17, g17, z17⟩ := k17.facts
      obtain ⟨f21, g21, z21⟩ := k21.facts
      refine (m4 w9a hb0).mono ?_; rintro e w10 ⟨rfl, hb10⟩
      replace k12 := k12.below hb10
      replace k15 := k15.below hb10
      replace k17 := k17.below hb10
      replace k21 := k21.below hb10
      replace hb0 : Below w.heap.size w w10 := after hb0 hb10
      clear f12 g12 z12
      clear f15 g15 z15
      clear f17 g17 z17
      clear f21 g21 z21
      clear hb10
      obtain ⟨f12, g12, z12⟩ := k12.facts
      obtain ⟨f15, g15, z15⟩ := k15.facts
      obtain ⟨f17, g17, z17⟩ := k17.facts
      obtain ⟨f21, g21, z21⟩ := k21.facts
      clear m1 m2 m3 m4 c1 c2 c3 c4 cO hg
      cases x <;> cases y
      · have q1 := xR2 rfl; have q2 := yC2 rfl; clear xR xR2 yC yC2
        go_wp2
        go_ret; exact Ret.mk' rfl (by repeat' (first | with_reducible assumption | with_reducible exact Below.refl _ _ | with_reducible refine allocB ?_ | with_reducible refine setB ?_ ?_ | with_reducible refine drewB ?_ | with_reducible refine after ?_ (by assumption) | (simp; omega) | omega))
      · have q1 := xR2 rfl; have q2 := yC rfl; clear xR xR2 yC yC2; subst q2
        go_wp2
        go_ret; exact Ret.mk' rfl (by repeat' (first | with_reducible assumption | with_reducible exact Below.refl _ _ | with_reducible refine allocB ?_ | with_reducible refine setB ?_ ?_ | with_reducible refine drewB ?_ | with_reducible refine after ?_ (by assumption) | (simp; omega) | omega))
      · have q1 := xR rfl; have q2 := yC2 rfl; clear xR xR2 yC yC2; subst q1
        go_wp2
        go_ret; exact Ret.mk' rfl (by repeat' (first | with_reducible assumption | with_reducible exact Below.refl _ _ | with_reducible refine allocB ?_ | with_reducible refine setB ?_ ?_ | with_reducible refine drewB ?_ | with_reducible refine after ?_ (by assumption) | (simp; omega) | omega))
      · have q1 := xR rfl; have q2 := yC rfl; clear xR xR2 yC yC2; subst q1; subst q2
        go_wp2
        go_ret; exact Ret.mk' rfl (by repeat' (first | with_reducible assumption | with_reducible exact Below.refl _ _ | with_reducible refine allocB ?_ | with_reducible refine setB ?_ ?_ | with_reducible refine drewB ?_ | with_reducible refine after ?_ (by assumption) | (simp; omega) | omega))
    · rw [if_neg hok] at E1
      have m1 := Moved_is (t' := ⟨#[]⟩) (R' := 0) (C' := 0) (fr' := false) (fc' := false) (bad' := false) hg hts (by unfold Int64; omega) (by unfold Int64; omega) E1
      clear E1 hR' hC' bR' bC' hok ht ht' hts
      go_wp2_with fail
      refine calls_abs (fun W => Blk W (w2.heap.size) #[.string t, .int .i64 R, .int .i64 C, .bool x, .bool y, .bool false] ∧ Below w.heap.size w W) ⟨(by apply Blk.eq; (repeat' (first | with_reducible assumption | with_reducible apply Blk.set | with_reducible apply Blk.other | with_reducible exact Blk.new rfl | with_reducible apply Blk.alloc | omega)); rfl), (by repeat' (first | with_reducible assumption | with_reducible exact Below.refl _ _ | with_reducible refine allocB ?_ | with_reducible refine setB ?_ ?_ | with_reducible refine drewB ?_ | with_reducible refine after ?_ (by assumption) | (simp; omega) | omega))⟩ ?_
      clear hb0
      rintro w2a ⟨k12, hb0⟩
      generalize w2.heap.size = b12 at *
      obtain ⟨f12, g12, z12⟩ := k12.facts
      refine (c1 w2a).mono ?_; rintro e w3 ⟨rfl, rfl⟩
      go_wp2_with fail
      refine (c2 w2a).mono ?_; rintro e w4 ⟨rfl, rfl⟩
      go_wp2_with fail
      refine (m1 w2a hb0).mono ?_; rintro e w5 ⟨rfl, hb5⟩
      replace k12 := k12.below hb5
      replace hb0 : Below w.heap.size w w5 := after hb0 hb5
      clear f12 g12 z12
      clear hb5
      obtain ⟨f12, g12, z12⟩ := k12.facts
      go_wp2
      go_ret; exact Ret.mk' rfl (by repeat' (first | with_reducible assumption | with_reducible exact Below.refl _ _ | with_reducible refine allocB ?_ | with_reducible refine setB ?_ ?_ | with_reducible refine drewB ?_ | with_reducible refine after ?_ (by assumption) | (simp; omega) | omega))
end Go.Proofs.YtmeiboajpbflcaaDoor
