/- The walk of tabulalaw02.RefOf. -/
import Derived.Test.YtmeiboajpbflcaaGreatDoorRefName
import Derived.Test.YtmeiboajpbflcaaGreatDoorMakers
import Derived.Test.YtmeiboajpbflcaaGreatDoorArea
namespace Go.Proofs.YtmeiboajpbflcaaGreatDoor
open Go.RowKit Tab

/-- the reference that a raw one makes. -/
def RefMade (row col : Int) (fr fc bad : Bool) (q : RefD) : Prop :=
  (bad = true ∧ q = ⟨⟨#[]⟩, 0, 0, false, false, true⟩) ∨ ∃ t : ByteArray, (t = ⟨#[]⟩ ∨ nameB t.data.toList = true) ∧ q = ⟨t, pickI row 200, pickI col 52, fr, fc, false⟩

set_option maxRecDepth 100000 in
theorem RefOf_gone (s : ByteArray) (row col : Int) (x y : Bool) (w : World) (hr : Int64 row) (hp : (pickI row 4 == 0) = true) : Calls Tryz.prog 6 #[.agg #[.string s, .int .i64 row, .int .i64 col, .bool x, .bool y, .bool true]] w (fun e w' => ∃ q, RefMade row col x y true q ∧ e = .returned (refV q) ∧ Below w.heap.size w w') := by
  go_enter Tryz.func6, Tryz.ntmps6
  go_wp2_with (go_at_call 7; refine (pick_any _ _ _ hr.1 hr.2 (by omega) (by omega)).mono ?_; rintro e w1 ⟨rfl, rfl⟩)
  exact bodyPost_ret (v := refV ⟨⟨#[]⟩, 0, 0, false, false, true⟩) (by simp [results, Tryz.results6, go_sem, refV, *]) rfl ⟨_, .inl ⟨rfl, rfl⟩, rfl, (by repeat' (first | with_reducible assumption | with_reducible exact Below.refl _ _ | with_reducible refine allocB ?_ | with_reducible refine setB ?_ ?_ | with_reducible refine drewB ?_ | with_reducible refine after ?_ (by assumption) | (simp; omega) | omega))⟩

set_option maxRecDepth 100000 in
set_option maxHeartbeats 1000000 in
theorem RefOf_bare (row col : Int) (x y : Bool) (w : World) (hr : Int64 row) (hc : Int64 col) : Calls Tryz.prog 6 #[.agg #[.string ⟨#[]⟩, .int .i64 row, .int .i64 col, .bool x, .bool y, .bool false]] w (fun e w' => ∃ q, RefMade row col x y false q ∧ e = .returned (refV q) ∧ Below w.heap.size w w') := by
  go_enter Tryz.func6, Tryz.ntmps6
  go_wp2
  refine wp_abs fun w1 hb1 => ?_
  obtain ⟨hc1, hf1⟩ := bcell hb1
  obtain ⟨z10, z11⟩ : w.heap.size < w1.heap.size ∧ w.heap.size + 1 < w1.heap.size := by have := hb1.size; simp at this; omega
  have kc := gcell w1
  refine region_made_tail 12 (by kernel_rfl) (by kernel_rfl) fun β => ?_
  simp only [List.take_succ_cons, List.take_zero, List.drop_succ_cons, List.drop_zero]
  repeat (refine wpM_step (fun K hK => ?_); go_simp; first | (refine hK _ ?_; clear hK K) | (apply Exists.intro; refine ⟨fun _ => ⟨by kernel_rfl, ?_⟩, hK _ ?_⟩; exact pick_ret _ _ (by assumption) (by omega) (by omega) _ _ (below_regrown _ _ _); clear hK K))
  refine wpM_make (fun b => .pointer (some ⟨b, 0, none⟩)) (.cells #[.string ⟨#[]⟩, .int .i64 0, .int .i64 0, .bool false, .bool false, .bool false] 23) rfl (fun W _ => by kernel_rfl) ?_
  refine wpM_nil ?_
  intro w2 ⟨hb2, hla, hap⟩
  obtain ⟨zb, hl2⟩ := hla 11 _ _ rfl
  have k0 : Blk w1 w.heap.size #[.string ⟨#[]⟩, .int .i64 row, .int .i64 col, .bool x, .bool y, .bool false] := (((Blk.new rfl).alloc).below hb1)
  have k1 : Blk w1 (w.heap.size + 1) #[.string ⟨#[]⟩, .int .i64 0, .int .i64 0, .bool false, .bool false, .bool false] := ((Blk.new (by simp)).below hb1)
  have k2 := k0.below hb2
  have k3 := k1.below hb2
  have k4 : Blk w2 (β 11) _ := ⟨_, hl2⟩
  have hb0 : Below w.heap.size w w2 := (by repeat' (first | with_reducible assumption | with_reducible exact Below.refl _ _ | with_reducible refine allocB ?_ | with_reducible refine setB ?_ ?_ | with_reducible refine drewB ?_ | with_reducible refine after ?_ (by assumption) | (simp; omega) | omega))
  clear hl2 hla hap kc hc1 hf1 k0 k1
  have zb2 : w1.heap.size ≤ β 11 := zb
  obtain ⟨y1, y2, y3, y4, y5⟩ : ¬ β 11 = w.heap.size ∧ ¬ β 11 = w.heap.size + 1 ∧ ¬ w.heap.size = β 11 ∧ ¬ w.heap.size + 1 = β 11 ∧ w.heap.size ≤ β 11 := by omega
  clear hb1 hb2 zb zb2
  generalize β 11 = b at *
  obtain ⟨f2, g2, z2⟩ := k2.facts
  obtain ⟨f3, g3, z3⟩ := k3.facts
  obtain ⟨f4, g4, z4⟩ := k4.facts
  go_upto_region 4 with (fail)
  refine wp_abs2 (fun w3 => Blk w3 w.heap.size #[.string ⟨#[]⟩, .int .i64 row, .int .i64 col, .bool x, .bool y, .bool false] ∧ Blk w3 (w.heap.size + 1) #[.string ⟨#[]⟩, .int .i64 0, .int .i64 0, .bool false, .bool false, .bool false] ∧ Blk w3 b #[.string ⟨#[]⟩, .int .i64 (pickI row 200), .int .i64 (pickI col 52), .bool x, .bool y, .bool false] ∧ Below w.heap.size w w3)
    ⟨by repeat' (first | with_reducible assumption | (with_reducible refine Blk.other ?_ ?_) | omega), by repeat' (first | with_reducible assumption | (with_reducible refine Blk.other ?_ ?_) | omega), (by apply Blk.eq; (repeat' (first | with_reducible assumption | with_reducible apply Blk.set)); rfl), (by repeat' (first | with_reducible assumption | with_reducible exact Below.refl _ _ | with_reducible refine allocB ?_ | with_reducible refine setB ?_ ?_ | with_reducible refine drewB ?_ | with_reducible refine after ?_ (by assumption) | (simp; omega) | omega))⟩ ?_
  clear f2 g2 z2 f3 g3 z3 f4 g4 z4 k2 k3 k4 hb0
  rintro w3 ⟨k2, k3, k4, hb0⟩
  obtain ⟨f2, g2, z2⟩ := k2.facts
  obtain ⟨f3, g3, z3⟩ := k3.facts
  obtain ⟨f4, g4, z4⟩ := k4.facts
  go_wp2
  exact bodyPost_ret (v := refV ⟨⟨#[]⟩, pickI row 200, pickI col 52, x, y, false⟩) (by simp [results, Tryz.results6, go_sem, refV, *]) rfl ⟨_, .inr ⟨_, .inl rfl, rfl⟩, rfl, (by repeat' (first | with_reducible assumption | with_reducible exact Below.refl _ _ | with_reducible refine allocB ?_ | with_reducible refine setB ?_ ?_ | with_reducible refine drewB ?_ | with_reducible refine after ?_ (by assumption) | (simp; omega) | omega))⟩

set_option maxRecDepth 100000 in
set_option maxHeartbeats 1000000 in
theorem RefOf_named (s : ByteArray) (row col : Int) (x y : Bool) (w : World) (hr : Int64 row) (hc : Int64 col) (hs : s.size ≤ 9223372036854775807) (he : s.toList.isEmpty = false) : Calls Tryz.prog 6 #[.agg #[.string s, .int .i64 row, .int .i64 col, .bool x, .bool y, .bool false]] w (fun e w' => ∃ q, RefMade row col x y false q ∧ e = .returned (refV q) ∧ Below w.heap.size w w') := by
  go_enter Tryz.func6, Tryz.ntmps6
  go_wp2
  refine wp_abs fun w1 hb1 => ?_
  obtain ⟨hc1, hf1⟩ := bcell hb1
  obtain ⟨z10, z11⟩ : w.heap.size < w1.heap.size ∧ w.heap.size + 1 < w1.heap.size := by have := hb1.size; simp at this; omega
  have kc := gcell w1
  refine region_made_tail 12 (by kernel_rfl) (by kernel_rfl) fun β => ?_
  simp only [List.take_succ_cons, List.take_zero, List.drop_succ_cons, List.drop_zero]
  repeat (refine wpM_step (fun K hK => ?_); go_simp; first | (refine hK _ ?_; clear hK K) | (apply Exists.intro; refine ⟨fun _ => ⟨by kernel_rfl, ?_⟩, hK _ ?_⟩; exact pick_ret _ _ (by assumption) (by omega) (by omega) _ _ (below_regrown _ _ _); clear hK K))
  refine wpM_make (fun b => .pointer (some ⟨b, 0, none⟩)) (.cells #[.string ⟨#[]⟩, .int .i64 0, .int .i64 0, .bool false, .bool false, .bool false] 23) rfl (fun W _ => by kernel_rfl) ?_
  refine wpM_nil ?_
  intro w2 ⟨hb2, hla, hap⟩
  obtain ⟨zb, hl2⟩ := hla 11 _ _ rfl
  have k0 : Blk w1 w.heap.size #[.string s, .int .i64 row, .int .i64 col, .bool x, .bool y, .bool false] := (((Blk.new rfl).alloc).below hb1)
  have k1 : Blk w1 (w.heap.size + 1) #[.string ⟨#[]⟩, .int .i64 0, .int .i64 0, .bool false, .bool false, .bool false] := ((Blk.new (by simp)).below hb1)
  have k2 := k0.below hb2
  have k3 := k1.below hb2
  have k4 : Blk w2 (β 11) _ := ⟨_, hl2⟩
  have hb0 : Below w.heap.size w w2 := (by repeat' (first | with_reducible assumption | with_reducible exact Below.refl _ _ | with_reducible refine allocB ?_ | with_reducible refine setB ?_ ?_ | with_reducible refine drewB ?_ | with_reducible refine after ?_ (by assumption) | (simp; omega) | omega))
  clear hl2 hla hap kc hc1 hf1 k0 k1
  have zb2 : w1.heap.size ≤ β 11 := zb
  obtain ⟨y1, y2, y3, y4, y5⟩ : ¬ β 11 = w.heap.size ∧ ¬ β 11 = w.heap.size + 1 ∧ ¬ w.heap.size = β 11 ∧ ¬ w.heap.size + 1 = β 11 ∧ w.heap.size ≤ β 11 := by omega
  clear hb1 hb2 zb zb2
  generalize β 11 = b at *
  obtain ⟨f2, g2, z2⟩ := k2.facts
  obtain ⟨f3, g3, z3⟩ := k3.facts
  obtain ⟨f4, g4, z4⟩ := k4.facts
  go_upto_region 4 with (fail)
  refine wp_abs2 (fun w3 => Blk w3 w.heap.size #[.string s, .int .i64 row, .int .i64 col, .bool x, .bool y, .bool false] ∧ Blk w3 (w.heap.size + 1) #[.string ⟨#[]⟩, .int .i64 0, .int .i64 0, .bool false, .bool false, .bool false] ∧ Blk w3 b #[.string ⟨#[]⟩, .int .i64 (pickI row 200), .int .i64 (pickI col 52), .bool x, .bool y, .bool false] ∧ Below w.heap.size w w3)
    ⟨by repeat' (first | with_reducible assumption | (with_reducible refine Blk.other ?_ ?_) | omega), by repeat' (first | with_reducible assumption | (with_reducible refine Blk.other ?_ ?_) | omega), (by apply Blk.eq; (repeat' (first | with_reducible assumption | with_reducible apply Blk.set)); rfl), (by repeat' (first | with_reducible assumption | with_reducible exact Below.refl _ _ | with_reducible refine allocB ?_ | with_reducible refine setB ?_ ?_ | with_reducible refine drewB ?_ | with_reducible refine after ?_ (by assumption) | (simp; omega) | omega))⟩ ?_
  clear f2 g2 z2 f3 g3 z3 f4 g4 z4 k2 k3 k4 hb0
  rintro w3 ⟨k2, k3, k4, hb0⟩
  obtain ⟨f2, g2, z2⟩ := k2.facts
  obtain ⟨f3, g3, z3⟩ := k3.facts
  obtain ⟨f4, g4, z4⟩ := k4.facts
  go_wp2_with fail
  refine (RefName_any s _ hs).mono ?_
  rintro e w4 ⟨t, ht, rfl, rfl⟩
  have Ht := Lib.hid ht; clear ht
  go_wp2
  exact bodyPost_ret (v := refV ⟨t, pickI row 200, pickI col 52, x, y, false⟩) (by simp [results, Tryz.results6, go_sem, refV, *]) rfl ⟨_, .inr ⟨_, .inr Ht.out, rfl⟩, rfl, (by repeat' (first | with_reducible assumption | with_reducible exact Below.refl _ _ | with_reducible refine allocB ?_ | with_reducible refine setB ?_ ?_ | with_reducible refine drewB ?_ | with_reducible refine after ?_ (by assumption) | (simp; omega) | omega))⟩

set_option maxRecDepth 100000 in
set_option maxHeartbeats 1000000 in
theorem RefOf_badbare (row col : Int) (x y : Bool) (w : World) (hr : Int64 row) (hc : Int64 col) (hp : (pickI row 4 == 0) = false) : Calls Tryz.prog 6 #[.agg #[.string ⟨#[]⟩, .int .i64 row, .int .i64 col, .bool x, .bool y, .bool true]] w (fun e w' => ∃ q, RefMade row col x y true q ∧ e = .returned (refV q) ∧ Below w.heap.size w w') := by
  go_enter Tryz.func6, Tryz.ntmps6
  go_wp2_with (go_at_call 7; refine (pick_any _ _ _ hr.1 hr.2 (by omega) (by omega)).mono ?_; rintro e w1 ⟨rfl, rfl⟩)
  refine wp_abs fun w1 hb1 => ?_
  obtain ⟨hc1, hf1⟩ := bcell hb1
  obtain ⟨z10, z11⟩ : w.heap.size < w1.heap.size ∧ w.heap.size + 1 < w1.heap.size := by have := hb1.size; simp at this; omega
  have kc := gcell w1
  refine region_made_tail 12 (by kernel_rfl) (by kernel_rfl) fun β => ?_
  simp only [List.take_succ_cons, List.take_zero, List.drop_succ_cons, List.drop_zero]
  repeat (refine wpM_step (fun K hK => ?_); go_simp; first | (refine hK _ ?_; clear hK K) | (apply Exists.intro; refine ⟨fun _ => ⟨by kernel_rfl, ?_⟩, hK _ ?_⟩; exact pick_ret _ _ (by assumption) (by omega) (by omega) _ _ (below_regrown _ _ _); clear hK K))
  refine wpM_make (fun b => .pointer (some ⟨b, 0, none⟩)) (.cells #[.string ⟨#[]⟩, .int .i64 0, .int .i64 0, .bool false, .bool false, .bool false] 23) rfl (fun W _ => by kernel_rfl) ?_
  refine wpM_nil ?_
  intro w2 ⟨hb2, hla, hap⟩
  obtain ⟨zb, hl2⟩ := hla 11 _ _ rfl
  have k0 : Blk w1 w.heap.size #[.string ⟨#[]⟩, .int .i64 row, .int .i64 col, .bool x, .bool y, .bool true] := (((Blk.new rfl).alloc).below hb1)
  have k1 : Blk w1 (w.heap.size + 1) #[.string ⟨#[]⟩, .int .i64 0, .int .i64 0, .bool false, .bool false, .bool false] := ((Blk.new (by simp)).below hb1)
  have k2 := k0.below hb2
  have k3 := k1.below hb2
  have k4 : Blk w2 (β 11) _ := ⟨_, hl2⟩
  have hb0 : Below w.heap.size w w2 := (by repeat' (first | with_reducible assumption | with_reducible exact Below.refl _ _ | with_reducible refine allocB ?_ | with_reducible refine setB ?_ ?_ | with_reducible refine drewB ?_ | with_reducible refine after ?_ (by assumption) | (simp; omega) | omega))
  clear hl2 hla hap kc hc1 hf1 k0 k1
  have zb2 : w1.heap.size ≤ β 11 := zb
  obtain ⟨y1, y2, y3, y4, y5⟩ : ¬ β 11 = w.heap.size ∧ ¬ β 11 = w.heap.size + 1 ∧ ¬ w.heap.size = β 11 ∧ ¬ w.heap.size + 1 = β 11 ∧ w.heap.size ≤ β 11 := by omega
  clear hb1 hb2 zb zb2
  generalize β 11 = b at *
  obtain ⟨f2, g2, z2⟩ := k2.facts
  obtain ⟨f3, g3, z3⟩ := k3.facts
  obtain ⟨f4, g4, z4⟩ := k4.facts
  go_upto_region 4 with (fail)
  refine wp_abs2 (fun w3 => Blk w3 w.heap.size #[.string ⟨#[]⟩, .int .i64 row, .int .i64 col, .bool x, .bool y, .bool true] ∧ Blk w3 (w.heap.size + 1) #[.string ⟨#[]⟩, .int .i64 0, .int .i64 0, .bool false, .bool false, .bool false] ∧ Blk w3 b #[.string ⟨#[]⟩, .int .i64 (pickI row 200), .int .i64 (pickI col 52), .bool x, .bool y, .bool false] ∧ Below w.heap.size w w3)
    ⟨by repeat' (first | with_reducible assumption | (with_reducible refine Blk.other ?_ ?_) | omega), by repeat' (first | with_reducible assumption | (with_reducible refine Blk.other ?_ ?_) | omega), (by apply Blk.eq; (repeat' (first | with_reducible assumption | with_reducible apply Blk.set)); rfl), (by repeat' (first | with_reducible assumption | with_reducible exact Below.refl _ _ | with_reducible refine allocB ?_ | with_reducible refine setB ?_ ?_ | with_reducible refine drewB ?_ | with_reducible refine after ?_ (by assumption) | (simp; omega) | omega))⟩ ?_
  clear f2 g2 z2 f3 g3 z3 f4 g4 z4 k2 k3 k4 hb0
  rintro w3 ⟨k2, k3, k4, hb0⟩
  obtain ⟨f2, g2, z2⟩ := k2.facts
  obtain ⟨f3, g3, z3⟩ := k3.facts
  obtain ⟨f4, g4, z4⟩ := k4.facts
  go_wp2
  exact bodyPost_ret (v := refV ⟨⟨#[]⟩, pickI row 200, pickI col 52, x, y, false⟩) (by simp [results, Tryz.results6, go_sem, refV, *]) rfl ⟨_, .inr ⟨_, .inl rfl, rfl⟩, rfl, (by repeat' (first | with_reducible assumption | with_reducible exact Below.refl _ _ | with_reducible refine allocB ?_ | with_reducible refine setB ?_ ?_ | with_reducible refine drewB ?_ | with_reducible refine after ?_ (by assumption) | (simp; omega) | omega))⟩

set_option maxRecDepth 100000 in
set_option maxHeartbeats 1000000 in
theorem RefOf_badnamed (s : ByteArray) (row col : Int) (x y : Bool) (w : World) (hr : Int64 row) (hc : Int64 col) (hs : s.size ≤ 9223372036854775807) (he : s.toList.isEmpty = false) (hp : (pickI row 4 == 0) = false) : Calls Tryz.prog 6 #[.agg #[.string s, .int .i64 row, .int .i64 col, .bool x, .bool y, .bool true]] w (fun e w' => ∃ q, RefMade row col x y true q ∧ e = .returned (refV q) ∧ Below w.heap.size w w') := by
  go_enter Tryz.func6, Tryz.ntmps6
  go_wp2_with (go_at_call 7; refine (pick_any _ _ _ hr.1 hr.2 (by omega) (by omega)).mono ?_; rintro e w1 ⟨rfl, rfl⟩)
  refine wp_abs fun w1 hb1 => ?_
  obtain ⟨hc1, hf1⟩ := bcell hb1
  obtain ⟨z10, z11⟩ : w.heap.size < w1.heap.size ∧ w.heap.size + 1 < w1.heap.size := by have := hb1.size; simp at this; omega
  have kc := gcell w1
  refine region_made_tail 12 (by kernel_rfl) (by kernel_rfl) fun β => ?_
  simp only [List.take_succ_cons, List.take_zero, List.drop_succ_cons, List.drop_zero]
  repeat (refine wpM_step (fun K hK => ?_); go_simp; first | (refine hK _ ?_; clear hK K) | (apply Exists.intro; refine ⟨fun _ => ⟨by kernel_rfl, ?_⟩, hK _ ?_⟩; exact pick_ret _ _ (by assumption) (by omega) (by omega) _ _ (below_regrown _ _ _); clear hK K))
  refine wpM_make (fun b => .pointer (some ⟨b, 0, none⟩)) (.cells #[.string ⟨#[]⟩, .int .i64 0, .int .i64 0, .bool false, .bool false, .bool false] 23) rfl (fun W _ => by kernel_rfl) ?_
  refine wpM_nil ?_
  intro w2 ⟨hb2, hla, hap⟩
  obtain ⟨zb, hl2⟩ := hla 11 _ _ rfl
  have k0 : Blk w1 w.heap.size #[.string s, .int .i64 row, .int .i64 col, .bool x, .bool y, .bool true] := (((Blk.new rfl).alloc).below hb1)
  have k1 : Blk w1 (w.heap.size + 1) #[.string ⟨#[]⟩, .int .i64 0, .int .i64 0, .bool false, .bool false, .bool false] := ((Blk.new (by simp)).below hb1)
  have k2 := k0.below hb2
  have k3 := k1.below hb2
  have k4 : Blk w2 (β 11) _ := ⟨_, hl2⟩
  have hb0 : Below w.heap.size w w2 := (by repeat' (first | with_reducible assumption | with_reducible exact Below.refl _ _ | with_reducible refine allocB ?_ | with_reducible refine setB ?_ ?_ | with_reducible refine drewB ?_ | with_reducible refine after ?_ (by assumption) | (simp; omega) | omega))
  clear hl2 hla hap kc hc1 hf1 k0 k1
  have zb2 : w1.heap.size ≤ β 11 := zb
  obtain ⟨y1, y2, y3, y4, y5⟩ : ¬ β 11 = w.heap.size ∧ ¬ β 11 = w.heap.size + 1 ∧ ¬ w.heap.size = β 11 ∧ ¬ w.heap.size + 1 = β 11 ∧ w.heap.size ≤ β 11 := by omega
  clear hb1 hb2 zb zb2
  generalize β 11 = b at *
  obtain ⟨f2, g2, z2⟩ := k2.facts
  obtain ⟨f3, g3, z3⟩ := k3.facts
  obtain ⟨f4, g4, z4⟩ := k4.facts
  go_upto_region 4 with (fail)
  refine wp_abs2 (fun w3 => Blk w3 w.heap.size #[.string s, .int .i64 row, .int .i64 col, .bool x, .bool y, .bool true] ∧ Blk w3 (w.heap.size + 1) #[.string ⟨#[]⟩, .int .i64 0, .int .i64 0, .bool false, .bool false, .bool false] ∧ Blk w3 b #[.string ⟨#[]⟩, .int .i64 (pickI row 200), .int .i64 (pickI col 52), .bool x, .bool y, .bool false] ∧ Below w.heap.size w w3)
    ⟨by repeat' (first | with_reducible assumption | (with_reducible refine Blk.other ?_ ?_) | omega), by repeat' (first | with_reducible assumption | (with_reducible refine Blk.other ?_ ?_) | omega), (by apply Blk.eq; (repeat' (first | with_reducible assumption | with_reducible apply Blk.set)); rfl), (by repeat' (first | with_reducible assumption | with_reducible exact Below.refl _ _ | with_reducible refine allocB ?_ | with_reducible refine setB ?_ ?_ | with_reducible refine drewB ?_ | with_reducible refine after ?_ (by assumption) | (simp; omega) | omega))⟩ ?_
  clear f2 g2 z2 f3 g3 z3 f4 g4 z4 k2 k3 k4 hb0
  rintro w3 ⟨k2, k3, k4, hb0⟩
  obtain ⟨f2, g2, z2⟩ := k2.facts
  obtain ⟨f3, g3, z3⟩ := k3.facts
  obtain ⟨f4, g4, z4⟩ := k4.facts
  go_wp2_with fail
  refine (RefName_any s _ hs).mono ?_
  rintro e w4 ⟨t, ht, rfl, rfl⟩
  have Ht := Lib.hid ht; clear ht
  go_wp2
  exact bodyPost_ret (v := refV ⟨t, pickI row 200, pickI col 52, x, y, false⟩) (by simp [results, Tryz.results6, go_sem, refV, *]) rfl ⟨_, .inr ⟨_, .inr Ht.out, rfl⟩, rfl, (by repeat' (first | with_reducible assumption | with_reducible exact Below.refl _ _ | with_reducible refine allocB ?_ | with_reducible refine setB ?_ ?_ | with_reducible refine drewB ?_ | with_reducible refine after ?_ (by assumption) | (simp; omega) | omega))⟩

theorem RefOf_any (r : RefD) (w : World) (hr : Int64 r.row) (hc : Int64 r.col) (hs : r.s.size ≤ 9223372036854775807) : Calls Tryz.prog 6 #[refV r] w (fun e w' => ∃ q, RefMade r.row r.col r.fr r.fc r.bad q ∧ e = .returned (refV q) ∧ Below w.heap.size w w') := by
  obtain ⟨s, row, col, x, y, bad⟩ := r
  by_cases he : s.toList.isEmpty = true
  · have e : s = ⟨#[]⟩ := by
      rw [ByteArray.toList_eq, List.isEmpty_iff] at he
      obtain ⟨⟨l⟩⟩ := s; exact congrArg (fun l => ByteArray.mk ⟨l⟩) he
    subst e
    cases bad
    · exact RefOf_bare row col x y w hr hc
    · by_cases hp : (pickI row 4 == 0) = true
      · exact RefOf_gone _ row col x y w hr hp
      · exact RefOf_badbare row col x y w hr hc (by simpa using hp)
  · rw [Bool.not_eq_true] at he
    cases bad
    · exact RefOf_named s row col x y w hr hc hs he
    · by_cases hp : (pickI row 4 == 0) = true
      · exact RefOf_gone _ row col x y w hr hp
      · exact RefOf_badnamed s row col x y w hr hc hs he (by simpa using hp)
theorem RefMade.right {row col : Int} {fr fc bad : Bool} {q : RefD} (h : RefMade row col fr fc bad q) : q.right = true := by
  rcases h with ⟨_, rfl⟩ | ⟨t, ht, rfl⟩
  · rfl
  · have h1 := pickI_range row 200 (by omega)
    have h2 := pickI_range col 52 (by omega)
    simp only [RefD.right, rightB, Bool.false_eq_true, if_false]
    rw [decide_eq_true (by omega), Bool.and_true]
    rcases ht with rfl | ht
    · rfl
    · rw [ht, Bool.or_true]
end Go.Proofs.YtmeiboajpbflcaaGreatDoor
