import Derived.OrdersHeld
import Derived.RegionTactic
import Derived.Deep.RegionHeld
import Derived.Below
import Derived.Test.YtlpgigdegnbkmaaGreatDoorM20
set_option maxRecDepth 100000
set_option maxHeartbeats 1000000
namespace Go.Proofs.YtlpgigdegnbkmaaGreatDoor
open Go.RowKit Tab Tryz
theorem ne_empty {t : ByteArray} (h : t.toList.isEmpty = false) : t ≠ ⟨#[]⟩ := by
 rintro rfl
 rw [ByteArray.toList_eq] at h
 cases h
theorem RefName_any (s : ByteArray) (w : World) (hm : s.size <= 9223372036854775807) : Calls prog 126 #[.string s] w (fun e w' => ∃ t : ByteArray, nameB t.data.toList = true /\ e = .returned (.string t) /\ w' = w) := by
 have cS : ∀ k, Calls prog 127 #[.string (s.extract k s.size)] w (Still (.int .i64 (signN (s.data.toList.drop k))) w) := fun k => by
  have := Sign_any (s.extract k s.size) w (by rw [ByteArray.size_extract]; omega)
  rwa [drop_ext] at this
 go_enter func126, ntmps126
 go_wp2
 go_loop [3, 4] (fun o i => ∃ (k : Nat) (t : ByteArray), k <= s.size /\ i = .int .i64 k /\ o = .string t /\ (t = ⟨#[]⟩ \/ nameB t.data.toList = true)) (fun _ i => s.size - (intOf i).toNat)
 case atStart => exact ⟨0, ⟨#[]⟩, by omega, rfl, rfl, .inl rfl⟩
 case round =>
  obtain ⟨k, t, hk, rfl, rfl, hI⟩ := hrel
  have HI := Lib.hid hI; clear hI
  by_cases hlt : k < s.size
  ·by_cases ht : t.size < 20
   ·have hl4 := sign_le4 (s.data.toList.drop k)
    have hle := sign_le (s.data.toList.drop k)
    rw [List.length_drop, ba_size] at hle
    have cS := cS k
    generalize signN (s.data.toList.drop k) = n at *
    obtain ⟨m, hm1, hm2, hm4, hm3⟩ : ∃ m : Nat, max (n : Int) 1 = m /\ 1 <= m /\ m <= 4 /\ k + m <= s.size := by
     by_cases h : n = 0
     ·exact ⟨1, by omega, by omega, by omega, by omega⟩
     ·exact ⟨n, by omega, by omega, by omega, by omega⟩
    have cN := IsSheet_any (t ++ s.extract k (k + m)) w (by rw [ByteArray.size_append, ByteArray.size_extract]; omega)
    by_cases hB : nameB (t ++ s.extract k (k + m)).data.toList = true
    ·rw [hB] at cN
     have HB := Lib.hid hB; clear hB
     go_wp2_with (go_at_call 127; refine cS.mono ?_; rintro e w1 ⟨rfl, rfl⟩)
     go_wp2_with (go_at_call 159; refine cN.mono ?_; rintro e w1 ⟨rfl, rfl⟩)
     go_round
     case rel => exact ⟨k + m, _, by omega, by go_num, rfl, .inr HB.out⟩
     case measure => simp [intOf]; omega
    ·rw [Bool.not_eq_true] at hB
     rw [hB] at cN
     clear hB
     go_wp2_with (go_at_call 127; refine cS.mono ?_; rintro e w1 ⟨rfl, rfl⟩)
     go_wp2_with (go_at_call 159; refine cN.mono ?_; rintro e w1 ⟨rfl, rfl⟩)
     go_round
     case rel => exact ⟨k + m, t, by omega, by go_num, rfl, HI.out⟩
     case measure => simp [intOf]; omega
   ·have e1 : decide ((t.size : Int) < 20) = false := dF (by omega)
    go_wp2
    ·go_ret; exact ⟨⟨#[83]⟩, by decide, rfl, rfl⟩
    ·go_ret; exact ⟨t, HI.out.resolve_left (ne_empty (by assumption)), rfl, rfl⟩
  ·have e1 : decide ((k : Int) < s.size) = false := dF (by omega)
   go_wp2
   ·go_ret; exact ⟨⟨#[83]⟩, by decide, rfl, rfl⟩
   ·go_ret; exact ⟨t, HI.out.resolve_left (ne_empty (by assumption)), rfl, rfl⟩
def RefMade (row col : Int) (fr fc bad : Bool) (q : RefD) : Prop :=
 (bad = true /\ q = ⟨⟨#[]⟩, 0, 0, false, false, true⟩) \/ ∃ t : ByteArray, (t = ⟨#[]⟩ \/ nameB t.data.toList = true) /\ q = ⟨t, pickI row 200, pickI col 52, fr, fc, false⟩
theorem RefOf_gone (s : ByteArray) (row col : Int) (x y : Bool) (w : World) (hr : Int64 row) (hp : (pickI row 4 == 0) = true) : Calls prog 81 #[.agg #[.string s, .int .i64 row, .int .i64 col, .bool x, .bool y, .bool true]] w (fun e w' => ∃ q, RefMade row col x y true q /\ e = .returned (refV q) /\ Below w.heap.size w w') := by
 go_enter func81, ntmps81
 go_wp2_with (go_at_call 125; refine (pick_any _ _ _ hr.1 hr.2 (by omega) (by omega)).mono ?_; rintro e w1 ⟨rfl, rfl⟩)
 exact bodyPost_ret (v := refV ⟨⟨#[]⟩, 0, 0, false, false, true⟩) (by simp [results, Tryz.results81, go_sem, refV, *]) rfl ⟨_, .inl ⟨rfl, rfl⟩, rfl, belx⟩
theorem RefOf_bare (row col : Int) (x y : Bool) (w : World) (hr : Int64 row) (hc : Int64 col) : Calls prog 81 #[.agg #[.string ⟨#[]⟩, .int .i64 row, .int .i64 col, .bool x, .bool y, .bool false]] w (fun e w' => ∃ q, RefMade row col x y false q /\ e = .returned (refV q) /\ Below w.heap.size w w') := by
 go_enter func81, ntmps81
 go_wp2
 refine wp_abs fun w1 hb1 => ?_
 obtain ⟨hc1, hf1⟩ := bcell hb1
 obtain ⟨z10, z11⟩ : w.heap.size < w1.heap.size /\ w.heap.size + 1 < w1.heap.size := by have := hb1.size; simp at this; omega
 have kc := gcell w1
 refine region_made_tail 12 (by kernel_rfl) (by kernel_rfl) fun β => ?_
 simp only [List.take_succ_cons, List.take_zero, List.drop_succ_cons, List.drop_zero]
 repeat (refine wpM_step (fun K hK => ?_); go_simp; first | (refine hK _ ?_; clear hK K) | (apply Exists.intro; refine ⟨fun _ => ⟨by kernel_rfl, ?_⟩, hK _ ?_⟩; exact pick_ret _ _ (by assumption) (by omega) (by omega) _ _ (below_regrown _ _ _); clear hK K))
 refine wpM_make (fun b => .pointer (some ⟨b, 0, none⟩)) (.cells #[.string ⟨#[]⟩, .int .i64 0, .int .i64 0, .bool false, .bool false, .bool false] 27) rfl (fun W _ => by kernel_rfl) ?_
 refine wpM_nil ?_
 intro w2 ⟨hb2, hla, hap⟩
 obtain ⟨zb, hl2⟩ := hla 11 _ _ rfl
 have k0 : Blk w1 w.heap.size #[.string ⟨#[]⟩, .int .i64 row, .int .i64 col, .bool x, .bool y, .bool false] := (((Blk.new rfl).alloc).below hb1)
 have k1 : Blk w1 (w.heap.size + 1) #[.string ⟨#[]⟩, .int .i64 0, .int .i64 0, .bool false, .bool false, .bool false] := ((Blk.new (by simp)).below hb1)
 have k2 := k0.below hb2
 have k3 := k1.below hb2
 have k4 : Blk w2 (β 11) _ := ⟨_, hl2⟩
 have hb0 : Below w.heap.size w w2 := belx
 clear hl2 hla hap kc hc1 hf1 k0 k1
 have zb2 : w1.heap.size <= β 11 := zb
 obtain ⟨y1, y2, y3, y4, y5⟩ : ¬ β 11 = w.heap.size /\ ¬ β 11 = w.heap.size + 1 /\ ¬ w.heap.size = β 11 /\ ¬ w.heap.size + 1 = β 11 /\ w.heap.size <= β 11 := by omega
 clear hb1 hb2 zb zb2
 generalize β 11 = b at *
 obtain ⟨f2, g2, z2⟩ := k2.facts
 obtain ⟨f3, g3, z3⟩ := k3.facts
 obtain ⟨f4, g4, z4⟩ := k4.facts
 go_upto_region 4 with (fail)
 refine wp_abs2 (fun w3 => Blk w3 w.heap.size #[.string ⟨#[]⟩, .int .i64 row, .int .i64 col, .bool x, .bool y, .bool false] /\ Blk w3 (w.heap.size + 1) #[.string ⟨#[]⟩, .int .i64 0, .int .i64 0, .bool false, .bool false, .bool false] /\ Blk w3 b #[.string ⟨#[]⟩, .int .i64 (pickI row 200), .int .i64 (pickI col 52), .bool x, .bool y, .bool false] /\ Below w.heap.size w w3)
  ⟨by repeat' (first | with_reducible assumption | (with_reducible refine Blk.other ?_ ?_) | omega), by repeat' (first | with_reducible assumption | (with_reducible refine Blk.other ?_ ?_) | omega), (by apply Blk.eq; (repeat' (first | with_reducible assumption | with_reducible apply Blk.set)); rfl), belx⟩ ?_
 clear f2 g2 z2 f3 g3 z3 f4 g4 z4 k2 k3 k4 hb0
 rintro w3 ⟨k2, k3, k4, hb0⟩
 obtain ⟨f2, g2, z2⟩ := k2.facts
 obtain ⟨f3, g3, z3⟩ := k3.facts
 obtain ⟨f4, g4, z4⟩ := k4.facts
 go_wp2
 exact bodyPost_ret (v := refV ⟨⟨#[]⟩, pickI row 200, pickI col 52, x, y, false⟩) (by simp [results, Tryz.results81, go_sem, refV, *]) rfl ⟨_, .inr ⟨_, .inl rfl, rfl⟩, rfl, belx⟩
theorem RefOf_named (s : ByteArray) (row col : Int) (x y : Bool) (w : World) (hr : Int64 row) (hc : Int64 col) (hs : s.size <= 9223372036854775807) (he : s.toList.isEmpty = false) : Calls prog 81 #[.agg #[.string s, .int .i64 row, .int .i64 col, .bool x, .bool y, .bool false]] w (fun e w' => ∃ q, RefMade row col x y false q /\ e = .returned (refV q) /\ Below w.heap.size w w') := by
 go_enter func81, ntmps81
 go_wp2
 refine wp_abs fun w1 hb1 => ?_
 obtain ⟨hc1, hf1⟩ := bcell hb1
 obtain ⟨z10, z11⟩ : w.heap.size < w1.heap.size /\ w.heap.size + 1 < w1.heap.size := by have := hb1.size; simp at this; omega
 have kc := gcell w1
 refine region_made_tail 12 (by kernel_rfl) (by kernel_rfl) fun β => ?_
 simp only [List.take_succ_cons, List.take_zero, List.drop_succ_cons, List.drop_zero]
 repeat (refine wpM_step (fun K hK => ?_); go_simp; first | (refine hK _ ?_; clear hK K) | (apply Exists.intro; refine ⟨fun _ => ⟨by kernel_rfl, ?_⟩, hK _ ?_⟩; exact pick_ret _ _ (by assumption) (by omega) (by omega) _ _ (below_regrown _ _ _); clear hK K))
 refine wpM_make (fun b => .pointer (some ⟨b, 0, none⟩)) (.cells #[.string ⟨#[]⟩, .int .i64 0, .int .i64 0, .bool false, .bool false, .bool false] 27) rfl (fun W _ => by kernel_rfl) ?_
 refine wpM_nil ?_
 intro w2 ⟨hb2, hla, hap⟩
 obtain ⟨zb, hl2⟩ := hla 11 _ _ rfl
 have k0 : Blk w1 w.heap.size #[.string s, .int .i64 row, .int .i64 col, .bool x, .bool y, .bool false] := (((Blk.new rfl).alloc).below hb1)
 have k1 : Blk w1 (w.heap.size + 1) #[.string ⟨#[]⟩, .int .i64 0, .int .i64 0, .bool false, .bool false, .bool false] := ((Blk.new (by simp)).below hb1)
 have k2 := k0.below hb2
 have k3 := k1.below hb2
 have k4 : Blk w2 (β 11) _ := ⟨_, hl2⟩
 have hb0 : Below w.heap.size w w2 := belx
 clear hl2 hla hap kc hc1 hf1 k0 k1
 have zb2 : w1.heap.size <= β 11 := zb
 obtain ⟨y1, y2, y3, y4, y5⟩ : ¬ β 11 = w.heap.size /\ ¬ β 11 = w.heap.size + 1 /\ ¬ w.heap.size = β 11 /\ ¬ w.heap.size + 1 = β 11 /\ w.heap.size <= β 11 := by omega
 clear hb1 hb2 zb zb2
 generalize β 11 = b at *
 obtain ⟨f2, g2, z2⟩ := k2.facts
 obtain ⟨f3, g3, z3⟩ := k3.facts
 obtain ⟨f4, g4, z4⟩ := k4.facts
 go_upto_region 4 with (fail)
 refine wp_abs2 (fun w3 => Blk w3 w.heap.size #[.string s, .int .i64 row, .int .i64 col, .bool x, .bool y, .bool false] /\ Blk w3 (w.heap.size + 1) #[.string ⟨#[]⟩, .int .i64 0, .int .i64 0, .bool false, .bool false, .bool false] /\ Blk w3 b #[.string ⟨#[]⟩, .int .i64 (pickI row 200), .int .i64 (pickI col 52), .bool x, .bool y, .bool false] /\ Below w.heap.size w w3)
  ⟨by repeat' (first | with_reducible assumption | (with_reducible refine Blk.other ?_ ?_) | omega), by repeat' (first | with_reducible assumption | (with_reducible refine Blk.other ?_ ?_) | omega), (by apply Blk.eq; (repeat' (first | with_reducible assumption | with_reducible apply Blk.set)); rfl), belx⟩ ?_
 clear f2 g2 z2 f3 g3 z3 f4 g4 z4 k2 k3 k4 hb0
 rintro w3 ⟨k2, k3, k4, hb0⟩
 obtain ⟨f2, g2, z2⟩ := k2.facts
 obtain ⟨f3, g3, z3⟩ := k3.facts
 obtain ⟨f4, g4, z4⟩ := k4.facts
 go_wp2_with fail
 refine (RefName_any s _ hs).mono ?_
 rintro e w4 ⟨t, ht, rfl, rfl⟩
 have Ht := Lib.hid ht; clear ht
 go_wp2
 exact bodyPost_ret (v := refV ⟨t, pickI row 200, pickI col 52, x, y, false⟩) (by simp [results, Tryz.results81, go_sem, refV, *]) rfl ⟨_, .inr ⟨_, .inr Ht.out, rfl⟩, rfl, belx⟩
theorem RefOf_badbare (row col : Int) (x y : Bool) (w : World) (hr : Int64 row) (hc : Int64 col) (hp : (pickI row 4 == 0) = false) : Calls prog 81 #[.agg #[.string ⟨#[]⟩, .int .i64 row, .int .i64 col, .bool x, .bool y, .bool true]] w (fun e w' => ∃ q, RefMade row col x y true q /\ e = .returned (refV q) /\ Below w.heap.size w w') := by
 go_enter func81, ntmps81
 go_wp2_with (go_at_call 125; refine (pick_any _ _ _ hr.1 hr.2 (by omega) (by omega)).mono ?_; rintro e w1 ⟨rfl, rfl⟩)
 refine wp_abs fun w1 hb1 => ?_
 obtain ⟨hc1, hf1⟩ := bcell hb1
 obtain ⟨z10, z11⟩ : w.heap.size < w1.heap.size /\ w.heap.size + 1 < w1.heap.size := by have := hb1.size; simp at this; omega
 have kc := gcell w1
 refine region_made_tail 12 (by kernel_rfl) (by kernel_rfl) fun β => ?_
 simp only [List.take_succ_cons, List.take_zero, List.drop_succ_cons, List.drop_zero]
 repeat (refine wpM_step (fun K hK => ?_); go_simp; first | (refine hK _ ?_; clear hK K) | (apply Exists.intro; refine ⟨fun _ => ⟨by kernel_rfl, ?_⟩, hK _ ?_⟩; exact pick_ret _ _ (by assumption) (by omega) (by omega) _ _ (below_regrown _ _ _); clear hK K))
 refine wpM_make (fun b => .pointer (some ⟨b, 0, none⟩)) (.cells #[.string ⟨#[]⟩, .int .i64 0, .int .i64 0, .bool false, .bool false, .bool false] 27) rfl (fun W _ => by kernel_rfl) ?_
 refine wpM_nil ?_
 intro w2 ⟨hb2, hla, hap⟩
 obtain ⟨zb, hl2⟩ := hla 11 _ _ rfl
 have k0 : Blk w1 w.heap.size #[.string ⟨#[]⟩, .int .i64 row, .int .i64 col, .bool x, .bool y, .bool true] := (((Blk.new rfl).alloc).below hb1)
 have k1 : Blk w1 (w.heap.size + 1) #[.string ⟨#[]⟩, .int .i64 0, .int .i64 0, .bool false, .bool false, .bool false] := ((Blk.new (by simp)).below hb1)
 have k2 := k0.below hb2
 have k3 := k1.below hb2
 have k4 : Blk w2 (β 11) _ := ⟨_, hl2⟩
 have hb0 : Below w.heap.size w w2 := belx
 clear hl2 hla hap kc hc1 hf1 k0 k1
 have zb2 : w1.heap.size <= β 11 := zb
 obtain ⟨y1, y2, y3, y4, y5⟩ : ¬ β 11 = w.heap.size /\ ¬ β 11 = w.heap.size + 1 /\ ¬ w.heap.size = β 11 /\ ¬ w.heap.size + 1 = β 11 /\ w.heap.size <= β 11 := by omega
 clear hb1 hb2 zb zb2
 generalize β 11 = b at *
 obtain ⟨f2, g2, z2⟩ := k2.facts
 obtain ⟨f3, g3, z3⟩ := k3.facts
 obtain ⟨f4, g4, z4⟩ := k4.facts
 go_upto_region 4 with (fail)
 refine wp_abs2 (fun w3 => Blk w3 w.heap.size #[.string ⟨#[]⟩, .int .i64 row, .int .i64 col, .bool x, .bool y, .bool true] /\ Blk w3 (w.heap.size + 1) #[.string ⟨#[]⟩, .int .i64 0, .int .i64 0, .bool false, .bool false, .bool false] /\ Blk w3 b #[.string ⟨#[]⟩, .int .i64 (pickI row 200), .int .i64 (pickI col 52), .bool x, .bool y, .bool false] /\ Below w.heap.size w w3)
  ⟨by repeat' (first | with_reducible assumption | (with_reducible refine Blk.other ?_ ?_) | omega), by repeat' (first | with_reducible assumption | (with_reducible refine Blk.other ?_ ?_) | omega), (by apply Blk.eq; (repeat' (first | with_reducible assumption | with_reducible apply Blk.set)); rfl), belx⟩ ?_
 clear f2 g2 z2 f3 g3 z3 f4 g4 z4 k2 k3 k4 hb0
 rintro w3 ⟨k2, k3, k4, hb0⟩
 obtain ⟨f2, g2, z2⟩ := k2.facts
 obtain ⟨f3, g3, z3⟩ := k3.facts
 obtain ⟨f4, g4, z4⟩ := k4.facts
 go_wp2
 exact bodyPost_ret (v := refV ⟨⟨#[]⟩, pickI row 200, pickI col 52, x, y, false⟩) (by simp [results, Tryz.results81, go_sem, refV, *]) rfl ⟨_, .inr ⟨_, .inl rfl, rfl⟩, rfl, belx⟩
theorem RefOf_badnamed (s : ByteArray) (row col : Int) (x y : Bool) (w : World) (hr : Int64 row) (hc : Int64 col) (hs : s.size <= 9223372036854775807) (he : s.toList.isEmpty = false) (hp : (pickI row 4 == 0) = false) : Calls prog 81 #[.agg #[.string s, .int .i64 row, .int .i64 col, .bool x, .bool y, .bool true]] w (fun e w' => ∃ q, RefMade row col x y true q /\ e = .returned (refV q) /\ Below w.heap.size w w') := by
 go_enter func81, ntmps81
 go_wp2_with (go_at_call 125; refine (pick_any _ _ _ hr.1 hr.2 (by omega) (by omega)).mono ?_; rintro e w1 ⟨rfl, rfl⟩)
 refine wp_abs fun w1 hb1 => ?_
 obtain ⟨hc1, hf1⟩ := bcell hb1
 obtain ⟨z10, z11⟩ : w.heap.size < w1.heap.size /\ w.heap.size + 1 < w1.heap.size := by have := hb1.size; simp at this; omega
 have kc := gcell w1
 refine region_made_tail 12 (by kernel_rfl) (by kernel_rfl) fun β => ?_
 simp only [List.take_succ_cons, List.take_zero, List.drop_succ_cons, List.drop_zero]
 repeat (refine wpM_step (fun K hK => ?_); go_simp; first | (refine hK _ ?_; clear hK K) | (apply Exists.intro; refine ⟨fun _ => ⟨by kernel_rfl, ?_⟩, hK _ ?_⟩; exact pick_ret _ _ (by assumption) (by omega) (by omega) _ _ (below_regrown _ _ _); clear hK K))
 refine wpM_make (fun b => .pointer (some ⟨b, 0, none⟩)) (.cells #[.string ⟨#[]⟩, .int .i64 0, .int .i64 0, .bool false, .bool false, .bool false] 27) rfl (fun W _ => by kernel_rfl) ?_
 refine wpM_nil ?_
 intro w2 ⟨hb2, hla, hap⟩
 obtain ⟨zb, hl2⟩ := hla 11 _ _ rfl
 have k0 : Blk w1 w.heap.size #[.string s, .int .i64 row, .int .i64 col, .bool x, .bool y, .bool true] := (((Blk.new rfl).alloc).below hb1)
 have k1 : Blk w1 (w.heap.size + 1) #[.string ⟨#[]⟩, .int .i64 0, .int .i64 0, .bool false, .bool false, .bool false] := ((Blk.new (by simp)).below hb1)
 have k2 := k0.below hb2
 have k3 := k1.below hb2
 have k4 : Blk w2 (β 11) _ := ⟨_, hl2⟩
 have hb0 : Below w.heap.size w w2 := belx
 clear hl2 hla hap kc hc1 hf1 k0 k1
 have zb2 : w1.heap.size <= β 11 := zb
 obtain ⟨y1, y2, y3, y4, y5⟩ : ¬ β 11 = w.heap.size /\ ¬ β 11 = w.heap.size + 1 /\ ¬ w.heap.size = β 11 /\ ¬ w.heap.size + 1 = β 11 /\ w.heap.size <= β 11 := by omega
 clear hb1 hb2 zb zb2
 generalize β 11 = b at *
 obtain ⟨f2, g2, z2⟩ := k2.facts
 obtain ⟨f3, g3, z3⟩ := k3.facts
 obtain ⟨f4, g4, z4⟩ := k4.facts
 go_upto_region 4 with (fail)
 refine wp_abs2 (fun w3 => Blk w3 w.heap.size #[.string s, .int .i64 row, .int .i64 col, .bool x, .bool y, .bool true] /\ Blk w3 (w.heap.size + 1) #[.string ⟨#[]⟩, .int .i64 0, .int .i64 0, .bool false, .bool false, .bool false] /\ Blk w3 b #[.string ⟨#[]⟩, .int .i64 (pickI row 200), .int .i64 (pickI col 52), .bool x, .bool y, .bool false] /\ Below w.heap.size w w3)
  ⟨by repeat' (first | with_reducible assumption | (with_reducible refine Blk.other ?_ ?_) | omega), by repeat' (first | with_reducible assumption | (with_reducible refine Blk.other ?_ ?_) | omega), (by apply Blk.eq; (repeat' (first | with_reducible assumption | with_reducible apply Blk.set)); rfl), belx⟩ ?_
 clear f2 g2 z2 f3 g3 z3 f4 g4 z4 k2 k3 k4 hb0
 rintro w3 ⟨k2, k3, k4, hb0⟩
 obtain ⟨f2, g2, z2⟩ := k2.facts
 obtain ⟨f3, g3, z3⟩ := k3.facts
 obtain ⟨f4, g4, z4⟩ := k4.facts
 go_wp2_with fail
 refine (RefName_any s _ hs).mono ?_
 rintro e w4 ⟨t, ht, rfl, rfl⟩
 have Ht := Lib.hid ht; clear ht
 go_wp2
 exact bodyPost_ret (v := refV ⟨t, pickI row 200, pickI col 52, x, y, false⟩) (by simp [results, Tryz.results81, go_sem, refV, *]) rfl ⟨_, .inr ⟨_, .inr Ht.out, rfl⟩, rfl, belx⟩
theorem RefOf_any (r : RefD) (w : World) (hr : Int64 r.row) (hc : Int64 r.col) (hs : r.s.size <= 9223372036854775807) : Calls prog 81 #[refV r] w (fun e w' => ∃ q, RefMade r.row r.col r.fr r.fc r.bad q /\ e = .returned (refV q) /\ Below w.heap.size w w') := by
 obtain ⟨s, row, col, x, y, bad⟩ := r
 by_cases he : s.toList.isEmpty = true
 ·have e : s = ⟨#[]⟩ := by
   rw [ByteArray.toList_eq, List.isEmpty_iff] at he
   obtain ⟨⟨l⟩⟩ := s; exact congrArg (fun l => ByteArray.mk ⟨l⟩) he
  subst e
  cases bad
  ·exact RefOf_bare row col x y w hr hc
  ·by_cases hp : (pickI row 4 == 0) = true
   ·exact RefOf_gone _ row col x y w hr hp
   ·exact RefOf_badbare row col x y w hr hc (by simpa using hp)
 ·rw [Bool.not_eq_true] at he
  cases bad
  ·exact RefOf_named s row col x y w hr hc hs he
  ·by_cases hp : (pickI row 4 == 0) = true
   ·exact RefOf_gone _ row col x y w hr hp
   ·exact RefOf_badnamed s row col x y w hr hc hs he (by simpa using hp)
theorem RefMade.right {row col : Int} {fr fc bad : Bool} {q : RefD} (h : RefMade row col fr fc bad q) : q.right = true := by
 rcases h with ⟨_, rfl⟩ | ⟨t, ht, rfl⟩
 ·rfl
 ·have h1 := pickI_range row 200 (by omega)
  have h2 := pickI_range col 52 (by omega)
  simp only [RefD.right, rightB, Bool.false_eq_true, if_false]
  rw [decide_eq_true (by omega), Bool.and_true]
  rcases ht with rfl | ht
  ·rfl
  ·rw [ht, Bool.or_true]
end Go.Proofs.YtlpgigdegnbkmaaGreatDoor
namespace Go
open Go.RowKit
section
variable {P : Program} {Q : Exit -> Act -> World -> Prop}
def unl (L : Array Bool) : Nat -> Nat
 | 0 => 0
 | k + 1 => unl L k + (if L.getD k true = true then 0 else 1)
theorem unl_far (L : Array Bool) (i : Nat) : ∀ k, k <= i -> unl (L.setIfInBounds i true) k = unl L k
 | 0, _ => rfl
 | k + 1, h => by
  unfold unl
  rw [unl_far L i k (by omega), getD_set_ne true (by omega)]
theorem getD_same (L : Array Bool) (i : Nat) : (L.setIfInBounds i true).getD i true = true := by
 by_cases h : i < L.size
 ·simp [h]
 ·simp [h]
theorem unl_set {L : Array Bool} {i : Nat} (hi : L.getD i true = false) : ∀ k, i < k -> unl (L.setIfInBounds i true) k + 1 = unl L k
 | 0, h => absurd h (by omega)
 | k + 1, h => by
  unfold unl
  by_cases e : i = k
  ·subst e
   rw [unl_far L i i (Nat.le_refl _), getD_same, hi]; simp
  ·have := unl_set hi k (by omega)
   rw [getD_set_ne true e]
   omega
theorem unl_zero {L : Array Bool} : ∀ k, unl L k = 0 -> ∀ j, j < k -> L.getD j true = true
 | 0, _, j, h => absurd h (by omega)
 | k + 1, h0, j, h => by
  unfold unl at h0
  by_cases e : j = k
  ·subst e
   by_cases h2 : L.getD j true = true
   ·exact h2
   ·rw [if_neg h2] at h0; omega
  ·exact unl_zero k (by omega) j (by omega)
theorem unl_least {L : Array Bool} : ∀ k, 0 < unl L k -> ∃ i, i < k /\ L.getD i true = false /\ ∀ j, j < i -> L.getD j true = true
 | 0, h => absurd h (by unfold unl; omega)
 | k + 1, h => by
  by_cases h0 : 0 < unl L k
  ·obtain ⟨i, h1, h2, h3⟩ := unl_least k h0
   exact ⟨i, by omega, h2, h3⟩
  ·refine ⟨k, by omega, ?_, fun j hj => unl_zero k (by omega) j hj⟩
   unfold unl at h
   by_cases h2 : L.getD k true = true
   ·rw [if_pos h2] at h; omega
   ·simpa using h2
def putAll (a : Act) (u : Nat -> Value) : Nat -> List Oper -> Act
 | _, [] => a
 | k, o :: r => putAll (a.put o.dst (u k)) u (k + 1) r
def dstB : List Oper -> Bool
 | [] => true
 | o :: r => (match o.dst with | some d => r.all fun p => p.dst != some d | none => false) && dstB r
theorem put_swap (a : Act) {d e : Tmp} (h : d ≠ e) (x y : Value) : (a.put (some d) x).put (some e) y = (a.put (some e) y).put (some d) x := by
 unfold Act.put
 simp only
 rw [Array.setIfInBounds_comm _ _ h]
theorem put_twice (a : Act) (d : Tmp) (x y : Value) : (a.put (some d) x).put (some d) y = a.put (some d) y := by
 unfold Act.put
 simp
theorem put_self (a : Act) (d : Tmp) : a.put (some d) (a.tmps.getD d undef) = a := by
 unfold Act.put
 simp only
 have : a.tmps.setIfInBounds d (a.tmps.getD d undef) = a.tmps := by
  apply Array.ext
  ·simp
  ·intro i h1 h2
   rw [Array.getElem_setIfInBounds (by simpa using h1)]
   split
   ·rename_i e; subst e; simp [h2]
   ·rfl
 rw [this]
theorem putAll_put {d : Tmp} (u : Nat -> Value) (v : Value) : ∀ (r : List Oper) (k : Nat) (a : Act), (r.all fun p => p.dst != some d) = true -> putAll (a.put (some d) v) u k r = (putAll a u k r).put (some d) v
 | [], _, _, _ => rfl
 | o :: r, k, a, h => by
  rw [List.all_cons, Bool.and_eq_true] at h
  unfold putAll
  rw [<- putAll_put u v r (k + 1) _ h.2]
  cases hd : o.dst with
  | none => rfl
  | some e =>
   have : d ≠ e := fun e2 => by have := h.1; rw [hd, e2] at this; simp at this
   rw [put_swap a this]
theorem putAll_congr {u u' : Nat -> Value} : ∀ (r : List Oper) (k : Nat) (a : Act), (∀ j, k <= j -> u j = u' j) -> putAll a u k r = putAll a u' k r
 | [], _, _, _ => rfl
 | o :: r, k, a, h => by
  unfold putAll
  rw [h k (Nat.le_refl _)]
  exact putAll_congr r (k + 1) _ fun j hj => h j (by omega)
theorem putAll_set (u : Nat -> Value) (v : Value) : ∀ (l : List Oper) (k i : Nat) (o : Oper) (a : Act), dstB l = true -> l[i]? = some o -> (putAll a u k l).put o.dst v = putAll a (fun j => if j = k + i then v else u j) k l
 | [], _, _, _, _, _, h => by simp at h
 | x :: r, k, 0, o, a, hd, h => by
  simp at h; subst h
  unfold dstB at hd
  rw [Bool.and_eq_true] at hd
  cases hx : x.dst with
  | none => rw [hx] at hd; cases hd.1
  | some d =>
   rw [hx] at hd
   unfold putAll
   rw [hx, <- putAll_put u v r (k + 1) _ hd.1, put_twice]
   simp only [Nat.add_zero, if_true]
   exact putAll_congr r (k + 1) _ fun j hj => by rw [if_neg (by omega)]
 | x :: r, k, i + 1, o, a, hd, h => by
  unfold dstB at hd
  rw [Bool.and_eq_true] at hd
  unfold putAll
  rw [putAll_set u v r (k + 1) i o _ hd.2 (by simpa using h), if_neg (by omega), show k + 1 + i = k + (i + 1) by omega]
theorem putAll_self (a : Act) (u : Nat -> Value) : ∀ (l : List Oper) (k : Nat), (∀ i o d, l[i]? = some o -> o.dst = some d -> u (k + i) = a.tmps.getD d undef) -> putAll a u k l = a
 | [], _, _ => rfl
 | o :: r, k, h => by
  unfold putAll
  have hr : a.put o.dst (u k) = a := by
   cases hd : o.dst with
   | none => rfl
   | some d => rw [show u k = _ from h 0 o d rfl hd]; exact put_self a d
  rw [hr]
  exact putAll_self a u r (k + 1) fun i o' d h1 h2 => by
   have := h (i + 1) o' d (by simpa using h1) h2
   rwa [show k + (i + 1) = k + 1 + i by omega] at this
def Typ (P : Program) (A : (Nat -> Value) -> Act) (φ : Nat -> Value -> World -> Prop) (S : World -> Prop) (Q : Exit -> Act -> World -> Prop) : Nat -> List Oper -> Prop
 | _, [] => True
 | k, o :: r => (∀ (u : Nat -> Value) (w : World), S w -> (∀ e ∈ o.after, Region.binds .any e = true -> φ e.on (u e.on) w) ->
   ∀ K : Act -> World -> Prop, Shut (∀ (v : Value) (a : Act) (w' : World), a = (A u).put o.dst v -> φ k v w' -> Below w.heap.size w w' -> K a w') -> o.wp P (A u) w K Q) /\ Typ P A φ S Q (k + 1) r
theorem Typ.get {A : (Nat -> Value) -> Act} {φ : Nat -> Value -> World -> Prop} {S : World -> Prop} : ∀ {l : List Oper} {k i : Nat} {o : Oper}, Typ P A φ S Q k l -> l[i]? = some o -> ∀ (u : Nat -> Value) (w : World), S w -> (∀ e ∈ o.after, Region.binds .any e = true -> φ e.on (u e.on) w) ->
   ∀ K : Act -> World -> Prop, Shut (∀ (v : Value) (a : Act) (w' : World), a = (A u).put o.dst v -> φ (k + i) v w' -> Below w.heap.size w w' -> K a w') -> o.wp P (A u) w K Q
 | [], _, _, _, _, h => by simp at h
 | x :: l, k, 0, o, ht, h => by simp at h; subst h; exact ht.1
 | x :: l, k, i + 1, o, ht, h => by
  have := ht.2.get (i := i) (by simpa using h)
  rwa [show k + 1 + i = k + (i + 1) by omega] at this
def headB (l : List Oper) (n : Nat) : Bool := ((List.range n).all fun i => match l[i]? with
 | some o => o.guard.isNone && o.after.toList.all fun e => decide (e.on < i)
 | none => false) && match l[n]? with
 | some o => (o.guard.isNone && o.after.toList.all fun e => decide (e.on < n)) && (List.range n).all fun j => o.after.toList.any fun e => e.on == j && Region.binds .any e
 | none => false
theorem wp_region_typed {id : Nat} {a : Act} {w : World} {l : List Oper} (n : Nat) (ox : Op) (dx : Option Tmp) (φ : Nat -> Value -> World -> Prop) (S : World -> Prop) (hm : P.follows .mixedOrders = true) (hl : l.length = n + 1) (hB : headB l n = true)
  (hp : dstB (l.take n) = true) (hlast : (l.drop n).map (fun o => (o.op, o.dst)) = [(ox, dx)]) (hφ : ∀ i v w w', φ i v w -> Below w.heap.size w w' -> φ i v w') (hS : ∀ w w', S w -> Below w.heap.size w w' -> S w') (hw : S w.drew) (hT : Typ P (fun u => putAll a u 0 (l.take n)) φ S Q 0 (l.take n))
  (hE : ∀ (u : Nat -> Value) (w : World), S w -> (∀ j, j < n -> φ j (u j) w) -> ∀ o : Oper, o.op = ox -> o.dst = dx -> ∀ K : Act -> World -> Prop, Shut (∀ a w, Q .normal a w -> K a w) -> o.wp P (putAll a u 0 (l.take n)) w K Q) : (Code.region id l.toArray true).wp P Q a w := by
 obtain ⟨u, hA⟩ : ∃ u, a = putAll a u 0 (l.take n) := ⟨fun k => match (l.take n)[k]? with | some o => (match o.dst with | some d => a.tmps.getD d undef | none => undef) | none => undef, (putAll_self a _ _ _ fun i o d h1 h2 => by simp only [Nat.zero_add]; rw [h1]; simp only [h2]).symm⟩
 obtain ⟨A, hAA⟩ : ∃ A : (Nat -> Value) -> Act, A = fun u => putAll a u 0 (l.take n) := ⟨_, rfl⟩
 have hAu : ∀ u, putAll a u 0 (l.take n) = A u := fun u => by rw [hAA]
 have hput : ∀ i o, (l.take n)[i]? = some o -> ∀ u v, (A u).put o.dst v = A fun j => if j = i then v else u j := fun i o h u v => by
  rw [<- hAu, <- hAu, putAll_set u v _ 0 i o a hp h, Nat.zero_add]
 rw [<- hAA] at hT
 rw [hAu] at hA
 simp only [hAu] at hE
 clear hAu hAA
 unfold headB at hB
 rw [Bool.and_eq_true, List.all_eq_true] at hB
 obtain ⟨hB1, hB2⟩ := hB
 have hln : n < l.length := by omega
 have hn : l[n]? = some l[n] := List.getElem?_eq_getElem hln
 have hdrop : l.drop n = [l[n]] := by rw [List.drop_eq_getElem_cons hln, List.drop_eq_nil_of_le (by omega)]
 rw [hdrop] at hlast
 have hlast2 : l[n].op = ox /\ l[n].dst = dx := by simpa using hlast
 rw [hn] at hB2
 simp only [Bool.and_eq_true, List.all_eq_true, List.mem_range] at hB2
 have hhead : ∀ i, i < n -> ∃ o, l[i]? = some o /\ o.guard = none /\ ∀ e ∈ o.after, e.on < i := fun i hi => by
  have h1 := hB1 i (List.mem_range.2 hi)
  have h2 : l[i]? = some l[i] := List.getElem?_eq_getElem (by omega)
  rw [h2] at h1
  simp only [Bool.and_eq_true] at h1
  refine ⟨_, h2, by simpa using h1.1, fun e he => ?_⟩
  have h3 := h1.2
  rw [List.all_eq_true] at h3
  simpa using h3 e (by simpa using he)
 have htake : ∀ i, i < n -> ∀ o, l[i]? = some o -> (l.take n)[i]? = some o := fun i hi o h => by rw [List.getElem?_take, if_pos hi]; exact h
 have want : ∀ (o : Oper) (x : _), o.guard = none -> Region.wanted o x = true := fun o x h => by simp [Region.wanted, h]
 rw [hA]
 refine wp_region_any hm ?_
 have main : ∀ (f : Nat) (L : Array Bool) (u : Nat -> Value) (w : World), L.size = n + 1 -> L.getD n true = false -> S w -> (∀ j, j < n -> L.getD j true = true -> φ j (u j) w) -> unl L n + 1 <= f -> wpAny P .any l.toArray Q f L (A u) w := by
  intro f
  induction f with
  | zero => intro L u w _ _ _ _ h; omega
  | succ f ih =>
   intro L u w hsz hnL hs hj hf
   have hnot : 0 < unl L n -> n ∉ Region.ready .any l.toArray L := fun h0 hr => by
    obtain ⟨i, h1, h2, _⟩ := unl_least n h0
    obtain ⟨_, o, ho, hall⟩ := mem_ready.1 hr
    have : o = l[n] := by
     rw [List.getElem?_toArray, hn] at ho; injection ho with ho; exact ho.symm
    subst this
    have h3 := hB2.2 i h1
    rw [List.any_eq_true] at h3
    obtain ⟨e, he, h4⟩ := h3
    rw [Bool.and_eq_true, beq_iff_eq] at h4
    have h5 := hall e (by simpa using he) h4.2
    rw [h4.1] at h5
    have h6 : i < L.size := by omega
    simp [h6] at h2 h5
    rw [h2] at h5; cases h5
   have hlt : ∀ i, i ∈ Region.ready .any l.toArray L -> i < n + 1 := fun i hi => by
    obtain ⟨h1, _⟩ := mem_ready.1 hi
    rcases Nat.lt_or_ge i (n + 1) with h | h
    ·exact h
    ·simp [Array.getElem?_eq_none (show L.size <= i by omega)] at h1
   refine ⟨fun h0 => ?_, fun i hi => ?_⟩
   ·exfalso
    by_cases hz : 0 < unl L n
    ·obtain ⟨i, h1, h2, h3⟩ := unl_least n hz
     obtain ⟨o, ho, _, hb⟩ := hhead i h1
     have : i ∈ Region.ready .any l.toArray L := mem_ready.2 ⟨h2, o, by rw [List.getElem?_toArray]; exact ho, fun e he _ => by
      have h4 := hb e he
      have h5 := h3 e.on h4
      have h6 : e.on < L.size := by omega
      simp [h6] at h5 ⊢; exact h5⟩
     rw [h0] at this; cases this
    ·have h3 := unl_zero (L := L) n (by omega)
     have : n ∈ Region.ready .any l.toArray L := mem_ready.2 ⟨hnL, l[n], by rw [List.getElem?_toArray]; exact hn, fun e he hb => by
      have h4 := hB2.1.2 e (by simpa using he)
      have h5 := h3 e.on (by simpa using h4)
      have h6 : e.on < L.size := by have := of_decide_eq_true h4; omega
      simp [h6] at h5 ⊢; exact h5⟩
     rw [h0] at this; cases this
   ·rcases Nat.lt_or_ge i n with hin | hin
    ·obtain ⟨o, ho, hg, hb⟩ := hhead i hin
     obtain ⟨hu, o', ho', hall⟩ := mem_ready.1 hi
     have : o' = o := by rw [List.getElem?_toArray, ho] at ho'; injection ho' with ho'; exact ho'.symm
     subst this
     refine wpOp_step ho' (fun K' hK => ?_)
     rw [if_pos (want _ _ hg)]
     refine hT.get (htake i hin _ ho) u w hs (fun e he hbd => ?_) K' (fun v a' w' ha hv hbw => hK _ _ ?_)
     ·have h4 := hb e he
      have h5 := hall e he hbd
      refine hj e.on (by omega) ?_
      have h6 : e.on < L.size := by omega
      simp [h6] at h5 ⊢; exact h5
     ·rw [ha, hput i _ (htake i hin _ ho)]
      simp only [Nat.zero_add] at hv ⊢
      refine ih _ _ _ (by simp [hsz]) ?_ (hS _ _ hs hbw) (fun j hjn hjl => ?_) ?_
      ·rw [getD_set_ne true (by omega)]; exact hnL
      ·by_cases e : j = i
       ·rw [if_pos e, e]; exact hv
       ·rw [if_neg e]
        rw [getD_set_ne true (fun h => e h.symm)] at hjl
        exact hφ _ _ _ _ (hj j hjn hjl) hbw
      ·have := unl_set hu n hin; omega
    ·have e : i = n := by have := hlt i hi; omega
     subst e
     have hz : ¬ 0 < unl L i := fun h => hnot h hi
     have h3 := unl_zero (L := L) i (by omega)
     refine wpOp_step (by rw [List.getElem?_toArray]; exact hn) (fun K' hK => ?_)
     rw [if_pos (want _ _ (by simpa using hB2.1.1))]
     refine hE u w hs (fun j h => hj j h (h3 j h)) _ hlast2.1 hlast2.2 K' (fun a' w' hq => hK _ _ ?_)
     have hr : Region.ready .any l.toArray (L.setIfInBounds i true) = [] := by
      rcases hrr : Region.ready .any l.toArray (L.setIfInBounds i true) with _ | ⟨x, xs⟩
      ·rfl
      ·exfalso
       have hx : x ∈ Region.ready .any l.toArray (L.setIfInBounds i true) := by rw [hrr]; exact List.mem_cons_self ..
       obtain ⟨h1, _⟩ := mem_ready.1 hx
       rcases Nat.lt_trichotomy x i with h | h | h
       ·rw [getD_set_ne true (by omega), h3 x h] at h1; cases h1
       ·subst h; rw [getD_same] at h1; cases h1
       ·simp [Array.getElem?_eq_none (show (L.setIfInBounds i true).size <= x by simp; omega)] at h1
     cases f with
     | zero => exact ⟨hr, hq⟩
     | succ f => exact ⟨fun _ => hq, by rw [hr]; simp⟩
 have hrep : ∀ j, j < n + 1 -> (Array.replicate l.toArray.size false).getD j true = false := fun j hj => by
  simp [hl, hj]
 refine main _ _ u _ (by simp [hl]) (hrep n (by omega)) hw (fun j hj h => by rw [hrep j (by omega)] at h; cases h) ?_
 have hub : ∀ (L : Array Bool) k, unl L k <= k := fun L k => by
  induction k with
  | zero => exact Nat.le_refl _
  | succ k ih => unfold unl; split <;> omega
 have := hub (Array.replicate l.toArray.size false) n
 simp only [List.size_toArray, hl] at this ⊢
 omega
end
end Go
namespace Tab
def namesT : List Bs := [[120], [121], [114, 97, 116, 101], [116, 97, 120, 95, 49], [102], [84, 111, 116, 97, 108, 46, 65], [], [121, 44, 102], [83, 85, 77], [73, 70], [70], [77, 65, 88], [76, 79, 71, 49, 48], [65, 49], [78, 79, 87]]
def Tabled : Nat -> NodeD -> Prop
 | 0, _ => True
 | f + 1, n => (n.kind = 7 \/ n.kind = 12 \/ n.kind = 14 \/ n.kind = 16 -> n.text ∈ namesT) /\ ∀ k ∈ n.kids, Tabled f k
def Nice (c : Nat) (n : NodeD) : Prop := ∀ f, cntN f n <= c /\ Tabled f n
theorem Nice.mono {c d : Nat} {n : NodeD} (h : Nice c n) (hd : c <= d) : Nice d n := fun f => ⟨Nat.le_trans (h f).1 hd, (h f).2⟩
theorem sum_le {α : Type} (g : α -> Nat) (c : Nat) : ∀ l : List α, (∀ x ∈ l, g x <= c) -> (l.map g).sum <= l.length * c
 | [], _ => Nat.zero_le _
 | x :: l, h => by
  rw [List.map_cons, List.sum_cons, List.length_cons, Nat.add_mul, Nat.one_mul]
  have h1 := h x (List.mem_cons_self ..)
  have h2 := sum_le g c l fun y hy => h y (List.mem_cons_of_mem _ hy)
  omega
theorem nice_of {n : NodeD} {c : Nat} (ht : n.kind = 7 \/ n.kind = 12 \/ n.kind = 14 \/ n.kind = 16 -> n.text ∈ namesT) (hk : ∀ f, (n.kids.map (cntN f)).sum <= c) (hn : ∀ k ∈ n.kids, ∃ d, Nice d k) : Nice (c + 1) n := fun f => by
 cases f with
 | zero => exact ⟨Nat.zero_le _, trivial⟩
 | succ f =>
  refine ⟨?_, ht, fun k hx => ?_⟩
  ·rw [cntN]; have := hk f; omega
  ·obtain ⟨d, h⟩ := hn k hx; exact (h f).2
theorem nice_leaf {n : NodeD} (ht : n.kind = 7 \/ n.kind = 12 \/ n.kind = 14 \/ n.kind = 16 -> n.text ∈ namesT) (hk : n.kids = []) : Nice 1 n :=
 nice_of (c := 0) ht (fun f => by rw [hk]; exact Nat.le_refl _) (fun k h => by rw [hk] at h; cases h)
end Tab
namespace Go.Proofs.YtlpgigdegnbkmaaGreatDoor
open Go.RowKit Tab Tryz
def NodeQ (Q : Nat -> Prop) : Nat -> World -> List Value -> NodeD -> Prop
 | 0, _, _, _ => False
 | f + 1, w, cs, n => ∃ a c, cs = nodeC n (.slice a n.kids.length c) /\ n.kids.length <= c /\ NodeSm n /\ (∀ p : Addr, a = some p -> Q p.block /\ p.block < w.heap.size) /\ KidsAt (NodeQ Q f w) w a n.kids
def KidsQ (Q : Nat -> Prop) (f : Nat) (w : World) (a : Option Addr) (L : List NodeD) : Prop := (∀ p : Addr, a = some p -> Q p.block /\ p.block < w.heap.size) /\ KidsAt (NodeQ Q f w) w a L
theorem kidsAt_imp {R S : List Value -> NodeD -> Prop} {w : World} {a : Option Addr} {L : List NodeD} (h : KidsAt R w a L) (hi : ∀ cs k, R cs k -> S cs k) : KidsAt S w a L := h.imp id fun ⟨b, o, e1, e2, e3⟩ => ⟨b, o, e1, e2, fun i k hk => by
 obtain ⟨cs, r1, r2⟩ := e3 i k hk
 exact ⟨cs, r1, hi _ _ r2⟩⟩
theorem NodeQ.len {Q : Nat -> Prop} {f : Nat} {w : World} {cs : List Value} {n : NodeD} (h : NodeQ Q f w cs n) : cs.length = 20 := by
 cases f with
 | zero => exact h.elim
 | succ f => obtain ⟨a, c, rfl, _⟩ := h; rfl
theorem NodeQ.at {Q : Nat -> Prop} {w : World} : ∀ {f : Nat} {cs : List Value} {n : NodeD}, NodeQ Q f w cs n -> NodeAt f w cs n
 | 0, _, _, h => h.elim
 | _ + 1, _, _, ⟨a, c, h1, h2, h3, _, h5⟩ => ⟨a, c, h1, h2, h3, kidsAt_imp h5 fun _ _ h => h.at⟩
theorem NodeQ.mono {Q S : Nat -> Prop} {w : World} (hq : ∀ b, b < w.heap.size -> Q b -> S b) : ∀ {f : Nat} {cs : List Value} {n : NodeD}, NodeQ Q f w cs n -> NodeQ S f w cs n
 | 0, _, _, h => h.elim
 | _ + 1, _, _, ⟨a, c, h1, h2, h3, h4, h5⟩ => ⟨a, c, h1, h2, h3, fun p hp => ⟨hq _ (h4 p hp).2 (h4 p hp).1, (h4 p hp).2⟩, kidsAt_imp h5 fun _ _ h => h.mono hq⟩
theorem NodeQ.deep {Q : Nat -> Prop} {w : World} : ∀ {f g : Nat} {cs : List Value} {n : NodeD}, f <= g -> NodeQ Q f w cs n -> NodeQ Q g w cs n
 | 0, _, _, _, _, h => h.elim
 | f + 1, 0, _, _, hg, _ => absurd hg (by omega)
 | f + 1, g + 1, _, _, hg, ⟨a, c, h1, h2, h3, h4, h5⟩ => ⟨a, c, h1, h2, h3, h4, kidsAt_imp h5 fun _ _ h => h.deep (by omega)⟩
theorem NodeQ.kept {Q : Nat -> Prop} {w W : World} (hs : w.heap.size <= W.heap.size) (hk : ∀ b, b < w.heap.size -> Q b -> W.heap[b]? = w.heap[b]?) : ∀ {f : Nat} {cs : List Value} {n : NodeD}, NodeQ Q f w cs n -> NodeQ Q f W cs n
 | 0, _, _, h => h.elim
 | _ + 1, _, _, ⟨a, c, h1, h2, h3, h4, h5⟩ => by
  refine ⟨a, c, h1, h2, h3, fun p hp => ⟨(h4 p hp).1, Nat.lt_of_lt_of_le (h4 p hp).2 hs⟩, h5.imp id ?_⟩
  rintro ⟨b, o, e1, e2, e3⟩
  have hb := hk b e2 (h4 _ e1).1
  refine ⟨b, o, e1, Nat.lt_of_lt_of_le e2 hs, fun i k hi => ?_⟩
  obtain ⟨cs', r1, r2⟩ := e3 i k hi
  refine ⟨cs', fun j v hj => ?_, r2.kept hs hk⟩
  rw [<- r1 j v hj]
  unfold World.cell?
  rw [hb]
theorem NodeQ.below {Q : Nat -> Prop} {w W : World} {f : Nat} {cs : List Value} {n : NodeD} (h : NodeQ Q f w cs n) (hb : Below w.heap.size w W) : NodeQ Q f W cs n := h.kept hb.size fun b h _ => hb.block b h
theorem KidsQ.kept {Q : Nat -> Prop} {w W : World} {f : Nat} {a : Option Addr} {L : List NodeD} (h : KidsQ Q f w a L) (hs : w.heap.size <= W.heap.size) (hk : ∀ b, b < w.heap.size -> Q b -> W.heap[b]? = w.heap[b]?) : KidsQ Q f W a L := by
 obtain ⟨h4, h5⟩ := h
 refine ⟨fun p hp => ⟨(h4 p hp).1, Nat.lt_of_lt_of_le (h4 p hp).2 hs⟩, h5.imp id ?_⟩
 rintro ⟨b, o, e1, e2, e3⟩
 have hb := hk b e2 (h4 _ e1).1
 refine ⟨b, o, e1, Nat.lt_of_lt_of_le e2 hs, fun i k hi => ?_⟩
 obtain ⟨cs', r1, r2⟩ := e3 i k hi
 refine ⟨cs', fun j v hj => ?_, r2.kept hs hk⟩
 rw [<- r1 j v hj]
 unfold World.cell?
 rw [hb]
theorem KidsQ.below {Q : Nat -> Prop} {w W : World} {f : Nat} {a : Option Addr} {L : List NodeD} (h : KidsQ Q f w a L) (hb : Below w.heap.size w W) : KidsQ Q f W a L := h.kept hb.size fun b h _ => hb.block b h
theorem KidsQ.take {Q : Nat -> Prop} {w : World} {f : Nat} {a : Option Addr} {L : List NodeD} (h : KidsQ Q f w a L) (m : Nat) : KidsQ Q f w a (L.take m) := by
 obtain ⟨h4, h5⟩ := h
 refine ⟨h4, ?_⟩
 rcases h5 with rfl | ⟨b, o, e1, e2, e3⟩
 ·exact .inl (by simp)
 ·exact .inr ⟨b, o, e1, e2, fun i k hi => e3 i k (by rw [List.getElem?_take] at hi; split at hi; exact hi; cases hi)⟩
theorem node_q {Q : Nat -> Prop} {f : Nat} {w : World} {a : Option Addr} {c : Nat} {n : NodeD} (hs : NodeSm n) (h : KidsQ Q f w a n.kids) (hc : n.kids.length <= c) : NodeQ Q (f + 1) w (nodeC n (.slice a n.kids.length c)) n := ⟨a, c, rfl, hc, hs, h.1, h.2⟩
theorem node_leafQ {Q : Nat -> Prop} {f : Nat} {w : World} {n : NodeD} (hk : n.kids = []) (hs : NodeSm n) : NodeQ Q (f + 1) w (nodeC n (.slice none 0 0)) n := ⟨none, 0, by rw [hk]; rfl, by rw [hk]; exact Nat.le_refl _, hs, fun p hp => (by cases hp), .inl hk⟩
def Rows (B f : Nat) (w : World) (v : Value) (css : List (List Value)) (L : List NodeD) : Prop := w.ownsRow B 30 20 v L.length css.flatten /\ css.length = L.length /\ ∀ (i : Nat) (cs : List Value) (k : NodeD), css[i]? = some cs -> L[i]? = some k -> NodeQ (fun b => B <= b /\ v.ownBlock ≠ some b) f w cs k
theorem list_choose {α β : Type} (R : Nat -> α -> β -> Prop) : ∀ (L : List α) (n : Nat), (∀ i k, L[i]? = some k -> ∃ c, R (n + i) k c) -> ∃ css : List β, css.length = L.length /\ ∀ i c k, css[i]? = some c -> L[i]? = some k -> R (n + i) k c
 | [], _, _ => ⟨[], rfl, fun i c k h => by simp at h⟩
 | x :: L, n, h => by
  obtain ⟨c, hc⟩ := h 0 x rfl
  obtain ⟨css, hl, hs⟩ := list_choose R L (n + 1) (fun i k hi => by
   have := h (i + 1) k (by simpa using hi)
   rwa [show n + (i + 1) = n + 1 + i by omega] at this)
  refine ⟨c :: css, by simp [hl], fun i d k h1 h2 => ?_⟩
  cases i with
  | zero => simp at h1 h2; subst h1 h2; exact hc
  | succ i =>
   have := hs i d k (by simpa using h1) (by simpa using h2)
   rwa [show n + 1 + i = n + (i + 1) by omega] at this
theorem flat_len : ∀ css : List (List Value), (∀ x ∈ css, x.length = 20) -> css.flatten.length = css.length * 20
 | [], _ => rfl
 | x :: css, h => by
  have h1 := h x (List.mem_cons_self ..)
  have h2 := flat_len css fun y hy => h y (List.mem_cons_of_mem _ hy)
  rw [List.flatten_cons, List.length_append, List.length_cons]
  omega
theorem own_kidsQ {Q : Nat -> Prop} {B f : Nat} {w : World} {v : Value} {css : List (List Value)} {L : List NodeD} (h1 : w.ownsRow B 30 20 v L.length css.flatten) (hl : css.length = L.length) (hQ : ∀ b, B <= b -> Q b) (hn : ∀ (i : Nat) (cs : List Value) (k : NodeD), css[i]? = some cs -> L[i]? = some k -> NodeQ Q f w cs k) : ∃ a c, v = .slice a L.length c /\ L.length <= c /\ KidsQ Q f w a L := by
 rcases h1.2 with ⟨rfl, h0⟩ | ⟨g, cap, cur, rfl, h2, h3, h4, h5, h6, h7⟩
 ·rw [h0]; exact ⟨none, 0, rfl, Nat.le_refl _, fun p hp => (by cases hp), .inl (List.length_eq_zero_iff.1 h0)⟩
 ·refine ⟨_, cap, rfl, h4, fun p hp => ?_, ?_⟩
  ·injection hp with hp; subst hp; exact ⟨hQ _ h2, heap_in h3⟩
  ·have hlen : ∀ x ∈ css, x.length = 20 := fun x hx => by
    obtain ⟨i, hi⟩ := List.mem_iff_getElem?.1 hx
    have hi2 := (List.getElem?_eq_some_iff.1 hi).1
    exact (hn i x _ hi (List.getElem?_eq_getElem (by omega))).len
   refine .inr ⟨g, 0, rfl, heap_in h3, fun i k hi => ?_⟩
   have hi2 := (List.getElem?_eq_some_iff.1 hi).1
   have hcs : css[i]? = some css[i] := List.getElem?_eq_getElem (by omega)
   refine ⟨css[i], fun j v hv => ?_, hn i _ k hcs hi⟩
   have hl20 := hlen css[i] (List.mem_of_getElem? hcs)
   have hj : j < 20 := by have := (List.getElem?_eq_some_iff.1 hv).1; omega
   have hfl := flat_at css i j css[i] hlen hcs hj
   rw [hv, <- h7] at hfl
   have h8 : cur.toList[i * 20 + j]? = some v := by rw [List.getElem?_take] at hfl; split at hfl; exact hfl; cases hfl
   rw [Array.getElem?_toList] at h8
   unfold World.cell?
   rw [h3, Nat.zero_add]
   show (if (⟨g, i * 20 + j, none⟩ : Addr).spot.isSome = true then none else cur[i * 20 + j]?) = some v
   rw [h8]; rfl
theorem Rows.kids {B f : Nat} {w : World} {v : Value} {css : List (List Value)} {L : List NodeD} (h : Rows B f w v css L) : ∃ a c, v = .slice a L.length c /\ L.length <= c /\ KidsQ (fun b => B <= b) f w a L :=
 own_kidsQ h.1 h.2.1 (fun _ h => h) fun i cs k h1 h2 => (h.2.2 i cs k h1 h2).mono fun _ _ h => h.1
theorem KidsQ.cells {Q : Nat -> Prop} {f : Nat} {w : World} {a : Option Addr} {L : List NodeD} (h : KidsQ Q f w a L) (h0 : L ≠ []) : ∃ (ad : Addr) (css : List (List Value)), a = some ad /\ (∀ j, (ad.add j).block = ad.block) /\ css.length = L.length /\ css.flatten.length = L.length * 20 /\ (∀ j u, css.flatten[j]? = some u -> w.cell? (ad.add j) = some u) /\ (∀ u ∈ css.flatten, u.oneCell' = true) /\ ∀ (i : Nat) (cs : List Value) (k : NodeD), css[i]? = some cs -> L[i]? = some k -> NodeQ Q f w cs k := by
 obtain ⟨h4, h5⟩ := h
 rcases h5 with h5 | ⟨b, o, e1, e2, e3⟩
 ·exact absurd h5 h0
 obtain ⟨css, hl, hc⟩ := list_choose (fun i k cs => w.rangeAt b (o + i * 20) cs /\ NodeQ Q f w cs k) L 0 (fun i k hi => by rw [Nat.zero_add]; exact e3 i k hi)
 simp only [Nat.zero_add] at hc
 have hn : ∀ (i : Nat) (cs : List Value), css[i]? = some cs -> ∃ k, w.rangeAt b (o + i * 20) cs /\ NodeQ Q f w cs k := fun i cs hi => by
  have hi2 := (List.getElem?_eq_some_iff.1 hi).1
  exact ⟨_, hc i cs _ hi (List.getElem?_eq_getElem (by omega))⟩
 have hlen : ∀ x ∈ css, x.length = 20 := fun x hx => by
  obtain ⟨i, hi⟩ := List.mem_iff_getElem?.1 hx
  obtain ⟨k, _, h⟩ := hn i x hi
  exact h.len
 have hfl := flat_len css hlen
 refine ⟨⟨b, o, none⟩, css, e1, fun j => by rw [Addr.add_mid], hl, by rw [hfl, hl], fun j u hj => ?_, fun u hu => ?_, fun i cs k h1 h2 => (hc i cs k h1 h2).2⟩
 ·have hj2 := (List.getElem?_eq_some_iff.1 hj).1
  have hi : j / 20 < css.length := by omega
  have h3 := flat_at css (j / 20) (j % 20) _ hlen (List.getElem?_eq_getElem hi) (Nat.mod_lt _ (by decide))
  rw [show j / 20 * 20 + j % 20 = j by omega, hj] at h3
  obtain ⟨k, h4, _⟩ := hn (j / 20) _ (List.getElem?_eq_getElem hi)
  have h5 := h4 (j % 20) u h3.symm
  rw [show o + j / 20 * 20 + j % 20 = o + j by omega] at h5
  rw [Addr.add_mid]; exact h5
 ·obtain ⟨x, hx, hux⟩ := List.mem_flatten.1 hu
  obtain ⟨i, hi⟩ := List.mem_iff_getElem?.1 hx
  obtain ⟨k, _, h⟩ := hn i x hi
  cases f with
  | zero => exact h.elim
  | succ f => obtain ⟨a, c, rfl, _⟩ := h; exact nodeC_each _ _ _ _ u hux
theorem Rows.nil (B f : Nat) (w : World) : Rows B f w (.slice none 0 0) [] [] := ⟨⟨rfl, .inl ⟨rfl, rfl⟩⟩, rfl, fun i cs k h => by simp at h⟩
theorem Rows.below {B f : Nat} {w W : World} {v : Value} {css : List (List Value)} {L : List NodeD} (h : Rows B f w v css L) (hb : Below w.heap.size w W) : Rows B f W v css L :=
 ⟨own_kept h.1 fun k hk => hb.block k (by obtain ⟨_, cu, e⟩ := own_type h.1 hk; exact heap_in e), h.2.1, fun i cs k h1 h2 => (h.2.2 i cs k h1 h2).below hb⟩
theorem Rows.snoc {B f : Nat} {w W : World} {v v' : Value} {css : List (List Value)} {L : List NodeD} {cs : List Value} {n : NodeD} (h : Rows B f w v css L) (hn : NodeQ (fun b => B <= b /\ v.ownBlock ≠ some b) f w cs n) (ho : W.ownsRow B 30 20 v' (L.length + 1) (css.flatten ++ cs)) (hs : w.heap.size <= W.heap.size) (hk : ∀ b, b < w.heap.size -> v.ownBlock ≠ some b -> W.heap[b]? = w.heap[b]?) (hv : v'.ownBlock = v.ownBlock \/ ∀ b, v'.ownBlock = some b -> w.heap.size <= b) : Rows B f W v' (css ++ [cs]) (L ++ [n]) := by
 have move : ∀ {cs : List Value} {n : NodeD}, NodeQ (fun b => B <= b /\ v.ownBlock ≠ some b) f w cs n -> NodeQ (fun b => B <= b /\ v'.ownBlock ≠ some b) f W cs n := fun {cs n} hq => by
  have h1 : NodeQ (fun b => (B <= b /\ v.ownBlock ≠ some b) /\ b < w.heap.size) f w cs n := hq.mono fun b hb hx => ⟨hx, hb⟩
  refine (h1.kept hs fun b hb hx => hk b hb hx.1.2).mono fun b _ hx => ⟨hx.1.1, ?_⟩
  rcases hv with e | e
  ·rw [e]; exact hx.1.2
  ·intro e2; have := e b e2; omega
 refine ⟨by rw [List.length_append, List.flatten_append]; simpa using ho, by simp [h.2.1], fun i c k h1 h2 => ?_⟩
 rcases Nat.lt_or_ge i css.length with hl | hl
 ·rw [List.getElem?_append_left hl] at h1
  rw [List.getElem?_append_left (by have := h.2.1; omega)] at h2
  exact move (h.2.2 i c k h1 h2)
 ·rw [List.getElem?_append_right hl] at h1
  rw [List.getElem?_append_right (by have := h.2.1; omega)] at h2
  have e1 := List.mem_singleton.1 (List.mem_of_getElem? h1)
  have e2 := List.mem_singleton.1 (List.mem_of_getElem? h2)
  subst e1 e2
  exact move hn
theorem heap_beyond {w : World} {B n : Nat} {v : Value} {xs : List Value} (h : w.ownsRow B 30 20 v n xs) {b : Nat} (hb : w.heap.size <= b) : v.ownBlock ≠ some b := fun e => by
 obtain ⟨_, cu, e2⟩ := own_type h e
 have := heap_in e2; omega
def NodeRet (f c : Nat) (w : World) (e : Ending) (W : World) : Prop := ∃ n cs, e = .returned (.agg cs.toArray) /\ NodeQ (fun b => w.heap.size <= b) f W cs n /\ Nice c n /\ Below w.heap.size w W
theorem pick5_any (c n : Int) (w : World) (h : Int64 c) (hn : 1 <= n) (hn1 : n <= 1000000) : Calls prog 38 #[.int .i64 c, .int .i64 n] w (Still (.int .i64 (pickI c n)) w) := by
 have h0 := h.1
 have h1 := h.2
 by_cases hc : c < 0
 ·go_enter func38, ntmps38
  go_wp2
  go_ret
  exact Still.mk' (congrArg _ (pick_neg c n hc))
 ·go_enter func38, ntmps38
  go_wp2
  go_ret
  exact Still.mk' (congrArg _ (pick_pos c n (by omega)))
theorem pick_nat (c : Int) (n : Nat) (hn : 1 <= n) : ∃ k : Nat, pickI c n = (k : Int) /\ k < n := by
 obtain ⟨h0, h1⟩ := pickI_range c n (by omega)
 exact ⟨(pickI c n).toNat, by omega, by omega⟩
theorem treeText_any (s : ByteArray) (w : World) (hm : s.size <= 9223372036854775807) : Calls prog 82 #[.string s] w (fun e w' => ∃ t : ByteArray, t.size <= 8 /\ e = .returned (.string t) /\ w' = w) := by
 have cS : ∀ k, Calls prog 127 #[.string (s.extract k s.size)] w (Still (.int .i64 (signN (s.data.toList.drop k))) w) := fun k => by
  have := Sign_any (s.extract k s.size) w (by rw [ByteArray.size_extract]; omega)
  rwa [drop_ext] at this
 go_enter func82, ntmps82
 go_wp2
 go_loop [3, 4] (fun o i => ∃ (k : Nat) (t : ByteArray), k <= s.size /\ i = .int .i64 k /\ o = .string t /\ t.size <= 8) (fun _ i => s.size - (intOf i).toNat)
 case atStart => exact ⟨0, ⟨#[]⟩, by omega, rfl, rfl, by decide⟩
 case round =>
  obtain ⟨k, t, hk, rfl, rfl, hI⟩ := hrel
  by_cases hlt : k < s.size
  ·by_cases ht : t.size < 8
   ·have hl4 := sign_le4 (s.data.toList.drop k)
    have hle := sign_le (s.data.toList.drop k)
    rw [List.length_drop, ba_size] at hle
    have cS := cS k
    generalize signN (s.data.toList.drop k) = n at *
    obtain ⟨m, hm1, hm2, hm4, hm3⟩ : ∃ m : Nat, max (n : Int) 1 = m /\ 1 <= m /\ m <= 4 /\ k + m <= s.size := by
     by_cases h : n = 0
     ·exact ⟨1, by omega, by omega, by omega, by omega⟩
     ·exact ⟨n, by omega, by omega, by omega, by omega⟩
    have cN := IsText_any (s.extract k (k + m)) w (by rw [ByteArray.size_extract]; omega)
    obtain ⟨B, hB⟩ : ∃ B, textB (s.extract k (k + m)).data.toList = B := ⟨_, rfl⟩
    rw [hB] at cN
    have hz : (s.extract k (k + m)).size = m := by rw [ByteArray.size_extract]; omega
    have hzt : (t ++ s.extract k (k + m)).size = t.size + m := by rw [ByteArray.size_append, hz]
    have HZ := Lib.hid hzt
    clear hB hzt hz
    cases B
    ·go_wp2_with (go_at_call 127; refine cS.mono ?_; rintro e w1 ⟨rfl, rfl⟩)
     go_wp2_with (go_at_call 128; refine cN.mono ?_; rintro e w1 ⟨rfl, rfl⟩)
     go_round
     case rel => exact ⟨k + m, t, by omega, by go_num, rfl, hI⟩
     case measure => simp [intOf]; omega
    ·by_cases h8 : t.size + m <= 8
     ·go_wp2_with (go_at_call 127; refine cS.mono ?_; rintro e w1 ⟨rfl, rfl⟩)
      go_wp2_with (go_at_call 128; refine cN.mono ?_; rintro e w1 ⟨rfl, rfl⟩)
      go_round
      case rel => exact ⟨k + m, _, by omega, by go_num, rfl, by rw [HZ.out]; exact h8⟩
      case measure => simp [intOf]; omega
     ·have e8 : decide ((t.size : Int) + (m : Int) <= 8) = false := dF (by omega)
      go_wp2_with (go_at_call 127; refine cS.mono ?_; rintro e w1 ⟨rfl, rfl⟩)
      go_wp2_with (go_at_call 128; refine cN.mono ?_; rintro e w1 ⟨rfl, rfl⟩)
      go_round
      case rel => exact ⟨k + m, t, by omega, by go_num, rfl, hI⟩
      case measure => simp [intOf]; omega
   ·have e1 : decide ((t.size : Int) < 8) = false := dF (by omega)
    go_wp2
    go_ret; exact ⟨t, hI, rfl, rfl⟩
  ·have e1 : decide ((k : Int) < s.size) = false := dF (by omega)
   go_wp2
   go_ret; exact ⟨t, hI, rfl, rfl⟩
theorem str_at (l : List Bs) (k : Nat) (h : k < l.length) : (l.map fun x => Value.string ⟨x.toArray⟩).toArray[k]? = some (.string ⟨l[k].toArray⟩) := by
 simp [h]
theorem treeName_any (n : Int) (w : World) (hn : Int64 n) : Calls prog 83 #[.int .i64 n] w (fun e W => ∃ s : Bs, s ∈ namesT /\ s.length <= 8 /\ e = .returned (.string ⟨s.toArray⟩) /\ Below w.heap.size w W) := by
 obtain ⟨k, hk, h6⟩ := pick_nat n 6 (by decide)
 have hk' : (k : Int) < 6 := by omega
 have cP := fun W => pick5_any n 6 W hn (by omega) (by omega)
 rw [show ((6 : Nat) : Int) = 6 from rfl] at hk
 rw [hk] at cP
 have hat := str_at (namesT.take 6) k h6
 obtain ⟨V, hV⟩ : ∃ V, (namesT.take 6)[k]'h6 = V := ⟨_, rfl⟩
 have hT : V ∈ namesT /\ V.length <= 8 := by
  rw [<- hV]
  exact ⟨List.mem_of_mem_take (List.getElem_mem _), (by decide : ∀ x ∈ namesT.take 6, x.length <= 8) _ (List.getElem_mem _)⟩
 rw [hV] at hat
 clear hV hk hn
 go_enter func83, ntmps83
 go_upto_region 1 with (fail)
 refine wp_region_lit ?_
 refine wr (.slice (some ⟨w.heap.size, 0, none⟩) 6 6) (w.alloc (.cells ((namesT.take 6).map fun x => Value.string ⟨x.toArray⟩).toArray 9)) ?_
 refine wpList_abs (On1 9 w ((namesT.take 6).map fun x => Value.string ⟨x.toArray⟩).toArray) ⟨allocB (Below.refl _ _), heap_alloc_new _ _⟩ ?_
 rintro w1 ⟨hb1, q1⟩
 obtain ⟨f1, -, z1⟩ := lie_cell q1
 have hc := (f1 k).trans hat
 clear f1 q1 hat
 iterate 1 refine st ?_
 refine wpList_enter 38 #[.int .i64 n, .int .i64 6] (by kernel_rfl) (by kernel_rfl) _ (cP w1) ?_
 rintro e W ⟨rfl, rfl⟩
 refine ⟨_, rfl, ?_⟩
 iterate 3 refine st ?_
 refine wpList_nil ?_
 go_wp2
 go_ret; exact ⟨V, hT.1, hT.2, rfl, hb1⟩
end Go.Proofs.YtlpgigdegnbkmaaGreatDoor
