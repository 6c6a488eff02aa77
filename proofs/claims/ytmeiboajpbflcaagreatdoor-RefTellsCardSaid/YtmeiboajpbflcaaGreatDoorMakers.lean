/- The walks of the law's makers of right things: RefArea, RefAt. -/
import Derived.Test.YtmeiboajpbflcaaGreatDoorInts
import Derived.Test.YtmeiboajpbflcaaGreatDoorMade
import Derived.Deep.Cut
namespace Go.Proofs.YtmeiboajpbflcaaGreatDoor
open Go.RowKit Tab

def Int64 (x : Int) : Prop := -9223372036854775808 ≤ x ∧ x ≤ 9223372036854775807

theorem pickI_range (c n : Int) (hn : 1 ≤ n) : 0 ≤ pickI c n ∧ pickI c n < n := by
  unfold pickI
  exact ⟨Int.emod_nonneg _ (by omega), Int.emod_lt_of_pos _ (by omega)⟩

theorem pick_ret (c n : Int) (h : Int64 c) (hn : 1 ≤ n) (hn1 : n ≤ 1000000) (w W : World) (_hb : Below w.heap.size w W) : Calls Tryz.prog 7 #[.int .i64 c, .int .i64 n] W (Ret (.int .i64 (pickI c n)) W) :=
  (pick_any c n W h.1 h.2 hn hn1).mono fun _ _ h => h.ret

def atV (s r c : Int) : Value := .agg #[.int .i64 s, .int .i64 r, .int .i64 c]


set_option maxRecDepth 100000 in
set_option maxHeartbeats 1000000 in
theorem RefAt_any (s r c : Int) (w : World) (hs : Int64 s) (hr : Int64 r) (hc : Int64 c) : Calls Tryz.prog 24 #[.agg #[.int .i64 s, .int .i64 r, .int .i64 c]] w (Ret (atV (pickI s 2) (pickI r 200) (pickI c 52)) w) := by
  go_enter Tryz.func24, Tryz.ntmps24
  go_wp2
  refine wp_abs fun w1 hb1 => ?_
  obtain ⟨hc1, hf1⟩ := bcell hb1
  obtain ⟨z10, z11⟩ : w.heap.size < w1.heap.size ∧ w.heap.size + 1 < w1.heap.size := by have := hb1.size; simp at this; omega
  have kc := gcell w1
  refine region_below_tail 10 (by kernel_rfl) (by kernel_rfl) ?_
  simp only [List.take_succ_cons, List.take_zero, List.drop_succ_cons, List.drop_zero]
  repeat (quiet_step (exact Ret.grown (pick_ret _ _ (by assumption) (by omega) (by omega) _)))
  refine wpQuiet_nil ?_
  intro w2 hb2
  obtain ⟨hc2, hf2⟩ := bcell hb2
  obtain ⟨z20, z21⟩ : w.heap.size < w2.heap.size ∧ w.heap.size + 1 < w2.heap.size := by have := hb2.size; omega
  clear kc
  have hb0 : Below w.heap.size w w2 := by repeat' (first | with_reducible assumption | with_reducible exact Below.refl _ _ | with_reducible refine allocB ?_ | with_reducible refine setB ?_ ?_ | with_reducible refine after ?_ (by assumption) | (simp; omega) | omega)
  clear hb1 hb2
  go_wp2
  exact bodyPost_ret (v := atV (pickI s 2) (pickI r 200) (pickI c 52)) (by simp [results, Tryz.results24, go_sem, atV, *]) rfl ⟨rfl, (by repeat' (first | with_reducible assumption | with_reducible exact Below.refl _ _ | with_reducible refine allocB ?_ | with_reducible refine setB ?_ ?_ | with_reducible refine after ?_ (by assumption) | (simp; omega) | omega))⟩

/-- The area that a raw one makes. -/
def mkArea (a : AreaD) : AreaD := ⟨pickI a.sheet 2, pickI a.row 200, pickI a.col 52, 1 + pickI a.rows (200 - pickI a.row 200), 1 + pickI a.cols (52 - pickI a.col 52)⟩
theorem mkArea_ok (a : AreaD) : (mkArea a).ok = true ∧ (mkArea a).sheet < 2 := by
  have h1 := pickI_range a.sheet 2 (by omega)
  have h2 := pickI_range a.row 200 (by omega)
  have h3 := pickI_range a.col 52 (by omega)
  have h4 := pickI_range a.rows (200 - pickI a.row 200) (by omega)
  have h5 := pickI_range a.cols (52 - pickI a.col 52) (by omega)
  refine ⟨?_, h1.2⟩
  simp only [AreaD.ok, areaOk, mkArea]
  exact decide_eq_true (by omega)

set_option maxRecDepth 100000 in
set_option maxHeartbeats 1000000 in
theorem RefArea_any (s r c n m : Int) (w : World) (hs : Int64 s) (hr : Int64 r) (hc : Int64 c) (hn : Int64 n) (hm : Int64 m) : Calls Tryz.prog 23 #[.agg #[.int .i64 s, .int .i64 r, .int .i64 c, .int .i64 n, .int .i64 m]] w (Ret (areaV (mkArea ⟨s, r, c, n, m⟩)) w) := by
  obtain ⟨q1, q2⟩ := pickI_range r 200 (by omega)
  obtain ⟨q3, q4⟩ := pickI_range c 52 (by omega)
  obtain ⟨q5, q6⟩ := pickI_range n (200 - pickI r 200) (by omega)
  obtain ⟨q7, q8⟩ := pickI_range m (52 - pickI c 52) (by omega)
  go_enter Tryz.func23, Tryz.ntmps23
  go_wp2
  refine wp_abs fun w1 hb1 => ?_
  obtain ⟨hc1, hf1⟩ := bcell hb1
  obtain ⟨z10, z11⟩ : w.heap.size < w1.heap.size ∧ w.heap.size + 1 < w1.heap.size := by have := hb1.size; simp at this; omega
  have kc := gcell w1
  refine region_made_tail 11 (by kernel_rfl) (by kernel_rfl) fun β => ?_
  simp only [List.take_succ_cons, List.take_zero, List.drop_succ_cons, List.drop_zero]
  repeat (refine wpM_step (fun K hK => ?_); go_simp; first | (refine hK _ ?_; clear hK K) | (apply Exists.intro; refine ⟨fun _ => ⟨by kernel_rfl, ?_⟩, hK _ ?_⟩; exact pick_ret _ _ (by assumption) (by omega) (by omega) _ _ (below_regrown _ _ _); clear hK K))
  refine wpM_make (fun b => .pointer (some ⟨b, 0, none⟩)) (.cells #[.int .i64 0, .int .i64 0, .int .i64 0, .int .i64 0, .int .i64 0] 25) rfl (fun W _ => by kernel_rfl) ?_
  refine wpM_nil ?_
  intro w2 ⟨hb2, hla, hap⟩
  obtain ⟨zb, hl2⟩ := hla 10 _ _ rfl
  have k0 : Blk w1 w.heap.size #[.int .i64 s, .int .i64 r, .int .i64 c, .int .i64 n, .int .i64 m] := (((Blk.new rfl).alloc).below hb1)
  have k1 : Blk w1 (w.heap.size + 1) #[.int .i64 0, .int .i64 0, .int .i64 0, .int .i64 0, .int .i64 0] := ((Blk.new (by simp)).below hb1)
  have k2 := k0.below hb2
  have k3 := k1.below hb2
  have k4 : Blk w2 (β 10) _ := ⟨_, hl2⟩
  have hb0 : Below w.heap.size w w2 := by repeat' (first | with_reducible assumption | with_reducible exact Below.refl _ _ | with_reducible refine allocB ?_ | with_reducible refine setB ?_ ?_ | with_reducible refine after ?_ (by assumption) | (simp; omega) | omega)
  clear hl2 hla hap kc hc1 hf1 k0 k1
  have zb2 : w1.heap.size ≤ β 10 := zb
  obtain ⟨y1, y2, y3, y4, y5⟩ : ¬ β 10 = w.heap.size ∧ ¬ β 10 = w.heap.size + 1 ∧ ¬ w.heap.size = β 10 ∧ ¬ w.heap.size + 1 = β 10 ∧ w.heap.size ≤ β 10 := by omega
  clear hb1 hb2 zb zb2
  generalize β 10 = b at *
  obtain ⟨f2, g2, z2⟩ := k2.facts
  obtain ⟨f3, g3, z3⟩ := k3.facts
  obtain ⟨f4, g4, z4⟩ := k4.facts
  go_upto_region 2 with (fail)
  refine wp_abs2 (fun w3 => Blk w3 w.heap.size #[.int .i64 s, .int .i64 r, .int .i64 c, .int .i64 n, .int .i64 m] ∧ Blk w3 (w.heap.size + 1) #[.int .i64 0, .int .i64 0, .int .i64 0, .int .i64 0, .int .i64 0] ∧ Blk w3 b #[.int .i64 (pickI s 2), .int .i64 (pickI r 200), .int .i64 (pickI c 52), .int .i64 0, .int .i64 0] ∧ Below w.heap.size w w3)
    ⟨by repeat' (first | with_reducible assumption | (with_reducible refine Blk.other ?_ ?_) | omega), by repeat' (first | with_reducible assumption | (with_reducible refine Blk.other ?_ ?_) | omega), (by apply Blk.eq; (repeat' (first | with_reducible assumption | with_reducible apply Blk.set)); rfl), (by repeat' (first | with_reducible assumption | with_reducible exact Below.refl _ _ | with_reducible refine allocB ?_ | with_reducible refine setB ?_ ?_ | with_reducible refine after ?_ (by assumption) | (simp; omega) | omega))⟩ ?_
  clear f2 g2 z2 f3 g3 z3 f4 g4 z4 k2 k3 k4 hb0
  rintro w3 ⟨k2, k3, k4, hb0⟩
  obtain ⟨f2, g2, z2⟩ := k2.facts
  obtain ⟨f3, g3, z3⟩ := k3.facts
  obtain ⟨f4, g4, z4⟩ := k4.facts
  go_wp2_with fail
  refine (pick_any _ _ _ hn.1 hn.2 (by omega) (by omega)).mono ?_; rintro e w4 ⟨rfl, rfl⟩
  go_upto_region 3 with (fail)
  refine wp_abs2 (fun w3 => Blk w3 w.heap.size #[.int .i64 s, .int .i64 r, .int .i64 c, .int .i64 n, .int .i64 m] ∧ Blk w3 (w.heap.size + 1) #[.int .i64 0, .int .i64 0, .int .i64 0, .int .i64 0, .int .i64 0] ∧ Blk w3 b #[.int .i64 (pickI s 2), .int .i64 (pickI r 200), .int .i64 (pickI c 52), .int .i64 (1 + pickI n (200 - pickI r 200)), .int .i64 0] ∧ Below w.heap.size w w3)
    ⟨by repeat' (first | with_reducible assumption | (with_reducible refine Blk.other ?_ ?_) | omega), by repeat' (first | with_reducible assumption | (with_reducible refine Blk.other ?_ ?_) | omega), (by apply Blk.eq; (repeat' (first | with_reducible assumption | with_reducible apply Blk.set)); rfl), (by repeat' (first | with_reducible assumption | with_reducible exact Below.refl _ _ | with_reducible refine allocB ?_ | with_reducible refine setB ?_ ?_ | with_reducible refine after ?_ (by assumption) | (simp; omega) | omega))⟩ ?_
  clear f2 g2 z2 f3 g3 z3 f4 g4 z4 k2 k3 k4 hb0
  rintro w3 ⟨k2, k3, k4, hb0⟩
  obtain ⟨f2, g2, z2⟩ := k2.facts
  obtain ⟨f3, g3, z3⟩ := k3.facts
  obtain ⟨f4, g4, z4⟩ := k4.facts
  go_wp2_with fail
  refine (pick_any _ _ _ hm.1 hm.2 (by omega) (by omega)).mono ?_; rintro e w4 ⟨rfl, rfl⟩
  go_upto_region 4 with (fail)
  refine wp_abs2 (fun w3 => Blk w3 (w.heap.size + 1) #[.int .i64 0, .int .i64 0, .int .i64 0, .int .i64 0, .int .i64 0] ∧ Blk w3 b #[.int .i64 (pickI s 2), .int .i64 (pickI r 200), .int .i64 (pickI c 52), .int .i64 (1 + pickI n (200 - pickI r 200)), .int .i64 (1 + pickI m (52 - pickI c 52))] ∧ Below w.heap.size w w3)
    ⟨by repeat' (first | with_reducible assumption | (with_reducible refine Blk.other ?_ ?_) | omega), (by apply Blk.eq; (repeat' (first | with_reducible assumption | with_reducible apply Blk.set)); rfl), (by repeat' (first | with_reducible assumption | with_reducible exact Below.refl _ _ | with_reducible refine allocB ?_ | with_reducible refine setB ?_ ?_ | with_reducible refine after ?_ (by assumption) | (simp; omega) | omega))⟩ ?_
  clear f2 g2 z2 f3 g3 z3 f4 g4 z4 k2 k3 k4 hb0
  rintro w3 ⟨k3, k4, hb0⟩
  obtain ⟨f3, g3, z3⟩ := k3.facts
  obtain ⟨f4, g4, z4⟩ := k4.facts
  go_wp2
  exact bodyPost_ret (v := areaV (mkArea ⟨s, r, c, n, m⟩)) (by simp [results, Tryz.results23, go_sem, areaV, mkArea, *]) rfl ⟨rfl, (by repeat' (first | with_reducible assumption | with_reducible exact Below.refl _ _ | with_reducible refine allocB ?_ | with_reducible refine setB ?_ ?_ | with_reducible refine after ?_ (by assumption) | (simp; omega) | omega))⟩
end Go.Proofs.YtmeiboajpbflcaaGreatDoor
