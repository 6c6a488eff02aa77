/- The walk of Area. -/
import Derived.Test.YtmeiboajpbflcaaGreatDoorAreas
import Derived.Test.YtmeiboajpbflcaaGreatDoorNames
import Derived.Deep.QuietTactic
import Derived.BigQuiet
namespace Go.Proofs.YtmeiboajpbflcaaGreatDoor
open Go.RowKit Tab

def refV (r : RefD) : Value := .agg #[.string r.s, .int .i64 r.row, .int .i64 r.col, .bool r.fr, .bool r.fc, .bool r.bad]
/-- what may come in. -/
def RefIn (r : RefD) : Prop := r.s.size ≤ 9223372036854775807 ∧ (-9223372036854775808 ≤ r.row ∧ r.row ≤ 9223372036854775807) ∧ (-9223372036854775808 ≤ r.col ∧ r.col ≤ 9223372036854775807)
theorem right_range {r : RefD} (h : r.right = true) : 0 ≤ r.row ∧ r.row < 200 ∧ 0 ≤ r.col ∧ r.col < 52 := by
  obtain ⟨s, row, col, fr, fc, bad⟩ := r
  unfold RefD.right rightB at h
  cases bad
  · simp at h; show 0 ≤ row ∧ row < 200 ∧ 0 ≤ col ∧ col < 52; omega
  · simp at h; obtain ⟨⟨⟨⟨_, h1⟩, h2⟩, _⟩, _⟩ := h; show 0 ≤ row ∧ row < 200 ∧ 0 ≤ col ∧ col < 52; omega

set_option maxRecDepth 100000 in
set_option maxHeartbeats 1000000 in
theorem Area_sheet (s1 : ByteArray) (r1 c1 : Int) (x1 y1 z1 : Bool) (s2 : ByteArray) (r2 c2 : Int) (x2 y2 z2 : Bool) (sh : Int) (w : World) (hg : Good w) (l1 : s1.size ≤ 9223372036854775807) (l2 : s2.size ≤ 9223372036854775807) (h : sh < 0 ∨ 8 ≤ sh) :
    Calls Tryz.prog 20 #[.agg #[.string s1, .int .i64 r1, .int .i64 c1, .bool x1, .bool y1, .bool z1], .agg #[.string s2, .int .i64 r2, .int .i64 c2, .bool x2, .bool y2, .bool z2], .int .i64 sh] w (Ret (.tuple #[areaV (areaOf ⟨s1, r1, c1, x1, y1, z1⟩ ⟨s2, r2, c2, x2, y2, z2⟩ sh).1, .int .i64 (areaOf ⟨s1, r1, c1, x1, y1, z1⟩ ⟨s2, r2, c2, x2, y2, z2⟩ sh).2]) w) := by
  have cR1 : ∀ W, Below w.heap.size w W → Calls Tryz.prog 16 #[.agg #[.string s1, .int .i64 r1, .int .i64 c1, .bool x1, .bool y1, .bool z1]] W (Ret (.bool (rightB s1.data.toList r1 c1 x1 y1 z1)) W) := fun W hb => Right_any s1 r1 c1 x1 y1 z1 W (hg.below hb) l1
  have cR2 : ∀ W, Below w.heap.size w W → Calls Tryz.prog 16 #[.agg #[.string s2, .int .i64 r2, .int .i64 c2, .bool x2, .bool y2, .bool z2]] W (Ret (.bool (rightB s2.data.toList r2 c2 x2 y2 z2)) W) := fun W hb => Right_any s2 r2 c2 x2 y2 z2 W (hg.below hb) l2
  clear hg l1 l2
  have Hv : Hid ((areaOf ⟨s1, r1, c1, x1, y1, z1⟩ ⟨s2, r2, c2, x2, y2, z2⟩ sh) = (AreaD.zero, 2)) := by show _ = _; rw [areaOf, if_pos h]
  clear cR1 cR2
  by_cases h0 : sh < 0
  · clear h
    go_enter Tryz.func20, Tryz.ntmps20
    go_wp2
    exact bodyPost_ret (v := .tuple #[.agg #[.int .i64 0, .int .i64 0, .int .i64 0, .int .i64 0, .int .i64 0], .int .i64 2]) (by simp [results, Tryz.results20, go_sem, *]) rfl ⟨by rw [Hv.out]; rfl, (by repeat' (first | with_reducible assumption | with_reducible exact Below.refl _ _ | with_reducible refine allocB ?_ | with_reducible refine setB ?_ ?_ | with_reducible refine drewB ?_ | with_reducible refine after ?_ (by assumption) | (simp; omega) | omega))⟩
  · have h8 : 8 ≤ sh := by omega
    clear h
    go_enter Tryz.func20, Tryz.ntmps20
    go_wp2
    exact bodyPost_ret (v := .tuple #[.agg #[.int .i64 0, .int .i64 0, .int .i64 0, .int .i64 0, .int .i64 0], .int .i64 2]) (by simp [results, Tryz.results20, go_sem, *]) rfl ⟨by rw [Hv.out]; rfl, (by repeat' (first | with_reducible assumption | with_reducible exact Below.refl _ _ | with_reducible refine allocB ?_ | with_reducible refine setB ?_ ?_ | with_reducible refine drewB ?_ | with_reducible refine after ?_ (by assumption) | (simp; omega) | omega))⟩

set_option maxRecDepth 100000 in
set_option maxHeartbeats 1000000 in
theorem Area_a (s1 : ByteArray) (r1 c1 : Int) (x1 y1 z1 : Bool) (s2 : ByteArray) (r2 c2 : Int) (x2 y2 z2 : Bool) (sh : Int) (w : World) (hg : Good w) (l1 : s1.size ≤ 9223372036854775807) (l2 : s2.size ≤ 9223372036854775807) (h : 0 ≤ sh ∧ sh < 8) (R1 : rightB s1.data.toList r1 c1 x1 y1 z1 = false) :
    Calls Tryz.prog 20 #[.agg #[.string s1, .int .i64 r1, .int .i64 c1, .bool x1, .bool y1, .bool z1], .agg #[.string s2, .int .i64 r2, .int .i64 c2, .bool x2, .bool y2, .bool z2], .int .i64 sh] w (Ret (.tuple #[areaV (areaOf ⟨s1, r1, c1, x1, y1, z1⟩ ⟨s2, r2, c2, x2, y2, z2⟩ sh).1, .int .i64 (areaOf ⟨s1, r1, c1, x1, y1, z1⟩ ⟨s2, r2, c2, x2, y2, z2⟩ sh).2]) w) := by
  have cR1 : ∀ W, Below w.heap.size w W → Calls Tryz.prog 16 #[.agg #[.string s1, .int .i64 r1, .int .i64 c1, .bool x1, .bool y1, .bool z1]] W (Ret (.bool (rightB s1.data.toList r1 c1 x1 y1 z1)) W) := fun W hb => Right_any s1 r1 c1 x1 y1 z1 W (hg.below hb) l1
  have cR2 : ∀ W, Below w.heap.size w W → Calls Tryz.prog 16 #[.agg #[.string s2, .int .i64 r2, .int .i64 c2, .bool x2, .bool y2, .bool z2]] W (Ret (.bool (rightB s2.data.toList r2 c2 x2 y2 z2)) W) := fun W hb => Right_any s2 r2 c2 x2 y2 z2 W (hg.below hb) l2
  clear hg l1 l2
  have Hv : Hid ((areaOf ⟨s1, r1, c1, x1, y1, z1⟩ ⟨s2, r2, c2, x2, y2, z2⟩ sh) = (AreaD.zero, 20)) := by
    show _ = _
    rw [areaOf, if_neg (by omega), if_neg]
    simp [RefD.right, *]
  obtain ⟨h1, h2⟩ := h
  clear cR2
  go_enter Tryz.func20, Tryz.ntmps20
  go_wp2_with fail
  refine (cR1 _ (by repeat' (first | with_reducible assumption | with_reducible exact Below.refl _ _ | with_reducible refine allocB ?_ | with_reducible refine setB ?_ ?_ | with_reducible refine drewB ?_ | with_reducible refine after ?_ (by assumption) | (simp; omega) | omega))).mono ?_; rintro e w1 ⟨rfl, hb1⟩; obtain ⟨hc1, hf1⟩ := bcell hb1
  obtain ⟨z10, z11, z12⟩ : w.heap.size < w1.heap.size ∧ w.heap.size + 1 < w1.heap.size ∧ w.heap.size + 1 + 1 < w1.heap.size := by have := hb1.size; simp at this; omega
  have hb0 : Below w.heap.size w w1 := (by repeat' (first | with_reducible assumption | with_reducible exact Below.refl _ _ | with_reducible refine allocB ?_ | with_reducible refine setB ?_ ?_ | with_reducible refine drewB ?_ | with_reducible refine after ?_ (by assumption) | (simp; omega) | omega))
  clear hb1
  rw [R1]
  go_wp2
  exact bodyPost_ret (v := .tuple #[.agg #[.int .i64 0, .int .i64 0, .int .i64 0, .int .i64 0, .int .i64 0], .int .i64 20]) (by simp [results, Tryz.results20, go_sem, *]) rfl ⟨by rw [Hv.out]; rfl, (by repeat' (first | with_reducible assumption | with_reducible exact Below.refl _ _ | with_reducible refine allocB ?_ | with_reducible refine setB ?_ ?_ | with_reducible refine drewB ?_ | with_reducible refine after ?_ (by assumption) | (simp; omega) | omega))⟩

set_option maxRecDepth 100000 in
set_option maxHeartbeats 1000000 in
theorem Area_b (s1 : ByteArray) (r1 c1 : Int) (x1 y1 z1 : Bool) (s2 : ByteArray) (r2 c2 : Int) (x2 y2 z2 : Bool) (sh : Int) (w : World) (hg : Good w) (l1 : s1.size ≤ 9223372036854775807) (l2 : s2.size ≤ 9223372036854775807) (h : 0 ≤ sh ∧ sh < 8) (R1 : rightB s1.data.toList r1 c1 x1 y1 z1 = true) (R2 : rightB s2.data.toList r2 c2 x2 y2 z2 = false) :
    Calls Tryz.prog 20 #[.agg #[.string s1, .int .i64 r1, .int .i64 c1, .bool x1, .bool y1, .bool z1], .agg #[.string s2, .int .i64 r2, .int .i64 c2, .bool x2, .bool y2, .bool z2], .int .i64 sh] w (Ret (.tuple #[areaV (areaOf ⟨s1, r1, c1, x1, y1, z1⟩ ⟨s2, r2, c2, x2, y2, z2⟩ sh).1, .int .i64 (areaOf ⟨s1, r1, c1, x1, y1, z1⟩ ⟨s2, r2, c2, x2, y2, z2⟩ sh).2]) w) := by
  have cR1 : ∀ W, Below w.heap.size w W → Calls Tryz.prog 16 #[.agg #[.string s1, .int .i64 r1, .int .i64 c1, .bool x1, .bool y1, .bool z1]] W (Ret (.bool (rightB s1.data.toList r1 c1 x1 y1 z1)) W) := fun W hb => Right_any s1 r1 c1 x1 y1 z1 W (hg.below hb) l1
  have cR2 : ∀ W, Below w.heap.size w W → Calls Tryz.prog 16 #[.agg #[.string s2, .int .i64 r2, .int .i64 c2, .bool x2, .bool y2, .bool z2]] W (Ret (.bool (rightB s2.data.toList r2 c2 x2 y2 z2)) W) := fun W hb => Right_any s2 r2 c2 x2 y2 z2 W (hg.below hb) l2
  clear hg l1 l2
  have Hv : Hid ((areaOf ⟨s1, r1, c1, x1, y1, z1⟩ ⟨s2, r2, c2, x2, y2, z2⟩ sh) = (AreaD.zero, 20)) := by
    show _ = _
    rw [areaOf, if_neg (by omega), if_neg]
    simp [RefD.right, *]
  obtain ⟨h1, h2⟩ := h
  go_enter Tryz.func20, Tryz.ntmps20
  go_wp2_with fail
  refine (cR1 _ (by repeat' (first | with_reducible assumption | with_reducible exact Below.refl _ _ | with_reducible refine allocB ?_ | with_reducible refine setB ?_ ?_ | with_reducible refine drewB ?_ | with_reducible refine after ?_ (by assumption) | (simp; omega) | omega))).mono ?_; rintro e w1 ⟨rfl, hb1⟩; obtain ⟨hc1, hf1⟩ := bcell hb1
  obtain ⟨z10, z11, z12⟩ : w.heap.size < w1.heap.size ∧ w.heap.size + 1 < w1.heap.size ∧ w.heap.size + 1 + 1 < w1.heap.size := by have := hb1.size; simp at this; omega
  have hb0 : Below w.heap.size w w1 := (by repeat' (first | with_reducible assumption | with_reducible exact Below.refl _ _ | with_reducible refine allocB ?_ | with_reducible refine setB ?_ ?_ | with_reducible refine drewB ?_ | with_reducible refine after ?_ (by assumption) | (simp; omega) | omega))
  clear hb1
  rw [R1]
  go_wp2_with fail
  refine (cR2 _ (by repeat' (first | with_reducible assumption | with_reducible exact Below.refl _ _ | with_reducible refine allocB ?_ | with_reducible refine setB ?_ ?_ | with_reducible refine drewB ?_ | with_reducible refine after ?_ (by assumption) | (simp; omega) | omega))).mono ?_; rintro e w2 ⟨rfl, hb2⟩; obtain ⟨hc2, hf2⟩ := bcell hb2
  obtain ⟨z20, z21, z22⟩ : w.heap.size < w2.heap.size ∧ w.heap.size + 1 < w2.heap.size ∧ w.heap.size + 1 + 1 < w2.heap.size := by have := hb2.size; omega
  have hb00 : Below w.heap.size w w2 := (by repeat' (first | with_reducible assumption | with_reducible exact Below.refl _ _ | with_reducible refine allocB ?_ | with_reducible refine setB ?_ ?_ | with_reducible refine drewB ?_ | with_reducible refine after ?_ (by assumption) | (simp; omega) | omega))
  clear hb2 hb0
  rw [R2]
  go_wp2
  exact bodyPost_ret (v := .tuple #[.agg #[.int .i64 0, .int .i64 0, .int .i64 0, .int .i64 0, .int .i64 0], .int .i64 20]) (by simp [results, Tryz.results20, go_sem, *]) rfl ⟨by rw [Hv.out]; rfl, (by repeat' (first | with_reducible assumption | with_reducible exact Below.refl _ _ | with_reducible refine allocB ?_ | with_reducible refine setB ?_ ?_ | with_reducible refine drewB ?_ | with_reducible refine after ?_ (by assumption) | (simp; omega) | omega))⟩

set_option maxRecDepth 100000 in
set_option maxHeartbeats 1000000 in
theorem Area_c (s1 : ByteArray) (r1 c1 : Int) (x1 y1 z1 : Bool) (s2 : ByteArray) (r2 c2 : Int) (x2 y2 z2 : Bool) (sh : Int) (w : World) (hg : Good w) (l1 : s1.size ≤ 9223372036854775807) (l2 : s2.size ≤ 9223372036854775807) (h : 0 ≤ sh ∧ sh < 8) (R1 : rightB s1.data.toList r1 c1 x1 y1 z1 = true) (R2 : rightB s2.data.toList r2 c2 x2 y2 z2 = true) (hz : z1 = true ∨ z2 = true) :
    Calls Tryz.prog 20 #[.agg #[.string s1, .int .i64 r1, .int .i64 c1, .bool x1, .bool y1, .bool z1], .agg #[.string s2, .int .i64 r2, .int .i64 c2, .bool x2, .bool y2, .bool z2], .int .i64 sh] w (Ret (.tuple #[areaV (areaOf ⟨s1, r1, c1, x1, y1, z1⟩ ⟨s2, r2, c2, x2, y2, z2⟩ sh).1, .int .i64 (areaOf ⟨s1, r1, c1, x1, y1, z1⟩ ⟨s2, r2, c2, x2, y2, z2⟩ sh).2]) w) := by
  have cR1 : ∀ W, Below w.heap.size w W → Calls Tryz.prog 16 #[.agg #[.string s1, .int .i64 r1, .int .i64 c1, .bool x1, .bool y1, .bool z1]] W (Ret (.bool (rightB s1.data.toList r1 c1 x1 y1 z1)) W) := fun W hb => Right_any s1 r1 c1 x1 y1 z1 W (hg.below hb) l1
  have cR2 : ∀ W, Below w.heap.size w W → Calls Tryz.prog 16 #[.agg #[.string s2, .int .i64 r2, .int .i64 c2, .bool x2, .bool y2, .bool z2]] W (Ret (.bool (rightB s2.data.toList r2 c2 x2 y2 z2)) W) := fun W hb => Right_any s2 r2 c2 x2 y2 z2 W (hg.below hb) l2
  clear hg l1 l2
  have Hv : Hid ((areaOf ⟨s1, r1, c1, x1, y1, z1⟩ ⟨s2, r2, c2, x2, y2, z2⟩ sh) = (AreaD.zero, 20)) := by
    show _ = _
    rw [areaOf, if_neg (by omega), if_neg]
    rcases hz with rfl | rfl <;> simp
  obtain ⟨h1, h2⟩ := h
  cases z1
  · obtain rfl : z2 = true := by rcases hz with h | h; cases h; exact h
    clear hz
    go_enter Tryz.func20, Tryz.ntmps20
    go_wp2_with fail
    refine (cR1 _ (by repeat' (first | with_reducible assumption | with_reducible exact Below.refl _ _ | with_reducible refine allocB ?_ | with_reducible refine setB ?_ ?_ | with_reducible refine drewB ?_ | with_reducible refine after ?_ (by assumption) | (simp; omega) | omega))).mono ?_; rintro e w1 ⟨rfl, hb1⟩; obtain ⟨hc1, hf1⟩ := bcell hb1
    obtain ⟨z10, z11, z12⟩ : w.heap.size < w1.heap.size ∧ w.heap.size + 1 < w1.heap.size ∧ w.heap.size + 1 + 1 < w1.heap.size := by have := hb1.size; simp at this; omega
    have hb0 : Below w.heap.size w w1 := (by repeat' (first | with_reducible assumption | with_reducible exact Below.refl _ _ | with_reducible refine allocB ?_ | with_reducible refine setB ?_ ?_ | with_reducible refine drewB ?_ | with_reducible refine after ?_ (by assumption) | (simp; omega) | omega))
    clear hb1
    rw [R1]
    go_wp2_with fail
    refine (cR2 _ (by repeat' (first | with_reducible assumption | with_reducible exact Below.refl _ _ | with_reducible refine allocB ?_ | with_reducible refine setB ?_ ?_ | with_reducible refine drewB ?_ | with_reducible refine after ?_ (by assumption) | (simp; omega) | omega))).mono ?_; rintro e w2 ⟨rfl, hb2⟩; obtain ⟨hc2, hf2⟩ := bcell hb2
    obtain ⟨z20, z21, z22⟩ : w.heap.size < w2.heap.size ∧ w.heap.size + 1 < w2.heap.size ∧ w.heap.size + 1 + 1 < w2.heap.size := by have := hb2.size; omega
    have hb00 : Below w.heap.size w w2 := (by repeat' (first | with_reducible assumption | with_reducible exact Below.refl _ _ | with_reducible refine allocB ?_ | with_reducible refine setB ?_ ?_ | with_reducible refine drewB ?_ | with_reducible refine after ?_ (by assumption) | (simp; omega) | omega))
    clear hb2 hb0
    rw [R2]
    go_wp2
    exact bodyPost_ret (v := .tuple #[.agg #[.int .i64 0, .int .i64 0, .int .i64 0, .int .i64 0, .int .i64 0], .int .i64 20]) (by simp [results, Tryz.results20, go_sem, *]) rfl ⟨by rw [Hv.out]; rfl, (by repeat' (first | with_reducible assumption | with_reducible exact Below.refl _ _ | with_reducible refine allocB ?_ | with_reducible refine setB ?_ ?_ | with_reducible refine drewB ?_ | with_reducible refine after ?_ (by assumption) | (simp; omega) | omega))⟩
  · clear hz
    go_enter Tryz.func20, Tryz.ntmps20
    go_wp2_with fail
    refine (cR1 _ (by repeat' (first | with_reducible assumption | with_reducible exact Below.refl _ _ | with_reducible refine allocB ?_ | with_reducible refine setB ?_ ?_ | with_reducible refine drewB ?_ | with_reducible refine after ?_ (by assumption) | (simp; omega) | omega))).mono ?_; rintro e w1 ⟨rfl, hb1⟩; obtain ⟨hc1, hf1⟩ := bcell hb1
    obtain ⟨z10, z11, z12⟩ : w.heap.size < w1.heap.size ∧ w.heap.size + 1 < w1.heap.size ∧ w.heap.size + 1 + 1 < w1.heap.size := by have := hb1.size; simp at this; omega
    have hb0 : Below w.heap.size w w1 := (by repeat' (first | with_reducible assumption | with_reducible exact Below.refl _ _ | with_reducible refine allocB ?_ | with_reducible refine setB ?_ ?_ | with_reducible refine drewB ?_ | with_reducible refine after ?_ (by assumption) | (simp; omega) | omega))
    clear hb1
    rw [R1]
    go_wp2_with fail
    refine (cR2 _ (by repeat' (first | with_reducible assumption | with_reducible exact Below.refl _ _ | with_reducible refine allocB ?_ | with_reducible refine setB ?_ ?_ | with_reducible refine drewB ?_ | with_reducible refine after ?_ (by assumption) | (simp; omega) | omega))).mono ?_; rintro e w2 ⟨rfl, hb2⟩; obtain ⟨hc2, hf2⟩ := bcell hb2
    obtain ⟨z20, z21, z22⟩ : w.heap.size < w2.heap.size ∧ w.heap.size + 1 < w2.heap.size ∧ w.heap.size + 1 + 1 < w2.heap.size := by have := hb2.size; omega
    have hb00 : Below w.heap.size w w2 := (by repeat' (first | with_reducible assumption | with_reducible exact Below.refl _ _ | with_reducible refine allocB ?_ | with_reducible refine setB ?_ ?_ | with_reducible refine drewB ?_ | with_reducible refine after ?_ (by assumption) | (simp; omega) | omega))
    clear hb2 hb0
    rw [R2]
    go_wp2
    exact bodyPost_ret (v := .tuple #[.agg #[.int .i64 0, .int .i64 0, .int .i64 0, .int .i64 0, .int .i64 0], .int .i64 20]) (by simp [results, Tryz.results20, go_sem, *]) rfl ⟨by rw [Hv.out]; rfl, (by repeat' (first | with_reducible assumption | with_reducible exact Below.refl _ _ | with_reducible refine allocB ?_ | with_reducible refine setB ?_ ?_ | with_reducible refine drewB ?_ | with_reducible refine after ?_ (by assumption) | (simp; omega) | omega))⟩

set_option maxRecDepth 100000 in
set_option maxHeartbeats 1000000 in
theorem Area_d (s1 : ByteArray) (r1 c1 : Int) (x1 y1 : Bool) (s2 : ByteArray) (r2 c2 : Int) (x2 y2 : Bool) (sh : Int) (w : World) (hg : Good w) (l1 : s1.size ≤ 9223372036854775807) (l2 : s2.size ≤ 9223372036854775807) (h : 0 ≤ sh ∧ sh < 8) (R1 : rightB s1.data.toList r1 c1 x1 y1 false = true) (R2 : rightB s2.data.toList r2 c2 x2 y2 false = true) :
    Calls Tryz.prog 20 #[.agg #[.string s1, .int .i64 r1, .int .i64 c1, .bool x1, .bool y1, .bool false], .agg #[.string s2, .int .i64 r2, .int .i64 c2, .bool x2, .bool y2, .bool false], .int .i64 sh] w (Ret (.tuple #[areaV (areaOf ⟨s1, r1, c1, x1, y1, false⟩ ⟨s2, r2, c2, x2, y2, false⟩ sh).1, .int .i64 (areaOf ⟨s1, r1, c1, x1, y1, false⟩ ⟨s2, r2, c2, x2, y2, false⟩ sh).2]) w) := by
  have cR1 : ∀ W, Below w.heap.size w W → Calls Tryz.prog 16 #[.agg #[.string s1, .int .i64 r1, .int .i64 c1, .bool x1, .bool y1, .bool false]] W (Ret (.bool (rightB s1.data.toList r1 c1 x1 y1 false)) W) := fun W hb => Right_any s1 r1 c1 x1 y1 false W (hg.below hb) l1
  have cR2 : ∀ W, Below w.heap.size w W → Calls Tryz.prog 16 #[.agg #[.string s2, .int .i64 r2, .int .i64 c2, .bool x2, .bool y2, .bool false]] W (Ret (.bool (rightB s2.data.toList r2 c2 x2 y2 false)) W) := fun W hb => Right_any s2 r2 c2 x2 y2 false W (hg.below hb) l2
  clear hg l1 l2
  obtain ⟨b1, b2, b3, b4⟩ := right_range (r := ⟨s1, r1, c1, x1, y1, false⟩) R1
  obtain ⟨b5, b6, b7, b8⟩ := right_range (r := ⟨s2, r2, c2, x2, y2, false⟩) R2
  simp only at b1 b2 b3 b4 b5 b6 b7 b8
  have Hv : Hid ((areaOf ⟨s1, r1, c1, x1, y1, false⟩ ⟨s2, r2, c2, x2, y2, false⟩ sh) = (⟨sh, if r2 < r1 then r2 else r1, if c2 < c1 then c2 else c1, (if r1 < r2 then r2 else r1) - (if r2 < r1 then r2 else r1) + 1, (if c1 < c2 then c2 else c1) - (if c2 < c1 then c2 else c1) + 1⟩, 0)) := by
    show _ = _
    rw [areaOf, if_neg (by omega), if_pos]
    simp [RefD.right, *]
  obtain ⟨h1, h2⟩ := h
  go_enter Tryz.func20, Tryz.ntmps20
  go_wp2_with fail
  refine (cR1 _ (by repeat' (first | with_reducible assumption | with_reducible exact Below.refl _ _ | with_reducible refine allocB ?_ | with_reducible refine setB ?_ ?_ | with_reducible refine drewB ?_ | with_reducible refine after ?_ (by assumption) | (simp; omega) | omega))).mono ?_; rintro e w1 ⟨rfl, hb1⟩; obtain ⟨hc1, hf1⟩ := bcell hb1
  obtain ⟨z10, z11, z12⟩ : w.heap.size < w1.heap.size ∧ w.heap.size + 1 < w1.heap.size ∧ w.heap.size + 1 + 1 < w1.heap.size := by have := hb1.size; simp at this; omega
  have hb0 : Below w.heap.size w w1 := (by repeat' (first | with_reducible assumption | with_reducible exact Below.refl _ _ | with_reducible refine allocB ?_ | with_reducible refine setB ?_ ?_ | with_reducible refine drewB ?_ | with_reducible refine after ?_ (by assumption) | (simp; omega) | omega))
  clear hb1
  rw [R1]
  go_wp2_with fail
  refine (cR2 _ (by repeat' (first | with_reducible assumption | with_reducible exact Below.refl _ _ | with_reducible refine allocB ?_ | with_reducible refine setB ?_ ?_ | with_reducible refine drewB ?_ | with_reducible refine after ?_ (by assumption) | (simp; omega) | omega))).mono ?_; rintro e w2 ⟨rfl, hb2⟩; obtain ⟨hc2, hf2⟩ := bcell hb2
  obtain ⟨z20, z21, z22⟩ : w.heap.size < w2.heap.size ∧ w.heap.size + 1 < w2.heap.size ∧ w.heap.size + 1 + 1 < w2.heap.size := by have := hb2.size; omega
  have hb00 : Below w.heap.size w w2 := (by repeat' (first | with_reducible assumption | with_reducible exact Below.refl _ _ | with_reducible refine allocB ?_ | with_reducible refine setB ?_ ?_ | with_reducible refine drewB ?_ | with_reducible refine after ?_ (by assumption) | (simp; omega) | omega))
  clear hb2 hb0
  rw [R2]
  clear cR1 cR2
  by_cases hx : r2 < r1
  · by_cases hy : c2 < c1
    · have m1 : (if r2 < r1 then r2 else r1) = r2 := by split <;> omega
      have m2 : (if c2 < c1 then c2 else c1) = c2 := by split <;> omega
      have m3 : (if r1 < r2 then r2 else r1) = r1 := by split <;> omega
      have m4 : (if c1 < c2 then c2 else c1) = c1 := by split <;> omega
      rw [m1, m2, m3, m4] at Hv
      clear hx hy
      go_wp2_with fail
      go_quiet (fail)
      obtain ⟨w3, e3, hb3⟩ := drewN_abs w2 nq
      rw [e3]; clear e3
      obtain ⟨hc3, hf3⟩ := bcell hb3
      obtain ⟨z30, z31, z32⟩ : w.heap.size < w3.heap.size ∧ w.heap.size + 1 < w3.heap.size ∧ w.heap.size + 1 + 1 < w3.heap.size := by have := hb3.size; omega
      have hb000 : Below w.heap.size w w3 := (by repeat' (first | with_reducible assumption | with_reducible exact Below.refl _ _ | with_reducible refine allocB ?_ | with_reducible refine setB ?_ ?_ | with_reducible refine drewB ?_ | with_reducible refine after ?_ (by assumption) | (simp; omega) | omega))
      clear hb3 hb00
      go_wp2
      exact bodyPost_ret (v := .tuple #[.agg #[.int .i64 sh, .int .i64 r2, .int .i64 c2, .int .i64 (r1 - r2 + 1), .int .i64 (c1 - c2 + 1)], .int .i64 0]) (by simp [results, Tryz.results20, go_sem, *]; omega) rfl ⟨by rw [Hv.out]; rfl, (by repeat' (first | with_reducible assumption | with_reducible exact Below.refl _ _ | with_reducible refine allocB ?_ | with_reducible refine setB ?_ ?_ | with_reducible refine drewB ?_ | with_reducible refine after ?_ (by assumption) | (simp; omega) | omega))⟩
    · have m1 : (if r2 < r1 then r2 else r1) = r2 := by split <;> omega
      have m2 : (if c2 < c1 then c2 else c1) = c1 := by split <;> omega
      have m3 : (if r1 < r2 then r2 else r1) = r1 := by split <;> omega
      have m4 : (if c1 < c2 then c2 else c1) = c2 := by split <;> omega
      rw [m1, m2, m3, m4] at Hv
      clear hx hy
      go_wp2_with fail
      go_quiet (fail)
      obtain ⟨w3, e3, hb3⟩ := drewN_abs w2 nq
      rw [e3]; clear e3
      obtain ⟨hc3, hf3⟩ := bcell hb3
      obtain ⟨z30, z31, z32⟩ : w.heap.size < w3.heap.size ∧ w.heap.size + 1 < w3.heap.size ∧ w.heap.size + 1 + 1 < w3.heap.size := by have := hb3.size; omega
      have hb000 : Below w.heap.size w w3 := (by repeat' (first | with_reducible assumption | with_reducible exact Below.refl _ _ | with_reducible refine allocB ?_ | with_reducible refine setB ?_ ?_ | with_reducible refine drewB ?_ | with_reducible refine after ?_ (by assumption) | (simp; omega) | omega))
      clear hb3 hb00
      go_wp2
      exact bodyPost_ret (v := .tuple #[.agg #[.int .i64 sh, .int .i64 r2, .int .i64 c1, .int .i64 (r1 - r2 + 1), .int .i64 (c2 - c1 + 1)], .int .i64 0]) (by simp [results, Tryz.results20, go_sem, *]; omega) rfl ⟨by rw [Hv.out]; rfl, (by repeat' (first | with_reducible assumption | with_reducible exact Below.refl _ _ | with_reducible refine allocB ?_ | with_reducible refine setB ?_ ?_ | with_reducible refine drewB ?_ | with_reducible refine after ?_ (by assumption) | (simp; omega) | omega))⟩
  · by_cases hy : c2 < c1
    · have m1 : (if r2 < r1 then r2 else r1) = r1 := by split <;> omega
      have m2 : (if c2 < c1 then c2 else c1) = c2 := by split <;> omega
      have m3 : (if r1 < r2 then r2 else r1) = r2 := by split <;> omega
      have m4 : (if c1 < c2 then c2 else c1) = c1 := by split <;> omega
      rw [m1, m2, m3, m4] at Hv
      clear hx hy
      go_wp2_with fail
      go_quiet (fail)
      obtain ⟨w3, e3, hb3⟩ := drewN_abs w2 nq
      rw [e3]; clear e3
      obtain ⟨hc3, hf3⟩ := bcell hb3
      obtain ⟨z30, z31, z32⟩ : w.heap.size < w3.heap.size ∧ w.heap.size + 1 < w3.heap.size ∧ w.heap.size + 1 + 1 < w3.heap.size := by have := hb3.size; omega
      have hb000 : Below w.heap.size w w3 := (by repeat' (first | with_reducible assumption | with_reducible exact Below.refl _ _ | with_reducible refine allocB ?_ | with_reducible refine setB ?_ ?_ | with_reducible refine drewB ?_ | with_reducible refine after ?_ (by assumption) | (simp; omega) | omega))
      clear hb3 hb00
      go_wp2
      exact bodyPost_ret (v := .tuple #[.agg #[.int .i64 sh, .int .i64 r1, .int .i64 c2, .int .i64 (r2 - r1 + 1), .int .i64 (c1 - c2 + 1)], .int .i64 0]) (by simp [results, Tryz.results20, go_sem, *]; omega) rfl ⟨by rw [Hv.out]; rfl, (by repeat' (first | with_reducible assumption | with_reducible exact Below.refl _ _ | with_reducible refine allocB ?_ | with_reducible refine setB ?_ ?_ | with_reducible refine drewB ?_ | with_reducible refine after ?_ (by assumption) | (simp; omega) | omega))⟩
    · have m1 : (if r2 < r1 then r2 else r1) = r1 := by split <;> omega
      have m2 : (if c2 < c1 then c2 else c1) = c1 := by split <;> omega
      have m3 : (if r1 < r2 then r2 else r1) = r2 := by split <;> omega
      have m4 : (if c1 < c2 then c2 else c1) = c2 := by split <;> omega
      rw [m1, m2, m3, m4] at Hv
      clear hx hy
      go_wp2_with fail
      go_quiet (fail)
      obtain ⟨w3, e3, hb3⟩ := drewN_abs w2 nq
      rw [e3]; clear e3
      obtain ⟨hc3, hf3⟩ := bcell hb3
      obtain ⟨z30, z31, z32⟩ : w.heap.size < w3.heap.size ∧ w.heap.size + 1 < w3.heap.size ∧ w.heap.size + 1 + 1 < w3.heap.size := by have := hb3.size; omega
      have hb000 : Below w.heap.size w w3 := (by repeat' (first | with_reducible assumption | with_reducible exact Below.refl _ _ | with_reducible refine allocB ?_ | with_reducible refine setB ?_ ?_ | with_reducible refine drewB ?_ | with_reducible refine after ?_ (by assumption) | (simp; omega) | omega))
      clear hb3 hb00
      go_wp2
      exact bodyPost_ret (v := .tuple #[.agg #[.int .i64 sh, .int .i64 r1, .int .i64 c1, .int .i64 (r2 - r1 + 1), .int .i64 (c2 - c1 + 1)], .int .i64 0]) (by simp [results, Tryz.results20, go_sem, *]; omega) rfl ⟨by rw [Hv.out]; rfl, (by repeat' (first | with_reducible assumption | with_reducible exact Below.refl _ _ | with_reducible refine allocB ?_ | with_reducible refine setB ?_ ?_ | with_reducible refine drewB ?_ | with_reducible refine after ?_ (by assumption) | (simp; omega) | omega))⟩

theorem Area_any (a b : RefD) (sh : Int) (w : World) (hg : Good w) (ha : RefIn a) (hb : RefIn b) : Calls Tryz.prog 20 #[refV a, refV b, .int .i64 sh] w (Ret (.tuple #[areaV (areaOf a b sh).1, .int .i64 (areaOf a b sh).2]) w) := by
  obtain ⟨s1, r1, c1, x1, y1, z1⟩ := a
  obtain ⟨s2, r2, c2, x2, y2, z2⟩ := b
  have l1 := ha.1
  have l2 := hb.1
  by_cases h : sh < 0 ∨ 8 ≤ sh
  · exact Area_sheet _ _ _ _ _ _ _ _ _ _ _ _ _ w hg l1 l2 h
  have h' : 0 ≤ sh ∧ sh < 8 := by omega
  cases R1 : rightB s1.data.toList r1 c1 x1 y1 z1
  · exact Area_a _ _ _ _ _ _ _ _ _ _ _ _ _ w hg l1 l2 h' R1
  cases R2 : rightB s2.data.toList r2 c2 x2 y2 z2
  · exact Area_b _ _ _ _ _ _ _ _ _ _ _ _ _ w hg l1 l2 h' R1 R2
  cases z1
  · cases z2
    · exact Area_d _ _ _ _ _ _ _ _ _ _ _ w hg l1 l2 h' R1 R2
    · exact Area_c _ _ _ _ _ _ _ _ _ _ _ _ _ w hg l1 l2 h' R1 R2 (.inr rfl)
  · exact Area_c _ _ _ _ _ _ _ _ _ _ _ _ _ w hg l1 l2 h' R1 R2 (.inl rfl)
end Go.Proofs.YtmeiboajpbflcaaGreatDoor
