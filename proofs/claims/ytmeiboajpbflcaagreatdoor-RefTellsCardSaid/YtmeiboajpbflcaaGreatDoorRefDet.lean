/- The walks of tabulalaw02.RefName and RefOf: what they return as functions of what they take. -/
import Derived.Test.YtmeiboajpbflcaaGreatDoorRefOf
import Derived.Test.YtmeiboajpbflcaaGreatDoorRound
namespace Tab
def nameF : Nat → Bs → Bs → Bs
  | 0, _, out => out
  | n + 1, l, out => if l = [] ∨ 20 ≤ out.length then out else
      if nameB (out ++ l.take (max (signN l) 1)) = true then nameF n (l.drop (max (signN l) 1)) (out ++ l.take (max (signN l) 1)) else nameF n (l.drop (max (signN l) 1)) out
def nameEnd (o : Bs) : Bs := if o = [] then [83] else o
def refNameD (l : Bs) : Bs := nameEnd (nameF l.length l [])
theorem nameF_ok : ∀ (n : Nat) (l out : Bs), (out = [] ∨ nameB out = true) → (nameF n l out = [] ∨ nameB (nameF n l out) = true)
  | 0, _, _, h => h
  | n + 1, l, out, h => by
    unfold nameF
    split
    · exact h
    · split
      · exact nameF_ok n _ _ (.inr (by assumption))
      · exact nameF_ok n _ _ h
theorem refNameD_ok (l : Bs) : nameB (refNameD l) = true := by
  unfold refNameD nameEnd
  split
  · decide
  · exact (nameF_ok _ _ _ (.inl rfl)).resolve_left (by assumption)
end Tab
namespace Go.Proofs.YtmeiboajpbflcaaGreatDoor
open Go.RowKit Tab

def refOfD (r : RefD) : RefD :=
  if r.bad = true ∧ pickI r.row 4 = 0 then ⟨⟨#[]⟩, 0, 0, false, false, true⟩
  else ⟨if r.s.data.toList = [] then ⟨#[]⟩ else ⟨(refNameD r.s.data.toList).toArray⟩, pickI r.row 200, pickI r.col 52, r.fr, r.fc, false⟩
theorem refOfD_made (r : RefD) : RefMade r.row r.col r.fr r.fc r.bad (refOfD r) := by
  unfold refOfD
  split
  · rename_i h; exact .inl ⟨h.1, rfl⟩
  · refine .inr ⟨_, ?_, rfl⟩
    split
    · exact .inl rfl
    · exact .inr (refNameD_ok _)
theorem ne_list {s : ByteArray} (h : s.toList.isEmpty = false) : ¬ s.data.toList = [] := by
  intro e
  rw [ByteArray.toList_eq, e] at h; cases h
theorem ne_nilD {l : Bs} (h : ¬ l = []) : (ByteArray.mk l.toArray).toList.isEmpty = false := by
  rw [ByteArray.toList_eq]; cases l with
  | nil => exact absurd rfl h
  | cons b l => rfl

set_option maxRecDepth 100000 in
set_option maxHeartbeats 2000000 in
theorem RefName_is (s : ByteArray) (w : World) (hm : s.size ≤ 9223372036854775807) : Calls Tryz.prog 29 #[.string s] w (Still (strV (refNameD s.data.toList)) w) := by
  have cS : ∀ k, Calls Tryz.prog 53 #[.string (s.extract k s.size)] w (Still (.int .i64 (signN (s.data.toList.drop k))) w) := fun k => by
    have := Sign_any (s.extract k s.size) w (by rw [ByteArray.size_extract]; omega)
    rwa [drop_ext] at this
  unfold refNameD
  obtain ⟨V, hV⟩ : ∃ V, nameF s.data.toList.length s.data.toList [] = V := ⟨_, rfl⟩
  rw [hV]
  go_enter Tryz.func29, Tryz.ntmps29
  go_wp2
  go_loop [3, 4] (fun o i => ∃ (k f : Nat) (t : ByteArray), k ≤ s.size ∧ s.size ≤ k + f ∧ i = .int .i64 k ∧ o = .string t ∧ nameF f (s.data.toList.drop k) t.data.toList = V) (fun _ i => s.size - (intOf i).toNat)
  case atStart => exact ⟨0, s.size, ⟨#[]⟩, by omega, by omega, rfl, rfl, hV⟩
  case round =>
    clear hV
    obtain ⟨k, f, t, hk, hf, rfl, rfl, hI⟩ := hrel
    have HI := Lib.hid hI; clear hI
    by_cases hlt : k < s.size
    · obtain ⟨f, rfl⟩ : ∃ g, f = g + 1 := ⟨f - 1, by omega⟩
      have hne : s.data.toList.drop k ≠ [] := by rw [drop_at s k hlt]; simp
      by_cases ht : t.size < 20
      · have hst : nameF (f + 1) (s.data.toList.drop k) t.data.toList = if nameB (t.data.toList ++ (s.data.toList.drop k).take (max (signN (s.data.toList.drop k)) 1)) = true then nameF f ((s.data.toList.drop k).drop (max (signN (s.data.toList.drop k)) 1)) (t.data.toList ++ (s.data.toList.drop k).take (max (signN (s.data.toList.drop k)) 1)) else nameF f ((s.data.toList.drop k).drop (max (signN (s.data.toList.drop k)) 1)) t.data.toList := by
          conv => lhs; unfold nameF
          rw [if_neg (by rw [ba_size]; rintro (h | h); exact hne h; omega)]
        rw [HI.out] at hst
        rw [List.drop_drop] at hst
        have hl4 := sign_le4 (s.data.toList.drop k)
        have hle := sign_le (s.data.toList.drop k)
        rw [List.length_drop, ba_size] at hle
        have cS := cS k
        generalize signN (s.data.toList.drop k) = n at *
        obtain ⟨m, hm0, hm1, hm2, hm4, hm3⟩ : ∃ m : Nat, max n 1 = m ∧ max (n : Int) 1 = m ∧ 1 ≤ m ∧ m ≤ 4 ∧ k + m ≤ s.size := by
          by_cases h : n = 0
          · exact ⟨1, by omega, by omega, by omega, by omega, by omega⟩
          · exact ⟨n, by omega, by omega, by omega, by omega, by omega⟩
        rw [hm0] at hst
        have ex : (t ++ s.extract k (k + m)).data.toList = t.data.toList ++ (s.data.toList.drop k).take m := by
          rw [ba_append, ba_extract, List.drop_take, show k + m - k = m by omega]
        rw [← ex] at hst
        have Hst := Lib.hid hst
        clear hst ex hne hm0 HI
        have cN := IsSheet_any (t ++ s.extract k (k + m)) w (by rw [ByteArray.size_append, ByteArray.size_extract]; omega)
        by_cases hB : nameB (t ++ s.extract k (k + m)).data.toList = true
        · have Hn : Hid (nameF f (s.data.toList.drop (k + m)) (t ++ s.extract k (k + m)).data.toList = V) := by show _ = _; rw [Hst.out, if_pos hB]
          rw [hB] at cN
          clear hB Hst
          go_wp2_with (go_at_call 53; refine cS.mono ?_; rintro e w1 ⟨rfl, rfl⟩)
          go_wp2_with (go_at_call 48; refine cN.mono ?_; rintro e w1 ⟨rfl, rfl⟩)
          go_round
          case rel => exact ⟨k + m, f, _, by omega, by omega, by go_num, rfl, Hn.out⟩
          case measure => simp [intOf]; omega
        · have Hn : Hid (nameF f (s.data.toList.drop (k + m)) t.data.toList = V) := by show _ = _; rw [Hst.out, if_neg hB]
          rw [Bool.not_eq_true] at hB
          rw [hB] at cN
          clear hB Hst
          go_wp2_with (go_at_call 53; refine cS.mono ?_; rintro e w1 ⟨rfl, rfl⟩)
          go_wp2_with (go_at_call 48; refine cN.mono ?_; rintro e w1 ⟨rfl, rfl⟩)
          go_round
          case rel => exact ⟨k + m, f, t, by omega, by omega, by go_num, rfl, Hn.out⟩
          case measure => simp [intOf]; omega
      · have e1 : decide ((t.size : Int) < 20) = false := dF (by omega)
        have Hn : Hid (t.data.toList = V) := by
          show _ = _
          rw [← HI.out]; unfold nameF; rw [if_pos (.inr (by rw [ba_size]; omega))]
        clear HI hne
        have hx : t.data.toList ≠ [] := by intro e; have := ba_size t; rw [e] at this; simp at this; omega
        have hx2 : t.toList.isEmpty = false := by rw [← ba_eta t]; exact ne_nilD hx
        have Hx := Lib.hid hx; clear hx
        go_wp2
        go_ret; exact Still.mk' (strV_eq (by unfold nameEnd; rw [← Hn.out, if_neg Hx.out]))
    · have e1 : decide ((k : Int) < s.size) = false := dF (by omega)
      have Hn : Hid (t.data.toList = V) := by
        show _ = _
        rw [← HI.out, List.drop_eq_nil_of_le (by rw [ba_size]; omega)]
        cases f <;> rfl
      clear HI
      by_cases hx : t.data.toList = []
      · have Hq : Hid (nameEnd V = [83]) := by show _ = _; unfold nameEnd; rw [← Hn.out, if_pos hx]
        have hx2 : t.toList.isEmpty = true := by rw [ByteArray.toList_eq, hx]; rfl
        clear hx Hn
        go_wp2
        go_ret; exact Still.mk' (by rw [Hq.out]; rfl)
      · have hx2 : t.toList.isEmpty = false := by rw [← ba_eta t]; exact ne_nilD hx
        have Hx := Lib.hid hx; clear hx
        go_wp2
        go_ret; exact Still.mk' (strV_eq (by unfold nameEnd; rw [← Hn.out, if_neg Hx.out]))

set_option maxRecDepth 100000 in
theorem RefOfD_gone (s : ByteArray) (row col : Int) (x y : Bool) (w : World) (hr : Int64 row) (hp : (pickI row 4 == 0) = true) : Calls Tryz.prog 6 #[.agg #[.string s, .int .i64 row, .int .i64 col, .bool x, .bool y, .bool true]] w (Ret (refV (refOfD ⟨s, row, col, x, y, true⟩)) w) := by
  have HR : Hid (refOfD ⟨s, row, col, x, y, true⟩ = ⟨⟨#[]⟩, 0, 0, false, false, true⟩) := by show _ = _; unfold refOfD; simp [show pickI row 4 = 0 from beq_iff_eq.1 hp]
  go_enter Tryz.func6, Tryz.ntmps6
  go_wp2_with (go_at_call 7; refine (pick_any _ _ _ hr.1 hr.2 (by omega) (by omega)).mono ?_; rintro e w1 ⟨rfl, rfl⟩)
  exact bodyPost_ret (v := refV ⟨⟨#[]⟩, 0, 0, false, false, true⟩) (by simp [results, Tryz.results6, go_sem, refV, *]) rfl ⟨by rw [HR.out], (by repeat' (first | with_reducible assumption | with_reducible exact Below.refl _ _ | with_reducible refine allocB ?_ | with_reducible refine setB ?_ ?_ | with_reducible refine drewB ?_ | with_reducible refine after ?_ (by assumption) | (simp; omega) | omega))⟩

set_option maxRecDepth 100000 in
set_option maxHeartbeats 1000000 in
theorem RefOfD_bare (row col : Int) (x y : Bool) (w : World) (hr : Int64 row) (hc : Int64 col) : Calls Tryz.prog 6 #[.agg #[.string ⟨#[]⟩, .int .i64 row, .int .i64 col, .bool x, .bool y, .bool false]] w (Ret (refV (refOfD ⟨⟨#[]⟩, row, col, x, y, false⟩)) w) := by
  have HR : Hid (refOfD ⟨⟨#[]⟩, row, col, x, y, false⟩ = ⟨⟨#[]⟩, pickI row 200, pickI col 52, x, y, false⟩) := by show _ = _; unfold refOfD; simp
  go_enter Tryz.func6, Tryz.ntmps6
  go_wp2
  refine wp_abs fun w1 hb1 => ?_
  obtain ⟨hc1, hf1⟩ := bcell hb1
  obtain ⟨z10, z11⟩ : w.heap.size < w1.heap.size ∧ w.heap.size + 1 < w1.heap.size := by have := hb1.size; simp at this; omega
  have kc := gcell w1
  refine region_made_tail 12 (by kernel_rfl) (by kernel_rfl) fun β => ?_
  simp only [List.take_succ_cons, List.take_zero, List.drop_succ_cons, List.drop_zero]
  repeat (refine wpM_step (fun K hK => ?_); go_simp; first | (refine hK _ ?_; clear hK K) | (apply Exists.intro; refine ⟨fun _ => ⟨by kernel_rfl, ?_⟩, hK _ ?_⟩; exact pick_ret _ _ (by assumption) (by omega) (by omega) _ _ (below_regrown _ _ _); clear hK K))
  refine wpM_make (fun b => .pointer (some ⟨b, 0, none⟩)) (.cells #[.string ⟨#[]⟩, .int .i64 0, .int .i64 0, .bool false, .bool false, .bool false] 23) rfl (fun W _ => by kernel_rfl) ?_
  refine wpM_nil ?_
  intro w2 ⟨hb2, hla, hap⟩
  obtain ⟨zb, hl2⟩ := hla 11 _ _ rfl
  have k0 : Blk w1 w.heap.size #[.string ⟨#[]⟩, .int .i64 row, .int .i64 col, .bool x, .bool y, .bool false] := (((Blk.new rfl).alloc).below hb1)
  have k1 : Blk w1 (w.heap.size + 1) #[.string ⟨#[]⟩, .int .i64 0, .int .i64 0, .bool false, .bool false, .bool false] := ((Blk.new (by simp)).below hb1)
  have k2 := k0.below hb2
  have k3 := k1.below hb2
  have k4 : Blk w2 (β 11) _ := ⟨_, hl2⟩
  have hb0 : Below w.heap.size w w2 := (by repeat' (first | with_reducible assumption | with_reducible exact Below.refl _ _ | with_reducible refine allocB ?_ | with_reducible refine setB ?_ ?_ | with_reducible refine drewB ?_ | with_reducible refine after ?_ (by assumption) | (simp; omega) | omega))
  clear hl2 hla hap kc hc1 hf1 k0 k1
  have zb2 : w1.heap.size ≤ β 11 := zb
  obtain ⟨y1, y2, y3, y4, y5⟩ : ¬ β 11 = w.heap.size ∧ ¬ β 11 = w.heap.size + 1 ∧ ¬ w.heap.size = β 11 ∧ ¬ w.heap.size + 1 = β 11 ∧ w.heap.size ≤ β 11 := by omega
  clear hb1 hb2 zb zb2
  generalize β 11 = b at *
  obtain ⟨f2, g2, z2⟩ := k2.facts
  obtain ⟨f3, g3, z3⟩ := k3.facts
  obtain ⟨f4, g4, z4⟩ := k4.facts
  go_upto_region 4 with (fail)
  refine wp_abs2 (fun w3 => Blk w3 w.heap.size #[.string ⟨#[]⟩, .int .i64 row, .int .i64 col, .bool x, .bool y, .bool false] ∧ Blk w3 (w.heap.size + 1) #[.string ⟨#[]⟩, .int .i64 0, .int .i64 0, .bool false, .bool false, .bool false] ∧ Blk w3 b #[.string ⟨#[]⟩, .int .i64 (pickI row 200), .int .i64 (pickI col 52), .bool x, .bool y, .bool false] ∧ Below w.heap.size w w3)
    ⟨by repeat' (first | with_reducible assumption | (with_reducible refine Blk.other ?_ ?_) | omega), by repeat' (first | with_reducible assumption | (with_reducible refine Blk.other ?_ ?_) | omega), (by apply Blk.eq; (repeat' (first | with_reducible assumption | with_reducible apply Blk.set)); rfl), (by repeat' (first | with_reducible assumption | with_reducible exact Below.refl _ _ | with_reducible refine allocB ?_ | with_reducible refine setB ?_ ?_ | with_reducible refine drewB ?_ | with_reducible refine after ?_ (by assumption) | (simp; omega) | omega))⟩ ?_
  clear f2 g2 z2 f3 g3 z3 f4 g4 z4 k2 k3 k4 hb0
  rintro w3 ⟨k2, k3, k4, hb0⟩
  obtain ⟨f2, g2, z2⟩ := k2.facts
  obtain ⟨f3, g3, z3⟩ := k3.facts
  obtain ⟨f4, g4, z4⟩ := k4.facts
  go_wp2
  exact bodyPost_ret (v := refV ⟨⟨#[]⟩, pickI row 200, pickI col 52, x, y, false⟩) (by simp [results, Tryz.results6, go_sem, refV, *]) rfl ⟨by rw [HR.out], (by repeat' (first | with_reducible assumption | with_reducible exact Below.refl _ _ | with_reducible refine allocB ?_ | with_reducible refine setB ?_ ?_ | with_reducible refine drewB ?_ | with_reducible refine after ?_ (by assumption) | (simp; omega) | omega))⟩

set_option maxRecDepth 100000 in
set_option maxHeartbeats 1000000 in
theorem RefOfD_named (s : ByteArray) (row col : Int) (x y : Bool) (w : World) (hr : Int64 row) (hc : Int64 col) (hs : s.size ≤ 9223372036854775807) (he : s.toList.isEmpty = false) : Calls Tryz.prog 6 #[.agg #[.string s, .int .i64 row, .int .i64 col, .bool x, .bool y, .bool false]] w (Ret (refV (refOfD ⟨s, row, col, x, y, false⟩)) w) := by
  have HR : Hid (refOfD ⟨s, row, col, x, y, false⟩ = ⟨⟨(refNameD s.data.toList).toArray⟩, pickI row 200, pickI col 52, x, y, false⟩) := by show _ = _; unfold refOfD; simp [ne_list he]
  go_enter Tryz.func6, Tryz.ntmps6
  go_wp2
  refine wp_abs fun w1 hb1 => ?_
  obtain ⟨hc1, hf1⟩ := bcell hb1
  obtain ⟨z10, z11⟩ : w.heap.size < w1.heap.size ∧ w.heap.size + 1 < w1.heap.size := by have := hb1.size; simp at this; omega
  have kc := gcell w1
  refine region_made_tail 12 (by kernel_rfl) (by kernel_rfl) fun β => ?_
  simp only [List.take_succ_cons, List.take_zero, List.drop_succ_cons, List.drop_zero]
  repeat (refine wpM_step (fun K hK => ?_); go_simp; first | (refine hK _ ?_; clear hK K) | (apply Exists.intro; refine ⟨fun _ => ⟨by kernel_rfl, ?_⟩, hK _ ?_⟩; exact pick_ret _ _ (by assumption) (by omega) (by omega) _ _ (below_regrown _ _ _); clear hK K))
  refine wpM_make (fun b => .pointer (some ⟨b, 0, none⟩)) (.cells #[.string ⟨#[]⟩, .int .i64 0, .int .i64 0, .bool false, .bool false, .bool false] 23) rfl (fun W _ => by kernel_rfl) ?_
  refine wpM_nil ?_
  intro w2 ⟨hb2, hla, hap⟩
  obtain ⟨zb, hl2⟩ := hla 11 _ _ rfl
  have k0 : Blk w1 w.heap.size #[.string s, .int .i64 row, .int .i64 col, .bool x, .bool y, .bool false] := (((Blk.new rfl).alloc).below hb1)
  have k1 : Blk w1 (w.heap.size + 1) #[.string ⟨#[]⟩, .int .i64 0, .int .i64 0, .bool false, .bool false, .bool false] := ((Blk.new (by simp)).below hb1)
  have k2 := k0.below hb2
  have k3 := k1.below hb2
  have k4 : Blk w2 (β 11) _ := ⟨_, hl2⟩
  have hb0 : Below w.heap.size w w2 := (by repeat' (first | with_reducible assumption | with_reducible exact Below.refl _ _ | with_reducible refine allocB ?_ | with_reducible refine setB ?_ ?_ | with_reducible refine drewB ?_ | with_reducible refine after ?_ (by assumption) | (simp; omega) | omega))
  clear hl2 hla hap kc hc1 hf1 k0 k1
  have zb2 : w1.heap.size ≤ β 11 := zb
  obtain ⟨y1, y2, y3, y4, y5⟩ : ¬ β 11 = w.heap.size ∧ ¬ β 11 = w.heap.size + 1 ∧ ¬ w.heap.size = β 11 ∧ ¬ w.heap.size + 1 = β 11 ∧ w.heap.size ≤ β 11 := by omega
  clear hb1 hb2 zb zb2
  generalize β 11 = b at *
  obtain ⟨f2, g2, z2⟩ := k2.facts
  obtain ⟨f3, g3, z3⟩ := k3.facts
  obtain ⟨f4, g4, z4⟩ := k4.facts
  go_upto_region 4 with (fail)
  refine wp_abs2 (fun w3 => Blk w3 w.heap.size #[.string s, .int .i64 row, .int .i64 col, .bool x, .bool y, .bool false] ∧ Blk w3 (w.heap.size + 1) #[.string ⟨#[]⟩, .int .i64 0, .int .i64 0, .bool false, .bool false, .bool false] ∧ Blk w3 b #[.string ⟨#[]⟩, .int .i64 (pickI row 200), .int .i64 (pickI col 52), .bool x, .bool y, .bool false] ∧ Below w.heap.size w w3)
    ⟨by repeat' (first | with_reducible assumption | (with_reducible refine Blk.other ?_ ?_) | omega), by repeat' (first | with_reducible assumption | (with_reducible refine Blk.other ?_ ?_) | omega), (by apply Blk.eq; (repeat' (first | with_reducible assumption | with_reducible apply Blk.set)); rfl), (by repeat' (first | with_reducible assumption | with_reducible exact Below.refl _ _ | with_reducible refine allocB ?_ | with_reducible refine setB ?_ ?_ | with_reducible refine drewB ?_ | with_reducible refine after ?_ (by assumption) | (simp; omega) | omega))⟩ ?_
  clear f2 g2 z2 f3 g3 z3 f4 g4 z4 k2 k3 k4 hb0
  rintro w3 ⟨k2, k3, k4, hb0⟩
  obtain ⟨f2, g2, z2⟩ := k2.facts
  obtain ⟨f3, g3, z3⟩ := k3.facts
  obtain ⟨f4, g4, z4⟩ := k4.facts
  go_wp2_with fail
  refine (RefName_is s _ hs).mono ?_
  rintro e w4 ⟨rfl, rfl⟩
  unfold strV
  go_wp2
  exact bodyPost_ret (v := refV ⟨⟨(refNameD s.data.toList).toArray⟩, pickI row 200, pickI col 52, x, y, false⟩) (by simp [results, Tryz.results6, go_sem, refV, *]) rfl ⟨by rw [HR.out], (by repeat' (first | with_reducible assumption | with_reducible exact Below.refl _ _ | with_reducible refine allocB ?_ | with_reducible refine setB ?_ ?_ | with_reducible refine drewB ?_ | with_reducible refine after ?_ (by assumption) | (simp; omega) | omega))⟩

set_option maxRecDepth 100000 in
set_option maxHeartbeats 1000000 in
theorem RefOfD_badbare (row col : Int) (x y : Bool) (w : World) (hr : Int64 row) (hc : Int64 col) (hp : (pickI row 4 == 0) = false) : Calls Tryz.prog 6 #[.agg #[.string ⟨#[]⟩, .int .i64 row, .int .i64 col, .bool x, .bool y, .bool true]] w (Ret (refV (refOfD ⟨⟨#[]⟩, row, col, x, y, true⟩)) w) := by
  have HR : Hid (refOfD ⟨⟨#[]⟩, row, col, x, y, true⟩ = ⟨⟨#[]⟩, pickI row 200, pickI col 52, x, y, false⟩) := by show _ = _; unfold refOfD; simp [show ¬ pickI row 4 = 0 from beq_eq_false_iff_ne.1 hp]
  go_enter Tryz.func6, Tryz.ntmps6
  go_wp2_with (go_at_call 7; refine (pick_any _ _ _ hr.1 hr.2 (by omega) (by omega)).mono ?_; rintro e w1 ⟨rfl, rfl⟩)
  refine wp_abs fun w1 hb1 => ?_
  obtain ⟨hc1, hf1⟩ := bcell hb1
  obtain ⟨z10, z11⟩ : w.heap.size < w1.heap.size ∧ w.heap.size + 1 < w1.heap.size := by have := hb1.size; simp at this; omega
  have kc := gcell w1
  refine region_made_tail 12 (by kernel_rfl) (by kernel_rfl) fun β => ?_
  simp only [List.take_succ_cons, List.take_zero, List.drop_succ_cons, List.drop_zero]
  repeat (refine wpM_step (fun K hK => ?_); go_simp; first | (refine hK _ ?_; clear hK K) | (apply Exists.intro; refine ⟨fun _ => ⟨by kernel_rfl, ?_⟩, hK _ ?_⟩; exact pick_ret _ _ (by assumption) (by omega) (by omega) _ _ (below_regrown _ _ _); clear hK K))
  refine wpM_make (fun b => .pointer (some ⟨b, 0, none⟩)) (.cells #[.string ⟨#[]⟩, .int .i64 0, .int .i64 0, .bool false, .bool false, .bool false] 23) rfl (fun W _ => by kernel_rfl) ?_
  refine wpM_nil ?_
  intro w2 ⟨hb2, hla, hap⟩
  obtain ⟨zb, hl2⟩ := hla 11 _ _ rfl
  have k0 : Blk w1 w.heap.size #[.string ⟨#[]⟩, .int .i64 row, .int .i64 col, .bool x, .bool y, .bool true] := (((Blk.new rfl).alloc).below hb1)
  have k1 : Blk w1 (w.heap.size + 1) #[.string ⟨#[]⟩, .int .i64 0, .int .i64 0, .bool false, .bool false, .bool false] := ((Blk.new (by simp)).below hb1)
  have k2 := k0.below hb2
  have k3 := k1.below hb2
  have k4 : Blk w2 (β 11) _ := ⟨_, hl2⟩
  have hb0 : Below w.heap.size w w2 := (by repeat' (first | with_reducible assumption | with_reducible exact Below.refl _ _ | with_reducible refine allocB ?_ | with_reducible refine setB ?_ ?_ | with_reducible refine drewB ?_ | with_reducible refine after ?_ (by assumption) | (simp; omega) | omega))
  clear hl2 hla hap kc hc1 hf1 k0 k1
  have zb2 : w1.heap.size ≤ β 11 := zb
  obtain ⟨y1, y2, y3, y4, y5⟩ : ¬ β 11 = w.heap.size ∧ ¬ β 11 = w.heap.size + 1 ∧ ¬ w.heap.size = β 11 ∧ ¬ w.heap.size + 1 = β 11 ∧ w.heap.size ≤ β 11 := by omega
  clear hb1 hb2 zb zb2
  generalize β 11 = b at *
  obtain ⟨f2, g2, z2⟩ := k2.facts
  obtain ⟨f3, g3, z3⟩ := k3.facts
  obtain ⟨f4, g4, z4⟩ := k4.facts
  go_upto_region 4 with (fail)
  refine wp_abs2 (fun w3 => Blk w3 w.heap.size #[.string ⟨#[]⟩, .int .i64 row, .int .i64 col, .bool x, .bool y, .bool true] ∧ Blk w3 (w.heap.size + 1) #[.string ⟨#[]⟩, .int .i64 0, .int .i64 0, .bool false, .bool false, .bool false] ∧ Blk w3 b #[.string ⟨#[]⟩, .int .i64 (pickI row 200), .int .i64 (pickI col 52), .bool x, .bool y, .bool false] ∧ Below w.heap.size w w3)
    ⟨by repeat' (first | with_reducible assumption | (with_reducible refine Blk.other ?_ ?_) | omega), by repeat' (first | with_reducible assumption | (with_reducible refine Blk.other ?_ ?_) | omega), (by apply Blk.eq; (repeat' (first | with_reducible assumption | with_reducible apply Blk.set)); rfl), (by repeat' (first | with_reducible assumption | with_reducible exact Below.refl _ _ | with_reducible refine allocB ?_ | with_reducible refine setB ?_ ?_ | with_reducible refine drewB ?_ | with_reducible refine after ?_ (by assumption) | (simp; omega) | omega))⟩ ?_
  clear f2 g2 z2 f3 g3 z3 f4 g4 z4 k2 k3 k4 hb0
  rintro w3 ⟨k2, k3, k4, hb0⟩
  obtain ⟨f2, g2, z2⟩ := k2.facts
  obtain ⟨f3, g3, z3⟩ := k3.facts
  obtain ⟨f4, g4, z4⟩ := k4.facts
  go_wp2
  exact bodyPost_ret (v := refV ⟨⟨#[]⟩, pickI row 200, pickI col 52, x, y, false⟩) (by simp [results, Tryz.results6, go_sem, refV, *]) rfl ⟨by rw [HR.out], (by repeat' (first | with_reducible assumption | with_reducible exact Below.refl _ _ | with_reducible refine allocB ?_ | with_reducible refine setB ?_ ?_ | with_reducible refine drewB ?_ | with_reducible refine after ?_ (by assumption) | (simp; omega) | omega))⟩

set_option maxRecDepth 100000 in
set_option maxHeartbeats 1000000 in
theorem RefOfD_badnamed (s : ByteArray) (row col : Int) (x y : Bool) (w : World) (hr : Int64 row) (hc : Int64 col) (hs : s.size ≤ 9223372036854775807) (he : s.toList.isEmpty = false) (hp : (pickI row 4 == 0) = false) : Calls Tryz.prog 6 #[.agg #[.string s, .int .i64 row, .int .i64 col, .bool x, .bool y, .bool true]] w (Ret (refV (refOfD ⟨s, row, col, x, y, true⟩)) w) := by
  have HR : Hid (refOfD ⟨s, row, col, x, y, true⟩ = ⟨⟨(refNameD s.data.toList).toArray⟩, pickI row 200, pickI col 52, x, y, false⟩) := by show _ = _; unfold refOfD; simp [show ¬ pickI row 4 = 0 from beq_eq_false_iff_ne.1 hp, ne_list he]
  go_enter Tryz.func6, Tryz.ntmps6
  go_wp2_with (go_at_call 7; refine (pick_any _ _ _ hr.1 hr.2 (by omega) (by omega)).mono ?_; rintro e w1 ⟨rfl, rfl⟩)
  refine wp_abs fun w1 hb1 => ?_
  obtain ⟨hc1, hf1⟩ := bcell hb1
  obtain ⟨z10, z11⟩ : w.heap.size < w1.heap.size ∧ w.heap.size + 1 < w1.heap.size := by have := hb1.size; simp at this; omega
  have kc := gcell w1
  refine region_made_tail 12 (by kernel_rfl) (by kernel_rfl) fun β => ?_
  simp only [List.take_succ_cons, List.take_zero, List.drop_succ_cons, List.drop_zero]
  repeat (refine wpM_step (fun K hK => ?_); go_simp; first | (refine hK _ ?_; clear hK K) | (apply Exists.intro; refine ⟨fun _ => ⟨by kernel_rfl, ?_⟩, hK _ ?_⟩; exact pick_ret _ _ (by assumption) (by omega) (by omega) _ _ (below_regrown _ _ _); clear hK K))
  refine wpM_make (fun b => .pointer (some ⟨b, 0, none⟩)) (.cells #[.string ⟨#[]⟩, .int .i64 0, .int .i64 0, .bool false, .bool false, .bool false] 23) rfl (fun W _ => by kernel_rfl) ?_
  refine wpM_nil ?_
  intro w2 ⟨hb2, hla, hap⟩
  obtain ⟨zb, hl2⟩ := hla 11 _ _ rfl
  have k0 : Blk w1 w.heap.size #[.string s, .int .i64 row, .int .i64 col, .bool x, .bool y, .bool true] := (((Blk.new rfl).alloc).below hb1)
  have k1 : Blk w1 (w.heap.size + 1) #[.string ⟨#[]⟩, .int .i64 0, .int .i64 0, .bool false, .bool false, .bool false] := ((Blk.new (by simp)).below hb1)
  have k2 := k0.below hb2
  have k3 := k1.below hb2
  have k4 : Blk w2 (β 11) _ := ⟨_, hl2⟩
  have hb0 : Below w.heap.size w w2 := (by repeat' (first | with_reducible assumption | with_reducible exact Below.refl _ _ | with_reducible refine allocB ?_ | with_reducible refine setB ?_ ?_ | with_reducible refine drewB ?_ | with_reducible refine after ?_ (by assumption) | (simp; omega) | omega))
  clear hl2 hla hap kc hc1 hf1 k0 k1
  have zb2 : w1.heap.size ≤ β 11 := zb
  obtain ⟨y1, y2, y3, y4, y5⟩ : ¬ β 11 = w.heap.size ∧ ¬ β 11 = w.heap.size + 1 ∧ ¬ w.heap.size = β 11 ∧ ¬ w.heap.size + 1 = β 11 ∧ w.heap.size ≤ β 11 := by omega
  clear hb1 hb2 zb zb2
  generalize β 11 = b at *
  obtain ⟨f2, g2, z2⟩ := k2.facts
  obtain ⟨f3, g3, z3⟩ := k3.facts
  obtain ⟨f4, g4, z4⟩ := k4.facts
  go_upto_region 4 with (fail)
  refine wp_abs2 (fun w3 => Blk w3 w.heap.size #[.string s, .int .i64 row, .int .i64 col, .bool x, .bool y, .bool true] ∧ Blk w3 (w.heap.size + 1) #[.string ⟨#[]⟩, .int .i64 0, .int .i64 0, .bool false, .bool false, .bool false] ∧ Blk w3 b #[.string ⟨#[]⟩, .int .i64 (pickI row 200), .int .i64 (pickI col 52), .bool x, .bool y, .bool false] ∧ Below w.heap.size w w3)
    ⟨by repeat' (first | with_reducible assumption | (with_reducible refine Blk.other ?_ ?_) | omega), by repeat' (first | with_reducible assumption | (with_reducible refine Blk.other ?_ ?_) | omega), (by apply Blk.eq; (repeat' (first | with_reducible assumption | with_reducible apply Blk.set)); rfl), (by repeat' (first | with_reducible assumption | with_reducible exact Below.refl _ _ | with_reducible refine allocB ?_ | with_reducible refine setB ?_ ?_ | with_reducible refine drewB ?_ | with_reducible refine after ?_ (by assumption) | (simp; omega) | omega))⟩ ?_
  clear f2 g2 z2 f3 g3 z3 f4 g4 z4 k2 k3 k4 hb0
  rintro w3 ⟨k2, k3, k4, hb0⟩
  obtain ⟨f2, g2, z2⟩ := k2.facts
  obtain ⟨f3, g3, z3⟩ := k3.facts
  obtain ⟨f4, g4, z4⟩ := k4.facts
  go_wp2_with fail
  refine (RefName_is s _ hs).mono ?_
  rintro e w4 ⟨rfl, rfl⟩
  unfold strV
  go_wp2
  exact bodyPost_ret (v := refV ⟨⟨(refNameD s.data.toList).toArray⟩, pickI row 200, pickI col 52, x, y, false⟩) (by simp [results, Tryz.results6, go_sem, refV, *]) rfl ⟨by rw [HR.out], (by repeat' (first | with_reducible assumption | with_reducible exact Below.refl _ _ | with_reducible refine allocB ?_ | with_reducible refine setB ?_ ?_ | with_reducible refine drewB ?_ | with_reducible refine after ?_ (by assumption) | (simp; omega) | omega))⟩

theorem RefOfD_any (r : RefD) (w : World) (hr : Int64 r.row) (hc : Int64 r.col) (hs : r.s.size ≤ 9223372036854775807) : Calls Tryz.prog 6 #[refV r] w (Ret (refV (refOfD r)) w) := by
  obtain ⟨s, row, col, x, y, bad⟩ := r
  by_cases he : s.toList.isEmpty = true
  · have e : s = ⟨#[]⟩ := by
      rw [ByteArray.toList_eq, List.isEmpty_iff] at he
      obtain ⟨⟨l⟩⟩ := s; exact congrArg (fun l => ByteArray.mk ⟨l⟩) he
    subst e
    cases bad
    · exact RefOfD_bare row col x y w hr hc
    · by_cases hp : (pickI row 4 == 0) = true
      · exact RefOfD_gone _ row col x y w hr hp
      · exact RefOfD_badbare row col x y w hr hc (by simpa using hp)
  · rw [Bool.not_eq_true] at he
    cases bad
    · exact RefOfD_named s row col x y w hr hc hs he
    · by_cases hp : (pickI row 4 == 0) = true
      · exact RefOfD_gone _ row col x y w hr hp
      · exact RefOfD_badnamed s row col x y w hr hc hs he (by simpa using hp)
end Go.Proofs.YtmeiboajpbflcaaGreatDoor
