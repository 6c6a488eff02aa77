/- The law RefForms: its walk. -/
import Derived.Test.YtmeiboajpbflcaaDoorUses
import Derived.Test.YtmeiboajpbflcaaDoorBytes
import Derived.Test.YtmeiboajpbflcaaDoorMadeAll
namespace Go.Proofs.YtmeiboajpbflcaaDoor
open Go.RowKit Tab

theorem Right_is {t : ByteArray} {R C : Int} {x y z : Bool} {w : World} (hg : Good w) (ht : t.size ≤ 9223372036854775807) (h : RefD.right ⟨t, R, C, x, y, z⟩ = true) (W : World) (hB : Below w.heap.size w W) :
    Calls Tryd.prog 16 #[.agg #[.string t, .int .i64 R, .int .i64 C, .bool x, .bool y, .bool z]] W (Ret (.bool true) W) := by
  have := Right_any t R C x y z W (hg.below hB) ht
  rw [show rightB t.data.toList R C x y z = true from h] at this
  exact this
theorem right_small {r : RefD} (h : r.right = true) : r.s.size ≤ 30 := by
  obtain ⟨s, row, col, fr, fc, bad⟩ := r
  unfold RefD.right rightB at h
  cases bad
  · rw [if_neg Bool.false_ne_true, Bool.and_eq_true, Bool.or_eq_true] at h
    rcases h.1 with h | h
    · have : s.data.toList.length = 0 := by rw [List.isEmpty_iff.1 h]; rfl
      rw [ba_size] at this; dsimp only; omega
    · simp only [nameB, Bool.and_eq_true, decide_eq_true_eq] at h; rw [ba_size] at h; dsimp only; omega
  · rw [if_pos rfl] at h
    simp only [Bool.and_eq_true] at h
    have : s.data.toList.length = 0 := by rw [List.isEmpty_iff.1 h.1.1.1.1]; rfl
    rw [ba_size] at this; dsimp only; omega

set_option maxRecDepth 100000 in
set_option maxHeartbeats 8000000 in
theorem Forms_walk (s : ByteArray) (a : RefD) (at' c : Int) (w : World) (hg : Good w) (hs : s.size ≤ 9223372036854775807) (ha : RefIn a) (hat : Int64 at') (hc : 0 ≤ c ∧ c ≤ 255) (m : Nat) (hm : m ≤ 60) (hm' : m ≤ s.size) (hmin : min (s.size : Int) 60 = (m : Int)) :
    Calls Tryd.prog 4 #[.string s, refV a, .int .i64 at', .int .u8 c] w (Ret (.bool true) w) := by
  have cR : ∀ W, Below w.heap.size w W → _ := fun W (_ : Below w.heap.size w W) => RefOf_any a W ha.2.1 ha.2.2 ha.1
  have hsz : ¬ 9223372036854775807 < s.size := by omega
  obtain ⟨a0, a1, a2, a3, a4, a5⟩ := a
  unfold refV at *
  dsimp only at *
  clear ha
  go_enter Tryd.func4, Tryd.ntmps4
  go_wp2_with fail
  refine calls_abs (fun W => Blk W (w.heap.size) #[.string a0, .int .i64 a1, .int .i64 a2, .bool a3, .bool a4, .bool a5] ∧ Below w.heap.size w W) ⟨(by apply Blk.eq; (repeat' (first | with_reducible assumption | with_reducible apply Blk.set | with_reducible apply Blk.other | (with_reducible refine Blk.new ?_; simp; done) | with_reducible apply Blk.alloc | omega)); rfl), (by repeat' (first | with_reducible assumption | with_reducible exact Below.refl _ _ | with_reducible refine allocB ?_ | with_reducible refine setB ?_ ?_ | with_reducible refine drewB ?_ | with_reducible refine after ?_ (by assumption) | (simp; omega) | omega))⟩ ?_
  rintro wa ⟨k5, hb0⟩
  obtain ⟨f5, g5, z5⟩ := k5.facts
  refine (awake_any wa (hg.below hb0)).mono ?_; rintro e w1 ⟨rfl, hb1⟩
  replace k5 := k5.below hb1
  replace hb0 : Below w.heap.size w w1 := after hb0 hb1
  clear f5 g5 z5 hb1
  obtain ⟨f5, g5, z5⟩ := k5.facts
  go_wp2_with fail
  refine (cR w1 hb0).mono ?_; rintro e w2 ⟨⟨t, R, C, x, y, z⟩, hq, rfl, hb1⟩
  replace hb0 : Below w.heap.size w w2 := after hb0 hb1
  clear f5 g5 z5 hb1 k5 cR
  dsimp only
  obtain ⟨i1, r1, l1⟩ := made_in hq
  clear hq
  have hl1 := text_len ⟨t, R, C, x, y, z⟩
  obtain ⟨s1, hs1⟩ : ∃ s, (textD ⟨t, R, C, x, y, z⟩).1 = s := ⟨_, rfl⟩
  have e1 : textD ⟨t, R, C, x, y, z⟩ = (s1, 0) := by rw [← hs1]; unfold textD; rw [r1]; rfl
  rw [hs1] at hl1
  have c1 := fun W hb => Text_is (u := ⟨s1.toArray⟩) hg i1.1 e1 W hb
  clear hs1 e1 i1 r1 l1
  go_wp2_with fail
  refine (c1 w2 hb0).mono ?_; rintro e w3 ⟨rfl, hb1⟩
  replace hb0 : Below w.heap.size w w3 := after hb0 hb1
  clear hb1 c1
  obtain ⟨T, hT⟩ : ∃ T : ByteArray, T = ⟨s1.toArray⟩ := ⟨_, rfl⟩
  rw [← hT]
  have hTs : T.size ≤ 100 := by rw [hT]; exact hl1
  clear hT hl1
  obtain ⟨K, hK⟩ : ∃ P, pickI at' ((T.size : Int) + 1) = P := ⟨_, rfl⟩
  have cK := pick_is at' ((T.size : Int) + 1) hat (by omega) (by omega) K hK
  have rK := pickI_range at' ((T.size : Int) + 1) (by omega)
  rw [hK] at rK
  obtain ⟨k, rfl⟩ : ∃ k : Nat, K = (k : Int) := ⟨K.toNat, by omega⟩
  clear hK
  go_wp2_with fail
  refine (cK w3).mono ?_; rintro e w4 ⟨rfl, rfl⟩
  clear cK
  go_upto_region 6 with fail
  refine region_made (by kernel_rfl) (by kernel_rfl) fun β => ?_
  have hkT : k ≤ T.size := by omega
  have e1 : ¬ 9223372036854775807 < k + 1 := by omega
  have e2 : ¬ 9223372036854775807 < k + 1 + (T.size - k) := by omega
  iterate 9 (refine wpM_step (fun K hK => ?_); go_simp; refine hK _ ?_; clear hK K)
  refine wpM_make (fun b => .slice (some ⟨b, 0, none⟩) 1 1) (.cells #[.int .u8 c] 5) rfl (fun W _ => by kernel_rfl) ?_
  refine wpM_uses (.string ⟨#[c.toNat.toUInt8]⟩) rfl (fun W _ hX => ?_) ?_
  · have hl := hX ⟨9, .data⟩ (by simp) rfl _ _ rfl
    have hcc : ((c.toNat.toUInt8).toNat : Int) = c := by
      have : c.toNat % 256 = c.toNat := Nat.mod_eq_of_lt (by omega)
      simp only [Nat.toUInt8_eq, UInt8.toNat_ofNat']
      omega
    have hcv : (convert 31 9 (.slice (some ⟨β 9, 0, none⟩) 1 1)).run Tryd.prog W = .ok (.string ⟨#[UInt8.ofNat c.toNat]⟩) W := run_convert_bytes_back (P := Tryd.prog) W 31 9 5 ⟨β 9, 0, none⟩ 1 [c.toNat.toUInt8] Tryd.underlying31 Tryd.underlying5 Tryd.underlying9 (fun j hj => by
      match j, hj with
      | 0, _ => exact ((laid_cell hl).1 0).trans (congrArg some (congrArg (Value.int .u8) hcc.symm)))
    go_simp
  iterate 5 (refine wpM_step (fun K hK => ?_); go_simp; refine hK _ ?_; clear hK K)
  refine wpM_make (fun b => .slice (some ⟨b, 0, none⟩) 2 2) (.cells #[.string (s.extract 0 m), .string (T.extract 0 k ++ ⟨#[UInt8.ofNat c.toNat]⟩ ++ T.extract k T.size)] 9) rfl (fun W _ => by kernel_rfl) ?_
  iterate 2 (refine wpM_step (fun K hK => ?_); go_simp; refine hK _ ?_; clear hK K)
  refine wpM_nil ?_
  intro w5 ⟨hb2, hla, hap⟩
  obtain ⟨zb, hl2⟩ := hla 16 _ _ rfl
  have k51 : Blk w5 (β 16) _ := ⟨_, hl2⟩
  have hb5 : Below w.heap.size w w5 := after hb0 hb2
  clear hla hap hl2 zb hb2 hb0
  have q0 : (s.extract 0 m).size ≤ 1000 := by rw [ByteArray.size_extract]; omega
  have q1 : (T.extract 0 k ++ (⟨#[UInt8.ofNat c.toNat]⟩ : ByteArray) ++ T.extract k T.size).size ≤ 1000 := by
    rw [ByteArray.size_append, ByteArray.size_append, ByteArray.size_extract, ByteArray.size_extract, show (⟨#[UInt8.ofNat c.toNat]⟩ : ByteArray).size = 1 from rfl]; omega
  generalize s.extract 0 m = X0 at *
  generalize T.extract 0 k ++ (⟨#[UInt8.ofNat c.toNat]⟩ : ByteArray) ++ T.extract k T.size = X1 at *
  generalize β 16 = bS at *
  clear e1 e2 hkT rK hmin hm hm' hsz hTs
  go_wp2_with fail
  go_loopw [53] (fun i w' => ∃ j : Nat, j ≤ 2 ∧ i = .int .i64 j ∧ Blk w' bS #[.string X0, .string X1] ∧ Below w.heap.size w w') (fun i _ => 2 - (intOf i).toNat)
  case atStart => exact ⟨0, by omega, rfl, k51, hb5⟩
  case round =>
    clear k51 hb5
    obtain ⟨j, hj, rfl, k51, hb0⟩ := hrel
    obtain ⟨f51, g51, z51⟩ := k51.facts
    by_cases hlt : j < 2
    · obtain ⟨X, hX, hXs⟩ : ∃ X : ByteArray, (#[.string X0, .string X1] : Array Value)[j]? = some (.string X) ∧ X.size ≤ 1000 := by
        match j, hlt with
        | 0, _ => exact ⟨X0, rfl, q0⟩
        | 1, _ => exact ⟨X1, rfl, q1⟩
      have hcell := (f51 j).trans hX
      clear hX f51
      have f51 := True.intro
      rcases read_right X with ⟨h1, h2⟩ | ⟨h1, h2⟩
      · obtain ⟨⟨t', R', C', x', y', z'⟩, hV⟩ : ∃ V, (readD X).1 = V := ⟨_, rfl⟩
        rw [hV] at h2
        have E1 : readD X = (⟨t', R', C', x', y', z'⟩, 0) := Prod.ext hV h1
        have hts := right_small h2
        dsimp only at hts
        have E2 : textD ⟨t', R', C', x', y', z'⟩ = ((⟨(textD ⟨t', R', C', x', y', z'⟩).1.toArray⟩ : ByteArray).data.toList, 0) := by
          rw [mk_list]; unfold textD; rw [h2]; rfl
        have E3 := read_text _ h2
        have hl := text_len ⟨t', R', C', x', y', z'⟩
        have cA := fun W hb => Read_is (s := X) hg (by omega) E1 W hb
        have cB := fun W hb => Text_is hg (by omega) E2 W hb
        have cC := fun W hb => Read_is (s := ⟨(textD ⟨t', R', C', x', y', z'⟩).1.toArray⟩) hg (show (textD ⟨t', R', C', x', y', z'⟩).1.length ≤ 1000000 by omega) E3 W hb
        have cD := fun W hb => Right_is hg (by omega) h2 W hb
        clear E1 E2 E3 h1 h2 hV hl hts hXs q0 q1
        generalize (textD ⟨t', R', C', x', y', z'⟩).1.toArray = U at *
        go_wp2_with fail
        refine (cA wr hb0).mono ?_; rintro e w1 ⟨rfl, hb1⟩
        replace k51 := k51.below hb1
        replace hb0 : Below w.heap.size w w1 := after hb0 hb1
        clear f51 g51 z51
        clear hb1
        obtain ⟨f51, g51, z51⟩ := k51.facts
        go_wp2_with fail
        refine calls_abs (fun W => Blk W (bS) #[.string X0, .string X1] ∧ Blk W (w1.heap.size) #[.string t', .int .i64 R', .int .i64 C', .bool x', .bool y', .bool z'] ∧ Below w.heap.size w W) ⟨(by apply Blk.eq; (repeat' (first | with_reducible assumption | with_reducible apply Blk.set | with_reducible apply Blk.other | (with_reducible refine Blk.new ?_; simp; done) | with_reducible apply Blk.alloc | omega)); rfl), (by apply Blk.eq; (repeat' (first | with_reducible assumption | with_reducible apply Blk.set | with_reducible apply Blk.other | (with_reducible refine Blk.new ?_; simp; done) | with_reducible apply Blk.alloc | omega)); rfl), (by repeat' (first | with_reducible assumption | with_reducible exact Below.refl _ _ | with_reducible refine allocB ?_ | with_reducible refine setB ?_ ?_ | with_reducible refine drewB ?_ | with_reducible refine after ?_ (by assumption) | (simp; omega) | omega))⟩ ?_
        clear f51 g51 z51
        clear k51 hb0
        rintro w1a ⟨k51, k15, hb0⟩
        generalize w1.heap.size = b15 at *
        obtain ⟨f51, g51, z51⟩ := k51.facts
        obtain ⟨f15, g15, z15⟩ := k15.facts
        refine (cB w1a hb0).mono ?_; rintro e w2 ⟨rfl, hb2⟩
        replace k51 := k51.below hb2
        replace k15 := k15.below hb2
        replace hb0 : Below w.heap.size w w2 := after hb0 hb2
        clear f51 g51 z51
        clear f15 g15 z15
        clear hb2
        obtain ⟨f51, g51, z51⟩ := k51.facts
        obtain ⟨f15, g15, z15⟩ := k15.facts
        go_wp2_with fail
        refine (cC w2 hb0).mono ?_; rintro e w3 ⟨rfl, hb3⟩
        replace k51 := k51.below hb3
        replace k15 := k15.below hb3
        replace hb0 : Below w.heap.size w w3 := after hb0 hb3
        clear f51 g51 z51
        clear f15 g15 z15
        clear hb3
        obtain ⟨f51, g51, z51⟩ := k51.facts
        obtain ⟨f15, g15, z15⟩ := k15.facts
        go_wp2_with fail
        refine calls_abs (fun W => Blk W (bS) #[.string X0, .string X1] ∧ Blk W (b15) #[.string t', .int .i64 R', .int .i64 C', .bool x', .bool y', .bool z'] ∧ Blk W (w3.heap.size) #[.string t', .int .i64 R', .int .i64 C', .bool x', .bool y', .bool z'] ∧ Below w.heap.size w W) ⟨(by apply Blk.eq; (repeat' (first | with_reducible assumption | with_reducible apply Blk.set | with_reducible apply Blk.other | (with_reducible refine Blk.new ?_; simp; done) | with_reducible apply Blk.alloc | omega)); rfl), (by apply Blk.eq; (repeat' (first | with_reducible assumption | with_reducible apply Blk.set | with_reducible apply Blk.other | (with_reducible refine Blk.new ?_; simp; done) | with_reducible apply Blk.alloc | omega)); rfl), (by apply Blk.eq; (repeat' (first | with_reducible assumption | with_reducible apply Blk.set | with_reducible apply Blk.other | (with_reducible refine Blk.new ?_; simp; done) | with_reducible apply Blk.alloc | omega)); rfl), (by repeat' (first | with_reducible assumption | with_reducible exact Below.refl _ _ | with_reducible refine allocB ?_ | with_reducible refine setB ?_ ?_ | with_reducible refine drewB ?_ | with_reducible refine after ?_ (by assumption) | (simp; omega) | omega))⟩ ?_
        clear f51 g51 z51
        clear f15 g15 z15
        clear k51 k15 hb0
        rintro w3a ⟨k51, k15, k19, hb0⟩
        generalize w3.heap.size = b19 at *
        obtain ⟨f51, g51, z51⟩ := k51.facts
        obtain ⟨f15, g15, z15⟩ := k15.facts
        obtain ⟨f19, g19, z19⟩ := k19.facts
        refine (cD w3a hb0).mono ?_; rintro e w4 ⟨rfl, hb4⟩
        replace k51 := k51.below hb4
        replace k15 := k15.below hb4
        replace k19 := k19.below hb4
        replace hb0 : Below w.heap.size w w4 := after hb0 hb4
        clear f51 g51 z51
        clear f15 g15 z15
        clear f19 g19 z19
        clear hb4
        obtain ⟨f51, g51, z51⟩ := k51.facts
        obtain ⟨f15, g15, z15⟩ := k15.facts
        obtain ⟨f19, g19, z19⟩ := k19.facts
        go_wp2
        go_roundw
        case rel => exact ⟨j + 1, by omega, by go_num, k51, (by repeat' (first | with_reducible assumption | with_reducible exact Below.refl _ _ | with_reducible refine allocB ?_ | with_reducible refine setB ?_ ?_ | with_reducible refine drewB ?_ | with_reducible refine after ?_ (by assumption) | (simp; omega) | omega))⟩
        case measure => simp [intOf]; omega
      · have E1 : readD X = (⟨⟨#[]⟩, 0, 0, false, false, false⟩, 20) := Prod.ext h2 h1
        have cA := fun W hb => Read_is (s := X) hg (by omega) E1 W hb
        clear E1 h1 h2 hXs q0 q1
        go_wp2_with fail
        refine (cA wr hb0).mono ?_; rintro e w1 ⟨rfl, hb1⟩
        replace k51 := k51.below hb1
        replace hb0 : Below w.heap.size w w1 := after hb0 hb1
        clear f51 g51 z51
        clear hb1
        obtain ⟨f51, g51, z51⟩ := k51.facts
        go_wp2
        go_roundw
        case rel => exact ⟨j + 1, by omega, by go_num, (by apply Blk.eq; (repeat' (first | with_reducible assumption | with_reducible apply Blk.set | with_reducible apply Blk.other | (with_reducible refine Blk.new ?_; simp; done) | with_reducible apply Blk.alloc | omega)); rfl), (by repeat' (first | with_reducible assumption | with_reducible exact Below.refl _ _ | with_reducible refine allocB ?_ | with_reducible refine setB ?_ ?_ | with_reducible refine drewB ?_ | with_reducible refine after ?_ (by assumption) | (simp; omega) | omega))⟩
        case measure => simp [intOf]; omega
    · go_wp2
      go_ret; exact Ret.mk' rfl hb0

theorem law_RefForms (s : ByteArray) (a : RefD) (at' c : Int) (w : World) (hg : Good w) (hs : s.size ≤ 9223372036854775807) (ha : RefIn a) (hat : Int64 at') (hc : 0 ≤ c ∧ c ≤ 255) :
    Calls Tryd.prog 4 #[.string s, refV a, .int .i64 at', .int .u8 c] w (Ret (.bool true) w) :=
  Forms_walk s a at' c w hg hs ha hat hc (min s.size 60) (by omega) (by omega) (by omega)
end Go.Proofs.YtmeiboajpbflcaaDoor
