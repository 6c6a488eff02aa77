/- The law RefTells: its walk. -/
import Derived.Test.YtmeiboajpbflcaaGreatDoorKeep
import Derived.Test.YtmeiboajpbflcaaGreatDoorTells11
import Derived.Test.YtmeiboajpbflcaaGreatDoorTells10
import Derived.Test.YtmeiboajpbflcaaGreatDoorTells7
import Derived.Test.YtmeiboajpbflcaaGreatDoorTells5
import Derived.Test.YtmeiboajpbflcaaGreatDoorRefDet
import Derived.Test.YtmeiboajpbflcaaGreatDoorMadeAll
import Derived.Test.YtmeiboajpbflcaaGreatDoorEdge
namespace Go.Proofs.YtmeiboajpbflcaaGreatDoor
open Go.RowKit Tab

theorem TRead_is {s : ByteArray} {t : ByteArray} {R C : Int} {x y z : Bool} {e : Int} (hs : s.size ≤ 1000000) (h : readD s = (⟨t, R, C, x, y, z⟩, e)) (W : World) :
    Calls Tryz.prog 10 #[.string s] W (Ret (.tuple #[.agg #[.string t, .int .i64 R, .int .i64 C, .bool x, .bool y, .bool z], .int .i64 e]) W) := by
  have := TRead_any s W hs
  rw [tread_is, h] at this
  exact this
theorem TText_is {t : ByteArray} {R C : Int} {x y z : Bool} {u : ByteArray} {e : Int} (ht : t.size ≤ 9223372036854775807) (h : textD ⟨t, R, C, x, y, z⟩ = (u.data.toList, e)) (W : World) :
    Calls Tryz.prog 5 #[.agg #[.string t, .int .i64 R, .int .i64 C, .bool x, .bool y, .bool z]] W (Ret (.tuple #[.string u, .int .i64 e]) W) := by
  have := TText_any ⟨t, R, C, x, y, z⟩ W ht
  rw [h] at this
  exact this
theorem RefOf_is {r : RefD} {t : ByteArray} {R C : Int} {x y z : Bool} (hr : RefIn r) (h : refOfD r = ⟨t, R, C, x, y, z⟩) (W : World) :
    Calls Tryz.prog 6 #[.agg #[.string r.s, .int .i64 r.row, .int .i64 r.col, .bool r.fr, .bool r.fc, .bool r.bad]] W (Ret (.agg #[.string t, .int .i64 R, .int .i64 C, .bool x, .bool y, .bool z]) W) := by
  have := RefOfD_any r W hr.2.1 hr.2.2 hr.1
  rw [h] at this
  exact this
theorem col_is {s : ByteArray} {c e : Int} (h : colV (colOf s.data.toList) = .tuple #[.int .i64 c, .int .i64 e]) {w : World} (hg : Good w) (hs : s.size ≤ 1000000) :
    (∀ W, Below w.heap.size w W → Calls Tryz.prog 11 #[.string s] W (Ret (.tuple #[.int .i64 c, .int .i64 e]) W)) ∧ ∀ W, Calls Tryz.prog 12 #[.string s] W (Ret (.tuple #[.int .i64 c, .int .i64 e]) W) := by
  rw [← h]
  exact ⟨fun W hb => ReadColumn_any s W (hg.below hb) (by omega), fun W => TReadColumn_any s W (by omega)⟩

theorem ok_in (a : AreaD) (h : a.ok = true) : AreaIn a := by
  have := (ok_iff a).1 h
  unfold AreaD.Ok at this
  unfold AreaIn
  omega
theorem two_refs (a0 : ByteArray) (a1 a2 : Int) (a3 a4 a5 : Bool) (b0 : ByteArray) (b1 b2 : Int) (b3 b4 b5 : Bool) (j : Nat) (h : j < 2) : ∃ r0 r1 r2 r3 r4 r5, ((⟨r0, r1, r2, r3, r4, r5⟩ : RefD) = ⟨a0, a1, a2, a3, a4, a5⟩ ∨ (⟨r0, r1, r2, r3, r4, r5⟩ : RefD) = ⟨b0, b1, b2, b3, b4, b5⟩) ∧
    ∀ C : Array Value, C = #[.string a0, .int .i64 a1, .int .i64 a2, .bool a3, .bool a4, .bool a5, .string b0, .int .i64 b1, .int .i64 b2, .bool b3, .bool b4, .bool b5] →
      C[j * 6]? = some (.string r0) ∧ C[j * 6 + 1]? = some (.int .i64 r1) ∧ C[j * 6 + 2]? = some (.int .i64 r2) ∧ C[j * 6 + 3]? = some (.bool r3) ∧ C[j * 6 + 4]? = some (.bool r4) ∧ C[j * 6 + 5]? = some (.bool r5) := by
  match j, h with
  | 0, _ => exact ⟨a0, a1, a2, a3, a4, a5, .inl rfl, fun C e => by subst e; exact ⟨rfl, rfl, rfl, rfl, rfl, rfl⟩⟩
  | 1, _ => exact ⟨b0, b1, b2, b3, b4, b5, .inr rfl, fun C e => by subst e; exact ⟨rfl, rfl, rfl, rfl, rfl, rfl⟩⟩
theorem two_pairs (a b c d : Int) (ha : Int64 a) (hb : Int64 b) (hc : Int64 c) (hd : Int64 d) (j : Nat) (h : j < 2) : ∃ m n, Int64 m ∧ Int64 n ∧
    ∀ C : Array Value, C = #[.int .i64 a, .int .i64 b, .int .i64 c, .int .i64 d] → C[j * 2]? = some (.int .i64 m) ∧ C[j * 2 + 1]? = some (.int .i64 n) := by
  match j, h with
  | 0, _ => exact ⟨a, b, ha, hb, fun C e => by subst e; exact ⟨rfl, rfl⟩⟩
  | 1, _ => exact ⟨c, d, hc, hd, fun C e => by subst e; exact ⟨rfl, rfl⟩⟩

set_option maxRecDepth 100000 in
set_option maxHeartbeats 16000000 in
theorem Tells_walk (a b : RefD) (x1 x2 x3 x4 x5 y1 y2 y3 y4 y5 t1 t2 t3 : Int) (s : ByteArray) (n rows cols : Int) (w : World) (hg : Good w) (ha : RefIn a) (hb : RefIn b) (hx : AreaIn ⟨x1, x2, x3, x4, x5⟩) (hy : AreaIn ⟨y1, y2, y3, y4, y5⟩)
    (ht1 : Int64 t1) (ht2 : Int64 t2) (ht3 : Int64 t3) (hs : s.size ≤ 9223372036854775807) (hn : Int64 n) (hrows : Int64 rows) (hcols : Int64 cols) (m : Nat) (hm : m ≤ 60) (hm' : m ≤ s.size) (hmin : min (s.size : Int) 60 = (m : Int)) :
    Calls Tryz.prog 3 #[refV a, refV b, .agg #[.int .i64 x1, .int .i64 x2, .int .i64 x3, .int .i64 x4, .int .i64 x5], .agg #[.int .i64 y1, .int .i64 y2, .int .i64 y3, .int .i64 y4, .int .i64 y5], .agg #[.int .i64 t1, .int .i64 t2, .int .i64 t3], .string s, .int .i64 n, .int .i64 rows, .int .i64 cols] w (Ret (.bool true) w) := by
  obtain ⟨⟨A0, A1, A2, A3, A4, A5⟩, hA⟩ : ∃ q, refOfD a = q := ⟨_, rfl⟩
  obtain ⟨⟨B0, B1, B2, B3, B4, B5⟩, hB⟩ : ∃ q, refOfD b = q := ⟨_, rfl⟩
  have mA := made_in (refOfD_made a)
  have mB := made_in (refOfD_made b)
  rw [hA] at mA
  rw [hB] at mB
  have cA := fun W => RefOf_is ha hA W
  have cB := fun W => RefOf_is hb hB W
  have HA := Lib.hid hA
  have HB := Lib.hid hB
  have hsz : ¬ 9223372036854775807 < s.size := by omega
  obtain ⟨a0, a1, a2, a3, a4, a5⟩ := a
  obtain ⟨b0, b1, b2, b3, b4, b5⟩ := b
  unfold refV at *
  dsimp only at *
  clear hA hB
  go_enter Tryz.func3, Tryz.ntmps3
  go_wp2_with fail
  refine calls_keep (fun W => Keep w [(w.heap.size + 1 + 1 + 1 + 1, #[.int .i64 t1, .int .i64 t2, .int .i64 t3]), (w.heap.size + 1 + 1 + 1, #[.int .i64 y1, .int .i64 y2, .int .i64 y3, .int .i64 y4, .int .i64 y5]), (w.heap.size + 1 + 1, #[.int .i64 x1, .int .i64 x2, .int .i64 x3, .int .i64 x4, .int .i64 x5]), (w.heap.size + 1, #[.string b0, .int .i64 b1, .int .i64 b2, .bool b3, .bool b4, .bool b5]), (w.heap.size, #[.string a0, .int .i64 a1, .int .i64 a2, .bool a3, .bool a4, .bool a5])] W) (Keep.add (by apply Blk.eq; (repeat' (first | with_reducible assumption | with_reducible apply Blk.set | with_reducible apply Blk.other | (with_reducible refine Blk.new ?_; simp; done) | with_reducible apply Blk.alloc | omega)); rfl) (Keep.add (by apply Blk.eq; (repeat' (first | with_reducible assumption | with_reducible apply Blk.set | with_reducible apply Blk.other | (with_reducible refine Blk.new ?_; simp; done) | with_reducible apply Blk.alloc | omega)); rfl) (Keep.add (by apply Blk.eq; (repeat' (first | with_reducible assumption | with_reducible apply Blk.set | with_reducible apply Blk.other | (with_reducible refine Blk.new ?_; simp; done) | with_reducible apply Blk.alloc | omega)); rfl) (Keep.add (by apply Blk.eq; (repeat' (first | with_reducible assumption | with_reducible apply Blk.set | with_reducible apply Blk.other | (with_reducible refine Blk.new ?_; simp; done) | with_reducible apply Blk.alloc | omega)); rfl) (Keep.add (by apply Blk.eq; (repeat' (first | with_reducible assumption | with_reducible apply Blk.set | with_reducible apply Blk.other | (with_reducible refine Blk.new ?_; simp; done) | with_reducible apply Blk.alloc | omega)); rfl) (Keep.nil (by repeat' (first | with_reducible assumption | with_reducible exact Below.refl _ _ | with_reducible refine allocB ?_ | with_reducible refine setB ?_ ?_ | with_reducible refine drewB ?_ | with_reducible refine after ?_ (by assumption) | (simp; omega) | omega)))))))) ?_
  rintro wa K
  refine (awake_any wa (hg.below K.bel)).mono ?_; rintro e w1 ⟨rfl, hb1⟩
  replace K := K.below hb1
  clear hb1
  obtain ⟨f9, g9, z9⟩ := K.tl.tl.tl.tl.hd.facts
  go_wp2_with fail
  refine (cA w1).mono ?_; rintro e w2 ⟨rfl, hb2⟩
  replace K := K.below hb2
  clear f9 g9 z9
  clear hb2
  have hl1 := text_len ⟨A0, A1, A2, A3, A4, A5⟩
  obtain ⟨s1, hs1⟩ : ∃ s, (textD ⟨A0, A1, A2, A3, A4, A5⟩).1 = s := ⟨_, rfl⟩
  have e1 : textD ⟨A0, A1, A2, A3, A4, A5⟩ = (s1, 0) := by rw [← hs1]; unfold textD; rw [mA.2.1]; rfl
  rw [hs1] at hl1
  have c1 := fun W => TText_is (u := ⟨s1.toArray⟩) mA.1.1 e1 W
  clear hs1 e1
  go_wp2_with fail
  refine (c1 w2).mono ?_; rintro e w3 ⟨rfl, hb3⟩
  replace K := K.below hb3
  clear hb3
  obtain ⟨T, hT⟩ : ∃ T : ByteArray, T = ⟨s1.toArray⟩ := ⟨_, rfl⟩
  rw [← hT]
  have hTs : T.size ≤ 100 := by rw [hT]; exact hl1
  clear hT hl1 c1
  obtain ⟨P, hP⟩ : ∃ P, pickI n ((T.size : Int) + 1) = P := ⟨_, rfl⟩
  have cK := pick_is n ((T.size : Int) + 1) hn (by omega) (by omega) P hP
  have rK := pickI_range n ((T.size : Int) + 1) (by omega)
  rw [hP] at rK
  obtain ⟨k, rfl⟩ : ∃ k : Nat, P = (k : Int) := ⟨P.toNat, by omega⟩
  clear hP
  go_wp2_with fail
  refine (cK w3).mono ?_; rintro e w4 ⟨rfl, rfl⟩
  clear cK
  go_upto_region 5 with fail
  have hkT : k ≤ T.size := by omega
  obtain ⟨X0, hX0⟩ : ∃ X, s.extract 0 m = X := ⟨_, rfl⟩
  have q0 : X0.size ≤ 60 := by rw [← hX0, ByteArray.size_extract]; omega
  rw [hX0]
  clear hX0 hmin hm hm' hsz
  obtain ⟨m1, hm1, hm2, hm3⟩ : ∃ m1 : Nat, min (X0.size : Int) 1 = (m1 : Int) ∧ m1 ≤ 1 ∧ m1 ≤ X0.size := ⟨min X0.size 1, by omega, by omega, by omega⟩
  obtain ⟨k1, hk1, hk2⟩ : ∃ k1 : Nat, min ((k : Int) + 1) (T.size : Int) = (k1 : Int) ∧ k1 ≤ T.size := ⟨min (k + 1) T.size, by omega, by omega⟩
  obtain ⟨Q, hQ⟩ : ∃ Q : ByteArray, (⟨(39 :: dbl X0.data.toList ++ [39]).toArray⟩ : ByteArray) = Q := ⟨_, rfl⟩
  have cQ : ∀ W, Calls Tryz.prog 8 #[.string X0] W (Ret (.string Q) W) := fun W => by
    rw [← hQ]; exact (Quoted_any X0 W (by omega)).mono fun _ _ h => h.ret
  have q4 : Q.size ≤ 200 := by
    have hd := dbl_len X0.data.toList
    rw [ba_size] at hd
    rw [← hQ]
    show (39 :: dbl X0.data.toList ++ [39]).length ≤ 200
    simp only [List.length_append, List.length_cons, List.length_nil]
    omega
  clear hQ
  have ew0 : IntKind.i64.wrap ((k : Int) + 1) = (k : Int) + 1 := IntWalk.i64_in _ (by omega)
  have e1 : ¬ 9223372036854775807 < k + m1 := by omega
  have e2 : ¬ 9223372036854775807 < k + m1 + (T.size - k1) := by omega
  have e3 : ¬ 9223372036854775807 < k + (T.size - k1) := by omega
  have e4 : ¬ 9223372036854775807 < Q.size + 3 := by omega
  refine region_made (by kernel_rfl) (by kernel_rfl) fun β => ?_
  repeat (refine wpM_step (fun KK hK => ?_); go_simp; first | (refine hK _ ?_; clear hK KK) | (apply Exists.intro; refine ⟨fun _ => ⟨by kernel_rfl, ?_⟩, hK _ ?_⟩; exact cQ _; clear hK KK))
  refine wpM_make (fun b => .slice (some ⟨b, 0, none⟩) 5 5) (.cells #[.string X0, .string T, .string (T.extract 0 k ++ X0.extract 0 m1 ++ T.extract k1 T.size), .string (T.extract 0 k ++ T.extract k1 T.size), .string (Q ++ ⟨#[33, 65, 49]⟩)] 9) rfl (fun W _ => by kernel_rfl) ?_
  iterate 2 (refine wpM_step (fun KK hK => ?_); go_simp; refine hK _ ?_; clear hK KK)
  refine wpM_nil ?_
  intro w4 ⟨hb4, hla, hap⟩
  obtain ⟨zb, hl2⟩ := hla 33 _ _ rfl
  have kS : Blk w4 (β 33) _ := ⟨_, hl2⟩
  replace K := Keep.add kS (K.below hb4)
  clear hla hap hl2 zb hb4 kS
  obtain ⟨U2, hU⟩ : ∃ U, T.extract 0 k ++ X0.extract 0 m1 ++ T.extract k1 T.size = U := ⟨_, rfl⟩
  have q2 : U2.size ≤ 1000 := by rw [← hU, ByteArray.size_append, ByteArray.size_append, ByteArray.size_extract, ByteArray.size_extract, ByteArray.size_extract]; omega
  rw [hU] at K
  clear hU
  obtain ⟨U3, hU⟩ : ∃ U, T.extract 0 k ++ T.extract k1 T.size = U := ⟨_, rfl⟩
  have q3 : U3.size ≤ 1000 := by rw [← hU, ByteArray.size_append, ByteArray.size_extract, ByteArray.size_extract]; omega
  rw [hU] at K
  clear hU
  obtain ⟨U4, hU⟩ : ∃ U, Q ++ (⟨#[33, 65, 49]⟩ : ByteArray) = U := ⟨_, rfl⟩
  have q5 : U4.size ≤ 1000 := by rw [← hU, ByteArray.size_append, show (⟨#[33, 65, 49]⟩ : ByteArray).size = 3 from rfl]; omega
  rw [hU] at K
  clear hU
  generalize β 33 = bS at *
  clear ew0 e1 e2 e3 e4 hkT rK hm1 hm2 hm3 hk1 hk2 q4 cQ
  go_wp2_with fail
  go_loopw [110] (fun i w' => ∃ j : Nat, j ≤ 5 ∧ i = .int .i64 j ∧ Keep w [(bS, #[.string X0, .string T, .string U2, .string U3, .string U4]), (w.heap.size + 1 + 1 + 1 + 1, #[.int .i64 t1, .int .i64 t2, .int .i64 t3]), (w.heap.size + 1 + 1 + 1, #[.int .i64 y1, .int .i64 y2, .int .i64 y3, .int .i64 y4, .int .i64 y5]), (w.heap.size + 1 + 1, #[.int .i64 x1, .int .i64 x2, .int .i64 x3, .int .i64 x4, .int .i64 x5]), (w.heap.size + 1, #[.string b0, .int .i64 b1, .int .i64 b2, .bool b3, .bool b4, .bool b5]), (w.heap.size, #[.string a0, .int .i64 a1, .int .i64 a2, .bool a3, .bool a4, .bool a5])] w') (fun i _ => 5 - (intOf i).toNat)
  case atStart => exact ⟨0, by omega, rfl, K⟩
  case round =>
    clear K
    obtain ⟨j, hj, rfl, K⟩ := hrel
    by_cases hlt : j < 5
    · obtain ⟨X, hX, hXs⟩ : ∃ X : ByteArray, (#[.string X0, .string T, .string U2, .string U3, .string U4] : Array Value)[j]? = some (.string X) ∧ X.size ≤ 1000 := by
        match j, hlt with
        | 0, _ => exact ⟨X0, rfl, by omega⟩
        | 1, _ => exact ⟨T, rfl, by omega⟩
        | 2, _ => exact ⟨U2, rfl, q2⟩
        | 3, _ => exact ⟨U3, rfl, q3⟩
        | 4, _ => exact ⟨U4, rfl, q5⟩
      obtain ⟨r, E1⟩ : ∃ r, readD X = r := ⟨_, rfl⟩
      obtain ⟨⟨r0, r1, r2, r3, r4, r5⟩, re⟩ := r
      obtain ⟨c, ce, hv⟩ : ∃ c ce : Int, colV (colOf X.data.toList) = .tuple #[.int .i64 c, .int .i64 ce] := ⟨_, _, rfl⟩
      obtain ⟨cC, cD⟩ := col_is hv hg (by omega)
      have cR := Read_is hg (by omega) E1
      have cT := TRead_is (by omega) E1
      clear E1 hv hXs
      obtain ⟨fS, gS, zS⟩ := K.hd.facts
      have hcell := (fS j).trans hX
      clear hX fS
      have fS := True.intro
      go_wp2_with fail
      refine (cR wr K.bel).mono ?_; rintro e w5 ⟨rfl, hb5⟩
      replace K := K.below hb5
      clear fS gS zS
      clear hb5
      go_wp2_with fail
      refine calls_keep (fun W => Keep w [(w5.heap.size, #[.string r0, .int .i64 r1, .int .i64 r2, .bool r3, .bool r4, .bool r5]), (bS, #[.string X0, .string T, .string U2, .string U3, .string U4]), (w.heap.size + 1 + 1 + 1 + 1, #[.int .i64 t1, .int .i64 t2, .int .i64 t3]), (w.heap.size + 1 + 1 + 1, #[.int .i64 y1, .int .i64 y2, .int .i64 y3, .int .i64 y4, .int .i64 y5]), (w.heap.size + 1 + 1, #[.int .i64 x1, .int .i64 x2, .int .i64 x3, .int .i64 x4, .int .i64 x5]), (w.heap.size + 1, #[.string b0, .int .i64 b1, .int .i64 b2, .bool b3, .bool b4, .bool b5]), (w.heap.size, #[.string a0, .int .i64 a1, .int .i64 a2, .bool a3, .bool a4, .bool a5])] W) (Keep.add (by apply Blk.eq; (repeat' (first | with_reducible assumption | with_reducible apply Blk.set | with_reducible apply Blk.other | (with_reducible refine Blk.new ?_; simp; done) | with_reducible apply Blk.alloc | omega)); rfl) (K.below (by repeat' (first | with_reducible assumption | with_reducible exact Below.refl _ _ | with_reducible refine allocB ?_ | with_reducible refine setB ?_ ?_ | with_reducible refine drewB ?_ | with_reducible refine after ?_ (by assumption) | (simp; omega) | omega)))) ?_
      clear K
      rintro w5a K
      generalize w5.heap.size = b26 at *
      refine (cT w5a).mono ?_; rintro e w6 ⟨rfl, hb6⟩
      replace K := K.below hb6
      clear hb6
      go_wp2_with fail
      refine calls_keep (fun W => Keep w [(w6.heap.size, #[.string r0, .int .i64 r1, .int .i64 r2, .bool r3, .bool r4, .bool r5]), (b26, #[.string r0, .int .i64 r1, .int .i64 r2, .bool r3, .bool r4, .bool r5]), (bS, #[.string X0, .string T, .string U2, .string U3, .string U4]), (w.heap.size + 1 + 1 + 1 + 1, #[.int .i64 t1, .int .i64 t2, .int .i64 t3]), (w.heap.size + 1 + 1 + 1, #[.int .i64 y1, .int .i64 y2, .int .i64 y3, .int .i64 y4, .int .i64 y5]), (w.heap.size + 1 + 1, #[.int .i64 x1, .int .i64 x2, .int .i64 x3, .int .i64 x4, .int .i64 x5]), (w.heap.size + 1, #[.string b0, .int .i64 b1, .int .i64 b2, .bool b3, .bool b4, .bool b5]), (w.heap.size, #[.string a0, .int .i64 a1, .int .i64 a2, .bool a3, .bool a4, .bool a5])] W) (Keep.add (by apply Blk.eq; (repeat' (first | with_reducible assumption | with_reducible apply Blk.set | with_reducible apply Blk.other | (with_reducible refine Blk.new ?_; simp; done) | with_reducible apply Blk.alloc | omega)); rfl) (K.below (by repeat' (first | with_reducible assumption | with_reducible exact Below.refl _ _ | with_reducible refine allocB ?_ | with_reducible refine setB ?_ ?_ | with_reducible refine drewB ?_ | with_reducible refine after ?_ (by assumption) | (simp; omega) | omega)))) ?_
      clear K
      rintro w6a K
      generalize w6.heap.size = b28 at *
      refine (cC w6a K.bel).mono ?_; rintro e w7 ⟨rfl, hb7⟩
      replace K := K.below hb7
      clear hb7
      go_wp2_with fail
      refine (cD w7).mono ?_; rintro e w8 ⟨rfl, hb8⟩
      replace K := K.below hb8
      clear hb8
      obtain ⟨f26, g26, z26⟩ := K.tl.hd.facts
      obtain ⟨f28, g28, z28⟩ := K.hd.facts
      clear cC cD cR cT
      go_wp2
      clear f26 g26 z26
      clear f28 g28 z28
      replace K := K.tl
      replace K := K.tl
      go_roundw
      case rel => exact ⟨j + 1, by omega, by go_num, K⟩
      case measure => simp [intOf]; omega
    · replace K := K.tl
      clear q2 q3 q5
      obtain ⟨P, hP⟩ : ∃ P, pickI n 60 = P := ⟨_, rfl⟩
      have cK := pick_is n 60 hn (by omega) (by omega) P hP
      have rK := pickI_range n 60 (by omega)
      rw [hP] at rK
      clear hP
      have ew : IntKind.i64.wrap (P - 4) = P - 4 := IntWalk.i64_in _ (by omega)
      go_wp2_with fail
      refine (cK wr).mono ?_; rintro e w5 ⟨rfl, rfl⟩
      clear cK
      go_wp2_with fail
      refine wp_abs2 (fun W => Keep w [(wr.heap.size, #[.int .i64 n, .int .i64 (P - 4)]), (w.heap.size + 1 + 1 + 1 + 1, #[.int .i64 t1, .int .i64 t2, .int .i64 t3]), (w.heap.size + 1 + 1 + 1, #[.int .i64 y1, .int .i64 y2, .int .i64 y3, .int .i64 y4, .int .i64 y5]), (w.heap.size + 1 + 1, #[.int .i64 x1, .int .i64 x2, .int .i64 x3, .int .i64 x4, .int .i64 x5]), (w.heap.size + 1, #[.string b0, .int .i64 b1, .int .i64 b2, .bool b3, .bool b4, .bool b5]), (w.heap.size, #[.string a0, .int .i64 a1, .int .i64 a2, .bool a3, .bool a4, .bool a5])] W) (Keep.add (by apply Blk.eq; (repeat' (first | with_reducible assumption | with_reducible apply Blk.set | with_reducible apply Blk.other | (with_reducible refine Blk.new ?_; simp; done) | with_reducible apply Blk.alloc | omega)); rfl) (K.below (by repeat' (first | with_reducible assumption | with_reducible exact Below.refl _ _ | with_reducible refine allocB ?_ | with_reducible refine setB ?_ ?_ | with_reducible refine drewB ?_ | with_reducible refine after ?_ (by assumption) | (simp; omega) | omega)))) ?_
      clear K
      rintro wra K
      generalize wr.heap.size = bI at *
      go_loopw [159] (fun i w' => ∃ j : Nat, j ≤ 2 ∧ i = .int .i64 j ∧ Keep w [(bI, #[.int .i64 n, .int .i64 (P - 4)]), (w.heap.size + 1 + 1 + 1 + 1, #[.int .i64 t1, .int .i64 t2, .int .i64 t3]), (w.heap.size + 1 + 1 + 1, #[.int .i64 y1, .int .i64 y2, .int .i64 y3, .int .i64 y4, .int .i64 y5]), (w.heap.size + 1 + 1, #[.int .i64 x1, .int .i64 x2, .int .i64 x3, .int .i64 x4, .int .i64 x5]), (w.heap.size + 1, #[.string b0, .int .i64 b1, .int .i64 b2, .bool b3, .bool b4, .bool b5]), (w.heap.size, #[.string a0, .int .i64 a1, .int .i64 a2, .bool a3, .bool a4, .bool a5])] w') (fun i _ => 2 - (intOf i).toNat)
      case atStart => exact ⟨0, by omega, rfl, K⟩
      case round =>
        clear K hlt hj
        obtain ⟨j, hj, rfl, K⟩ := hrel
        by_cases hlt : j < 2
        · obtain ⟨v, hv, hv1, hv2⟩ : ∃ v : Int, (#[.int .i64 n, .int .i64 (P - 4)] : Array Value)[j]? = some (.int .i64 v) ∧ -9223372036854775808 ≤ v ∧ v ≤ 9223372036854775807 := by
            match j, hlt with
            | 0, _ => exact ⟨n, rfl, hn.1, hn.2⟩
            | 1, _ => exact ⟨P - 4, rfl, by omega, by omega⟩
          have cC := fun W => Column_any v W hv1 hv2
          have cD := fun W => TColumn_any v W hv1 hv2
          unfold strV at cC cD
          generalize (⟨(colL v).toArray⟩ : ByteArray) = D0 at *
          generalize colE v = E0 at *
          obtain ⟨fI, gI, zI⟩ := K.hd.facts
          have hcell := (fI j).trans hv
          clear hv fI
          have fI := True.intro
          go_wp2_with fail
          refine (cC wr).mono ?_; rintro e w6 ⟨rfl, hb6⟩
          replace K := K.below hb6
          clear fI gI zI
          clear hb6
          go_wp2_with fail
          refine (cD w6).mono ?_; rintro e w7 ⟨rfl, rfl⟩
          clear cC cD
          go_wp2
          go_roundw
          case rel => exact ⟨j + 1, by omega, by go_num, K⟩
          case measure => simp [intOf]; omega
        · replace K := K.tl
          go_upto_region 23 with fail
          clear rK ew hlt hj
          obtain ⟨f9, g9, z9⟩ := K.tl.tl.tl.tl.hd.facts
          have kc := gcell wr
          refine region_made (by kernel_rfl) (by kernel_rfl) fun β => ?_
          repeat (refine wpM_step (fun KK hK => ?_); go_simp; first | (refine hK _ ?_; clear hK KK) | (apply Exists.intro; refine ⟨fun _ => ⟨by kernel_rfl, ?_⟩, hK _ ?_⟩; exact cA _; clear hK KK))
          refine wpM_make (fun b => .slice (some ⟨b, 0, none⟩) 2 2) (.cells #[.string a0, .int .i64 a1, .int .i64 a2, .bool a3, .bool a4, .bool a5, .string A0, .int .i64 A1, .int .i64 A2, .bool A3, .bool A4, .bool A5] 23) rfl (fun W _ => by kernel_rfl) ?_
          iterate 2 (refine wpM_step (fun KK hK => ?_); go_simp; refine hK _ ?_; clear hK KK)
          refine wpM_nil ?_
          intro wvR ⟨hbv, hla, hap⟩
          obtain ⟨zb, hl2⟩ := hla 3 _ _ rfl
          have kS : Blk wvR (β 3) _ := ⟨_, hl2⟩
          replace K := Keep.add kS (K.below hbv)
          clear hla hap hl2 zb hbv kS kc
          clear f9 g9 z9
          generalize β 3 = bR at *
          go_wp2_with fail
          go_loopw [187] (fun i w' => ∃ j : Nat, j ≤ 2 ∧ i = .int .i64 j ∧ Keep w [(bR, #[.string a0, .int .i64 a1, .int .i64 a2, .bool a3, .bool a4, .bool a5, .string A0, .int .i64 A1, .int .i64 A2, .bool A3, .bool A4, .bool A5]), (w.heap.size + 1 + 1 + 1 + 1, #[.int .i64 t1, .int .i64 t2, .int .i64 t3]), (w.heap.size + 1 + 1 + 1, #[.int .i64 y1, .int .i64 y2, .int .i64 y3, .int .i64 y4, .int .i64 y5]), (w.heap.size + 1 + 1, #[.int .i64 x1, .int .i64 x2, .int .i64 x3, .int .i64 x4, .int .i64 x5]), (w.heap.size + 1, #[.string b0, .int .i64 b1, .int .i64 b2, .bool b3, .bool b4, .bool b5]), (w.heap.size, #[.string a0, .int .i64 a1, .int .i64 a2, .bool a3, .bool a4, .bool a5])] w') (fun i _ => 2 - (intOf i).toNat)
          case atStart => exact ⟨0, by omega, rfl, K⟩
          case round =>
            clear K
            obtain ⟨jr, hjr, rfl, K⟩ := hrel
            by_cases hlt : jr < 2
            · obtain ⟨fR, gR, zR⟩ := K.hd.facts
              obtain ⟨r0, r1, r2, r3, r4, r5, hr, hcs⟩ := two_refs a0 a1 a2 a3 a4 a5 A0 A1 A2 A3 A4 A5 jr hlt
              obtain ⟨h0, h1, h2, h3, h4, h5⟩ := hcs _ rfl
              have cr0 := (fR _).trans h0
              have cr1 := (fR _).trans h1
              have cr2 := (fR _).trans h2
              have cr3 := (fR _).trans h3
              have cr4 := (fR _).trans h4
              have cr5 := (fR _).trans h5
              clear fR h0 h1 h2 h3 h4 h5 hcs
              have fR := True.intro
              have hr' : RefIn ⟨r0, r1, r2, r3, r4, r5⟩ := by
                rcases hr with e | e
                · rw [e]; exact ha
                · rw [e]; exact mA.1
              clear hr
              obtain ⟨⟨u, e0⟩, hu⟩ : ∃ V, textD ⟨r0, r1, r2, r3, r4, r5⟩ = V := ⟨_, rfl⟩
              have cX := Text_is (u := ⟨u.toArray⟩) hg hr'.1 hu
              have cY := TText_is (u := ⟨u.toArray⟩) hr'.1 hu
              have cP := fun W (hb : Below w.heap.size w W) => Right_any r0 r1 r2 r3 r4 r5 W (hg.below hb) hr'.1
              have cQ := fun W => TRight_any r0 r1 r2 r3 r4 r5 W hr'.1
              obtain ⟨BB, hBB⟩ : ∃ B, rightB r0.data.toList r1 r2 r3 r4 r5 = B := ⟨_, rfl⟩
              rw [hBB] at cP cQ
              clear hu hBB
              generalize (⟨u.toArray⟩ : ByteArray) = U at *
              go_upto_region 26 with fail
              refine wp_abs2 (fun W => Keep w [(wr.heap.size, #[.string r0, .int .i64 r1, .int .i64 r2, .bool r3, .bool r4, .bool r5]), (bR, #[.string a0, .int .i64 a1, .int .i64 a2, .bool a3, .bool a4, .bool a5, .string A0, .int .i64 A1, .int .i64 A2, .bool A3, .bool A4, .bool A5]), (w.heap.size + 1 + 1 + 1 + 1, #[.int .i64 t1, .int .i64 t2, .int .i64 t3]), (w.heap.size + 1 + 1 + 1, #[.int .i64 y1, .int .i64 y2, .int .i64 y3, .int .i64 y4, .int .i64 y5]), (w.heap.size + 1 + 1, #[.int .i64 x1, .int .i64 x2, .int .i64 x3, .int .i64 x4, .int .i64 x5]), (w.heap.size + 1, #[.string b0, .int .i64 b1, .int .i64 b2, .bool b3, .bool b4, .bool b5]), (w.heap.size, #[.string a0, .int .i64 a1, .int .i64 a2, .bool a3, .bool a4, .bool a5])] W) (Keep.add (by apply Blk.eq; (repeat' (first | with_reducible assumption | with_reducible apply Blk.set | with_reducible apply Blk.other | (with_reducible refine Blk.new ?_; simp; done) | with_reducible apply Blk.alloc | omega)); rfl) (K.below (by repeat' (first | with_reducible assumption | with_reducible exact Below.refl _ _ | with_reducible refine allocB ?_ | with_reducible refine setB ?_ ?_ | with_reducible refine drewB ?_ | with_reducible refine after ?_ (by assumption) | (simp; omega) | omega)))) ?_
              clear fR gR zR
              clear K
              rintro wra K
              generalize wr.heap.size = b41 at *
              clear cr0 cr1 cr2 cr3 cr4 cr5
              obtain ⟨f41, g41, z41⟩ := K.hd.facts
              go_wp2_with fail
              refine (cX wra K.bel).mono ?_; rintro e w6 ⟨rfl, hb6⟩
              replace K := K.below hb6
              clear f41 g41 z41
              clear hb6
              obtain ⟨f41, g41, z41⟩ := K.hd.facts
              go_wp2_with fail
              refine (cY w6).mono ?_; rintro e w7 ⟨rfl, hb7⟩
              replace K := K.below hb7
              clear f41 g41 z41
              clear hb7
              go_upto_region 28 with fail
              obtain ⟨f41, g41, z41⟩ := K.hd.facts
              have kc := gcell w7
              refine region_below (by kernel_rfl) (by kernel_rfl) ?_
              iterate 1 (quiet_step (fail))
              quiet_step (exact Ret.grown (fun W hb => cP W (after K.bel hb)))
              iterate 1 (quiet_step (fail))
              quiet_step (exact Ret.grown (fun W _ => cQ W))
              repeat (quiet_step (fail))
              refine wpQuiet_nil ?_
              intro wq hbq
              replace K := K.below hbq
              clear kc hbq cP cQ cX cY
              clear f41 g41 z41
              obtain ⟨P1, hP1⟩ : ∃ P, pickI rows 21 = P := ⟨_, rfl⟩
              have cK := pick_is rows 21 hrows (by omega) (by omega) P1 hP1
              have rK := pickI_range rows 21 (by omega)
              rw [hP1] at rK
              clear hP1
              obtain ⟨P2, hP2⟩ : ∃ P, pickI cols 21 = P := ⟨_, rfl⟩
              have cL := pick_is cols 21 hcols (by omega) (by omega) P2 hP2
              have rL := pickI_range cols 21 (by omega)
              rw [hP2] at rL
              clear hP2
              have ew1 : IntKind.i64.wrap (P1 - 10) = P1 - 10 := IntWalk.i64_in _ (by omega)
              have ew2 : IntKind.i64.wrap (P2 - 10) = P2 - 10 := IntWalk.i64_in _ (by omega)
              go_wp2_with fail
              refine (cK wq).mono ?_; rintro e w8 ⟨rfl, rfl⟩
              go_wp2_with fail
              refine (cL wq).mono ?_; rintro e w9 ⟨rfl, rfl⟩
              go_wp2_with fail
              refine wp_abs2 (fun W => Keep w [(wq.heap.size, #[.int .i64 rows, .int .i64 cols, .int .i64 (P1 - 10), .int .i64 (P2 - 10)]), (b41, #[.string r0, .int .i64 r1, .int .i64 r2, .bool r3, .bool r4, .bool r5]), (bR, #[.string a0, .int .i64 a1, .int .i64 a2, .bool a3, .bool a4, .bool a5, .string A0, .int .i64 A1, .int .i64 A2, .bool A3, .bool A4, .bool A5]), (w.heap.size + 1 + 1 + 1 + 1, #[.int .i64 t1, .int .i64 t2, .int .i64 t3]), (w.heap.size + 1 + 1 + 1, #[.int .i64 y1, .int .i64 y2, .int .i64 y3, .int .i64 y4, .int .i64 y5]), (w.heap.size + 1 + 1, #[.int .i64 x1, .int .i64 x2, .int .i64 x3, .int .i64 x4, .int .i64 x5]), (w.heap.size + 1, #[.string b0, .int .i64 b1, .int .i64 b2, .bool b3, .bool b4, .bool b5]), (w.heap.size, #[.string a0, .int .i64 a1, .int .i64 a2, .bool a3, .bool a4, .bool a5])] W) (Keep.add (by apply Blk.eq; (repeat' (first | with_reducible assumption | with_reducible apply Blk.set | with_reducible apply Blk.other | (with_reducible refine Blk.new ?_; simp; done) | with_reducible apply Blk.alloc | omega)); rfl) (K.below (by repeat' (first | with_reducible assumption | with_reducible exact Below.refl _ _ | with_reducible refine allocB ?_ | with_reducible refine setB ?_ ?_ | with_reducible refine drewB ?_ | with_reducible refine after ?_ (by assumption) | (simp; omega) | omega)))) ?_
              clear K
              rintro wqa K
              generalize wq.heap.size = bB at *
              clear cK cL ew1 ew2
              go_loopw [228] (fun i w' => ∃ j : Nat, j ≤ 2 ∧ i = .int .i64 j ∧ Keep w [(bB, #[.int .i64 rows, .int .i64 cols, .int .i64 (P1 - 10), .int .i64 (P2 - 10)]), (b41, #[.string r0, .int .i64 r1, .int .i64 r2, .bool r3, .bool r4, .bool r5]), (bR, #[.string a0, .int .i64 a1, .int .i64 a2, .bool a3, .bool a4, .bool a5, .string A0, .int .i64 A1, .int .i64 A2, .bool A3, .bool A4, .bool A5]), (w.heap.size + 1 + 1 + 1 + 1, #[.int .i64 t1, .int .i64 t2, .int .i64 t3]), (w.heap.size + 1 + 1 + 1, #[.int .i64 y1, .int .i64 y2, .int .i64 y3, .int .i64 y4, .int .i64 y5]), (w.heap.size + 1 + 1, #[.int .i64 x1, .int .i64 x2, .int .i64 x3, .int .i64 x4, .int .i64 x5]), (w.heap.size + 1, #[.string b0, .int .i64 b1, .int .i64 b2, .bool b3, .bool b4, .bool b5]), (w.heap.size, #[.string a0, .int .i64 a1, .int .i64 a2, .bool a3, .bool a4, .bool a5])] w') (fun i _ => 2 - (intOf i).toNat)
              case atStart => exact ⟨0, by omega, rfl, K⟩
              case round =>
                clear K
                obtain ⟨jb, hjb, rfl, K⟩ := hrel
                by_cases hlt2 : jb < 2
                · obtain ⟨fB, gB, zB⟩ := K.hd.facts
                  obtain ⟨mm, nn, hmm, hnn, hcs⟩ := two_pairs rows cols (P1 - 10) (P2 - 10) hrows hcols ⟨by omega, by omega⟩ ⟨by omega, by omega⟩ jb hlt2
                  obtain ⟨h0, h1⟩ := hcs _ rfl
                  have cb0 := (fB _).trans h0
                  have cb1 := (fB _).trans h1
                  clear fB h0 h1 hcs
                  have fB := True.intro
                  obtain ⟨⟨⟨p0, p1, p2, p3, p4, p5⟩, pe⟩, hp⟩ : ∃ V, movedOf ⟨r0, r1, r2, r3, r4, r5⟩ mm nn = V := ⟨_, rfl⟩
                  have cM := Moved_is hg hr'.1 hr'.2.1 hr'.2.2 hp
                  have cT := fun W => TMoved_any ⟨r0, r1, r2, r3, r4, r5⟩ mm nn W hr' hr'.1 hmm hnn
                  rw [hp] at cT
                  unfold refV at cT
                  dsimp only at cT
                  clear hp
                  go_upto_region 33 with fail
                  refine wp_abs2 (fun W => Keep w [(wr.heap.size, #[.int .i64 mm, .int .i64 nn]), (bB, #[.int .i64 rows, .int .i64 cols, .int .i64 (P1 - 10), .int .i64 (P2 - 10)]), (b41, #[.string r0, .int .i64 r1, .int .i64 r2, .bool r3, .bool r4, .bool r5]), (bR, #[.string a0, .int .i64 a1, .int .i64 a2, .bool a3, .bool a4, .bool a5, .string A0, .int .i64 A1, .int .i64 A2, .bool A3, .bool A4, .bool A5]), (w.heap.size + 1 + 1 + 1 + 1, #[.int .i64 t1, .int .i64 t2, .int .i64 t3]), (w.heap.size + 1 + 1 + 1, #[.int .i64 y1, .int .i64 y2, .int .i64 y3, .int .i64 y4, .int .i64 y5]), (w.heap.size + 1 + 1, #[.int .i64 x1, .int .i64 x2, .int .i64 x3, .int .i64 x4, .int .i64 x5]), (w.heap.size + 1, #[.string b0, .int .i64 b1, .int .i64 b2, .bool b3, .bool b4, .bool b5]), (w.heap.size, #[.string a0, .int .i64 a1, .int .i64 a2, .bool a3, .bool a4, .bool a5])] W) (Keep.add (by apply Blk.eq; (repeat' (first | with_reducible assumption | with_reducible apply Blk.set | with_reducible apply Blk.other | (with_reducible refine Blk.new ?_; simp; done) | with_reducible apply Blk.alloc | omega)); rfl) (K.below (by repeat' (first | with_reducible assumption | with_reducible exact Below.refl _ _ | with_reducible refine allocB ?_ | with_reducible refine setB ?_ ?_ | with_reducible refine drewB ?_ | with_reducible refine after ?_ (by assumption) | (simp; omega) | omega)))) ?_
                  clear fB gB zB
                  clear K
                  rintro wra K
                  generalize wr.heap.size = b47 at *
                  clear cb0 cb1
                  obtain ⟨f41, g41, z41⟩ := K.tl.tl.hd.facts
                  obtain ⟨f47, g47, z47⟩ := K.hd.facts
                  go_wp2_with fail
                  refine (cM wra K.bel).mono ?_; rintro e w10 ⟨rfl, hb10⟩
                  replace K := K.below hb10
                  clear f41 g41 z41
                  clear f47 g47 z47
                  clear hb10
                  obtain ⟨f41, g41, z41⟩ := K.tl.tl.hd.facts
                  obtain ⟨f47, g47, z47⟩ := K.hd.facts
                  go_wp2_with fail
                  refine calls_keep (fun W => Keep w [(w10.heap.size, #[.string p0, .int .i64 p1, .int .i64 p2, .bool p3, .bool p4, .bool p5]), (b47, #[.int .i64 mm, .int .i64 nn]), (bB, #[.int .i64 rows, .int .i64 cols, .int .i64 (P1 - 10), .int .i64 (P2 - 10)]), (b41, #[.string r0, .int .i64 r1, .int .i64 r2, .bool r3, .bool r4, .bool r5]), (bR, #[.string a0, .int .i64 a1, .int .i64 a2, .bool a3, .bool a4, .bool a5, .string A0, .int .i64 A1, .int .i64 A2, .bool A3, .bool A4, .bool A5]), (w.heap.size + 1 + 1 + 1 + 1, #[.int .i64 t1, .int .i64 t2, .int .i64 t3]), (w.heap.size + 1 + 1 + 1, #[.int .i64 y1, .int .i64 y2, .int .i64 y3, .int .i64 y4, .int .i64 y5]), (w.heap.size + 1 + 1, #[.int .i64 x1, .int .i64 x2, .int .i64 x3, .int .i64 x4, .int .i64 x5]), (w.heap.size + 1, #[.string b0, .int .i64 b1, .int .i64 b2, .bool b3, .bool b4, .bool b5]), (w.heap.size, #[.string a0, .int .i64 a1, .int .i64 a2, .bool a3, .bool a4, .bool a5])] W) (Keep.add (by apply Blk.eq; (repeat' (first | with_reducible assumption | with_reducible apply Blk.set | with_reducible apply Blk.other | (with_reducible refine Blk.new ?_; simp; done) | with_reducible apply Blk.alloc | omega)); rfl) (K.below (by repeat' (first | with_reducible assumption | with_reducible exact Below.refl _ _ | with_reducible refine allocB ?_ | with_reducible refine setB ?_ ?_ | with_reducible refine drewB ?_ | with_reducible refine after ?_ (by assumption) | (simp; omega) | omega)))) ?_
                  clear f41 g41 z41
                  clear f47 g47 z47
                  clear K
                  rintro w10a K
                  generalize w10.heap.size = b48 at *
                  refine (cT w10a).mono ?_; rintro e w11 ⟨rfl, hb11⟩
                  replace K := K.below hb11
                  clear hb11
                  clear cM cT
                  go_upto_region 35 with fail
                  refine wp_abs2 (fun W => Keep w [(w11.heap.size, #[.string p0, .int .i64 p1, .int .i64 p2, .bool p3, .bool p4, .bool p5]), (b48, #[.string p0, .int .i64 p1, .int .i64 p2, .bool p3, .bool p4, .bool p5]), (b47, #[.int .i64 mm, .int .i64 nn]), (bB, #[.int .i64 rows, .int .i64 cols, .int .i64 (P1 - 10), .int .i64 (P2 - 10)]), (b41, #[.string r0, .int .i64 r1, .int .i64 r2, .bool r3, .bool r4, .bool r5]), (bR, #[.string a0, .int .i64 a1, .int .i64 a2, .bool a3, .bool a4, .bool a5, .string A0, .int .i64 A1, .int .i64 A2, .bool A3, .bool A4, .bool A5]), (w.heap.size + 1 + 1 + 1 + 1, #[.int .i64 t1, .int .i64 t2, .int .i64 t3]), (w.heap.size + 1 + 1 + 1, #[.int .i64 y1, .int .i64 y2, .int .i64 y3, .int .i64 y4, .int .i64 y5]), (w.heap.size + 1 + 1, #[.int .i64 x1, .int .i64 x2, .int .i64 x3, .int .i64 x4, .int .i64 x5]), (w.heap.size + 1, #[.string b0, .int .i64 b1, .int .i64 b2, .bool b3, .bool b4, .bool b5]), (w.heap.size, #[.string a0, .int .i64 a1, .int .i64 a2, .bool a3, .bool a4, .bool a5])] W) (Keep.add (by apply Blk.eq; (repeat' (first | with_reducible assumption | with_reducible apply Blk.set | with_reducible apply Blk.other | (with_reducible refine Blk.new ?_; simp; done) | with_reducible apply Blk.alloc | omega)); rfl) (K.below (by repeat' (first | with_reducible assumption | with_reducible exact Below.refl _ _ | with_reducible refine allocB ?_ | with_reducible refine setB ?_ ?_ | with_reducible refine drewB ?_ | with_reducible refine after ?_ (by assumption) | (simp; omega) | omega)))) ?_
                  clear K
                  rintro w11a K
                  generalize w11.heap.size = b50 at *
                  obtain ⟨f48, g48, z48⟩ := K.tl.hd.facts
                  obtain ⟨f50, g50, z50⟩ := K.hd.facts
                  go_wp2
                  clear f48 g48 z48
                  clear f50 g50 z50
                  replace K := K.tl
                  replace K := K.tl
                  replace K := K.tl
                  go_roundw
                  case rel => exact ⟨jb + 1, by omega, by go_num, K⟩
                  case measure => simp [intOf]; omega
                · replace K := K.tl
                  go_upto_region 38 with fail
                  obtain ⟨f10, g10, z10⟩ := K.tl.tl.tl.tl.tl.hd.facts
                  have kc := gcell wr
                  refine region_made (by kernel_rfl) (by kernel_rfl) fun β => ?_
                  repeat (refine wpM_step (fun KK hK => ?_); go_simp; first | (refine hK _ ?_; clear hK KK) | (apply Exists.intro; refine ⟨fun _ => ⟨by kernel_rfl, ?_⟩, hK _ ?_⟩; exact cB _; clear hK KK))
                  refine wpM_make (fun b => .slice (some ⟨b, 0, none⟩) 2 2) (.cells #[.string b0, .int .i64 b1, .int .i64 b2, .bool b3, .bool b4, .bool b5, .string B0, .int .i64 B1, .int .i64 B2, .bool B3, .bool B4, .bool B5] 23) rfl (fun W _ => by kernel_rfl) ?_
                  iterate 2 (refine wpM_step (fun KK hK => ?_); go_simp; refine hK _ ?_; clear hK KK)
                  refine wpM_nil ?_
                  intro wvQ ⟨hbv, hla, hap⟩
                  obtain ⟨zb, hl2⟩ := hla 3 _ _ rfl
                  have kS : Blk wvQ (β 3) _ := ⟨_, hl2⟩
                  replace K := Keep.add kS (K.below hbv)
                  clear hla hap hl2 zb hbv kS kc
                  clear f10 g10 z10
                  generalize β 3 = bQ at *
                  clear hlt2 hjb rK rL
                  go_wp2_with fail
                  go_loopw [264] (fun i w' => ∃ j : Nat, j ≤ 2 ∧ i = .int .i64 j ∧ Keep w [(bQ, #[.string b0, .int .i64 b1, .int .i64 b2, .bool b3, .bool b4, .bool b5, .string B0, .int .i64 B1, .int .i64 B2, .bool B3, .bool B4, .bool B5]), (b41, #[.string r0, .int .i64 r1, .int .i64 r2, .bool r3, .bool r4, .bool r5]), (bR, #[.string a0, .int .i64 a1, .int .i64 a2, .bool a3, .bool a4, .bool a5, .string A0, .int .i64 A1, .int .i64 A2, .bool A3, .bool A4, .bool A5]), (w.heap.size + 1 + 1 + 1 + 1, #[.int .i64 t1, .int .i64 t2, .int .i64 t3]), (w.heap.size + 1 + 1 + 1, #[.int .i64 y1, .int .i64 y2, .int .i64 y3, .int .i64 y4, .int .i64 y5]), (w.heap.size + 1 + 1, #[.int .i64 x1, .int .i64 x2, .int .i64 x3, .int .i64 x4, .int .i64 x5]), (w.heap.size + 1, #[.string b0, .int .i64 b1, .int .i64 b2, .bool b3, .bool b4, .bool b5]), (w.heap.size, #[.string a0, .int .i64 a1, .int .i64 a2, .bool a3, .bool a4, .bool a5])] w') (fun i _ => 2 - (intOf i).toNat)
                  case atStart => exact ⟨0, by omega, rfl, K⟩
                  case round =>
                    clear K
                    obtain ⟨jq, hjq, rfl, K⟩ := hrel
                    by_cases hlt : jq < 2
                    · obtain ⟨fQ, gQ, zQ⟩ := K.hd.facts
                      obtain ⟨q0, q1, q2, q3, q4, q5, hq, hcs⟩ := two_refs b0 b1 b2 b3 b4 b5 B0 B1 B2 B3 B4 B5 jq hlt
                      obtain ⟨h0, h1, h2, h3, h4, h5⟩ := hcs _ rfl
                      have cq0 := (fQ _).trans h0
                      have cq1 := (fQ _).trans h1
                      have cq2 := (fQ _).trans h2
                      have cq3 := (fQ _).trans h3
                      have cq4 := (fQ _).trans h4
                      have cq5 := (fQ _).trans h5
                      clear fQ h0 h1 h2 h3 h4 h5 hcs
                      have fQ := True.intro
                      have hq' : RefIn ⟨q0, q1, q2, q3, q4, q5⟩ := by
                        rcases hq with e | e
                        · rw [e]; exact hb
                        · rw [e]; exact mB.1
                      clear hq
                      obtain ⟨P9, hP9⟩ : ∃ P, pickI n 9 = P := ⟨_, rfl⟩
                      have cK := pick_is n 9 hn (by omega) (by omega) P9 hP9
                      have rK := pickI_range n 9 (by omega)
                      rw [hP9] at rK
                      clear hP9
                      obtain ⟨⟨⟨d1, d2, d3, d4, d5⟩, de⟩, hd⟩ : ∃ V, areaOf ⟨r0, r1, r2, r3, r4, r5⟩ ⟨q0, q1, q2, q3, q4, q5⟩ P9 = V := ⟨_, rfl⟩
                      have cM := Area_is hg hr' hq' hd
                      have cT := fun W => TArea_any ⟨r0, r1, r2, r3, r4, r5⟩ ⟨q0, q1, q2, q3, q4, q5⟩ P9 W hr'.1 hq'.1 ⟨by omega, by omega⟩
                      rw [hd] at cT
                      unfold refV areaV at cT
                      dsimp only at cT
                      clear hd
                      go_upto_region 41 with fail
                      refine wp_abs2 (fun W => Keep w [(wr.heap.size, #[.string q0, .int .i64 q1, .int .i64 q2, .bool q3, .bool q4, .bool q5]), (bQ, #[.string b0, .int .i64 b1, .int .i64 b2, .bool b3, .bool b4, .bool b5, .string B0, .int .i64 B1, .int .i64 B2, .bool B3, .bool B4, .bool B5]), (b41, #[.string r0, .int .i64 r1, .int .i64 r2, .bool r3, .bool r4, .bool r5]), (bR, #[.string a0, .int .i64 a1, .int .i64 a2, .bool a3, .bool a4, .bool a5, .string A0, .int .i64 A1, .int .i64 A2, .bool A3, .bool A4, .bool A5]), (w.heap.size + 1 + 1 + 1 + 1, #[.int .i64 t1, .int .i64 t2, .int .i64 t3]), (w.heap.size + 1 + 1 + 1, #[.int .i64 y1, .int .i64 y2, .int .i64 y3, .int .i64 y4, .int .i64 y5]), (w.heap.size + 1 + 1, #[.int .i64 x1, .int .i64 x2, .int .i64 x3, .int .i64 x4, .int .i64 x5]), (w.heap.size + 1, #[.string b0, .int .i64 b1, .int .i64 b2, .bool b3, .bool b4, .bool b5]), (w.heap.size, #[.string a0, .int .i64 a1, .int .i64 a2, .bool a3, .bool a4, .bool a5])] W) (Keep.add (by apply Blk.eq; (repeat' (first | with_reducible assumption | with_reducible apply Blk.set | with_reducible apply Blk.other | (with_reducible refine Blk.new ?_; simp; done) | with_reducible apply Blk.alloc | omega)); rfl) (K.below (by repeat' (first | with_reducible assumption | with_reducible exact Below.refl _ _ | with_reducible refine allocB ?_ | with_reducible refine setB ?_ ?_ | with_reducible refine drewB ?_ | with_reducible refine after ?_ (by assumption) | (simp; omega) | omega)))) ?_
                      clear fQ gQ zQ
                      clear K
                      rintro wra K
                      generalize wr.heap.size = b53 at *
                      clear cq0 cq1 cq2 cq3 cq4 cq5
                      obtain ⟨f41, g41, z41⟩ := K.tl.tl.hd.facts
                      obtain ⟨f53, g53, z53⟩ := K.hd.facts
                      have kc := gcell wra
                      refine region_made_edge 9 9 7 (by kernel_rfl) (by kernel_rfl) (by kernel_rfl) fun β => ?_
                      unfold Tab.Ends
                      simp only [addEdge, List.take_succ_cons, List.take_zero, List.drop_succ_cons, List.drop_zero]
                      iterate 3 (refine wpM_step (fun KK hK => ?_); go_simp; refine hK _ ?_; clear hK KK)
                      (refine wpM_step (fun KK hK => ?_); go_simp; apply Exists.intro; refine ⟨fun _ => ⟨by kernel_rfl, ?_⟩, hK _ ?_⟩; exact (cK _).mono fun _ _ h => h.ret; clear hK KK)
                      (refine wpM_step (fun KK hK => ?_); go_simp; apply Exists.intro; refine ⟨fun _ => ⟨by kernel_rfl, ?_⟩, hK _ ?_⟩; exact cM _ (after K.bel (below_regrown _ _ _)); clear hK KK)
                      iterate 3 (refine wpM_step (fun KK hK => ?_); go_simp; refine hK _ ?_; clear hK KK)
                      refine wpM_make (fun b => .pointer (some ⟨b, 0, none⟩)) (.cells #[.int .i64 0, .int .i64 0, .int .i64 0, .int .i64 0, .int .i64 0] 25) rfl (fun W _ => by kernel_rfl) ?_
                      refine wpM_nil ?_
                      intro wm ⟨hbm, hla, hap⟩
                      obtain ⟨zb, hl2⟩ := hla 8 _ _ rfl
                      have kA : Blk wm (β 8) _ := ⟨_, hl2⟩
                      clear hla hap hl2 kc
                      clear f41 g41 z41
                      clear f53 g53 z53
                      generalize β 8 = b54 at *
                      obtain ⟨fA, gA, zA⟩ := kA.facts
                      go_upto_region 42 with fail
                      refine wp_abs2 (fun W => Keep w ((b54, #[.int .i64 d1, .int .i64 d2, .int .i64 d3, .int .i64 d4, .int .i64 d5]) :: [(b53, #[.string q0, .int .i64 q1, .int .i64 q2, .bool q3, .bool q4, .bool q5]), (bQ, #[.string b0, .int .i64 b1, .int .i64 b2, .bool b3, .bool b4, .bool b5, .string B0, .int .i64 B1, .int .i64 B2, .bool B3, .bool B4, .bool B5]), (b41, #[.string r0, .int .i64 r1, .int .i64 r2, .bool r3, .bool r4, .bool r5]), (bR, #[.string a0, .int .i64 a1, .int .i64 a2, .bool a3, .bool a4, .bool a5, .string A0, .int .i64 A1, .int .i64 A2, .bool A3, .bool A4, .bool A5]), (w.heap.size + 1 + 1 + 1 + 1, #[.int .i64 t1, .int .i64 t2, .int .i64 t3]), (w.heap.size + 1 + 1 + 1, #[.int .i64 y1, .int .i64 y2, .int .i64 y3, .int .i64 y4, .int .i64 y5]), (w.heap.size + 1 + 1, #[.int .i64 x1, .int .i64 x2, .int .i64 x3, .int .i64 x4, .int .i64 x5]), (w.heap.size + 1, #[.string b0, .int .i64 b1, .int .i64 b2, .bool b3, .bool b4, .bool b5]), (w.heap.size, #[.string a0, .int .i64 a1, .int .i64 a2, .bool a3, .bool a4, .bool a5])]) W) (Keep.add (by apply Blk.eq; (repeat' (first | with_reducible assumption | with_reducible apply Blk.set | with_reducible apply Blk.other | (with_reducible refine Blk.new ?_; simp; done) | with_reducible apply Blk.alloc | omega)); rfl) (K.below (by repeat' (first | with_reducible assumption | with_reducible exact Below.refl _ _ | with_reducible refine allocB ?_ | with_reducible refine setB ?_ ?_ | with_reducible refine drewB ?_ | with_reducible refine after ?_ (by assumption) | (simp; omega) | omega)))) ?_
                      clear fA gA zA kA hbm zb K
                      rintro wn54 K
                      obtain ⟨f41, g41, z41⟩ := K.tl.tl.tl.hd.facts
                      obtain ⟨f53, g53, z53⟩ := K.tl.hd.facts
                      have kc := gcell wn54
                      refine region_made_edge 9 9 7 (by kernel_rfl) (by kernel_rfl) (by kernel_rfl) fun β => ?_
                      unfold Tab.Ends
                      simp only [addEdge, List.take_succ_cons, List.take_zero, List.drop_succ_cons, List.drop_zero]
                      iterate 3 (refine wpM_step (fun KK hK => ?_); go_simp; refine hK _ ?_; clear hK KK)
                      (refine wpM_step (fun KK hK => ?_); go_simp; apply Exists.intro; refine ⟨fun _ => ⟨by kernel_rfl, ?_⟩, hK _ ?_⟩; exact (cK _).mono fun _ _ h => h.ret; clear hK KK)
                      (refine wpM_step (fun KK hK => ?_); go_simp; apply Exists.intro; refine ⟨fun _ => ⟨by kernel_rfl, ?_⟩, hK _ ?_⟩; exact cT _; clear hK KK)
                      iterate 3 (refine wpM_step (fun KK hK => ?_); go_simp; refine hK _ ?_; clear hK KK)
                      refine wpM_make (fun b => .pointer (some ⟨b, 0, none⟩)) (.cells #[.int .i64 0, .int .i64 0, .int .i64 0, .int .i64 0, .int .i64 0] 25) rfl (fun W _ => by kernel_rfl) ?_
                      refine wpM_nil ?_
                      intro wm ⟨hbm, hla, hap⟩
                      obtain ⟨zb, hl2⟩ := hla 8 _ _ rfl
                      have kA : Blk wm (β 8) _ := ⟨_, hl2⟩
                      clear hla hap hl2 kc
                      clear f41 g41 z41
                      clear f53 g53 z53
                      generalize β 8 = b56 at *
                      obtain ⟨fA, gA, zA⟩ := kA.facts
                      go_upto_region 43 with fail
                      refine wp_abs2 (fun W => Keep w ((b56, #[.int .i64 d1, .int .i64 d2, .int .i64 d3, .int .i64 d4, .int .i64 d5]) :: [(b54, #[.int .i64 d1, .int .i64 d2, .int .i64 d3, .int .i64 d4, .int .i64 d5]), (b53, #[.string q0, .int .i64 q1, .int .i64 q2, .bool q3, .bool q4, .bool q5]), (bQ, #[.string b0, .int .i64 b1, .int .i64 b2, .bool b3, .bool b4, .bool b5, .string B0, .int .i64 B1, .int .i64 B2, .bool B3, .bool B4, .bool B5]), (b41, #[.string r0, .int .i64 r1, .int .i64 r2, .bool r3, .bool r4, .bool r5]), (bR, #[.string a0, .int .i64 a1, .int .i64 a2, .bool a3, .bool a4, .bool a5, .string A0, .int .i64 A1, .int .i64 A2, .bool A3, .bool A4, .bool A5]), (w.heap.size + 1 + 1 + 1 + 1, #[.int .i64 t1, .int .i64 t2, .int .i64 t3]), (w.heap.size + 1 + 1 + 1, #[.int .i64 y1, .int .i64 y2, .int .i64 y3, .int .i64 y4, .int .i64 y5]), (w.heap.size + 1 + 1, #[.int .i64 x1, .int .i64 x2, .int .i64 x3, .int .i64 x4, .int .i64 x5]), (w.heap.size + 1, #[.string b0, .int .i64 b1, .int .i64 b2, .bool b3, .bool b4, .bool b5]), (w.heap.size, #[.string a0, .int .i64 a1, .int .i64 a2, .bool a3, .bool a4, .bool a5])]) W) (Keep.add (by apply Blk.eq; (repeat' (first | with_reducible assumption | with_reducible apply Blk.set | with_reducible apply Blk.other | (with_reducible refine Blk.new ?_; simp; done) | with_reducible apply Blk.alloc | omega)); rfl) (K.below (by repeat' (first | with_reducible assumption | with_reducible exact Below.refl _ _ | with_reducible refine allocB ?_ | with_reducible refine setB ?_ ?_ | with_reducible refine drewB ?_ | with_reducible refine after ?_ (by assumption) | (simp; omega) | omega)))) ?_
                      clear fA gA zA kA hbm zb K
                      rintro wn56 K
                      obtain ⟨f54, g54, z54⟩ := K.tl.hd.facts
                      obtain ⟨f56, g56, z56⟩ := K.hd.facts
                      clear cM cT cK
                      go_wp2
                      clear f54 g54 z54
                      clear f56 g56 z56
                      replace K := K.tl
                      replace K := K.tl
                      replace K := K.tl
                      go_roundw
                      case rel => exact ⟨jq + 1, by omega, by go_num, K⟩
                      case measure => simp [intOf]; omega
                    · replace K := K.tl
                      replace K := K.tl
                      go_wp2
                      go_roundw
                      case rel => exact ⟨jr + 1, by omega, by go_num, K⟩
                      case measure => simp [intOf]; omega
            · replace K := K.tl
              obtain ⟨⟨m1, m2, m3, m4, m5⟩, hX⟩ : ∃ V, mkArea ⟨x1, x2, x3, x4, x5⟩ = V := ⟨_, rfl⟩
              obtain ⟨⟨n1, n2, n3, n4, n5⟩, hY⟩ : ∃ V, mkArea ⟨y1, y2, y3, y4, y5⟩ = V := ⟨_, rfl⟩
              have iX := mkArea_ok ⟨x1, x2, x3, x4, x5⟩
              have iY := mkArea_ok ⟨y1, y2, y3, y4, y5⟩
              rw [hX] at iX
              rw [hY] at iY
              have jX : AreaIn ⟨m1, m2, m3, m4, m5⟩ := ok_in _ iX.1
              have jY : AreaIn ⟨n1, n2, n3, n4, n5⟩ := ok_in _ iY.1
              have cX := fun W => MkArea_is ⟨x1, x2, x3, x4, x5⟩ hx.1 hx.2.1 hx.2.2.1 hx.2.2.2.1 hx.2.2.2.2 hX W
              have cY := fun W => MkArea_is ⟨y1, y2, y3, y4, y5⟩ hy.1 hy.2.1 hy.2.2.1 hy.2.2.2.1 hy.2.2.2.2 hY W
              have cZ := fun W => RefAt_any t1 t2 t3 W ht1 ht2 ht3
              have c1 := fun W => areas_any ⟨x1, x2, x3, x4, x5⟩ ⟨y1, y2, y3, y4, y5⟩ t1 t2 t3 W hx hy
              have c2 := fun W => areas_any ⟨m1, m2, m3, m4, m5⟩ ⟨n1, n2, n3, n4, n5⟩ (pickI t1 2) (pickI t2 200) (pickI t3 52) W jX jY
              have c3 := fun W => areas_any ⟨m1, m2, m3, m4, m5⟩ ⟨y1, y2, y3, y4, y5⟩ t1 t2 t3 W jX hy
              unfold atV at cZ
              unfold areaV at c1 c2 c3
              dsimp only at cX cY c1 c2 c3
              clear hX hY iX iY jX jY
              go_upto_region 47 with fail
              obtain ⟨f11, g11, z11⟩ := K.tl.tl.hd.facts
              obtain ⟨f12, g12, z12⟩ := K.tl.hd.facts
              obtain ⟨f13, g13, z13⟩ := K.hd.facts
              have kc := gcell wr
              refine region_below (by kernel_rfl) (by kernel_rfl) ?_
              iterate 5 (quiet_step (fail))
              quiet_step (exact Ret.grown (fun W _ => c1 W))
              iterate 3 (quiet_step (fail))
              quiet_step (exact Ret.grown (fun W _ => cX W))
              quiet_step (fail)
              quiet_step (exact Ret.grown (fun W _ => cY W))
              quiet_step (fail)
              quiet_step (exact Ret.grown (fun W _ => cZ W))
              quiet_step (exact Ret.grown (fun W _ => c2 W))
              iterate 3 (quiet_step (fail))
              quiet_step (exact Ret.grown (fun W _ => cX W))
              iterate 2 (quiet_step (fail))
              quiet_step (exact Ret.grown (fun W _ => c3 W))
              repeat (quiet_step (fail))
              refine wpQuiet_nil ?_
              intro wq hbq
              have hb0 := after K.bel hbq
              go_wp2
              go_ret; exact Ret.mk' rfl hb0

theorem law_RefTells (a b : RefD) (x y : AreaD) (t1 t2 t3 : Int) (s : ByteArray) (n rows cols : Int) (w : World) (hg : Good w) (ha : RefIn a) (hb : RefIn b) (hx : AreaIn x) (hy : AreaIn y) (ht1 : Int64 t1) (ht2 : Int64 t2) (ht3 : Int64 t3) (hs : s.size ≤ 9223372036854775807) (hn : Int64 n) (hrows : Int64 rows) (hcols : Int64 cols) :
    Calls Tryz.prog 3 #[refV a, refV b, areaV x, areaV y, .agg #[.int .i64 t1, .int .i64 t2, .int .i64 t3], .string s, .int .i64 n, .int .i64 rows, .int .i64 cols] w (Ret (.bool true) w) :=
  Tells_walk a b x.sheet x.row x.col x.rows x.cols y.sheet y.row y.col y.rows y.cols t1 t2 t3 s n rows cols w hg ha hb hx hy ht1 ht2 ht3 hs hn hrows hcols (min s.size 60) (by omega) (by omega) (by omega)
end Go.Proofs.YtmeiboajpbflcaaGreatDoor
