/- The law RefBack: its walk. -/
import Derived.Test.YtmeiboajpbflcaaDoorUses
import Derived.Test.YtmeiboajpbflcaaDoorBytes
import Derived.Test.YtmeiboajpbflcaaDoorQuote
import Derived.Deep.Cut
import Derived.Deep.CutRange
namespace Go.Proofs.YtmeiboajpbflcaaDoor
open Go.RowKit Tab

set_option maxRecDepth 100000 in
set_option maxHeartbeats 8000000 in
theorem law_RefBack (a b : RefD) (w : World) (hg : Good w) (ha : RefIn a) (hb : RefIn b) : Calls Tryd.prog 3 #[refV a, refV b] w (Ret (.bool true) w) := by
  have cR : ∀ W, Below w.heap.size w W → _ := fun W (_ : Below w.heap.size w W) => RefOf_any a W ha.2.1 ha.2.2 ha.1
  have cQ : ∀ W, Below w.heap.size w W → _ := fun W (_ : Below w.heap.size w W) => RefOf_any b W hb.2.1 hb.2.2 hb.1
  clear ha hb
  obtain ⟨a0, a1, a2, a3, a4, a5⟩ := a
  obtain ⟨b0, b1, b2, b3, b4, b5⟩ := b
  unfold refV at *
  dsimp only at *
  go_enter Tryd.func3, Tryd.ntmps3
  go_wp2_with fail
  refine calls_abs (fun W => Blk W (w.heap.size) #[.string a0, .int .i64 a1, .int .i64 a2, .bool a3, .bool a4, .bool a5] ∧ Blk W (w.heap.size + 1) #[.string b0, .int .i64 b1, .int .i64 b2, .bool b3, .bool b4, .bool b5] ∧ Below w.heap.size w W) ⟨(by apply Blk.eq; (repeat' (first | with_reducible assumption | with_reducible apply Blk.set | with_reducible apply Blk.other | (with_reducible refine Blk.new ?_; simp; done) | with_reducible apply Blk.alloc | omega)); rfl), (by apply Blk.eq; (repeat' (first | with_reducible assumption | with_reducible apply Blk.set | with_reducible apply Blk.other | (with_reducible refine Blk.new ?_; simp; done) | with_reducible apply Blk.alloc | omega)); rfl), (by repeat' (first | with_reducible assumption | with_reducible exact Below.refl _ _ | with_reducible refine allocB ?_ | with_reducible refine setB ?_ ?_ | with_reducible refine drewB ?_ | with_reducible refine after ?_ (by assumption) | (simp; omega) | omega))⟩ ?_
  rintro wa ⟨k2, k3, hb0⟩
  obtain ⟨f2, g2, z2⟩ := k2.facts
  obtain ⟨f3, g3, z3⟩ := k3.facts
  refine (awake_any wa (hg.below hb0)).mono ?_; rintro e w1 ⟨rfl, hb1⟩
  replace k2 := k2.below hb1
  replace k3 := k3.below hb1
  replace hb0 : Below w.heap.size w w1 := after hb0 hb1
  clear f2 g2 z2
  clear f3 g3 z3
  clear hb1
  obtain ⟨f2, g2, z2⟩ := k2.facts
  obtain ⟨f3, g3, z3⟩ := k3.facts
  go_wp2_with fail
  refine (cR w1 hb0).mono ?_; rintro e w2 ⟨⟨t, R, C, x, y, z⟩, hq, rfl, hb2⟩
  replace k2 := k2.below hb2
  replace k3 := k3.below hb2
  replace hb0 : Below w.heap.size w w2 := after hb0 hb2
  clear f2 g2 z2
  clear f3 g3 z3
  clear hb2
  obtain ⟨f2, g2, z2⟩ := k2.facts
  obtain ⟨f3, g3, z3⟩ := k3.facts
  clear k2 f2 g2 z2
  dsimp only
  go_wp2_with fail
  refine calls_abs (fun W => Blk W (w.heap.size + 1) #[.string b0, .int .i64 b1, .int .i64 b2, .bool b3, .bool b4, .bool b5] ∧ Blk W (w2.heap.size) #[.string t, .int .i64 R, .int .i64 C, .bool x, .bool y, .bool z] ∧ Below w.heap.size w W) ⟨(by apply Blk.eq; (repeat' (first | with_reducible assumption | with_reducible apply Blk.set | with_reducible apply Blk.other | (with_reducible refine Blk.new ?_; simp; done) | with_reducible apply Blk.alloc | omega)); rfl), (by apply Blk.eq; (repeat' (first | with_reducible assumption | with_reducible apply Blk.set | with_reducible apply Blk.other | (with_reducible refine Blk.new ?_; simp; done) | with_reducible apply Blk.alloc | omega)); rfl), (by repeat' (first | with_reducible assumption | with_reducible exact Below.refl _ _ | with_reducible refine allocB ?_ | with_reducible refine setB ?_ ?_ | with_reducible refine drewB ?_ | with_reducible refine after ?_ (by assumption) | (simp; omega) | omega))⟩ ?_
  clear f3 g3 z3
  clear k3 hb0
  rintro w2a ⟨k3, k6, hb0⟩
  generalize w2.heap.size = b6 at *
  obtain ⟨f3, g3, z3⟩ := k3.facts
  obtain ⟨f6, g6, z6⟩ := k6.facts
  refine (cQ w2a hb0).mono ?_; rintro e w3 ⟨⟨u, P, Q, x', y', z'⟩, hq', rfl, hb3⟩
  replace k3 := k3.below hb3
  replace k6 := k6.below hb3
  replace hb0 : Below w.heap.size w w3 := after hb0 hb3
  clear f3 g3 z3
  clear f6 g6 z6
  clear hb3
  obtain ⟨f3, g3, z3⟩ := k3.facts
  obtain ⟨f6, g6, z6⟩ := k6.facts
  clear k3 f3 g3 z3
  dsimp only
  obtain ⟨i1, r1, l1⟩ := made_in hq
  obtain ⟨i2, r2, l2⟩ := made_in hq'
  clear hq hq' cR cQ
  have hrt := read_text _ r1
  have hinj := text_inj r1 r2
  have hl1 := text_len ⟨t, R, C, x, y, z⟩
  obtain ⟨s1, hs1⟩ : ∃ s, (textD ⟨t, R, C, x, y, z⟩).1 = s := ⟨_, rfl⟩
  obtain ⟨s2, hs2⟩ : ∃ s, (textD ⟨u, P, Q, x', y', z'⟩).1 = s := ⟨_, rfl⟩
  have e1 : textD ⟨t, R, C, x, y, z⟩ = (s1, 0) := by rw [← hs1]; unfold textD; rw [r1]; rfl
  have e2 : textD ⟨u, P, Q, x', y', z'⟩ = (s2, 0) := by rw [← hs2]; unfold textD; rw [r2]; rfl
  rw [hs1] at hrt hinj hl1
  rw [hs2] at hinj
  have c1 := fun W hb => Text_is (u := ⟨s1.toArray⟩) hg i1.1 e1 W hb
  have c2 := fun W hb => Text_is (u := ⟨s2.toArray⟩) hg i2.1 e2 W hb
  have c3 := fun W hb => Read_is (s := ⟨s1.toArray⟩) hg (show s1.length ≤ 1000000 by omega) hrt W hb
  clear hrt hs1 hs2
  go_wp2_with fail
  refine calls_abs (fun W => Blk W (b6) #[.string t, .int .i64 R, .int .i64 C, .bool x, .bool y, .bool z] ∧ Blk W (w3.heap.size) #[.string u, .int .i64 P, .int .i64 Q, .bool x', .bool y', .bool z'] ∧ Below w.heap.size w W) ⟨(by apply Blk.eq; (repeat' (first | with_reducible assumption | with_reducible apply Blk.set | with_reducible apply Blk.other | (with_reducible refine Blk.new ?_; simp; done) | with_reducible apply Blk.alloc | omega)); rfl), (by apply Blk.eq; (repeat' (first | with_reducible assumption | with_reducible apply Blk.set | with_reducible apply Blk.other | (with_reducible refine Blk.new ?_; simp; done) | with_reducible apply Blk.alloc | omega)); rfl), (by repeat' (first | with_reducible assumption | with_reducible exact Below.refl _ _ | with_reducible refine allocB ?_ | with_reducible refine setB ?_ ?_ | with_reducible refine drewB ?_ | with_reducible refine after ?_ (by assumption) | (simp; omega) | omega))⟩ ?_
  clear f6 g6 z6
  clear k6 hb0
  rintro w3a ⟨k6, k7, hb0⟩
  generalize w3.heap.size = b7 at *
  obtain ⟨f6, g6, z6⟩ := k6.facts
  obtain ⟨f7, g7, z7⟩ := k7.facts
  refine (c1 w3a hb0).mono ?_; rintro e w4 ⟨rfl, hb4⟩
  replace k6 := k6.below hb4
  replace k7 := k7.below hb4
  replace hb0 : Below w.heap.size w w4 := after hb0 hb4
  clear f6 g6 z6
  clear f7 g7 z7
  clear hb4
  obtain ⟨f6, g6, z6⟩ := k6.facts
  obtain ⟨f7, g7, z7⟩ := k7.facts
  go_wp2_with fail
  refine (c2 w4 hb0).mono ?_; rintro e w5 ⟨rfl, hb5⟩
  replace k6 := k6.below hb5
  replace k7 := k7.below hb5
  replace hb0 : Below w.heap.size w w5 := after hb0 hb5
  clear f6 g6 z6
  clear f7 g7 z7
  clear hb5
  obtain ⟨f6, g6, z6⟩ := k6.facts
  obtain ⟨f7, g7, z7⟩ := k7.facts
  go_wp2_with fail
  refine (c3 w5 hb0).mono ?_; rintro e w6 ⟨rfl, hb6⟩
  replace k6 := k6.below hb6
  replace k7 := k7.below hb6
  replace hb0 : Below w.heap.size w w6 := after hb0 hb6
  clear f6 g6 z6
  clear f7 g7 z7
  clear hb6
  obtain ⟨f6, g6, z6⟩ := k6.facts
  obtain ⟨f7, g7, z7⟩ := k7.facts
  clear c1 c2 c3
  cases z
  · go_upto_region 7 with fail
    refine wp_abs2 (fun W => Blk W (b6) #[.string t, .int .i64 R, .int .i64 C, .bool x, .bool y, .bool false] ∧ Blk W (b7) #[.string u, .int .i64 P, .int .i64 Q, .bool x', .bool y', .bool z'] ∧ Blk W (w6.heap.size) #[.string t, .int .i64 R, .int .i64 C, .bool x, .bool y, .bool false] ∧ Below w.heap.size w W) ⟨(by apply Blk.eq; (repeat' (first | with_reducible assumption | with_reducible apply Blk.set | with_reducible apply Blk.other | (with_reducible refine Blk.new ?_; simp; done) | with_reducible apply Blk.alloc | omega)); rfl), (by apply Blk.eq; (repeat' (first | with_reducible assumption | with_reducible apply Blk.set | with_reducible apply Blk.other | (with_reducible refine Blk.new ?_; simp; done) | with_reducible apply Blk.alloc | omega)); rfl), (by apply Blk.eq; (repeat' (first | with_reducible assumption | with_reducible apply Blk.set | with_reducible apply Blk.other | (with_reducible refine Blk.new ?_; simp; done) | with_reducible apply Blk.alloc | omega)); rfl), (by repeat' (first | with_reducible assumption | with_reducible exact Below.refl _ _ | with_reducible refine allocB ?_ | with_reducible refine setB ?_ ?_ | with_reducible refine drewB ?_ | with_reducible refine after ?_ (by assumption) | (simp; omega) | omega))⟩ ?_
    clear f6 g6 z6
    clear f7 g7 z7
    clear k6 k7 hb0
    rintro w6a ⟨k6, k7, k12, hb0⟩
    generalize w6.heap.size = b12 at *
    obtain ⟨f6, g6, z6⟩ := k6.facts
    obtain ⟨f7, g7, z7⟩ := k7.facts
    obtain ⟨f12, g12, z12⟩ := k12.facts
    go_cut [69] from 42 to 69 (fun c wx => c = .bool false ∧ w6a = wx)
    case first =>
      by_cases hq : (⟨t, R, C, x, y, false⟩ : RefD) = ⟨u, P, Q, x', y', z'⟩
      · have := hinj.2 hq
        subst this
        simp only [RefD.mk.injEq] at hq
        obtain ⟨rfl, rfl, rfl, rfl, rfl, rfl⟩ := hq
        go_wp2_with fail
        go_meet
        exact ⟨rfl, rfl⟩
      · have hn : (s1 == s2) = false := by rw [beq_eq_false_iff_ne]; exact fun h => hq (hinj.1 h)
        clear hinj
        go_wp2_with fail
        all_goals first
          | (go_meet; exact ⟨rfl, rfl⟩)
          | (have ht : t = u := ba_ext (by assumption); subst_vars; go_meet; exact ⟨rfl, rfl⟩)
          | (exfalso; apply hq; have ht : t = u := ba_ext (by assumption); simp_all; done)
    case rest =>
      obtain ⟨rfl, rfl⟩ := hcut
      clear e1 e2 hinj hl1
      obtain ⟨rR1, rR2, rC1, rC2⟩ := right_range r1
      dsimp only at rR1 rR2 rC1 rC2 l1
      have r0 : RefD.right ⟨⟨#[]⟩, R, C, x, y, false⟩ = true := by rw [right_at _ _ _ _ _ (by rfl)]; exact decide_eq_true (by omega)
      obtain ⟨_, q1, q2, q3⟩ := col_of C rC1 rC2
      obtain ⟨hnm, _⟩ := right_parts r1 rfl
      dsimp only at hnm
      obtain ⟨sb, hsb⟩ : ∃ s, fixD y ++ colL C ++ fixD x ++ Lib.itoa (R + 1) = s := ⟨_, rfl⟩
      obtain ⟨sm, hsm⟩ : ∃ s, fixD y ++ (colL C).map lowB ++ fixD x ++ Lib.itoa (R + 1) = s := ⟨_, rfl⟩
      have hlow : sb.map lowB = sm := by rw [← hsb, ← hsm]; exact low_all y x _ _ (by omega) (by omega)
      have hlb : sb.length ≤ 7 := by rw [← hsb]; exact short_len y x _ (col_len2 _) _ (by omega) (by omega)
      have hlm : sm.length ≤ 7 := by rw [← hlow, List.length_map]; exact hlb
      have e3 : textD ⟨⟨#[]⟩, R, C, x, y, false⟩ = (sb, 0) := by rw [textD_yes r0 rfl, ← hsb]; rfl
      have c4 := fun W hb => Text_is (t := ⟨#[]⟩) (u := ⟨sb.toArray⟩) hg (show (0 : Nat) ≤ 9223372036854775807 by omega) e3 W hb
      have hback := fun pre hp => read_back ⟨t, R, C, x, y, false⟩ r1 rfl ((colL C).map lowB) q1 q2 q3 pre hp
      dsimp only at hback
      rw [hsm] at hback
      clear e3 hsb hsm q1 q2 q3 r0 i1 i2 r1 r2 rR1 rR2 rC1 rC2 l2
      have hcv : ∀ W : World, (convert 9 31 (.string ⟨sb.toArray⟩)).run Tryd.prog W = .ok (.slice (some ⟨W.heap.size, 0, none⟩) sb.length (grownCap W sb.length 0 5)) (W.drew.alloc (.cells (bytesRow ⟨sb.toArray⟩ (grownCap W sb.length 0 5)) 5 ((bytesRow ⟨sb.toArray⟩ (grownCap W sb.length 0 5)).size, (bytesRow ⟨sb.toArray⟩ (grownCap W sb.length 0 5)).size + 1))) := fun W => run_bytes_of_string W _ _ 5 ⟨sb.toArray⟩ Tryd.underlying9 Tryd.underlying31 Tryd.underlying5
      go_wp2_with fail
      refine calls_abs (fun W => Blk W (b6) #[.string t, .int .i64 R, .int .i64 C, .bool x, .bool y, .bool false] ∧ Blk W (b7) #[.string u, .int .i64 P, .int .i64 Q, .bool x', .bool y', .bool z'] ∧ Blk W (b12) #[.string t, .int .i64 R, .int .i64 C, .bool x, .bool y, .bool false] ∧ Blk W (w6a.heap.size) #[.string ⟨#[]⟩, .int .i64 R, .int .i64 C, .bool x, .bool y, .bool false] ∧ Below w.heap.size w W) ⟨(by apply Blk.eq; (repeat' (first | with_reducible assumption | with_reducible apply Blk.set | with_reducible apply Blk.other | (with_reducible refine Blk.new ?_; simp; done) | with_reducible apply Blk.alloc | omega)); rfl), (by apply Blk.eq; (repeat' (first | with_reducible assumption | with_reducible apply Blk.set | with_reducible apply Blk.other | (with_reducible refine Blk.new ?_; simp; done) | with_reducible apply Blk.alloc | omega)); rfl), (by apply Blk.eq; (repeat' (first | with_reducible assumption | with_reducible apply Blk.set | with_reducible apply Blk.other | (with_reducible refine Blk.new ?_; simp; done) | with_reducible apply Blk.alloc | omega)); rfl), (by apply Blk.eq; (repeat' (first | with_reducible assumption | with_reducible apply Blk.set | with_reducible apply Blk.other | (with_reducible refine Blk.new ?_; simp; done) | with_reducible apply Blk.alloc | omega)); rfl), (by repeat' (first | with_reducible assumption | with_reducible exact Below.refl _ _ | with_reducible refine allocB ?_ | with_reducible refine setB ?_ ?_ | with_reducible refine drewB ?_ | with_reducible refine after ?_ (by assumption) | (simp; omega) | omega))⟩ ?_
      clear f6 g6 z6
      clear f7 g7 z7
      clear f12 g12 z12
      clear k6 k7 k12 hb0
      rintro w6aa ⟨k6, k7, k12, k14, hb0⟩
      generalize w6a.heap.size = b14 at *
      obtain ⟨f6, g6, z6⟩ := k6.facts
      obtain ⟨f7, g7, z7⟩ := k7.facts
      obtain ⟨f12, g12, z12⟩ := k12.facts
      obtain ⟨f14, g14, z14⟩ := k14.facts
      skip
      refine (c4 w6aa hb0).mono ?_; rintro e w7 ⟨rfl, hb7⟩
      replace k6 := k6.below hb7
      replace k7 := k7.below hb7
      replace k12 := k12.below hb7
      replace k14 := k14.below hb7
      replace hb0 : Below w.heap.size w w7 := after hb0 hb7
      clear f6 g6 z6
      clear f7 g7 z7
      clear f12 g12 z12
      clear f14 g14 z14
      clear hb7
      obtain ⟨f6, g6, z6⟩ := k6.facts
      obtain ⟨f7, g7, z7⟩ := k7.facts
      obtain ⟨f12, g12, z12⟩ := k12.facts
      obtain ⟨f14, g14, z14⟩ := k14.facts
      clear k7 f7 g7 z7
      clear k12 f12 g12 z12
      clear k14 f14 g14 z14
      go_upto_region 13 with fail
      refine wp_abs2 (fun W => Byt W w7.heap.size sb ∧ Blk W b6 #[.string t, .int .i64 R, .int .i64 C, .bool x, .bool y, .bool false] ∧ Below w.heap.size w W ∧ b6 < w7.heap.size ∧ w.heap.size ≤ w7.heap.size) ⟨byt_new2 _ _ _, k6.alloc, (by repeat' (first | with_reducible assumption | with_reducible exact Below.refl _ _ | with_reducible refine allocB ?_ | with_reducible refine setB ?_ ?_ | with_reducible refine drewB ?_ | with_reducible refine after ?_ (by assumption) | (simp; omega) | omega)), z6, hb0.size⟩ ?_
      clear k6 f6 g6 z6 hb0 hcv c4
      rintro wl ⟨B17, k6, hb0, o6, o17⟩
      generalize w7.heap.size = b17 at *
      obtain ⟨f6, g6, z6⟩ := k6.facts
      generalize grownCap _ _ _ _ = cap at *
      go_wp2_with fail
      go_loopw [18] (fun i w' => ∃ k : Nat, k ≤ sb.length ∧ i = .int .i64 k ∧ Byt w' b17 ((sb.take k).map lowB ++ sb.drop k) ∧ Blk w' b6 #[.string t, .int .i64 R, .int .i64 C, .bool x, .bool y, .bool false] ∧ Below w.heap.size w w') (fun i _ => sb.length - (intOf i).toNat)
      case atStart => exact ⟨0, by omega, rfl, by simpa using B17, k6, hb0⟩
      case round =>
        clear f6 g6 z6 k6 hb0 B17
        obtain ⟨k, hk, rfl, B17, k6, hb0⟩ := hrel
        obtain ⟨f6, g6, z6⟩ := k6.facts
        by_cases hlt : k < sb.length
        · obtain ⟨ln, la⟩ := low_at sb k hlt
          obtain ⟨hc, hf⟩ := B17.1 k (by omega)
          rw [la (by omega)] at hc
          have hset := fun x => (B17.set (i := k) (by omega) x)
          have hst := low_set sb k hlt
          have HS := Lib.hid (And.intro hset hst)
          have z17 := B17.2
          clear hset hst
          have cb := sb[k].toNat_lt
          by_cases h1 : 65 ≤ sb[k].toNat ∧ sb[k].toNat ≤ 90
          · have hy := lowB_yes sb[k] h1.1 h1.2
            have HY := Lib.hid hy; clear hy
            obtain ⟨h1, h2⟩ := h1
            go_wp2
            go_roundw
            case rel => exact ⟨k + 1, by omega, by go_num, (by have := (HS.out.1 (lowB sb[k])).eq HS.out.2; rw [← HY.out] at this; exact this), k6.other (by omega), (by repeat' (first | with_reducible assumption | with_reducible exact Below.refl _ _ | with_reducible refine allocB ?_ | with_reducible refine setB ?_ ?_ | with_reducible refine drewB ?_ | with_reducible refine after ?_ (by assumption) | (simp; omega) | omega))⟩
            case measure => simp [intOf]; omega
          · have hy := lowB_no sb[k] h1
            have HY := Lib.hid hy; clear hy
            go_wp2
            all_goals go_roundw
            all_goals first
              | (exact ⟨k + 1, by omega, by go_num, B17.eq (by rw [← HS.out.2, HY.out, set_same _ _ _ la]), k6, hb0⟩)
              | (simp [intOf]; omega)
        · have hke : k = sb.length := by omega
          subst hke
          rw [List.take_length, List.drop_length, List.append_nil, hlow] at B17
          have hbk := fun cap => byt_back (cap := cap) B17
          rw [show sm.length = sb.length by rw [← hlow, List.length_map]] at hbk
          rcases (by simpa using hnm : t.data.toList = [] ∨ nameB t.data.toList = true) with he | he
          · have ht0 : t = ⟨#[]⟩ := by rw [← ba_eta t, he]
            subst ht0
            have c5 := fun W hb => Read_is (s := ⟨sm.toArray⟩) hg (show sm.length ≤ 1000000 by omega) (hback [] (.inl ⟨rfl, rfl⟩)) W hb
            clear hback hnm hlow
            go_wp2_with fail
            refine (c5 _ hb0).mono ?_; rintro e w8 ⟨rfl, hb8⟩
            replace k6 := k6.below hb8
            replace hb0 : Below w.heap.size w w8 := after hb0 hb8
            clear f6 g6 z6 hb8 hbk B17
            obtain ⟨f6, g6, z6⟩ := k6.facts
            go_wp2
            go_ret; exact Ret.mk' rfl (by repeat' (first | with_reducible assumption | with_reducible exact Below.refl _ _ | with_reducible refine allocB ?_ | with_reducible refine setB ?_ ?_ | with_reducible refine drewB ?_ | with_reducible refine after ?_ (by assumption) | (simp; omega) | omega))
          · have hne : t.toList.isEmpty = false := by
              rw [ByteArray.toList_eq]; cases hh : t.data.toList with
              | nil => rw [hh] at he; exact absurd he (by decide)
              | cons c l => rfl
            have hq := hback _ (.inr (.inr ⟨he, rfl⟩))
            have hd := dbl_len t.data.toList
            rw [ba_size] at hd
            rw [show 39 :: dbl t.data.toList ++ [39] ++ [33] ++ sm = (39 :: dbl t.data.toList ++ [39]) ++ [33] ++ sm from rfl, ← ba_cat, ← ba_cat] at hq
            have cq := fun W => Quoted_any t W (by omega)
            have c5 := fun W hb => Read_is hg (show _ ≤ 1000000 by rw [ByteArray.size_append, ByteArray.size_append]; show (39 :: dbl t.data.toList ++ [39]).length + 1 + sm.length ≤ 1000000; simp; omega) hq W hb
            unfold strV at cq
            have hD : (39 :: dbl t.data.toList ++ [39]).length ≤ 62 := by simp; omega
            clear hback hnm hlow hq hd
            generalize 39 :: dbl t.data.toList ++ [39] = D at *
            have e1 : ¬ 9223372036854775807 < D.length + 1 := by omega
            have e2 : ¬ 9223372036854775807 < D.length + 1 + sm.length := by omega
            go_wp2_with fail
            refine (cq _).mono ?_; rintro e w8 ⟨rfl, rfl⟩
            go_wp2_with fail
            refine (c5 _ hb0).mono ?_; rintro e w8 ⟨rfl, hb8⟩
            replace k6 := k6.below hb8
            replace hb0 : Below w.heap.size w w8 := after hb0 hb8
            clear f6 g6 z6 hb8 hbk B17
            obtain ⟨f6, g6, z6⟩ := k6.facts
            go_wp2
            go_ret; exact Ret.mk' rfl (by repeat' (first | with_reducible assumption | with_reducible exact Below.refl _ _ | with_reducible refine allocB ?_ | with_reducible refine setB ?_ ?_ | with_reducible refine drewB ?_ | with_reducible refine after ?_ (by assumption) | (simp; omega) | omega))
  · have es : s1 = [35, 82, 69, 70, 33] := by
      have := congrArg Prod.fst e1; rw [textD_gone r1 rfl] at this; exact this.symm
    subst es
    clear e1 e2 hl1 hg
    by_cases hq : (⟨t, R, C, x, y, true⟩ : RefD) = ⟨u, P, Q, x', y', z'⟩
    · have := hinj.2 hq
      subst this
      simp only [RefD.mk.injEq] at hq
      obtain ⟨rfl, rfl, rfl, rfl, rfl, rfl⟩ := hq
      go_wp2
      go_ret; exact Ret.mk' rfl (by repeat' (first | with_reducible assumption | with_reducible exact Below.refl _ _ | with_reducible refine allocB ?_ | with_reducible refine setB ?_ ?_ | with_reducible refine drewB ?_ | with_reducible refine after ?_ (by assumption) | (simp; omega) | omega))
    · go_wp2
      all_goals first
        | (go_ret; exact Ret.mk' rfl (by repeat' (first | with_reducible assumption | with_reducible exact Below.refl _ _ | with_reducible refine allocB ?_ | with_reducible refine setB ?_ ?_ | with_reducible refine drewB ?_ | with_reducible refine after ?_ (by assumption) | (simp; omega) | omega)))
        | (exfalso; apply hq; have ht : t = u := ba_ext (by assumption); simp_all; done)
end Go.Proofs.YtmeiboajpbflcaaDoor
