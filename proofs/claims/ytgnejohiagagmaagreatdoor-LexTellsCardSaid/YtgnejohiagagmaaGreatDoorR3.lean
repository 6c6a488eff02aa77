/- The walk of tabularef04.word. -/
import Derived.Test.YtgnejohiagagmaaGreatDoorR2
namespace Go.Proofs.YtgnejohiagagmaaGreatDoor
open Go.RowKit Tab

set_option maxRecDepth 100000 in
set_option maxHeartbeats 32000000 in
theorem refWord_any (s : ByteArray) (a : Nat) (ha : a < s.size) (hs : s.size ≤ 1000) (hwd : wordR s[a].toNat = true) (w : World) : Calls Tryz.prog 101 #[.string s, .int .i64 (a : Int)] w (RPiece a (wordPD (s.data.toList.drop a)) w) := by
  have hll : (s.data.toList.drop a).length = s.size - a := by rw [List.length_drop, ba_size]
  have hwl : (whileD wordR (s.data.toList.drop a)).length ≤ s.size - a := by rw [← hll]; exact tw_len _ _
  have hwt := while_take wordR (s.data.toList.drop a)
  have hW1 : 1 ≤ (whileD wordR (s.data.toList.drop a)).length := by
    rw [drop_at s a ha]; unfold whileD; rw [List.takeWhile_cons, if_pos hwd]; simp
  have hlow : ∀ b ∈ whileD wordR (s.data.toList.drop a), b.toNat < 128 := fun b hb => word_low b (while_all wordR _ b hb)
  have hdd : ∀ n, (s.data.toList.drop a).drop n = s.data.toList.drop (a + n) := fun n => by rw [List.drop_drop]
  have hex : ∀ n, a + n ≤ s.size → (s.extract a (a + n)).data.toList = (s.data.toList.drop a).take n := fun n hn => by
    rw [ba_extract, List.drop_take, Nat.add_sub_cancel_left]
  have c0 := fun W => runWords_any s a (by omega) (by omega) W
  have cF := fun n hn W => refFar_any s a ha hs n hn W
  have cL := fun t h1 h2 h3 W => refColumn_any s a ha hs t h1 h2 h3 W
  unfold wordPD
  dsimp only
  generalize s.data.toList.drop a = l at *
  generalize whileD wordR l = X at *
  have hu := up_low X hlow
  have htr := truth_bytes X hlow
  obtain ⟨E, hE⟩ : ∃ E, a + X.length = E := ⟨_, rfl⟩
  have cA := fun (t : ByteArray) (ht : t.size ≤ 1000) W => refAt_any s E (by omega) (by omega) t ht W
  rw [← hE] at cA
  have c33 := fun W => cA ⟨#[33]⟩ (by decide) W
  have c40 := fun W => cA ⟨#[40]⟩ (by decide) W
  have c91 := fun W => cA ⟨#[91]⟩ (by decide) W
  rw [show (⟨#[33]⟩ : ByteArray).data.toList = [33] from rfl, ← hdd] at c33
  rw [show (⟨#[40]⟩ : ByteArray).data.toList = [40] from rfl, ← hdd] at c40
  rw [show (⟨#[91]⟩ : ByteArray).data.toList = [91] from rfl, ← hdd] at c91
  have hx : (s.extract a E).data.toList = X := by rw [← hE, hex _ (by omega), hwt]
  have hxs : s.extract a E = ⟨X.toArray⟩ := by rw [← hx, ba_eta]
  have hXs : (⟨X.toArray⟩ : ByteArray).size = X.length := by show X.toArray.size = _; simp
  have cU := fun W => Upper_any ⟨X.toArray⟩ W (by omega)
  have cC := fun W => refCallable_any ⟨X.toArray⟩ (by omega) W
  have cN := fun W => refIsName_any ⟨X.toArray⟩ (by omega) W
  have cI := fun W => refIsRef_any ⟨X.toArray⟩ (by omega) W
  rw [show (⟨X.toArray⟩ : ByteArray).data.toList = X from rfl] at cU cC cN cI
  have cF := fun W => cF X.length (by omega) W
  rw [show endQ a X.length = a + X.length by unfold endQ; rw [if_neg (by omega)]] at cF
  have cL := fun h3 W => cL X hwt hwl h3 W
  rw [hu, htr]
  clear hu htr hlow hx hwt hex
  generalize farD l X.length = OF at *
  generalize columnD l X = OL at *
  have ew : IntKind.i64.wrap ((a : Int) + (X.length : Int)) = (E : Int) := by rw [IntWalk.i64_in _ (by omega)]; omega
  have haE : a ≤ E := by omega
  have hEs : E ≤ s.size := by omega
  have hmk : ∀ k S, mkD k S X.length = some (k, S, X.length) := fun k S => by unfold mkD; rw [if_neg (by omega)]
  rw [hmk, hmk, hmk, hmk]
  rw [hE] at c33 c40 c91 cF cL
  have HE := Lib.hid hE
  have hl91 : Lib.hasPrefix (l.drop X.length) [91] = true → Hid (Lib.hasPrefix (l.drop X.length) [91] = true) := Lib.hid
  clear hll hwl hdd cA hXs hmk hE hwd
  generalize X.map upB = U at *
  generalize hp33 : Lib.hasPrefix (l.drop X.length) [33] = P33 at *
  generalize hp40 : Lib.hasPrefix (l.drop X.length) [40] = P40 at *
  generalize hp91 : Lib.hasPrefix (l.drop X.length) [91] = P91 at *
  generalize callD X = C at *
  generalize isNameD X = N at *
  generalize isRefD X = R at *
  clear hl91 hp33 hp40
  cases P33
  rotate_left
  · rw [if_pos rfl]
    go_enter Tryz.func101, Tryz.ntmps101
    go_upto_region 1 with fail
    refine wp_abs2 (fun W => Blk W w.heap.size #[.int .i64 0, .string ⟨#[]⟩, .int .i64 0] ∧ Below w.heap.size w W) ⟨(by apply Blk.eq; (repeat' (first | with_reducible assumption | with_reducible apply Blk.set | with_reducible apply Blk.other | (with_reducible refine Blk.new ?_; simp; done) | with_reducible apply Blk.alloc | omega)); rfl), (by repeat' (first | with_reducible assumption | with_reducible exact Below.refl _ _ | with_reducible refine allocB ?_ | with_reducible refine setB ?_ ?_ | with_reducible refine drewB ?_ | with_reducible refine after ?_ (by assumption) | (simp; omega) | omega))⟩ ?_
    rintro W ⟨hK, hW⟩
    go_wp2_with fail
    refine (c0 _).mono ?_; rintro e w1 ⟨rfl, rfl⟩
    go_wp2_with fail
    refine (cU _).mono ?_; rintro e w1 ⟨rfl, hb⟩
    replace hW := after hW hb
    replace hK := hK.below hb
    clear hb
    go_wp2_with fail
    refine (c33 _).mono ?_; rintro e w1 ⟨rfl, rfl⟩
    go_wp2_with fail
    refine (cF _).mono ?_
    cases OF with
    | none =>
      rintro e w1 ⟨rfl, hb⟩
      replace hW := after hW hb
      replace hK := hK.below hb
      clear hb
      obtain ⟨q0, q1, q2, hb9, cr0, cr1, cr2, gr, zr⟩ := cell3_give hK hW (.int .i64 0) (.string ⟨#[]⟩) (.int .i64 0)
      have HB9 := Lib.hid hb9
      clear hb9 hK hW
      go_wp2
      exact bodyPost_ret (v := .tuple #[.agg #[.int .i64 0, .string ⟨#[]⟩, .int .i64 0], .int .i64 0]) (by simp [results, Tryz.results101, go_sem, *]) rfl ⟨rfl, HB9.out⟩
    | some x =>
      obtain ⟨k9, S9, n9⟩ := x
      rintro e w1 ⟨rfl, hb⟩
      replace hW := after hW hb
      replace hK := hK.below hb
      clear hb
      dsimp only
      obtain ⟨q0, q1, q2, hb9, cr0, cr1, cr2, gr, zr⟩ := cell3_give hK hW (.int .i64 k9) (.string ⟨S9.toArray⟩) (.int .i64 (a : Int))
      have HB9 := Lib.hid hb9
      clear hb9 hK hW
      go_wp2
      exact bodyPost_ret (v := .tuple #[.agg #[.int .i64 k9, .string ⟨S9.toArray⟩, .int .i64 (a : Int)], .int .i64 ((a + n9 : Nat) : Int)]) (by simp [results, Tryz.results101, go_sem, *]) rfl ⟨rfl, HB9.out⟩
  rw [if_neg Bool.false_ne_true]
  cases P40
  · rw [Bool.false_and, if_neg Bool.false_ne_true]
    cases P91
    · rw [Bool.false_and, if_neg Bool.false_ne_true]
      clear cL hp91
      cases R
      · rw [if_neg Bool.false_ne_true]
        cases hT1 : (U == [84, 82, 85, 69])
        · cases hT2 : (U == [70, 65, 76, 83, 69])
          · rw [if_neg (by decide)]
            cases N
            · rw [if_neg Bool.false_ne_true]
              go_enter Tryz.func101, Tryz.ntmps101
              go_upto_region 1 with fail
              refine wp_abs2 (fun W => Blk W w.heap.size #[.int .i64 0, .string ⟨#[]⟩, .int .i64 0] ∧ Below w.heap.size w W) ⟨(by apply Blk.eq; (repeat' (first | with_reducible assumption | with_reducible apply Blk.set | with_reducible apply Blk.other | (with_reducible refine Blk.new ?_; simp; done) | with_reducible apply Blk.alloc | omega)); rfl), (by repeat' (first | with_reducible assumption | with_reducible exact Below.refl _ _ | with_reducible refine allocB ?_ | with_reducible refine setB ?_ ?_ | with_reducible refine drewB ?_ | with_reducible refine after ?_ (by assumption) | (simp; omega) | omega))⟩ ?_
              rintro W ⟨hK, hW⟩
              go_wp2_with fail
              refine (c0 _).mono ?_; rintro e w1 ⟨rfl, rfl⟩
              go_wp2_with fail
              refine (cU _).mono ?_; rintro e w1 ⟨rfl, hb⟩
              replace hW := after hW hb
              replace hK := hK.below hb
              clear hb
              go_wp2_with fail
              refine (c33 _).mono ?_; rintro e w1 ⟨rfl, rfl⟩
              go_wp2_with fail
              refine (c40 _).mono ?_; rintro e w1 ⟨rfl, rfl⟩
              go_wp2_with fail
              refine (c91 _).mono ?_; rintro e w1 ⟨rfl, rfl⟩
              go_wp2_with fail
              refine (cI _).mono ?_; rintro e w1 ⟨rfl, hb⟩
              replace hW := after hW hb
              replace hK := hK.below hb
              clear hb
              go_wp2_with fail
              refine (cN _).mono ?_; rintro e w1 ⟨rfl, hb⟩
              replace hW := after hW hb
              replace hK := hK.below hb
              clear hb
              obtain ⟨q0, q1, q2, hb9, cr0, cr1, cr2, gr, zr⟩ := cell3_give hK hW (.int .i64 0) (.string ⟨#[]⟩) (.int .i64 0)
              have HB9 := Lib.hid hb9
              clear hb9 hK hW
              go_wp2
              exact bodyPost_ret (v := .tuple #[.agg #[.int .i64 0, .string ⟨#[]⟩, .int .i64 0], .int .i64 0]) (by simp [results, Tryz.results101, go_sem, *]) rfl ⟨rfl, HB9.out⟩
            · rw [if_pos rfl]
              go_enter Tryz.func101, Tryz.ntmps101
              go_upto_region 1 with fail
              refine wp_abs2 (fun W => Blk W w.heap.size #[.int .i64 0, .string ⟨#[]⟩, .int .i64 0] ∧ Below w.heap.size w W) ⟨(by apply Blk.eq; (repeat' (first | with_reducible assumption | with_reducible apply Blk.set | with_reducible apply Blk.other | (with_reducible refine Blk.new ?_; simp; done) | with_reducible apply Blk.alloc | omega)); rfl), (by repeat' (first | with_reducible assumption | with_reducible exact Below.refl _ _ | with_reducible refine allocB ?_ | with_reducible refine setB ?_ ?_ | with_reducible refine drewB ?_ | with_reducible refine after ?_ (by assumption) | (simp; omega) | omega))⟩ ?_
              rintro W ⟨hK, hW⟩
              go_wp2_with fail
              refine (c0 _).mono ?_; rintro e w1 ⟨rfl, rfl⟩
              go_wp2_with fail
              refine (cU _).mono ?_; rintro e w1 ⟨rfl, hb⟩
              replace hW := after hW hb
              replace hK := hK.below hb
              clear hb
              go_wp2_with fail
              refine (c33 _).mono ?_; rintro e w1 ⟨rfl, rfl⟩
              go_wp2_with fail
              refine (c40 _).mono ?_; rintro e w1 ⟨rfl, rfl⟩
              go_wp2_with fail
              refine (c91 _).mono ?_; rintro e w1 ⟨rfl, rfl⟩
              go_wp2_with fail
              refine (cI _).mono ?_; rintro e w1 ⟨rfl, hb⟩
              replace hW := after hW hb
              replace hK := hK.below hb
              clear hb
              go_wp2_with fail
              refine (cN _).mono ?_; rintro e w1 ⟨rfl, hb⟩
              replace hW := after hW hb
              replace hK := hK.below hb
              clear hb
              obtain ⟨q0, q1, q2, hb9, cr0, cr1, cr2, gr, zr⟩ := cell3_give hK hW (.int .i64 6) (.string ⟨X.toArray⟩) (.int .i64 (a : Int))
              have HB9 := Lib.hid hb9
              clear hb9 hK hW
              go_wp2
              exact bodyPost_ret (v := .tuple #[.agg #[.int .i64 6, .string ⟨X.toArray⟩, .int .i64 (a : Int)], .int .i64 (E : Int)]) (by simp [results, Tryz.results101, go_sem, *]) rfl ⟨by dsimp only; rw [HE.out], HB9.out⟩
          · rw [if_pos (by decide)]
            go_enter Tryz.func101, Tryz.ntmps101
            go_upto_region 1 with fail
            refine wp_abs2 (fun W => Blk W w.heap.size #[.int .i64 0, .string ⟨#[]⟩, .int .i64 0] ∧ Below w.heap.size w W) ⟨(by apply Blk.eq; (repeat' (first | with_reducible assumption | with_reducible apply Blk.set | with_reducible apply Blk.other | (with_reducible refine Blk.new ?_; simp; done) | with_reducible apply Blk.alloc | omega)); rfl), (by repeat' (first | with_reducible assumption | with_reducible exact Below.refl _ _ | with_reducible refine allocB ?_ | with_reducible refine setB ?_ ?_ | with_reducible refine drewB ?_ | with_reducible refine after ?_ (by assumption) | (simp; omega) | omega))⟩ ?_
            rintro W ⟨hK, hW⟩
            go_wp2_with fail
            refine (c0 _).mono ?_; rintro e w1 ⟨rfl, rfl⟩
            go_wp2_with fail
            refine (cU _).mono ?_; rintro e w1 ⟨rfl, hb⟩
            replace hW := after hW hb
            replace hK := hK.below hb
            clear hb
            go_wp2_with fail
            refine (c33 _).mono ?_; rintro e w1 ⟨rfl, rfl⟩
            go_wp2_with fail
            refine (c40 _).mono ?_; rintro e w1 ⟨rfl, rfl⟩
            go_wp2_with fail
            refine (c91 _).mono ?_; rintro e w1 ⟨rfl, rfl⟩
            go_wp2_with fail
            refine (cI _).mono ?_; rintro e w1 ⟨rfl, hb⟩
            replace hW := after hW hb
            replace hK := hK.below hb
            clear hb
            obtain ⟨q0, q1, q2, hb9, cr0, cr1, cr2, gr, zr⟩ := cell3_give hK hW (.int .i64 3) (.string ⟨U.toArray⟩) (.int .i64 (a : Int))
            have HB9 := Lib.hid hb9
            clear hb9 hK hW
            go_wp2
            exact bodyPost_ret (v := .tuple #[.agg #[.int .i64 3, .string ⟨U.toArray⟩, .int .i64 (a : Int)], .int .i64 (E : Int)]) (by simp [results, Tryz.results101, go_sem, *]) rfl ⟨by dsimp only; rw [HE.out], HB9.out⟩
        · rw [if_pos (by simp)]
          go_enter Tryz.func101, Tryz.ntmps101
          go_upto_region 1 with fail
          refine wp_abs2 (fun W => Blk W w.heap.size #[.int .i64 0, .string ⟨#[]⟩, .int .i64 0] ∧ Below w.heap.size w W) ⟨(by apply Blk.eq; (repeat' (first | with_reducible assumption | with_reducible apply Blk.set | with_reducible apply Blk.other | (with_reducible refine Blk.new ?_; simp; done) | with_reducible apply Blk.alloc | omega)); rfl), (by repeat' (first | with_reducible assumption | with_reducible exact Below.refl _ _ | with_reducible refine allocB ?_ | with_reducible refine setB ?_ ?_ | with_reducible refine drewB ?_ | with_reducible refine after ?_ (by assumption) | (simp; omega) | omega))⟩ ?_
          rintro W ⟨hK, hW⟩
          go_wp2_with fail
          refine (c0 _).mono ?_; rintro e w1 ⟨rfl, rfl⟩
          go_wp2_with fail
          refine (cU _).mono ?_; rintro e w1 ⟨rfl, hb⟩
          replace hW := after hW hb
          replace hK := hK.below hb
          clear hb
          go_wp2_with fail
          refine (c33 _).mono ?_; rintro e w1 ⟨rfl, rfl⟩
          go_wp2_with fail
          refine (c40 _).mono ?_; rintro e w1 ⟨rfl, rfl⟩
          go_wp2_with fail
          refine (c91 _).mono ?_; rintro e w1 ⟨rfl, rfl⟩
          go_wp2_with fail
          refine (cI _).mono ?_; rintro e w1 ⟨rfl, hb⟩
          replace hW := after hW hb
          replace hK := hK.below hb
          clear hb
          obtain ⟨q0, q1, q2, hb9, cr0, cr1, cr2, gr, zr⟩ := cell3_give hK hW (.int .i64 3) (.string ⟨U.toArray⟩) (.int .i64 (a : Int))
          have HB9 := Lib.hid hb9
          clear hb9 hK hW
          go_wp2
          exact bodyPost_ret (v := .tuple #[.agg #[.int .i64 3, .string ⟨U.toArray⟩, .int .i64 (a : Int)], .int .i64 (E : Int)]) (by simp [results, Tryz.results101, go_sem, *]) rfl ⟨by dsimp only; rw [HE.out], HB9.out⟩
      · rw [if_pos rfl]
        go_enter Tryz.func101, Tryz.ntmps101
        go_upto_region 1 with fail
        refine wp_abs2 (fun W => Blk W w.heap.size #[.int .i64 0, .string ⟨#[]⟩, .int .i64 0] ∧ Below w.heap.size w W) ⟨(by apply Blk.eq; (repeat' (first | with_reducible assumption | with_reducible apply Blk.set | with_reducible apply Blk.other | (with_reducible refine Blk.new ?_; simp; done) | with_reducible apply Blk.alloc | omega)); rfl), (by repeat' (first | with_reducible assumption | with_reducible exact Below.refl _ _ | with_reducible refine allocB ?_ | with_reducible refine setB ?_ ?_ | with_reducible refine drewB ?_ | with_reducible refine after ?_ (by assumption) | (simp; omega) | omega))⟩ ?_
        rintro W ⟨hK, hW⟩
        go_wp2_with fail
        refine (c0 _).mono ?_; rintro e w1 ⟨rfl, rfl⟩
        go_wp2_with fail
        refine (cU _).mono ?_; rintro e w1 ⟨rfl, hb⟩
        replace hW := after hW hb
        replace hK := hK.below hb
        clear hb
        go_wp2_with fail
        refine (c33 _).mono ?_; rintro e w1 ⟨rfl, rfl⟩
        go_wp2_with fail
        refine (c40 _).mono ?_; rintro e w1 ⟨rfl, rfl⟩
        go_wp2_with fail
        refine (c91 _).mono ?_; rintro e w1 ⟨rfl, rfl⟩
        go_wp2_with fail
        refine (cI _).mono ?_; rintro e w1 ⟨rfl, hb⟩
        replace hW := after hW hb
        replace hK := hK.below hb
        clear hb
        obtain ⟨q0, q1, q2, hb9, cr0, cr1, cr2, gr, zr⟩ := cell3_give hK hW (.int .i64 5) (.string ⟨X.toArray⟩) (.int .i64 (a : Int))
        have HB9 := Lib.hid hb9
        clear hb9 hK hW
        go_wp2
        exact bodyPost_ret (v := .tuple #[.agg #[.int .i64 5, .string ⟨X.toArray⟩, .int .i64 (a : Int)], .int .i64 (E : Int)]) (by simp [results, Tryz.results101, go_sem, *]) rfl ⟨by dsimp only; rw [HE.out], HB9.out⟩
    · cases hN : N
      · rw [hN] at cN
        rw [Bool.and_false, if_neg Bool.false_ne_true]
        clear cL hp91 hN
        cases R
        · rw [if_neg Bool.false_ne_true]
          cases hT1 : (U == [84, 82, 85, 69])
          · cases hT2 : (U == [70, 65, 76, 83, 69])
            · rw [if_neg (by decide)]
              rw [if_neg Bool.false_ne_true]
              go_enter Tryz.func101, Tryz.ntmps101
              go_upto_region 1 with fail
              refine wp_abs2 (fun W => Blk W w.heap.size #[.int .i64 0, .string ⟨#[]⟩, .int .i64 0] ∧ Below w.heap.size w W) ⟨(by apply Blk.eq; (repeat' (first | with_reducible assumption | with_reducible apply Blk.set | with_reducible apply Blk.other | (with_reducible refine Blk.new ?_; simp; done) | with_reducible apply Blk.alloc | omega)); rfl), (by repeat' (first | with_reducible assumption | with_reducible exact Below.refl _ _ | with_reducible refine allocB ?_ | with_reducible refine setB ?_ ?_ | with_reducible refine drewB ?_ | with_reducible refine after ?_ (by assumption) | (simp; omega) | omega))⟩ ?_
              rintro W ⟨hK, hW⟩
              go_wp2_with fail
              refine (c0 _).mono ?_; rintro e w1 ⟨rfl, rfl⟩
              go_wp2_with fail
              refine (cU _).mono ?_; rintro e w1 ⟨rfl, hb⟩
              replace hW := after hW hb
              replace hK := hK.below hb
              clear hb
              go_wp2_with fail
              refine (c33 _).mono ?_; rintro e w1 ⟨rfl, rfl⟩
              go_wp2_with fail
              refine (c40 _).mono ?_; rintro e w1 ⟨rfl, rfl⟩
              go_wp2_with fail
              refine (c91 _).mono ?_; rintro e w1 ⟨rfl, rfl⟩
              go_wp2_with fail
              refine (cN _).mono ?_; rintro e w1 ⟨rfl, hb⟩
              replace hW := after hW hb
              replace hK := hK.below hb
              clear hb
              go_wp2_with fail
              refine (cI _).mono ?_; rintro e w1 ⟨rfl, hb⟩
              replace hW := after hW hb
              replace hK := hK.below hb
              clear hb
              go_wp2_with fail
              refine (cN _).mono ?_; rintro e w1 ⟨rfl, hb⟩
              replace hW := after hW hb
              replace hK := hK.below hb
              clear hb
              obtain ⟨q0, q1, q2, hb9, cr0, cr1, cr2, gr, zr⟩ := cell3_give hK hW (.int .i64 0) (.string ⟨#[]⟩) (.int .i64 0)
              have HB9 := Lib.hid hb9
              clear hb9 hK hW
              go_wp2
              exact bodyPost_ret (v := .tuple #[.agg #[.int .i64 0, .string ⟨#[]⟩, .int .i64 0], .int .i64 0]) (by simp [results, Tryz.results101, go_sem, *]) rfl ⟨rfl, HB9.out⟩
            · rw [if_pos (by decide)]
              go_enter Tryz.func101, Tryz.ntmps101
              go_upto_region 1 with fail
              refine wp_abs2 (fun W => Blk W w.heap.size #[.int .i64 0, .string ⟨#[]⟩, .int .i64 0] ∧ Below w.heap.size w W) ⟨(by apply Blk.eq; (repeat' (first | with_reducible assumption | with_reducible apply Blk.set | with_reducible apply Blk.other | (with_reducible refine Blk.new ?_; simp; done) | with_reducible apply Blk.alloc | omega)); rfl), (by repeat' (first | with_reducible assumption | with_reducible exact Below.refl _ _ | with_reducible refine allocB ?_ | with_reducible refine setB ?_ ?_ | with_reducible refine drewB ?_ | with_reducible refine after ?_ (by assumption) | (simp; omega) | omega))⟩ ?_
              rintro W ⟨hK, hW⟩
              go_wp2_with fail
              refine (c0 _).mono ?_; rintro e w1 ⟨rfl, rfl⟩
              go_wp2_with fail
              refine (cU _).mono ?_; rintro e w1 ⟨rfl, hb⟩
              replace hW := after hW hb
              replace hK := hK.below hb
              clear hb
              go_wp2_with fail
              refine (c33 _).mono ?_; rintro e w1 ⟨rfl, rfl⟩
              go_wp2_with fail
              refine (c40 _).mono ?_; rintro e w1 ⟨rfl, rfl⟩
              go_wp2_with fail
              refine (c91 _).mono ?_; rintro e w1 ⟨rfl, rfl⟩
              go_wp2_with fail
              refine (cN _).mono ?_; rintro e w1 ⟨rfl, hb⟩
              replace hW := after hW hb
              replace hK := hK.below hb
              clear hb
              go_wp2_with fail
              refine (cI _).mono ?_; rintro e w1 ⟨rfl, hb⟩
              replace hW := after hW hb
              replace hK := hK.below hb
              clear hb
              obtain ⟨q0, q1, q2, hb9, cr0, cr1, cr2, gr, zr⟩ := cell3_give hK hW (.int .i64 3) (.string ⟨U.toArray⟩) (.int .i64 (a : Int))
              have HB9 := Lib.hid hb9
              clear hb9 hK hW
              go_wp2
              exact bodyPost_ret (v := .tuple #[.agg #[.int .i64 3, .string ⟨U.toArray⟩, .int .i64 (a : Int)], .int .i64 (E : Int)]) (by simp [results, Tryz.results101, go_sem, *]) rfl ⟨by dsimp only; rw [HE.out], HB9.out⟩
          · rw [if_pos (by simp)]
            go_enter Tryz.func101, Tryz.ntmps101
            go_upto_region 1 with fail
            refine wp_abs2 (fun W => Blk W w.heap.size #[.int .i64 0, .string ⟨#[]⟩, .int .i64 0] ∧ Below w.heap.size w W) ⟨(by apply Blk.eq; (repeat' (first | with_reducible assumption | with_reducible apply Blk.set | with_reducible apply Blk.other | (with_reducible refine Blk.new ?_; simp; done) | with_reducible apply Blk.alloc | omega)); rfl), (by repeat' (first | with_reducible assumption | with_reducible exact Below.refl _ _ | with_reducible refine allocB ?_ | with_reducible refine setB ?_ ?_ | with_reducible refine drewB ?_ | with_reducible refine after ?_ (by assumption) | (simp; omega) | omega))⟩ ?_
            rintro W ⟨hK, hW⟩
            go_wp2_with fail
            refine (c0 _).mono ?_; rintro e w1 ⟨rfl, rfl⟩
            go_wp2_with fail
            refine (cU _).mono ?_; rintro e w1 ⟨rfl, hb⟩
            replace hW := after hW hb
            replace hK := hK.below hb
            clear hb
            go_wp2_with fail
            refine (c33 _).mono ?_; rintro e w1 ⟨rfl, rfl⟩
            go_wp2_with fail
            refine (c40 _).mono ?_; rintro e w1 ⟨rfl, rfl⟩
            go_wp2_with fail
            refine (c91 _).mono ?_; rintro e w1 ⟨rfl, rfl⟩
            go_wp2_with fail
            refine (cN _).mono ?_; rintro e w1 ⟨rfl, hb⟩
            replace hW := after hW hb
            replace hK := hK.below hb
            clear hb
            go_wp2_with fail
            refine (cI _).mono ?_; rintro e w1 ⟨rfl, hb⟩
            replace hW := after hW hb
            replace hK := hK.below hb
            clear hb
            obtain ⟨q0, q1, q2, hb9, cr0, cr1, cr2, gr, zr⟩ := cell3_give hK hW (.int .i64 3) (.string ⟨U.toArray⟩) (.int .i64 (a : Int))
            have HB9 := Lib.hid hb9
            clear hb9 hK hW
            go_wp2
            exact bodyPost_ret (v := .tuple #[.agg #[.int .i64 3, .string ⟨U.toArray⟩, .int .i64 (a : Int)], .int .i64 (E : Int)]) (by simp [results, Tryz.results101, go_sem, *]) rfl ⟨by dsimp only; rw [HE.out], HB9.out⟩
        · rw [if_pos rfl]
          go_enter Tryz.func101, Tryz.ntmps101
          go_upto_region 1 with fail
          refine wp_abs2 (fun W => Blk W w.heap.size #[.int .i64 0, .string ⟨#[]⟩, .int .i64 0] ∧ Below w.heap.size w W) ⟨(by apply Blk.eq; (repeat' (first | with_reducible assumption | with_reducible apply Blk.set | with_reducible apply Blk.other | (with_reducible refine Blk.new ?_; simp; done) | with_reducible apply Blk.alloc | omega)); rfl), (by repeat' (first | with_reducible assumption | with_reducible exact Below.refl _ _ | with_reducible refine allocB ?_ | with_reducible refine setB ?_ ?_ | with_reducible refine drewB ?_ | with_reducible refine after ?_ (by assumption) | (simp; omega) | omega))⟩ ?_
          rintro W ⟨hK, hW⟩
          go_wp2_with fail
          refine (c0 _).mono ?_; rintro e w1 ⟨rfl, rfl⟩
          go_wp2_with fail
          refine (cU _).mono ?_; rintro e w1 ⟨rfl, hb⟩
          replace hW := after hW hb
          replace hK := hK.below hb
          clear hb
          go_wp2_with fail
          refine (c33 _).mono ?_; rintro e w1 ⟨rfl, rfl⟩
          go_wp2_with fail
          refine (c40 _).mono ?_; rintro e w1 ⟨rfl, rfl⟩
          go_wp2_with fail
          refine (c91 _).mono ?_; rintro e w1 ⟨rfl, rfl⟩
          go_wp2_with fail
          refine (cN _).mono ?_; rintro e w1 ⟨rfl, hb⟩
          replace hW := after hW hb
          replace hK := hK.below hb
          clear hb
          go_wp2_with fail
          refine (cI _).mono ?_; rintro e w1 ⟨rfl, hb⟩
          replace hW := after hW hb
          replace hK := hK.below hb
          clear hb
          obtain ⟨q0, q1, q2, hb9, cr0, cr1, cr2, gr, zr⟩ := cell3_give hK hW (.int .i64 5) (.string ⟨X.toArray⟩) (.int .i64 (a : Int))
          have HB9 := Lib.hid hb9
          clear hb9 hK hW
          go_wp2
          exact bodyPost_ret (v := .tuple #[.agg #[.int .i64 5, .string ⟨X.toArray⟩, .int .i64 (a : Int)], .int .i64 (E : Int)]) (by simp [results, Tryz.results101, go_sem, *]) rfl ⟨by dsimp only; rw [HE.out], HB9.out⟩
      · rw [hN] at cN
        rw [Bool.and_true, if_pos rfl]
        replace cL := cL rfl
        clear hp91 hN
        go_enter Tryz.func101, Tryz.ntmps101
        go_upto_region 1 with fail
        refine wp_abs2 (fun W => Blk W w.heap.size #[.int .i64 0, .string ⟨#[]⟩, .int .i64 0] ∧ Below w.heap.size w W) ⟨(by apply Blk.eq; (repeat' (first | with_reducible assumption | with_reducible apply Blk.set | with_reducible apply Blk.other | (with_reducible refine Blk.new ?_; simp; done) | with_reducible apply Blk.alloc | omega)); rfl), (by repeat' (first | with_reducible assumption | with_reducible exact Below.refl _ _ | with_reducible refine allocB ?_ | with_reducible refine setB ?_ ?_ | with_reducible refine drewB ?_ | with_reducible refine after ?_ (by assumption) | (simp; omega) | omega))⟩ ?_
        rintro W ⟨hK, hW⟩
        go_wp2_with fail
        refine (c0 _).mono ?_; rintro e w1 ⟨rfl, rfl⟩
        go_wp2_with fail
        refine (cU _).mono ?_; rintro e w1 ⟨rfl, hb⟩
        replace hW := after hW hb
        replace hK := hK.below hb
        clear hb
        go_wp2_with fail
        refine (c33 _).mono ?_; rintro e w1 ⟨rfl, rfl⟩
        go_wp2_with fail
        refine (c40 _).mono ?_; rintro e w1 ⟨rfl, rfl⟩
        go_wp2_with fail
        refine (c91 _).mono ?_; rintro e w1 ⟨rfl, rfl⟩
        go_wp2_with fail
        refine (cN _).mono ?_; rintro e w1 ⟨rfl, hb⟩
        replace hW := after hW hb
        replace hK := hK.below hb
        clear hb
        go_wp2_with fail
        refine (cL _).mono ?_
        cases OL with
        | none =>
          rintro e w1 ⟨rfl, hb⟩
          replace hW := after hW hb
          replace hK := hK.below hb
          clear hb
          obtain ⟨q0, q1, q2, hb9, cr0, cr1, cr2, gr, zr⟩ := cell3_give hK hW (.int .i64 0) (.string ⟨#[]⟩) (.int .i64 0)
          have HB9 := Lib.hid hb9
          clear hb9 hK hW
          go_wp2
          exact bodyPost_ret (v := .tuple #[.agg #[.int .i64 0, .string ⟨#[]⟩, .int .i64 0], .int .i64 0]) (by simp [results, Tryz.results101, go_sem, *]) rfl ⟨rfl, HB9.out⟩
        | some x =>
          obtain ⟨k9, S9, n9⟩ := x
          rintro e w1 ⟨rfl, hb⟩
          replace hW := after hW hb
          replace hK := hK.below hb
          clear hb
          dsimp only
          obtain ⟨q0, q1, q2, hb9, cr0, cr1, cr2, gr, zr⟩ := cell3_give hK hW (.int .i64 k9) (.string ⟨S9.toArray⟩) (.int .i64 (a : Int))
          have HB9 := Lib.hid hb9
          clear hb9 hK hW
          go_wp2
          exact bodyPost_ret (v := .tuple #[.agg #[.int .i64 k9, .string ⟨S9.toArray⟩, .int .i64 (a : Int)], .int .i64 ((a + n9 : Nat) : Int)]) (by simp [results, Tryz.results101, go_sem, *]) rfl ⟨rfl, HB9.out⟩
  · cases C
    · rw [Bool.and_false, if_neg Bool.false_ne_true]
      cases P91
      · rw [Bool.false_and, if_neg Bool.false_ne_true]
        clear cL hp91
        cases R
        · rw [if_neg Bool.false_ne_true]
          cases hT1 : (U == [84, 82, 85, 69])
          · cases hT2 : (U == [70, 65, 76, 83, 69])
            · rw [if_neg (by decide)]
              cases N
              · rw [if_neg Bool.false_ne_true]
                go_enter Tryz.func101, Tryz.ntmps101
                go_upto_region 1 with fail
                refine wp_abs2 (fun W => Blk W w.heap.size #[.int .i64 0, .string ⟨#[]⟩, .int .i64 0] ∧ Below w.heap.size w W) ⟨(by apply Blk.eq; (repeat' (first | with_reducible assumption | with_reducible apply Blk.set | with_reducible apply Blk.other | (with_reducible refine Blk.new ?_; simp; done) | with_reducible apply Blk.alloc | omega)); rfl), (by repeat' (first | with_reducible assumption | with_reducible exact Below.refl _ _ | with_reducible refine allocB ?_ | with_reducible refine setB ?_ ?_ | with_reducible refine drewB ?_ | with_reducible refine after ?_ (by assumption) | (simp; omega) | omega))⟩ ?_
                rintro W ⟨hK, hW⟩
                go_wp2_with fail
                refine (c0 _).mono ?_; rintro e w1 ⟨rfl, rfl⟩
                go_wp2_with fail
                refine (cU _).mono ?_; rintro e w1 ⟨rfl, hb⟩
                replace hW := after hW hb
                replace hK := hK.below hb
                clear hb
                go_wp2_with fail
                refine (c33 _).mono ?_; rintro e w1 ⟨rfl, rfl⟩
                go_wp2_with fail
                refine (c40 _).mono ?_; rintro e w1 ⟨rfl, rfl⟩
                go_wp2_with fail
                refine (cC _).mono ?_; rintro e w1 ⟨rfl, rfl⟩
                go_wp2_with fail
                refine (c91 _).mono ?_; rintro e w1 ⟨rfl, rfl⟩
                go_wp2_with fail
                refine (cI _).mono ?_; rintro e w1 ⟨rfl, hb⟩
                replace hW := after hW hb
                replace hK := hK.below hb
                clear hb
                go_wp2_with fail
                refine (cN _).mono ?_; rintro e w1 ⟨rfl, hb⟩
                replace hW := after hW hb
                replace hK := hK.below hb
                clear hb
                obtain ⟨q0, q1, q2, hb9, cr0, cr1, cr2, gr, zr⟩ := cell3_give hK hW (.int .i64 0) (.string ⟨#[]⟩) (.int .i64 0)
                have HB9 := Lib.hid hb9
                clear hb9 hK hW
                go_wp2
                exact bodyPost_ret (v := .tuple #[.agg #[.int .i64 0, .string ⟨#[]⟩, .int .i64 0], .int .i64 0]) (by simp [results, Tryz.results101, go_sem, *]) rfl ⟨rfl, HB9.out⟩
              · rw [if_pos rfl]
                go_enter Tryz.func101, Tryz.ntmps101
                go_upto_region 1 with fail
                refine wp_abs2 (fun W => Blk W w.heap.size #[.int .i64 0, .string ⟨#[]⟩, .int .i64 0] ∧ Below w.heap.size w W) ⟨(by apply Blk.eq; (repeat' (first | with_reducible assumption | with_reducible apply Blk.set | with_reducible apply Blk.other | (with_reducible refine Blk.new ?_; simp; done) | with_reducible apply Blk.alloc | omega)); rfl), (by repeat' (first | with_reducible assumption | with_reducible exact Below.refl _ _ | with_reducible refine allocB ?_ | with_reducible refine setB ?_ ?_ | with_reducible refine drewB ?_ | with_reducible refine after ?_ (by assumption) | (simp; omega) | omega))⟩ ?_
                rintro W ⟨hK, hW⟩
                go_wp2_with fail
                refine (c0 _).mono ?_; rintro e w1 ⟨rfl, rfl⟩
                go_wp2_with fail
                refine (cU _).mono ?_; rintro e w1 ⟨rfl, hb⟩
                replace hW := after hW hb
                replace hK := hK.below hb
                clear hb
                go_wp2_with fail
                refine (c33 _).mono ?_; rintro e w1 ⟨rfl, rfl⟩
                go_wp2_with fail
                refine (c40 _).mono ?_; rintro e w1 ⟨rfl, rfl⟩
                go_wp2_with fail
                refine (cC _).mono ?_; rintro e w1 ⟨rfl, rfl⟩
                go_wp2_with fail
                refine (c91 _).mono ?_; rintro e w1 ⟨rfl, rfl⟩
                go_wp2_with fail
                refine (cI _).mono ?_; rintro e w1 ⟨rfl, hb⟩
                replace hW := after hW hb
                replace hK := hK.below hb
                clear hb
                go_wp2_with fail
                refine (cN _).mono ?_; rintro e w1 ⟨rfl, hb⟩
                replace hW := after hW hb
                replace hK := hK.below hb
                clear hb
                obtain ⟨q0, q1, q2, hb9, cr0, cr1, cr2, gr, zr⟩ := cell3_give hK hW (.int .i64 6) (.string ⟨X.toArray⟩) (.int .i64 (a : Int))
                have HB9 := Lib.hid hb9
                clear hb9 hK hW
                go_wp2
                exact bodyPost_ret (v := .tuple #[.agg #[.int .i64 6, .string ⟨X.toArray⟩, .int .i64 (a : Int)], .int .i64 (E : Int)]) (by simp [results, Tryz.results101, go_sem, *]) rfl ⟨by dsimp only; rw [HE.out], HB9.out⟩
            · rw [if_pos (by decide)]
              go_enter Tryz.func101, Tryz.ntmps101
              go_upto_region 1 with fail
              refine wp_abs2 (fun W => Blk W w.heap.size #[.int .i64 0, .string ⟨#[]⟩, .int .i64 0] ∧ Below w.heap.size w W) ⟨(by apply Blk.eq; (repeat' (first | with_reducible assumption | with_reducible apply Blk.set | with_reducible apply Blk.other | (with_reducible refine Blk.new ?_; simp; done) | with_reducible apply Blk.alloc | omega)); rfl), (by repeat' (first | with_reducible assumption | with_reducible exact Below.refl _ _ | with_reducible refine allocB ?_ | with_reducible refine setB ?_ ?_ | with_reducible refine drewB ?_ | with_reducible refine after ?_ (by assumption) | (simp; omega) | omega))⟩ ?_
              rintro W ⟨hK, hW⟩
              go_wp2_with fail
              refine (c0 _).mono ?_; rintro e w1 ⟨rfl, rfl⟩
              go_wp2_with fail
              refine (cU _).mono ?_; rintro e w1 ⟨rfl, hb⟩
              replace hW := after hW hb
              replace hK := hK.below hb
              clear hb
              go_wp2_with fail
              refine (c33 _).mono ?_; rintro e w1 ⟨rfl, rfl⟩
              go_wp2_with fail
              refine (c40 _).mono ?_; rintro e w1 ⟨rfl, rfl⟩
              go_wp2_with fail
              refine (cC _).mono ?_; rintro e w1 ⟨rfl, rfl⟩
              go_wp2_with fail
              refine (c91 _).mono ?_; rintro e w1 ⟨rfl, rfl⟩
              go_wp2_with fail
              refine (cI _).mono ?_; rintro e w1 ⟨rfl, hb⟩
              replace hW := after hW hb
              replace hK := hK.below hb
              clear hb
              obtain ⟨q0, q1, q2, hb9, cr0, cr1, cr2, gr, zr⟩ := cell3_give hK hW (.int .i64 3) (.string ⟨U.toArray⟩) (.int .i64 (a : Int))
              have HB9 := Lib.hid hb9
              clear hb9 hK hW
              go_wp2
              exact bodyPost_ret (v := .tuple #[.agg #[.int .i64 3, .string ⟨U.toArray⟩, .int .i64 (a : Int)], .int .i64 (E : Int)]) (by simp [results, Tryz.results101, go_sem, *]) rfl ⟨by dsimp only; rw [HE.out], HB9.out⟩
          · rw [if_pos (by simp)]
            go_enter Tryz.func101, Tryz.ntmps101
            go_upto_region 1 with fail
            refine wp_abs2 (fun W => Blk W w.heap.size #[.int .i64 0, .string ⟨#[]⟩, .int .i64 0] ∧ Below w.heap.size w W) ⟨(by apply Blk.eq; (repeat' (first | with_reducible assumption | with_reducible apply Blk.set | with_reducible apply Blk.other | (with_reducible refine Blk.new ?_; simp; done) | with_reducible apply Blk.alloc | omega)); rfl), (by repeat' (first | with_reducible assumption | with_reducible exact Below.refl _ _ | with_reducible refine allocB ?_ | with_reducible refine setB ?_ ?_ | with_reducible refine drewB ?_ | with_reducible refine after ?_ (by assumption) | (simp; omega) | omega))⟩ ?_
            rintro W ⟨hK, hW⟩
            go_wp2_with fail
            refine (c0 _).mono ?_; rintro e w1 ⟨rfl, rfl⟩
            go_wp2_with fail
            refine (cU _).mono ?_; rintro e w1 ⟨rfl, hb⟩
            replace hW := after hW hb
            replace hK := hK.below hb
            clear hb
            go_wp2_with fail
            refine (c33 _).mono ?_; rintro e w1 ⟨rfl, rfl⟩
            go_wp2_with fail
            refine (c40 _).mono ?_; rintro e w1 ⟨rfl, rfl⟩
            go_wp2_with fail
            refine (cC _).mono ?_; rintro e w1 ⟨rfl, rfl⟩
            go_wp2_with fail
            refine (c91 _).mono ?_; rintro e w1 ⟨rfl, rfl⟩
            go_wp2_with fail
            refine (cI _).mono ?_; rintro e w1 ⟨rfl, hb⟩
            replace hW := after hW hb
            replace hK := hK.below hb
            clear hb
            obtain ⟨q0, q1, q2, hb9, cr0, cr1, cr2, gr, zr⟩ := cell3_give hK hW (.int .i64 3) (.string ⟨U.toArray⟩) (.int .i64 (a : Int))
            have HB9 := Lib.hid hb9
            clear hb9 hK hW
            go_wp2
            exact bodyPost_ret (v := .tuple #[.agg #[.int .i64 3, .string ⟨U.toArray⟩, .int .i64 (a : Int)], .int .i64 (E : Int)]) (by simp [results, Tryz.results101, go_sem, *]) rfl ⟨by dsimp only; rw [HE.out], HB9.out⟩
        · rw [if_pos rfl]
          go_enter Tryz.func101, Tryz.ntmps101
          go_upto_region 1 with fail
          refine wp_abs2 (fun W => Blk W w.heap.size #[.int .i64 0, .string ⟨#[]⟩, .int .i64 0] ∧ Below w.heap.size w W) ⟨(by apply Blk.eq; (repeat' (first | with_reducible assumption | with_reducible apply Blk.set | with_reducible apply Blk.other | (with_reducible refine Blk.new ?_; simp; done) | with_reducible apply Blk.alloc | omega)); rfl), (by repeat' (first | with_reducible assumption | with_reducible exact Below.refl _ _ | with_reducible refine allocB ?_ | with_reducible refine setB ?_ ?_ | with_reducible refine drewB ?_ | with_reducible refine after ?_ (by assumption) | (simp; omega) | omega))⟩ ?_
          rintro W ⟨hK, hW⟩
          go_wp2_with fail
          refine (c0 _).mono ?_; rintro e w1 ⟨rfl, rfl⟩
          go_wp2_with fail
          refine (cU _).mono ?_; rintro e w1 ⟨rfl, hb⟩
          replace hW := after hW hb
          replace hK := hK.below hb
          clear hb
          go_wp2_with fail
          refine (c33 _).mono ?_; rintro e w1 ⟨rfl, rfl⟩
          go_wp2_with fail
          refine (c40 _).mono ?_; rintro e w1 ⟨rfl, rfl⟩
          go_wp2_with fail
          refine (cC _).mono ?_; rintro e w1 ⟨rfl, rfl⟩
          go_wp2_with fail
          refine (c91 _).mono ?_; rintro e w1 ⟨rfl, rfl⟩
          go_wp2_with fail
          refine (cI _).mono ?_; rintro e w1 ⟨rfl, hb⟩
          replace hW := after hW hb
          replace hK := hK.below hb
          clear hb
          obtain ⟨q0, q1, q2, hb9, cr0, cr1, cr2, gr, zr⟩ := cell3_give hK hW (.int .i64 5) (.string ⟨X.toArray⟩) (.int .i64 (a : Int))
          have HB9 := Lib.hid hb9
          clear hb9 hK hW
          go_wp2
          exact bodyPost_ret (v := .tuple #[.agg #[.int .i64 5, .string ⟨X.toArray⟩, .int .i64 (a : Int)], .int .i64 (E : Int)]) (by simp [results, Tryz.results101, go_sem, *]) rfl ⟨by dsimp only; rw [HE.out], HB9.out⟩
      · cases hN : N
        · rw [hN] at cN
          rw [Bool.and_false, if_neg Bool.false_ne_true]
          clear cL hp91 hN
          cases R
          · rw [if_neg Bool.false_ne_true]
            cases hT1 : (U == [84, 82, 85, 69])
            · cases hT2 : (U == [70, 65, 76, 83, 69])
              · rw [if_neg (by decide)]
                rw [if_neg Bool.false_ne_true]
                go_enter Tryz.func101, Tryz.ntmps101
                go_upto_region 1 with fail
                refine wp_abs2 (fun W => Blk W w.heap.size #[.int .i64 0, .string ⟨#[]⟩, .int .i64 0] ∧ Below w.heap.size w W) ⟨(by apply Blk.eq; (repeat' (first | with_reducible assumption | with_reducible apply Blk.set | with_reducible apply Blk.other | (with_reducible refine Blk.new ?_; simp; done) | with_reducible apply Blk.alloc | omega)); rfl), (by repeat' (first | with_reducible assumption | with_reducible exact Below.refl _ _ | with_reducible refine allocB ?_ | with_reducible refine setB ?_ ?_ | with_reducible refine drewB ?_ | with_reducible refine after ?_ (by assumption) | (simp; omega) | omega))⟩ ?_
                rintro W ⟨hK, hW⟩
                go_wp2_with fail
                refine (c0 _).mono ?_; rintro e w1 ⟨rfl, rfl⟩
                go_wp2_with fail
                refine (cU _).mono ?_; rintro e w1 ⟨rfl, hb⟩
                replace hW := after hW hb
                replace hK := hK.below hb
                clear hb
                go_wp2_with fail
                refine (c33 _).mono ?_; rintro e w1 ⟨rfl, rfl⟩
                go_wp2_with fail
                refine (c40 _).mono ?_; rintro e w1 ⟨rfl, rfl⟩
                go_wp2_with fail
                refine (cC _).mono ?_; rintro e w1 ⟨rfl, rfl⟩
                go_wp2_with fail
                refine (c91 _).mono ?_; rintro e w1 ⟨rfl, rfl⟩
                go_wp2_with fail
                refine (cN _).mono ?_; rintro e w1 ⟨rfl, hb⟩
                replace hW := after hW hb
                replace hK := hK.below hb
                clear hb
                go_wp2_with fail
                refine (cI _).mono ?_; rintro e w1 ⟨rfl, hb⟩
                replace hW := after hW hb
                replace hK := hK.below hb
                clear hb
                go_wp2_with fail
                refine (cN _).mono ?_; rintro e w1 ⟨rfl, hb⟩
                replace hW := after hW hb
                replace hK := hK.below hb
                clear hb
                obtain ⟨q0, q1, q2, hb9, cr0, cr1, cr2, gr, zr⟩ := cell3_give hK hW (.int .i64 0) (.string ⟨#[]⟩) (.int .i64 0)
                have HB9 := Lib.hid hb9
                clear hb9 hK hW
                go_wp2
                exact bodyPost_ret (v := .tuple #[.agg #[.int .i64 0, .string ⟨#[]⟩, .int .i64 0], .int .i64 0]) (by simp [results, Tryz.results101, go_sem, *]) rfl ⟨rfl, HB9.out⟩
              · rw [if_pos (by decide)]
                go_enter Tryz.func101, Tryz.ntmps101
                go_upto_region 1 with fail
                refine wp_abs2 (fun W => Blk W w.heap.size #[.int .i64 0, .string ⟨#[]⟩, .int .i64 0] ∧ Below w.heap.size w W) ⟨(by apply Blk.eq; (repeat' (first | with_reducible assumption | with_reducible apply Blk.set | with_reducible apply Blk.other | (with_reducible refine Blk.new ?_; simp; done) | with_reducible apply Blk.alloc | omega)); rfl), (by repeat' (first | with_reducible assumption | with_reducible exact Below.refl _ _ | with_reducible refine allocB ?_ | with_reducible refine setB ?_ ?_ | with_reducible refine drewB ?_ | with_reducible refine after ?_ (by assumption) | (simp; omega) | omega))⟩ ?_
                rintro W ⟨hK, hW⟩
                go_wp2_with fail
                refine (c0 _).mono ?_; rintro e w1 ⟨rfl, rfl⟩
                go_wp2_with fail
                refine (cU _).mono ?_; rintro e w1 ⟨rfl, hb⟩
                replace hW := after hW hb
                replace hK := hK.below hb
                clear hb
                go_wp2_with fail
                refine (c33 _).mono ?_; rintro e w1 ⟨rfl, rfl⟩
                go_wp2_with fail
                refine (c40 _).mono ?_; rintro e w1 ⟨rfl, rfl⟩
                go_wp2_with fail
                refine (cC _).mono ?_; rintro e w1 ⟨rfl, rfl⟩
                go_wp2_with fail
                refine (c91 _).mono ?_; rintro e w1 ⟨rfl, rfl⟩
                go_wp2_with fail
                refine (cN _).mono ?_; rintro e w1 ⟨rfl, hb⟩
                replace hW := after hW hb
                replace hK := hK.below hb
                clear hb
                go_wp2_with fail
                refine (cI _).mono ?_; rintro e w1 ⟨rfl, hb⟩
                replace hW := after hW hb
                replace hK := hK.below hb
                clear hb
                obtain ⟨q0, q1, q2, hb9, cr0, cr1, cr2, gr, zr⟩ := cell3_give hK hW (.int .i64 3) (.string ⟨U.toArray⟩) (.int .i64 (a : Int))
                have HB9 := Lib.hid hb9
                clear hb9 hK hW
                go_wp2
                exact bodyPost_ret (v := .tuple #[.agg #[.int .i64 3, .string ⟨U.toArray⟩, .int .i64 (a : Int)], .int .i64 (E : Int)]) (by simp [results, Tryz.results101, go_sem, *]) rfl ⟨by dsimp only; rw [HE.out], HB9.out⟩
            · rw [if_pos (by simp)]
              go_enter Tryz.func101, Tryz.ntmps101
              go_upto_region 1 with fail
              refine wp_abs2 (fun W => Blk W w.heap.size #[.int .i64 0, .string ⟨#[]⟩, .int .i64 0] ∧ Below w.heap.size w W) ⟨(by apply Blk.eq; (repeat' (first | with_reducible assumption | with_reducible apply Blk.set | with_reducible apply Blk.other | (with_reducible refine Blk.new ?_; simp; done) | with_reducible apply Blk.alloc | omega)); rfl), (by repeat' (first | with_reducible assumption | with_reducible exact Below.refl _ _ | with_reducible refine allocB ?_ | with_reducible refine setB ?_ ?_ | with_reducible refine drewB ?_ | with_reducible refine after ?_ (by assumption) | (simp; omega) | omega))⟩ ?_
              rintro W ⟨hK, hW⟩
              go_wp2_with fail
              refine (c0 _).mono ?_; rintro e w1 ⟨rfl, rfl⟩
              go_wp2_with fail
              refine (cU _).mono ?_; rintro e w1 ⟨rfl, hb⟩
              replace hW := after hW hb
              replace hK := hK.below hb
              clear hb
              go_wp2_with fail
              refine (c33 _).mono ?_; rintro e w1 ⟨rfl, rfl⟩
              go_wp2_with fail
              refine (c40 _).mono ?_; rintro e w1 ⟨rfl, rfl⟩
              go_wp2_with fail
              refine (cC _).mono ?_; rintro e w1 ⟨rfl, rfl⟩
              go_wp2_with fail
              refine (c91 _).mono ?_; rintro e w1 ⟨rfl, rfl⟩
              go_wp2_with fail
              refine (cN _).mono ?_; rintro e w1 ⟨rfl, hb⟩
              replace hW := after hW hb
              replace hK := hK.below hb
              clear hb
              go_wp2_with fail
              refine (cI _).mono ?_; rintro e w1 ⟨rfl, hb⟩
              replace hW := after hW hb
              replace hK := hK.below hb
              clear hb
              obtain ⟨q0, q1, q2, hb9, cr0, cr1, cr2, gr, zr⟩ := cell3_give hK hW (.int .i64 3) (.string ⟨U.toArray⟩) (.int .i64 (a : Int))
              have HB9 := Lib.hid hb9
              clear hb9 hK hW
              go_wp2
              exact bodyPost_ret (v := .tuple #[.agg #[.int .i64 3, .string ⟨U.toArray⟩, .int .i64 (a : Int)], .int .i64 (E : Int)]) (by simp [results, Tryz.results101, go_sem, *]) rfl ⟨by dsimp only; rw [HE.out], HB9.out⟩
          · rw [if_pos rfl]
            go_enter Tryz.func101, Tryz.ntmps101
            go_upto_region 1 with fail
            refine wp_abs2 (fun W => Blk W w.heap.size #[.int .i64 0, .string ⟨#[]⟩, .int .i64 0] ∧ Below w.heap.size w W) ⟨(by apply Blk.eq; (repeat' (first | with_reducible assumption | with_reducible apply Blk.set | with_reducible apply Blk.other | (with_reducible refine Blk.new ?_; simp; done) | with_reducible apply Blk.alloc | omega)); rfl), (by repeat' (first | with_reducible assumption | with_reducible exact Below.refl _ _ | with_reducible refine allocB ?_ | with_reducible refine setB ?_ ?_ | with_reducible refine drewB ?_ | with_reducible refine after ?_ (by assumption) | (simp; omega) | omega))⟩ ?_
            rintro W ⟨hK, hW⟩
            go_wp2_with fail
            refine (c0 _).mono ?_; rintro e w1 ⟨rfl, rfl⟩
            go_wp2_with fail
            refine (cU _).mono ?_; rintro e w1 ⟨rfl, hb⟩
            replace hW := after hW hb
            replace hK := hK.below hb
            clear hb
            go_wp2_with fail
            refine (c33 _).mono ?_; rintro e w1 ⟨rfl, rfl⟩
            go_wp2_with fail
            refine (c40 _).mono ?_; rintro e w1 ⟨rfl, rfl⟩
            go_wp2_with fail
            refine (cC _).mono ?_; rintro e w1 ⟨rfl, rfl⟩
            go_wp2_with fail
            refine (c91 _).mono ?_; rintro e w1 ⟨rfl, rfl⟩
            go_wp2_with fail
            refine (cN _).mono ?_; rintro e w1 ⟨rfl, hb⟩
            replace hW := after hW hb
            replace hK := hK.below hb
            clear hb
            go_wp2_with fail
            refine (cI _).mono ?_; rintro e w1 ⟨rfl, hb⟩
            replace hW := after hW hb
            replace hK := hK.below hb
            clear hb
            obtain ⟨q0, q1, q2, hb9, cr0, cr1, cr2, gr, zr⟩ := cell3_give hK hW (.int .i64 5) (.string ⟨X.toArray⟩) (.int .i64 (a : Int))
            have HB9 := Lib.hid hb9
            clear hb9 hK hW
            go_wp2
            exact bodyPost_ret (v := .tuple #[.agg #[.int .i64 5, .string ⟨X.toArray⟩, .int .i64 (a : Int)], .int .i64 (E : Int)]) (by simp [results, Tryz.results101, go_sem, *]) rfl ⟨by dsimp only; rw [HE.out], HB9.out⟩
        · rw [hN] at cN
          rw [Bool.and_true, if_pos rfl]
          replace cL := cL rfl
          clear hp91 hN
          go_enter Tryz.func101, Tryz.ntmps101
          go_upto_region 1 with fail
          refine wp_abs2 (fun W => Blk W w.heap.size #[.int .i64 0, .string ⟨#[]⟩, .int .i64 0] ∧ Below w.heap.size w W) ⟨(by apply Blk.eq; (repeat' (first | with_reducible assumption | with_reducible apply Blk.set | with_reducible apply Blk.other | (with_reducible refine Blk.new ?_; simp; done) | with_reducible apply Blk.alloc | omega)); rfl), (by repeat' (first | with_reducible assumption | with_reducible exact Below.refl _ _ | with_reducible refine allocB ?_ | with_reducible refine setB ?_ ?_ | with_reducible refine drewB ?_ | with_reducible refine after ?_ (by assumption) | (simp; omega) | omega))⟩ ?_
          rintro W ⟨hK, hW⟩
          go_wp2_with fail
          refine (c0 _).mono ?_; rintro e w1 ⟨rfl, rfl⟩
          go_wp2_with fail
          refine (cU _).mono ?_; rintro e w1 ⟨rfl, hb⟩
          replace hW := after hW hb
          replace hK := hK.below hb
          clear hb
          go_wp2_with fail
          refine (c33 _).mono ?_; rintro e w1 ⟨rfl, rfl⟩
          go_wp2_with fail
          refine (c40 _).mono ?_; rintro e w1 ⟨rfl, rfl⟩
          go_wp2_with fail
          refine (cC _).mono ?_; rintro e w1 ⟨rfl, rfl⟩
          go_wp2_with fail
          refine (c91 _).mono ?_; rintro e w1 ⟨rfl, rfl⟩
          go_wp2_with fail
          refine (cN _).mono ?_; rintro e w1 ⟨rfl, hb⟩
          replace hW := after hW hb
          replace hK := hK.below hb
          clear hb
          go_wp2_with fail
          refine (cL _).mono ?_
          cases OL with
          | none =>
            rintro e w1 ⟨rfl, hb⟩
            replace hW := after hW hb
            replace hK := hK.below hb
            clear hb
            obtain ⟨q0, q1, q2, hb9, cr0, cr1, cr2, gr, zr⟩ := cell3_give hK hW (.int .i64 0) (.string ⟨#[]⟩) (.int .i64 0)
            have HB9 := Lib.hid hb9
            clear hb9 hK hW
            go_wp2
            exact bodyPost_ret (v := .tuple #[.agg #[.int .i64 0, .string ⟨#[]⟩, .int .i64 0], .int .i64 0]) (by simp [results, Tryz.results101, go_sem, *]) rfl ⟨rfl, HB9.out⟩
          | some x =>
            obtain ⟨k9, S9, n9⟩ := x
            rintro e w1 ⟨rfl, hb⟩
            replace hW := after hW hb
            replace hK := hK.below hb
            clear hb
            dsimp only
            obtain ⟨q0, q1, q2, hb9, cr0, cr1, cr2, gr, zr⟩ := cell3_give hK hW (.int .i64 k9) (.string ⟨S9.toArray⟩) (.int .i64 (a : Int))
            have HB9 := Lib.hid hb9
            clear hb9 hK hW
            go_wp2
            exact bodyPost_ret (v := .tuple #[.agg #[.int .i64 k9, .string ⟨S9.toArray⟩, .int .i64 (a : Int)], .int .i64 ((a + n9 : Nat) : Int)]) (by simp [results, Tryz.results101, go_sem, *]) rfl ⟨rfl, HB9.out⟩
    · rw [Bool.and_true, if_pos rfl]
      go_enter Tryz.func101, Tryz.ntmps101
      go_upto_region 1 with fail
      refine wp_abs2 (fun W => Blk W w.heap.size #[.int .i64 0, .string ⟨#[]⟩, .int .i64 0] ∧ Below w.heap.size w W) ⟨(by apply Blk.eq; (repeat' (first | with_reducible assumption | with_reducible apply Blk.set | with_reducible apply Blk.other | (with_reducible refine Blk.new ?_; simp; done) | with_reducible apply Blk.alloc | omega)); rfl), (by repeat' (first | with_reducible assumption | with_reducible exact Below.refl _ _ | with_reducible refine allocB ?_ | with_reducible refine setB ?_ ?_ | with_reducible refine drewB ?_ | with_reducible refine after ?_ (by assumption) | (simp; omega) | omega))⟩ ?_
      rintro W ⟨hK, hW⟩
      go_wp2_with fail
      refine (c0 _).mono ?_; rintro e w1 ⟨rfl, rfl⟩
      go_wp2_with fail
      refine (cU _).mono ?_; rintro e w1 ⟨rfl, hb⟩
      replace hW := after hW hb
      replace hK := hK.below hb
      clear hb
      go_wp2_with fail
      refine (c33 _).mono ?_; rintro e w1 ⟨rfl, rfl⟩
      go_wp2_with fail
      refine (c40 _).mono ?_; rintro e w1 ⟨rfl, rfl⟩
      go_wp2_with fail
      refine (cC _).mono ?_; rintro e w1 ⟨rfl, rfl⟩
      obtain ⟨q0, q1, q2, hb9, cr0, cr1, cr2, gr, zr⟩ := cell3_give hK hW (.int .i64 7) (.string ⟨X.toArray⟩) (.int .i64 (a : Int))
      have HB9 := Lib.hid hb9
      clear hb9 hK hW
      go_wp2
      exact bodyPost_ret (v := .tuple #[.agg #[.int .i64 7, .string ⟨X.toArray⟩, .int .i64 (a : Int)], .int .i64 (E : Int)]) (by simp [results, Tryz.results101, go_sem, *]) rfl ⟨by dsimp only; rw [HE.out], HB9.out⟩
end Go.Proofs.YtgnejohiagagmaaGreatDoor
