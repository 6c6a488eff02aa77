/- The walk of Read. -/
import Derived.Test.YtmeiboajpbflcaaGreatDoorReadD
import Derived.Test.YtmeiboajpbflcaaGreatDoorRead1
import Derived.Test.YtmeiboajpbflcaaGreatDoorCols
import Derived.Test.YtmeiboajpbflcaaGreatDoorArea
import Derived.Test.YtmeiboajpbflcaaGreatDoorWriteW
import Derived.Deep.Cut
namespace Go.Proofs.YtmeiboajpbflcaaGreatDoor
open Go.RowKit Tab

theorem calls_abs {P : Program} {f : FuncId} {args : Array Value} {K : Ending → World → Prop} {W : World} (F : World → Prop) (hF : F W) (h : ∀ w1, F w1 → Calls P f args w1 K) : Calls P f args W K := h W hF

/-- Atoi: a number and no error, or an error. -/
theorem Atoi_any (D : Bs) (hl : D.length ≤ 1000000) (w : World) (hg : Good w) : Calls Tryz.prog 37 #[.string ⟨D.toArray⟩] w (fun e w' => ∃ v t, e = .returned (.tuple #[.int .i64 v, t]) ∧ Below w.heap.size w w' ∧ ((Lib.atoiAll D = .ok v ∧ t = .nilIface) ∨ (rowOf D = none ∧ ∃ tp p, t = .iface tp p))) := by
  have hs : (ByteArray.mk D.toArray).size = D.length := rfl
  rcases h : Lib.atoiAll D with v | _ | _
  · refine (Tryz.strconv_Atoi_ok ⟨D.toArray⟩ (by omega) v h w).mono fun e w' ⟨he, hw⟩ => ⟨v, _, he, ?_, .inl ⟨rfl, rfl⟩⟩
    rcases hw with rfl | ⟨t, rfl⟩
    · exact Below.refl _ _
    · exact Lib.bytesWorld_below _ _ _
  · obtain ⟨tp, p, hv⟩ := hg.syn
    refine (Tryz.strconv_Atoi_syntax_var ⟨D.toArray⟩ (by omega) h tp p w hv).mono fun e w' ⟨N, he, _, _, hb⟩ => ⟨_, _, he, hb, .inr ⟨rowOf_bad (by rw [h]; intro v e; cases e), _, _, rfl⟩⟩
  · obtain ⟨tp, p, hv⟩ := hg.rng
    refine (Tryz.strconv_Atoi_range_var ⟨D.toArray⟩ (by omega) h tp p w hv).mono fun e w' ⟨N, he, _, _, hb⟩ => ⟨_, _, he, hb, .inr ⟨rowOf_bad (by rw [h]; intro v e; cases e), _, _, rfl⟩⟩

set_option maxRecDepth 100000 in
set_option maxHeartbeats 4000000 in
theorem Read_go (s : ByteArray) (w : World) (hg : Good w) (hs : s.size ≤ 1000000) (n rest : Bs) (is : Bool) (hp : sheetD s = (n, rest, is)) (hne : (s.toList == [35, 82, 69, 70, 33]) = false)
    (fc fr : Bool) (r1 L r2 r3 D r4 : Bs) (h1 : Lib.hasPrefix rest [36] = fc) (h2 : Lib.trimPrefix rest [36] = r1) (h3 : r1.takeWhile isLetterB = L) (h4 : r1.dropWhile isLetterB = r2) (h5 : Lib.hasPrefix r2 [36] = fr) (h6 : Lib.trimPrefix r2 [36] = r3) (h7 : r3.takeWhile isDigitB = D) (h8 : r3.dropWhile isDigitB = r4) :
    Calls Tryz.prog 9 #[.string s] w (Ret (.tuple #[refV (readOf n is fc fr L D r4).1, .int .i64 (readOf n is fc fr L D r4).2]) w) := by
  have cS : ∀ W, Below w.heap.size w W → Calls Tryz.prog 30 #[.string s] W (Ret (.tuple #[.string ⟨n.toArray⟩, .string ⟨rest.toArray⟩, .bool is]) W) := fun W hb => by
    have := sheet_any s W (hg.below hb) hs
    rw [hp] at this; exact this
  have l0 : rest.length ≤ 1000000 := by have := (sheet_len s).2; rw [hp] at this; exact Nat.le_trans this hs
  have l0' : n.length ≤ 1000000 := by have := (sheet_len s).1; rw [hp] at this; exact Nat.le_trans this hs
  have l1 : r1.length ≤ 1000000 := by have := unD_len rest; unfold unD at this; rw [h2] at this; omega
  have l2 : r2.length ≤ 1000000 := by have := dw_len isLetterB r1; rw [h4] at this; omega
  have lL : L.length ≤ 1000000 := by have := tw_len isLetterB r1; rw [h3] at this; omega
  have l3 : r3.length ≤ 1000000 := by have := unD_len r2; unfold unD at this; rw [h6] at this; omega
  have lD : D.length ≤ 1000000 := by have := tw_len isDigitB r3; rw [h7] at this; omega
  have aD : D.all isDigitB = true := by rw [← h7]; exact tw_all _ _
  have c1 : ∀ W b, Blk W b #[.string ⟨rest.toArray⟩] → Calls Tryz.prog 32 #[.pointer (some ⟨b, 0, none⟩)] W (fun e w' => e = .returned (.bool fc) ∧ w' = W.setCell ⟨b, 0, none⟩ (.string ⟨r1.toArray⟩)) := fun W b hb => by
    rw [← h1, ← h2]; exact Read2_any ⟨rest.toArray⟩ W b hb
  have c2 : ∀ W b, Blk W b #[.string ⟨r1.toArray⟩] → Calls Tryz.prog 31 #[.func (.func 34) #[] #[], .pointer (some ⟨b, 0, none⟩)] W (fun e w' => e = .returned (.string ⟨L.toArray⟩) ∧ w' = W.setCell ⟨b, 0, none⟩ (.string ⟨r2.toArray⟩)) := fun W b hb => by
    rw [← h3, ← h4]; exact Read1_letters ⟨r1.toArray⟩ l1 W b hb
  have c3 : ∀ W b, Blk W b #[.string ⟨r2.toArray⟩] → Calls Tryz.prog 32 #[.pointer (some ⟨b, 0, none⟩)] W (fun e w' => e = .returned (.bool fr) ∧ w' = W.setCell ⟨b, 0, none⟩ (.string ⟨r3.toArray⟩)) := fun W b hb => by
    rw [← h5, ← h6]; exact Read2_any ⟨r2.toArray⟩ W b hb
  have c4 : ∀ W b, Blk W b #[.string ⟨r3.toArray⟩] → Calls Tryz.prog 31 #[.func (.func 36) #[] #[], .pointer (some ⟨b, 0, none⟩)] W (fun e w' => e = .returned (.string ⟨D.toArray⟩) ∧ w' = W.setCell ⟨b, 0, none⟩ (.string ⟨r4.toArray⟩)) := fun W b hb => by
    rw [← h7, ← h8]; exact Read1_digits ⟨r3.toArray⟩ l3 W b hb
  have cC : ∀ W, Below w.heap.size w W → Calls Tryz.prog 11 #[.string ⟨L.toArray⟩] W (Ret (colV (colOf L)) W) := fun W hb => ReadColumn_any ⟨L.toArray⟩ W (hg.below hb) (by show L.toArray.size ≤ _; rw [List.size_toArray]; omega)
  clear hp h1 h2 h3 h4 h5 h6 h7 h8 l0 l1 l2 l3 lL
  go_enter Tryz.func9, Tryz.ntmps9
  go_wp2_with fail
  refine (cS _ (by repeat' (first | with_reducible assumption | with_reducible exact Below.refl _ _ | with_reducible refine allocB ?_ | with_reducible refine setB ?_ ?_ | with_reducible refine drewB ?_ | with_reducible refine after ?_ (by assumption) | (simp; omega) | omega))).mono ?_; rintro e w1 ⟨rfl, hb1⟩
  have k2 : Blk w1 w.heap.size #[.string ⟨#[]⟩, .int .i64 0, .int .i64 0, .bool false, .bool false, .bool false] := ((Blk.new rfl).alloc).below hb1
  have k4 : Blk w1 (w.heap.size + 1) #[.string ⟨#[]⟩, .int .i64 0, .int .i64 0, .bool false, .bool false, .bool false] := (Blk.new (by simp)).below hb1
  have hb0 : Below w.heap.size w w1 := (by repeat' (first | with_reducible assumption | with_reducible exact Below.refl _ _ | with_reducible refine allocB ?_ | with_reducible refine setB ?_ ?_ | with_reducible refine drewB ?_ | with_reducible refine after ?_ (by assumption) | (simp; omega) | omega))
  clear hb1 cS
  obtain ⟨f2, g2, z2⟩ := k2.facts
  obtain ⟨f4, g4, z4⟩ := k4.facts
  have y4 := z4
  go_wp2_with fail
  refine calls_abs (fun W => Blk W w.heap.size #[.string ⟨#[]⟩, .int .i64 0, .int .i64 0, .bool false, .bool false, .bool false] ∧ Blk W (w.heap.size + 1) #[.string ⟨n.toArray⟩, .int .i64 0, .int .i64 0, .bool false, .bool false, .bool false] ∧ Blk W w1.heap.size #[.string ⟨rest.toArray⟩] ∧ Below w.heap.size w W) ⟨(by apply Blk.eq; (repeat' (first | with_reducible assumption | with_reducible apply Blk.set | with_reducible apply Blk.other | with_reducible exact Blk.new rfl | with_reducible apply Blk.alloc | omega)); rfl), (by apply Blk.eq; (repeat' (first | with_reducible assumption | with_reducible apply Blk.set | with_reducible apply Blk.other | with_reducible exact Blk.new rfl | with_reducible apply Blk.alloc | omega)); rfl), (Blk.new (by simp [World.setCell])), (by repeat' (first | with_reducible assumption | with_reducible exact Below.refl _ _ | with_reducible refine allocB ?_ | with_reducible refine setB ?_ ?_ | with_reducible refine drewB ?_ | with_reducible refine after ?_ (by assumption) | (simp; omega) | omega))⟩ ?_
  clear f2 g2 z2 f4 g4 z4 k2 k4 hb0
  rintro w2 ⟨k2, k4, k6, hb0⟩
  have q6 : w.heap.size + 1 < w1.heap.size := y4
  clear y4
  generalize w1.heap.size = b6 at *
  obtain ⟨f2, g2, z2⟩ := k2.facts
  obtain ⟨f4, g4, z4⟩ := k4.facts
  obtain ⟨f6, g6, z6⟩ := k6.facts
  refine (c1 w2 b6 k6).mono ?_; rintro e w3 ⟨rfl, rfl⟩
  go_wp2_with fail
  refine calls_abs (fun W => Blk W w.heap.size #[.string ⟨#[]⟩, .int .i64 0, .int .i64 0, .bool false, .bool false, .bool false] ∧ Blk W (w.heap.size + 1) #[.string ⟨n.toArray⟩, .int .i64 0, .int .i64 0, .bool false, .bool fc, .bool false] ∧ Blk W b6 #[.string ⟨r1.toArray⟩] ∧ Below w.heap.size w W) ⟨(by apply Blk.eq; (repeat' (first | with_reducible assumption | with_reducible apply Blk.set | with_reducible apply Blk.other | with_reducible exact Blk.new rfl | with_reducible apply Blk.alloc | omega)); rfl), (by apply Blk.eq; (repeat' (first | with_reducible assumption | with_reducible apply Blk.set | with_reducible apply Blk.other | with_reducible exact Blk.new rfl | with_reducible apply Blk.alloc | omega)); rfl), (by apply Blk.eq; (repeat' (first | with_reducible assumption | with_reducible apply Blk.set | with_reducible apply Blk.other | with_reducible exact Blk.new rfl | with_reducible apply Blk.alloc | omega)); rfl), (by repeat' (first | with_reducible assumption | with_reducible exact Below.refl _ _ | with_reducible refine allocB ?_ | with_reducible refine setB ?_ ?_ | with_reducible refine drewB ?_ | with_reducible refine after ?_ (by assumption) | (simp; omega) | omega))⟩ ?_
  clear f2 g2 z2 f4 g4 z4 f6 g6 z6
  clear k2 k4 k6 hb0
  rintro w3 ⟨k2, k4, k6, hb0⟩
  obtain ⟨f2, g2, z2⟩ := k2.facts
  obtain ⟨f4, g4, z4⟩ := k4.facts
  obtain ⟨f6, g6, z6⟩ := k6.facts
  refine (c2 w3 b6 k6).mono ?_; rintro e w4 ⟨rfl, rfl⟩
  go_wp2_with fail
  refine calls_abs (fun W => Blk W w.heap.size #[.string ⟨#[]⟩, .int .i64 0, .int .i64 0, .bool false, .bool false, .bool false] ∧ Blk W (w.heap.size + 1) #[.string ⟨n.toArray⟩, .int .i64 0, .int .i64 0, .bool false, .bool fc, .bool false] ∧ Blk W b6 #[.string ⟨r2.toArray⟩] ∧ Below w.heap.size w W) ⟨(by apply Blk.eq; (repeat' (first | with_reducible assumption | with_reducible apply Blk.set | with_reducible apply Blk.other | with_reducible exact Blk.new rfl | with_reducible apply Blk.alloc | omega)); rfl), (by apply Blk.eq; (repeat' (first | with_reducible assumption | with_reducible apply Blk.set | with_reducible apply Blk.other | with_reducible exact Blk.new rfl | with_reducible apply Blk.alloc | omega)); rfl), (by apply Blk.eq; (repeat' (first | with_reducible assumption | with_reducible apply Blk.set | with_reducible apply Blk.other | with_reducible exact Blk.new rfl | with_reducible apply Blk.alloc | omega)); rfl), (by repeat' (first | with_reducible assumption | with_reducible exact Below.refl _ _ | with_reducible refine allocB ?_ | with_reducible refine setB ?_ ?_ | with_reducible refine drewB ?_ | with_reducible refine after ?_ (by assumption) | (simp; omega) | omega))⟩ ?_
  clear f2 g2 z2 f4 g4 z4 f6 g6 z6
  clear k2 k4 k6 hb0
  rintro w4 ⟨k2, k4, k6, hb0⟩
  obtain ⟨f2, g2, z2⟩ := k2.facts
  obtain ⟨f4, g4, z4⟩ := k4.facts
  obtain ⟨f6, g6, z6⟩ := k6.facts
  refine (cC w4 hb0).mono ?_; rintro e w5 ⟨rfl, hb5⟩
  replace k2 := k2.below hb5
  replace k4 := k4.below hb5
  replace k6 := k6.below hb5
  replace hb0 : Below w.heap.size w w5 := after hb0 hb5
  clear f2 g2 z2 f4 g4 z4 f6 g6 z6
  clear hb5
  obtain ⟨f2, g2, z2⟩ := k2.facts
  obtain ⟨f4, g4, z4⟩ := k4.facts
  obtain ⟨f6, g6, z6⟩ := k6.facts
  obtain ⟨c, ce, hv, hce⟩ : ∃ c ce : Int, colV (colOf L) = .tuple #[.int .i64 c, .int .i64 ce] ∧ ((∃ k : Nat, colOf L = some k ∧ c = k ∧ ce = 0) ∨ (colOf L = none ∧ ce = 20)) := by
    cases h : colOf L with
    | none => exact ⟨_, _, rfl, .inr ⟨rfl, rfl⟩⟩
    | some k => exact ⟨_, _, rfl, .inl ⟨k, rfl, rfl, rfl⟩⟩
  rw [hv]
  clear hv
  have Hce := Lib.hid hce
  clear hce
  go_wp2_with fail
  refine calls_abs (fun W => Blk W w.heap.size #[.string ⟨#[]⟩, .int .i64 0, .int .i64 0, .bool false, .bool false, .bool false] ∧ Blk W (w.heap.size + 1) #[.string ⟨n.toArray⟩, .int .i64 0, .int .i64 0, .bool false, .bool fc, .bool false] ∧ Blk W b6 #[.string ⟨r2.toArray⟩] ∧ Below w.heap.size w W) ⟨(by apply Blk.eq; (repeat' (first | with_reducible assumption | with_reducible apply Blk.set | with_reducible apply Blk.other | with_reducible exact Blk.new rfl | with_reducible apply Blk.alloc | omega)); rfl), (by apply Blk.eq; (repeat' (first | with_reducible assumption | with_reducible apply Blk.set | with_reducible apply Blk.other | with_reducible exact Blk.new rfl | with_reducible apply Blk.alloc | omega)); rfl), (by apply Blk.eq; (repeat' (first | with_reducible assumption | with_reducible apply Blk.set | with_reducible apply Blk.other | with_reducible exact Blk.new rfl | with_reducible apply Blk.alloc | omega)); rfl), (by repeat' (first | with_reducible assumption | with_reducible exact Below.refl _ _ | with_reducible refine allocB ?_ | with_reducible refine setB ?_ ?_ | with_reducible refine drewB ?_ | with_reducible refine after ?_ (by assumption) | (simp; omega) | omega))⟩ ?_
  clear f2 g2 z2 f4 g4 z4 f6 g6 z6
  clear k2 k4 k6 hb0
  rintro w6 ⟨k2, k4, k6, hb0⟩
  obtain ⟨f2, g2, z2⟩ := k2.facts
  obtain ⟨f4, g4, z4⟩ := k4.facts
  obtain ⟨f6, g6, z6⟩ := k6.facts
  refine (c3 w6 b6 k6).mono ?_; rintro e w7 ⟨rfl, rfl⟩
  go_wp2_with fail
  refine calls_abs (fun W => Blk W w.heap.size #[.string ⟨#[]⟩, .int .i64 0, .int .i64 0, .bool false, .bool false, .bool false] ∧ Blk W (w.heap.size + 1) #[.string ⟨n.toArray⟩, .int .i64 0, .int .i64 0, .bool fr, .bool fc, .bool false] ∧ Blk W b6 #[.string ⟨r3.toArray⟩] ∧ Below w.heap.size w W) ⟨(by apply Blk.eq; (repeat' (first | with_reducible assumption | with_reducible apply Blk.set | with_reducible apply Blk.other | with_reducible exact Blk.new rfl | with_reducible apply Blk.alloc | omega)); rfl), (by apply Blk.eq; (repeat' (first | with_reducible assumption | with_reducible apply Blk.set | with_reducible apply Blk.other | with_reducible exact Blk.new rfl | with_reducible apply Blk.alloc | omega)); rfl), (by apply Blk.eq; (repeat' (first | with_reducible assumption | with_reducible apply Blk.set | with_reducible apply Blk.other | with_reducible exact Blk.new rfl | with_reducible apply Blk.alloc | omega)); rfl), (by repeat' (first | with_reducible assumption | with_reducible exact Below.refl _ _ | with_reducible refine allocB ?_ | with_reducible refine setB ?_ ?_ | with_reducible refine drewB ?_ | with_reducible refine after ?_ (by assumption) | (simp; omega) | omega))⟩ ?_
  clear f2 g2 z2 f4 g4 z4 f6 g6 z6
  clear k2 k4 k6 hb0
  rintro w7 ⟨k2, k4, k6, hb0⟩
  obtain ⟨f2, g2, z2⟩ := k2.facts
  obtain ⟨f4, g4, z4⟩ := k4.facts
  obtain ⟨f6, g6, z6⟩ := k6.facts
  refine (c4 w7 b6 k6).mono ?_; rintro e w8 ⟨rfl, rfl⟩
  go_wp2_with fail
  refine calls_abs (fun W => Blk W w.heap.size #[.string ⟨#[]⟩, .int .i64 0, .int .i64 0, .bool false, .bool false, .bool false] ∧ Blk W (w.heap.size + 1) #[.string ⟨n.toArray⟩, .int .i64 0, .int .i64 0, .bool fr, .bool fc, .bool false] ∧ Blk W b6 #[.string ⟨r4.toArray⟩] ∧ Below w.heap.size w W) ⟨(by apply Blk.eq; (repeat' (first | with_reducible assumption | with_reducible apply Blk.set | with_reducible apply Blk.other | with_reducible exact Blk.new rfl | with_reducible apply Blk.alloc | omega)); rfl), (by apply Blk.eq; (repeat' (first | with_reducible assumption | with_reducible apply Blk.set | with_reducible apply Blk.other | with_reducible exact Blk.new rfl | with_reducible apply Blk.alloc | omega)); rfl), (by apply Blk.eq; (repeat' (first | with_reducible assumption | with_reducible apply Blk.set | with_reducible apply Blk.other | with_reducible exact Blk.new rfl | with_reducible apply Blk.alloc | omega)); rfl), (by repeat' (first | with_reducible assumption | with_reducible exact Below.refl _ _ | with_reducible refine allocB ?_ | with_reducible refine setB ?_ ?_ | with_reducible refine drewB ?_ | with_reducible refine after ?_ (by assumption) | (simp; omega) | omega))⟩ ?_
  clear f2 g2 z2 f4 g4 z4 f6 g6 z6
  clear k2 k4 k6 hb0
  rintro w8 ⟨k2, k4, k6, hb0⟩
  obtain ⟨f2, g2, z2⟩ := k2.facts
  obtain ⟨f4, g4, z4⟩ := k4.facts
  obtain ⟨f6, g6, z6⟩ := k6.facts
  refine (Atoi_any D lD w8 (hg.below hb0)).mono ?_; rintro e w9 ⟨v, t, rfl, hb9, hat⟩
  replace k2 := k2.below hb9
  replace k4 := k4.below hb9
  replace k6 := k6.below hb9
  replace hb0 : Below w.heap.size w w9 := after hb0 hb9
  clear f2 g2 z2 f4 g4 z4 f6 g6 z6
  clear hb9 c1 c2 c3 c4 cC
  obtain ⟨f2, g2, z2⟩ := k2.facts
  obtain ⟨f4, g4, z4⟩ := k4.facts
  obtain ⟨f6, g6, z6⟩ := k6.facts
  have Hat := Lib.hid hat
  clear hat
  go_upto_region 13 with (fail)
  cases is
  · have Hv := Lib.hid (readOf_is n fc fr L D r4)
    go_wp2
    exact bodyPost_ret (v := .tuple #[.agg #[.string ⟨#[]⟩, .int .i64 0, .int .i64 0, .bool false, .bool false, .bool false], .int .i64 20]) (by simp [results, Tryz.results9, go_sem, *]) rfl ⟨by rw [Hv.out]; rfl, (by repeat' (first | with_reducible assumption | with_reducible exact Below.refl _ _ | with_reducible refine allocB ?_ | with_reducible refine setB ?_ ?_ | with_reducible refine drewB ?_ | with_reducible refine after ?_ (by assumption) | (simp; omega) | omega))⟩
  rcases Hce.out with ⟨k, hc, rfl, rfl⟩ | ⟨hc, rfl⟩
  rotate_left
  · have Hv := Lib.hid (readOf_col n true fc fr L D r4 hc)
    clear hc Hce
    go_wp2
    exact bodyPost_ret (v := .tuple #[.agg #[.string ⟨#[]⟩, .int .i64 0, .int .i64 0, .bool false, .bool false, .bool false], .int .i64 20]) (by simp [results, Tryz.results9, go_sem, *]) rfl ⟨by rw [Hv.out]; rfl, (by repeat' (first | with_reducible assumption | with_reducible exact Below.refl _ _ | with_reducible refine allocB ?_ | with_reducible refine setB ?_ ?_ | with_reducible refine drewB ?_ | with_reducible refine after ?_ (by assumption) | (simp; omega) | omega))⟩
  clear Hce
  have Hc := Lib.hid hc
  clear hc
  rcases Hat.out with ⟨ha, rfl⟩ | ⟨hr, tp, p, rfl⟩
  rotate_left
  · have Hv := Lib.hid (readOf_row n true fc fr L D r4 hr)
    clear hr Hat
    go_wp2
    exact bodyPost_ret (v := .tuple #[.agg #[.string ⟨#[]⟩, .int .i64 0, .int .i64 0, .bool false, .bool false, .bool false], .int .i64 20]) (by simp [results, Tryz.results9, go_sem, *]) rfl ⟨by rw [Hv.out]; rfl, (by repeat' (first | with_reducible assumption | with_reducible exact Below.refl _ _ | with_reducible refine allocB ?_ | with_reducible refine setB ?_ ?_ | with_reducible refine drewB ?_ | with_reducible refine after ?_ (by assumption) | (simp; omega) | omega))⟩
  have vr := atoi_digits aD ha
  have Ha := Lib.hid ha
  clear ha Hat aD
  by_cases h4 : r4 = []
  rotate_left
  · have Hv := Lib.hid (readOf_more n true fc fr L D r4 h4)
    have e4 : r4.isEmpty = false := by cases r4 <;> first | exact absurd rfl h4 | rfl
    clear h4
    go_wp2
    exact bodyPost_ret (v := .tuple #[.agg #[.string ⟨#[]⟩, .int .i64 0, .int .i64 0, .bool false, .bool false, .bool false], .int .i64 20]) (by simp [results, Tryz.results9, go_sem, *]) rfl ⟨by rw [Hv.out]; rfl, (by repeat' (first | with_reducible assumption | with_reducible exact Below.refl _ _ | with_reducible refine allocB ?_ | with_reducible refine setB ?_ ?_ | with_reducible refine drewB ?_ | with_reducible refine after ?_ (by assumption) | (simp; omega) | omega))⟩
  subst h4
  go_wp2_with fail
  refine (Itoa_ret v (by omega) vr.2 _ (hg.below hb0)).mono ?_; rintro e w10 ⟨rfl, hb10⟩
  replace k2 := k2.below hb10
  replace k4 := k4.below hb10
  replace hb0 : Below w.heap.size w w10 := after hb0 hb10
  clear f2 g2 z2 f4 g4 z4 f6 g6 z6
  clear hb10 k6
  obtain ⟨f2, g2, z2⟩ := k2.facts
  obtain ⟨f4, g4, z4⟩ := k4.facts
  by_cases hi : Lib.itoa v = D
  rotate_left
  · have Hv := Lib.hid (readOf_row n true fc fr L D [] (rowOf_odd Ha.out hi))
    have e5 : (Lib.itoa v == D) = false := by rw [beq_eq_false_iff_ne]; exact hi
    clear hi
    go_wp2
    exact bodyPost_ret (v := .tuple #[.agg #[.string ⟨#[]⟩, .int .i64 0, .int .i64 0, .bool false, .bool false, .bool false], .int .i64 20]) (by simp [results, Tryz.results9, go_sem, *]) rfl ⟨by rw [Hv.out]; rfl, (by repeat' (first | with_reducible assumption | with_reducible exact Below.refl _ _ | with_reducible refine allocB ?_ | with_reducible refine setB ?_ ?_ | with_reducible refine drewB ?_ | with_reducible refine after ?_ (by assumption) | (simp; omega) | omega))⟩
  have e5 : (Lib.itoa v == D) = true := by rw [beq_iff_eq]; exact hi
  have Hv := Lib.hid (readOf_yes n fc fr L D k v Hc.out (rowOf_ok Ha.out hi))
  have e6 : IntKind.i64.wrap (v - 1) = v - 1 := IntWalk.i64_in _ (by omega)
  clear hi Hc Ha
  go_wp2_with fail
  refine (Right_any ⟨n.toArray⟩ (v - 1) k fr fc false _ (hg.below (by repeat' (first | with_reducible assumption | with_reducible exact Below.refl _ _ | with_reducible refine allocB ?_ | with_reducible refine setB ?_ ?_ | with_reducible refine drewB ?_ | with_reducible refine after ?_ (by assumption) | (simp; omega) | omega))) (by show n.toArray.size ≤ _; rw [List.size_toArray]; omega)).mono ?_; rintro e w11 ⟨rfl, hb11⟩
  replace k2 : Blk w11 w.heap.size #[.string ⟨#[]⟩, .int .i64 0, .int .i64 0, .bool false, .bool false, .bool false] := Blk.below (by apply Blk.eq; (repeat' (first | with_reducible assumption | with_reducible apply Blk.set | with_reducible apply Blk.other | with_reducible exact Blk.new rfl | with_reducible apply Blk.alloc | omega)); rfl) hb11
  replace k4 : Blk w11 (w.heap.size + 1) #[.string ⟨n.toArray⟩, .int .i64 (v - 1), .int .i64 k, .bool fr, .bool fc, .bool false] := Blk.below (by apply Blk.eq; (repeat' (first | with_reducible assumption | with_reducible apply Blk.set | with_reducible apply Blk.other | with_reducible exact Blk.new rfl | with_reducible apply Blk.alloc | omega)); rfl) hb11
  replace hb0 : Below w.heap.size w w11 := (by repeat' (first | with_reducible assumption | with_reducible exact Below.refl _ _ | with_reducible refine allocB ?_ | with_reducible refine setB ?_ ?_ | with_reducible refine drewB ?_ | with_reducible refine after ?_ (by assumption) | (simp; omega) | omega))
  clear f2 g2 z2 f4 g4 z4 hb11 e5 e6
  obtain ⟨f2, g2, z2⟩ := k2.facts
  obtain ⟨f4, g4, z4⟩ := k4.facts
  rw [ba_mk]
  by_cases hR : rightB n (v - 1) k fr fc false = true
  · have Hw := Lib.hid (Hv.out.trans (if_pos hR))
    rw [hR]
    clear hR Hv
    go_wp2
    exact bodyPost_ret (v := .tuple #[.agg #[.string ⟨n.toArray⟩, .int .i64 (v - 1), .int .i64 k, .bool fr, .bool fc, .bool false], .int .i64 0]) (by simp [results, Tryz.results9, go_sem, *]) rfl ⟨by rw [Hw.out]; rfl, (by repeat' (first | with_reducible assumption | with_reducible exact Below.refl _ _ | with_reducible refine allocB ?_ | with_reducible refine setB ?_ ?_ | with_reducible refine drewB ?_ | with_reducible refine after ?_ (by assumption) | (simp; omega) | omega))⟩
  · have Hw := Lib.hid (Hv.out.trans (if_neg hR))
    rw [Bool.not_eq_true] at hR
    rw [hR]
    clear hR Hv
    go_wp2
    exact bodyPost_ret (v := .tuple #[.agg #[.string ⟨#[]⟩, .int .i64 0, .int .i64 0, .bool false, .bool false, .bool false], .int .i64 20]) (by simp [results, Tryz.results9, go_sem, *]) rfl ⟨by rw [Hw.out]; rfl, (by repeat' (first | with_reducible assumption | with_reducible exact Below.refl _ _ | with_reducible refine allocB ?_ | with_reducible refine setB ?_ ?_ | with_reducible refine drewB ?_ | with_reducible refine after ?_ (by assumption) | (simp; omega) | omega))⟩

set_option maxRecDepth 100000 in
set_option maxHeartbeats 1000000 in
theorem Read_gone (s : ByteArray) (w : World) (hne : (s.toList == [35, 82, 69, 70, 33]) = true) : Calls Tryz.prog 9 #[.string s] w (Ret (.tuple #[refV RefD.gone, .int .i64 0]) w) := by
  go_enter Tryz.func9, Tryz.ntmps9
  go_wp2
  exact bodyPost_ret (v := .tuple #[.agg #[.string ⟨#[]⟩, .int .i64 0, .int .i64 0, .bool false, .bool false, .bool true], .int .i64 0]) (by simp [results, Tryz.results9, go_sem, *]) rfl ⟨rfl, (by repeat' (first | with_reducible assumption | with_reducible exact Below.refl _ _ | with_reducible refine allocB ?_ | with_reducible refine setB ?_ ?_ | with_reducible refine drewB ?_ | with_reducible refine after ?_ (by assumption) | (simp; omega) | omega))⟩

theorem Read_any (s : ByteArray) (w : World) (hg : Good w) (hs : s.size ≤ 1000000) : Calls Tryz.prog 9 #[.string s] w (Ret (.tuple #[refV (readD s).1, .int .i64 (readD s).2]) w) := by
  by_cases h : s.data.toList = [35, 82, 69, 70, 33]
  · rw [readD, if_pos h]
    exact Read_gone s w (by rw [ByteArray.toList_eq, h]; rfl)
  · rw [readD, if_neg h]
    exact Read_go s w hg hs _ _ _ rfl (by rw [ByteArray.toList_eq, beq_eq_false_iff_ne]; exact h) _ _ _ _ _ _ _ _ rfl rfl rfl rfl rfl rfl rfl rfl
end Go.Proofs.YtmeiboajpbflcaaGreatDoor
