/- The walk of dec.Read. -/
import Derived.Test.YtgnejohiagagmaaGreatDoorD2
import Derived.Test.YtgnejohiagagmaaGreatDoorG7
namespace Go.Proofs.YtgnejohiagagmaaGreatDoor
open Go.RowKit Tab

/-- Read's blocks. -/
structure RdK (w w' : World) (b : Nat) (be : Bool) (D : Nat → Int) : Prop where
  lt : w.heap.size < b
  kr : Blk w' w.heap.size #[.int .i64 0, .int .i64 0]
  kx : Blk w' b (numA be D false)
  be : Below w.heap.size w w'
theorem RdK.set {w w' : World} {b : Nat} {be : Bool} {D : Nat → Int} (h : RdK w w' b be D) (i : Nat) (hi : i < 96) (v : Int) : RdK w (w'.setCell ⟨b, 1 + i, none⟩ (.int .i8 v)) b be (updI D i v) :=
  ⟨h.lt, h.kr.other (by have := h.lt; omega), h.kx.set.eq ((numA_num be D false).set i hi v).eq, h.be.setCell (by have := h.lt; exact Nat.le_of_lt this) _⟩
theorem RdK.below {w w' w2 : World} {b : Nat} {be : Bool} {D : Nat → Int} (h : RdK w w' b be D) (hb : Below w'.heap.size w' w2) : RdK w w2 b be D :=
  ⟨h.lt, h.kr.below hb, h.kx.below hb, after h.be hb⟩
theorem RdK.facts {w w' : World} {b : Nat} {be : Bool} {D : Nat → Int} (h : RdK w w' b be D) (k : Nat) (hk : k < 96) : w'.cell? ⟨b, 1 + k, none⟩ = some (.int .i8 (D k)) ∧ (∀ o, w'.frozen? ⟨b, o, none⟩ = false) ∧ b < w'.heap.size :=
  ⟨(h.kx.facts.1 (1 + k)).trans ((numA_num be D false).digit k hk), h.kx.facts.2.1, h.kx.facts.2.2⟩
theorem RdK.give {w w' : World} {b : Nat} {be : Bool} {D : Nat → Int} (h : RdK w w' b be D) (M E : Int) :
    ((w'.setCell ⟨w.heap.size, 0, none⟩ (.int .i64 M)).setCell ⟨w.heap.size, 1, none⟩ (.int .i64 E)).cell? ⟨w.heap.size, 0, none⟩ = some (.int .i64 M) ∧
    ((w'.setCell ⟨w.heap.size, 0, none⟩ (.int .i64 M)).setCell ⟨w.heap.size, 1, none⟩ (.int .i64 E)).cell? ⟨w.heap.size, 1, none⟩ = some (.int .i64 E) ∧
    Below w.heap.size w ((w'.setCell ⟨w.heap.size, 0, none⟩ (.int .i64 M)).setCell ⟨w.heap.size, 1, none⟩ (.int .i64 E)) := by
  have k9 : Blk ((w'.setCell ⟨w.heap.size, 0, none⟩ (.int .i64 M)).setCell ⟨w.heap.size, 1, none⟩ (.int .i64 E)) w.heap.size _ := h.kr.set.set
  have q0 := k9.facts.1 0
  have q1 := k9.facts.1 1
  simp only [List.setIfInBounds_toArray, List.set_cons_zero, List.set_cons_succ, List.getElem?_toArray, List.getElem?_cons_zero, List.getElem?_cons_succ] at q0 q1
  exact ⟨q0, q1, (h.be.setCell (Nat.le_refl _) _).setCell (Nat.le_refl _) _⟩
theorem blk_give {w w' : World} (h : Blk w' w.heap.size #[.int .i64 0, .int .i64 0]) (hb : Below w.heap.size w w') (M E : Int) :
    ((w'.setCell ⟨w.heap.size, 0, none⟩ (.int .i64 M)).setCell ⟨w.heap.size, 1, none⟩ (.int .i64 E)).cell? ⟨w.heap.size, 0, none⟩ = some (.int .i64 M) ∧
    ((w'.setCell ⟨w.heap.size, 0, none⟩ (.int .i64 M)).setCell ⟨w.heap.size, 1, none⟩ (.int .i64 E)).cell? ⟨w.heap.size, 1, none⟩ = some (.int .i64 E) ∧
    Below w.heap.size w ((w'.setCell ⟨w.heap.size, 0, none⟩ (.int .i64 M)).setCell ⟨w.heap.size, 1, none⟩ (.int .i64 E)) := by
  have k9 : Blk ((w'.setCell ⟨w.heap.size, 0, none⟩ (.int .i64 M)).setCell ⟨w.heap.size, 1, none⟩ (.int .i64 E)) w.heap.size _ := h.set.set
  have q0 := k9.facts.1 0
  have q1 := k9.facts.1 1
  simp only [List.setIfInBounds_toArray, List.set_cons_zero, List.set_cons_succ, List.getElem?_toArray, List.getElem?_cons_zero, List.getElem?_cons_succ] at q0 q1
  exact ⟨q0, q1, (hb.setCell (Nat.le_refl _) _).setCell (Nat.le_refl _) _⟩
theorem digit_val (a : Bs) (q : Nat) (h : q < ByteArray.size ⟨a.toArray⟩) (ha : a.all digB = true) : IntKind.i8.wrap ((((⟨a.toArray⟩ : ByteArray)[q].toNat : Int) - 48) % 256) = ((a.getD q 0).toNat : Int) - 48 := by
  have hq : q < a.length := by simpa [ByteArray.size] using h
  have e : (⟨a.toArray⟩ : ByteArray)[q] = a.getD q 0 := by
    rw [List.getD_eq_getElem?_getD, List.getElem?_eq_getElem hq]; rfl
  have := all_getD ha hq
  rw [e, IntWalk.i8_in _ (by omega)]; omega
theorem infoDigs : (Tryz.prog.info? 75).map (·.size) = some 96 := by kernel_rfl
theorem lay_store (p : Int × Int) (W : World) : (storeCells ⟨W.heap.size, 0, none⟩ (layA p).toList).run Tryz.prog (W.alloc (Obj.cells Tryz.zeroCells77 77)) = .ok () ((W.alloc (Obj.cells Tryz.zeroCells77 77)).setRow W.heap.size (layA p)) := by
  have hs : Tryz.zeroCells77.size = 98 := by kernel_rfl
  exact store_blk (P := Tryz.prog) (W.alloc (Obj.cells Tryz.zeroCells77 77)) W.heap.size _ (Blk.new rfl) (numL _ _ _) (by rw [numL_length, hs]) (numL_one _ _ _)
def readV (r : (Int × Int) × Int) : Value := .tuple #[decV r.1, .int .i64 r.2]

set_option maxRecDepth 100000 in
set_option maxHeartbeats 8000000 in
theorem decRead_any (s : ByteArray) (hs : s.size ≤ 2000) (w : World) (hg : Good w) : Calls Tryz.prog 19 #[.string s] w (Ret (readV (decReadD s.data.toList)) w) := by
  obtain ⟨V, hV⟩ : ∃ V, decReadD s.data.toList = V := ⟨_, rfl⟩
  rw [hV]
  unfold decReadD formD at hV
  have cP := fun W => Tryz.strings_CutPrefix s ⟨#[45]⟩ W
  have e45 : (⟨#[45]⟩ : ByteArray).data.toList = [45] := rfl
  rw [e45] at cP
  have hts : (Lib.trimPrefix s.data.toList [45]).length ≤ 2000 := by
    unfold Lib.trimPrefix
    split
    · rw [List.length_drop, ba_size]; omega
    · rw [ba_size]; omega
  generalize Lib.trimPrefix s.data.toList [45] = t at *
  generalize Lib.hasPrefix s.data.toList [45] = be at *
  have cC := fun (W : World) (h : W.ShapedOpen Tryz.prog) => Tryz.strings_Cut_shaped ⟨t.toArray⟩ ⟨#[46]⟩ W h (by show t.toArray.size < _; simp; omega)
  have e46 : (⟨#[46]⟩ : ByteArray).data.toList = [46] := rfl
  rw [e46] at cC
  have et : (⟨t.toArray⟩ : ByteArray).data.toList = t := rfl
  rw [et] at cC
  have hno := cut_none t [46]
  have hl1 : (Lib.cut t [46]).1.length ≤ 2000 := by
    unfold Lib.cut
    split
    · simp; omega
    · exact hts
  have hl2 : (Lib.cut t [46]).2.1.length ≤ 2000 := by
    unfold Lib.cut
    split
    · simp; omega
    · simp
  generalize (Lib.cut t [46]).1 = a at *
  generalize (Lib.cut t [46]).2.1 = b at *
  generalize (Lib.cut t [46]).2.2 = has at *
  have HV := Lib.hid hV
  have HN := Lib.hid hno
  clear hV hno e45 e46 et
  have cF1 := fun W => figures_any ⟨a.toArray⟩ (by show a.toArray.size ≤ _; simp; omega) W
  have cF2 := fun W => figures_any ⟨b.toArray⟩ (by show b.toArray.size ≤ _; simp; omega) W
  have ea : (⟨a.toArray⟩ : ByteArray).data.toList = a := rfl
  have eb : (⟨b.toArray⟩ : ByteArray).data.toList = b := rfl
  rw [ea] at cF1
  rw [eb] at cF2
  clear ea eb
  go_enter Tryz.func19, Tryz.ntmps19
  go_wp2_with fail
  have HR : Hid (Blk (w.alloc (Obj.cells #[.int .i64 0, .int .i64 0] 40)) w.heap.size #[.int .i64 0, .int .i64 0] ∧ Below w.heap.size w (w.alloc (Obj.cells #[.int .i64 0, .int .i64 0] 40))) := Lib.hid ⟨Blk.new rfl, allocB (Below.refl _ _)⟩
  generalize w.alloc (Obj.cells #[.int .i64 0, .int .i64 0] 40) = W0 at *
  refine (cP W0).mono ?_; rintro e w1 ⟨rfl, rfl⟩
  clear cP
  go_wp2_with fail
  refine (cC _ (hg.below HR.out.2).shaped).mono ?_; rintro e w2 ⟨rfl, n, rfl⟩
  clear cC
  obtain ⟨w2, hw2, hb2⟩ := drewN_abs w1 n
  rw [hw2]
  have HR2 : Hid (Blk w2 w.heap.size #[.int .i64 0, .int .i64 0] ∧ Below w.heap.size w w2) := Lib.hid ⟨HR.out.1.below hb2, after HR.out.2 hb2⟩
  clear HR hw2 hb2
  go_wp2_with fail
  refine (cF1 _).mono ?_; rintro e w3 ⟨rfl, hb3⟩
  have HR3 : Hid (Blk w3 w.heap.size #[.int .i64 0, .int .i64 0] ∧ Below w.heap.size w w3) := Lib.hid ⟨HR2.out.1.below hb3, after HR2.out.2 hb3⟩
  clear HR2 hb3 cF1
  have HA : Hid (figD a = true → a.length ≤ 40 ∧ a.all digB = true) := Lib.hid fun h => by
    simp only [figD, Bool.and_eq_true, decide_eq_true_eq] at h
    exact ⟨h.2.1, h.2.2⟩
  have HB : Hid (figD b = true → b.length ≤ 40 ∧ b.all digB = true) := Lib.hid fun h => by
    simp only [figD, Bool.and_eq_true, decide_eq_true_eq] at h
    exact ⟨h.2.1, h.2.2⟩
  have hs0 : Tryz.zeroCells77.size = 98 := by kernel_rfl
  have hL : (Tryz.zeroCells77.toList.set 0 (.bool be)) = numL be (fun _ => 0) false := by kernel_rfl
  have hst : ∀ W : World, (storeCells ⟨W.heap.size, 0, none⟩ (Tryz.zeroCells77.toList.set 0 (.bool be))).run Tryz.prog (W.alloc (Obj.cells Tryz.zeroCells77 77)) = .ok () ((W.alloc (Obj.cells Tryz.zeroCells77 77)).setRow W.heap.size (numA be (fun _ => 0) false)) := fun W => by
    rw [hL]
    exact store_blk _ _ _ (Blk.new rfl) _ (by rw [numL_length, hs0]) (numL_one _ _ _)
  have HST := Lib.hid hst
  clear hst hL hs0
  cases hfa : figD a
  · have hv : V = ((0, 0), 12) := by have := HV.out; rw [hfa] at this; exact this.symm
    subst hv
    have hc0 := HR3.out.1.facts.1 0
    have hc1 := HR3.out.1.facts.1 1
    obtain ⟨-, gr, zr⟩ := HR3.out.1.facts
    simp only [List.getElem?_toArray, List.getElem?_cons_zero, List.getElem?_cons_succ] at hc0 hc1
    obtain ⟨q0, q1, hb9⟩ := blk_give HR3.out.1 HR3.out.2 0 0
    have HB9 := Lib.hid hb9
    clear hb9 hfa
    go_wp2
    exact bodyPost_ret (v := .tuple #[decV (0, 0), .int .i64 12]) (by simp [results, Tryz.results19, go_sem, decV, *]) rfl ⟨rfl, HB9.out⟩
  · cases has
    · have HT : Hid ((a.length ≤ 40 ∧ a.all digB = true) ∧ (b.length ≤ 40 ∧ b.all digB = true) ∧ decEnd (digF a b) (nearF (digF a b) be 19 39) = V) := Lib.hid ⟨HA.out hfa, by rw [HN.out rfl]; exact ⟨by simp, rfl⟩, by have := HV.out; rw [hfa] at this; exact this⟩
      clear HA HB HN HV hfa
      go_upto_region 5 with (fail)
      have hW : Hid (RdK w ((w3.alloc (Obj.cells Tryz.zeroCells77 77)).setRow w3.heap.size (numA be (fun _ => 0) false)) w3.heap.size be (fun _ => 0)) := Lib.hid
        ⟨HR3.out.1.facts.2.2, HR3.out.1.alloc.otherRow (Nat.ne_of_gt HR3.out.1.facts.2.2), (Blk.new rfl).setRow, setRowB (allocB HR3.out.2) (Nat.le_of_lt HR3.out.1.facts.2.2)⟩
      go_wp2_with (simp only [HST.out])
      clear HST HR3
      generalize (w3.alloc (Obj.cells Tryz.zeroCells77 77)).setRow w3.heap.size (numA be (fun _ => 0) false) = w5 at *
      generalize w3.heap.size = bx at *
      go_loopw [42] (fun i w' => ∃ j : Nat, i = .int .i64 j ∧ j ≤ a.length ∧ Hid (RdK w w' bx be (wholeF a j))) (fun i _ => (a.length - intOf i).toNat)
      case atStart => exact ⟨0, rfl, by omega, hW⟩
      case round =>
        clear hW
        obtain ⟨j, rfl, hj, HK⟩ := hrel
        have la := HT.out.1.1
        by_cases hlt : j < a.length
        · have e1 : decide ((j : Int) < (a.length : Int)) = true := decide_eq_true (by omega)
          obtain ⟨hc, hg2, hz⟩ := HK.out.facts (48 + j) (by omega)
          have hi : 48 + j < 96 := by omega
          go_wp2
          go_round
          case rel =>
            refine ⟨j + 1, by go_num, by omega, Lib.hid ?_⟩
            rw [digit_val a _ _ HT.out.1.2]
            exact HK.out.set (48 + j) hi _
          case measure => simp [intOf]; omega
        · have e1 : decide ((j : Int) < (a.length : Int)) = false := decide_eq_false (by omega)
          have ej : j = a.length := by omega
          subst ej
          go_wp2
          go_loopw [61] (fun i w' => ∃ j : Nat, i = .int .i64 j ∧ j ≤ b.length ∧ Hid (RdK w w' bx be (partF b (wholeF a a.length) j))) (fun i _ => (b.length - intOf i).toNat)
          case atStart => exact ⟨0, rfl, by omega, HK⟩
          case round =>
            clear HK hlt hj
            obtain ⟨j, rfl, hj, HK⟩ := hrel
            have lb := HT.out.2.1.1
            by_cases hlt : j < b.length
            · have e2 : decide ((j : Int) < (b.length : Int)) = true := decide_eq_true (by omega)
              obtain ⟨hc, hg2, hz⟩ := HK.out.facts (47 - j) (by omega)
              have hi : 47 - j < 96 := by omega
              go_wp2
              go_round
              case rel =>
                refine ⟨j + 1, by go_num, by omega, Lib.hid ?_⟩
                rw [digit_val b _ _ HT.out.2.1.2]
                exact HK.out.set (47 - j) hi _
              case measure => simp [intOf]; omega
            · have e2 : decide ((j : Int) < (b.length : Int)) = false := decide_eq_false (by omega)
              have ej : j = b.length := by omega
              subst ej
              have hV := HT.out.2.2
              have hok : DigOk (digF a b) := by
                have := partF_ok b _ (wholeF_ok a HT.out.1.2 la a.length (Nat.le_refl _)) HT.out.2.1.2 lb b.length (Nat.le_refl _)
                exact ⟨fun i hi => (this.1 i hi).1, fun i hi => (this.1 i hi).2, fun i h1 _ => this.2 i h1⟩
              have HK2 : Hid (RdK w wr bx be (digF a b)) := HK
              clear HK hlt hj HT cF2
              generalize digF a b = D at *
              have HV2 := Lib.hid hV
              clear hV
              obtain ⟨T, hT⟩ := HK2.out.kx
              have HTX := Lib.hid hT
              clear hT
              have hsz := numA_size be D false
              go_upto_region 16 with (fail)
              go_wp2_with fail
              refine wp_load_row 77 _ rfl bx rfl T (numA be D false) (0, 0) _ HTX.out Tryz.underlying77 rfl (by rw [hsz]; exact infoNum) ?_
              go_wp2_with fail
              refine (decNearest_any be D hok _).mono ?_
              rintro e w6 ⟨rfl, hb6⟩
              have HK6 := Lib.hid (HK2.out.below hb6)
              rcases hn : nearF D be 19 39 with _ | p
              · have hv : V = ((0, 0), 10) := by have := HV2.out; rw [hn] at this; exact this.symm
                subst hv
                clear HV2 HTX HK2 hb6 hok hn
                unfold nearV decV
                dsimp only
                go_wp2_with fail
                have hK7 : RdK w (w6.alloc (Obj.cells #[.int .i64 0, .int .i64 0] 40)) bx be D := HK6.out.below (allocB (Below.refl _ _))
                have k7 : Blk (w6.alloc (Obj.cells #[.int .i64 0, .int .i64 0] 40)) w6.heap.size #[.int .i64 0, .int .i64 0] := Blk.new rfl
                clear HK6
                generalize w6.alloc (Obj.cells #[.int .i64 0, .int .i64 0] 40) = w7 at *
                generalize w6.heap.size = b7 at *
                refine (decLay_any (0, 0) (by decide) (by decide) (by decide) (by decide) _).mono ?_
                rintro e w8 ⟨rfl, hb8⟩
                have hK9 : RdK w ((w8.alloc (Obj.cells Tryz.zeroCells77 77)).setRow w8.heap.size (layA (0, 0))) bx be D := (hK7.below hb8).below (setRowB (allocB (Below.refl _ _)) (Nat.le_refl _))
                have k9 : Blk ((w8.alloc (Obj.cells Tryz.zeroCells77 77)).setRow w8.heap.size (layA (0, 0))) b7 #[.int .i64 0, .int .i64 0] := (k7.below hb8).below (setRowB (allocB (Below.refl _ _)) (Nat.le_refl _))
                have kL : Blk ((w8.alloc (Obj.cells Tryz.zeroCells77 77)).setRow w8.heap.size (layA (0, 0))) w8.heap.size (layA (0, 0)) := (Blk.new rfl).setRow
                have HSL := Lib.hid (lay_store (0, 0) w8)
                clear hK7 k7 hb8
                go_upto_region 18 with (simp only [HSL.out])
                clear HSL
                generalize ((w8.alloc (Obj.cells Tryz.zeroCells77 77)).setRow w8.heap.size (layA (0, 0))) = w9 at *
                generalize w8.heap.size = b8 at *
                obtain ⟨fr, gr, zr⟩ := hK9.kr.facts
                have c0 := fr 0
                have c1 := fr 1
                clear fr
                simp only [List.getElem?_toArray, List.getElem?_cons_zero, List.getElem?_cons_succ] at c0 c1
                have HK9 := Lib.hid hK9
                have K9 := Lib.hid k9
                have KL := Lib.hid kL
                clear hK9 k9 kL
                obtain ⟨q0, q1, hb9⟩ := HK9.out.give 0 0
                have HB9 := Lib.hid hb9
                clear hb9
                go_wp2
                exact bodyPost_ret (v := .tuple #[decV (0, 0), .int .i64 10]) (by simp [results, Tryz.results19, go_sem, decV, *]) rfl ⟨rfl, HB9.out⟩
              · have hr := nearF_rng D be (fun j hj => ⟨hok.lo j hj, hok.hi j hj⟩) 19 39 p (by omega) (by omega) hn
                have hv : decEnd D (some p) = V := by have := HV2.out; rw [hn] at this; exact this
                have HVP := Lib.hid hv
                have HRP := Lib.hid hr
                clear HV2 HTX HK2 hb6 hok hn hv hr
                obtain ⟨M, E⟩ := p
                unfold nearV decV
                dsimp only
                go_wp2_with fail
                have hK7 : RdK w (w6.alloc (Obj.cells #[.int .i64 M, .int .i64 E] 40)) bx be D := HK6.out.below (allocB (Below.refl _ _))
                have k7 : Blk (w6.alloc (Obj.cells #[.int .i64 M, .int .i64 E] 40)) w6.heap.size #[.int .i64 M, .int .i64 E] := Blk.new rfl
                clear HK6
                generalize w6.alloc (Obj.cells #[.int .i64 M, .int .i64 E] 40) = w7 at *
                generalize w6.heap.size = b7 at *
                refine (decLay_any (M, E) HRP.out.1 HRP.out.2.1 HRP.out.2.2.1 HRP.out.2.2.2 _).mono ?_
                rintro e w8 ⟨rfl, hb8⟩
                have hK9 : RdK w ((w8.alloc (Obj.cells Tryz.zeroCells77 77)).setRow w8.heap.size (layA (M, E))) bx be D := (hK7.below hb8).below (setRowB (allocB (Below.refl _ _)) (Nat.le_refl _))
                have k9 : Blk ((w8.alloc (Obj.cells Tryz.zeroCells77 77)).setRow w8.heap.size (layA (M, E))) b7 #[.int .i64 M, .int .i64 E] := (k7.below hb8).below (setRowB (allocB (Below.refl _ _)) (Nat.le_refl _))
                have kL : Blk ((w8.alloc (Obj.cells Tryz.zeroCells77 77)).setRow w8.heap.size (layA (M, E))) w8.heap.size (layA (M, E)) := (Blk.new rfl).setRow
                have HSL := Lib.hid (lay_store (M, E) w8)
                clear hK7 k7 hb8
                go_upto_region 18 with (simp only [HSL.out])
                clear HSL
                generalize ((w8.alloc (Obj.cells Tryz.zeroCells77 77)).setRow w8.heap.size (layA (M, E))) = w9 at *
                generalize w8.heap.size = b8 at *
                obtain ⟨fr, gr, zr⟩ := hK9.kr.facts
                have c0 := fr 0
                have c1 := fr 1
                clear fr
                simp only [List.getElem?_toArray, List.getElem?_cons_zero, List.getElem?_cons_succ] at c0 c1
                have HK9 := Lib.hid hK9
                have K9 := Lib.hid k9
                have KL := Lib.hid kL
                clear hK9 k9 kL
                have c12 := K9.out.facts.1 0
                have c13 := K9.out.facts.1 1
                simp only [List.getElem?_toArray, List.getElem?_cons_zero, List.getElem?_cons_succ] at c12 c13
                have hl1 : (digL (layD (M, E))).length = 96 := by simp [digL]
                have hl2 : (digL D).length = 96 := by simp [digL]
                have kl2 : Blk w9 b8 (numA (decide (M < 0)) (layD (M, E)) false) := KL.out
                have R1 := Lib.hid (numA_range kl2)
                have R2 := Lib.hid (numA_range HK9.out.kx)
                clear kl2 KL K9
                obtain ⟨L, hL⟩ : ∃ L, layD (M, E) = L := ⟨_, rfl⟩
                rw [hL] at hl1 R1
                have HLD := Lib.hid hL
                clear hL
                cases hsm : sameF L D
                · have hde : ∀ W, (Op.equalIn 10000 75 (.agg (digL L).toArray) (.agg (digL D).toArray)).run Tryz.prog W = .ok false W := fun W => by have := digs_equal L D W; rw [hsm] at this; exact this
                  have hv : V = ((0, 0), 10) := by have := HVP.out; unfold decEnd at this; dsimp only at this; rw [HLD.out, hsm] at this; exact this.symm
                  subst hv
                  obtain ⟨q0, q1, hb9⟩ := HK9.out.give 0 0
                  have HB9 := Lib.hid hb9
                  have HDE := Lib.hid hde
                  clear hb9 hde HVP hsm
                  go_wp2_with fail
                  refine wp_load_mid 75 _ rfl b8 1 rfl (digL L) _ R1.out Tryz.underlying75 rfl (by rw [hl1]; exact infoDigs) ?_
                  go_wp2_with fail
                  refine wp_load_mid 75 _ rfl bx 1 rfl (digL D) _ R2.out Tryz.underlying75 rfl (by rw [hl2]; exact infoDigs) ?_
                  go_wp2_with (simp only [HDE.out, Result.andThen_ok, Bool.not_false])
                  exact bodyPost_ret (v := .tuple #[decV (0, 0), .int .i64 10]) (by simp [results, Tryz.results19, go_sem, decV, *]) rfl ⟨rfl, HB9.out⟩
                · have hde : ∀ W, (Op.equalIn 10000 75 (.agg (digL L).toArray) (.agg (digL D).toArray)).run Tryz.prog W = .ok true W := fun W => by have := digs_equal L D W; rw [hsm] at this; exact this
                  have hv : V = ((M, E), 0) := by have := HVP.out; unfold decEnd at this; dsimp only at this; rw [HLD.out, hsm] at this; exact this.symm
                  subst hv
                  obtain ⟨q0, q1, hb9⟩ := HK9.out.give M E
                  have HB9 := Lib.hid hb9
                  have HDE := Lib.hid hde
                  clear hb9 hde HVP hsm
                  go_wp2_with fail
                  refine wp_load_mid 75 _ rfl b8 1 rfl (digL L) _ R1.out Tryz.underlying75 rfl (by rw [hl1]; exact infoDigs) ?_
                  go_wp2_with fail
                  refine wp_load_mid 75 _ rfl bx 1 rfl (digL D) _ R2.out Tryz.underlying75 rfl (by rw [hl2]; exact infoDigs) ?_
                  go_wp2_with (simp only [HDE.out, Result.andThen_ok, Bool.not_true])
                  exact bodyPost_ret (v := .tuple #[decV (M, E), .int .i64 0]) (by simp [results, Tryz.results19, go_sem, decV, *]) rfl ⟨rfl, HB9.out⟩
    · go_wp2_with fail
      refine (cF2 _).mono ?_; rintro e w4 ⟨rfl, hb4⟩
      have HR4 : Hid (Blk w4 w.heap.size #[.int .i64 0, .int .i64 0] ∧ Below w.heap.size w w4) := Lib.hid ⟨HR3.out.1.below hb4, after HR3.out.2 hb4⟩
      clear HR3 hb4
      cases hfb : figD b
      · have hv : V = ((0, 0), 12) := by have := HV.out; rw [hfa, hfb] at this; exact this.symm
        subst hv
        have hc0 := HR4.out.1.facts.1 0
        have hc1 := HR4.out.1.facts.1 1
        obtain ⟨-, gr, zr⟩ := HR4.out.1.facts
        simp only [List.getElem?_toArray, List.getElem?_cons_zero, List.getElem?_cons_succ] at hc0 hc1
        obtain ⟨q0, q1, hb9⟩ := blk_give HR4.out.1 HR4.out.2 0 0
        have HB9 := Lib.hid hb9
        clear hb9 hfa hfb
        go_wp2
        exact bodyPost_ret (v := .tuple #[decV (0, 0), .int .i64 12]) (by simp [results, Tryz.results19, go_sem, decV, *]) rfl ⟨rfl, HB9.out⟩
      · have HT : Hid ((a.length ≤ 40 ∧ a.all digB = true) ∧ (b.length ≤ 40 ∧ b.all digB = true) ∧ decEnd (digF a b) (nearF (digF a b) be 19 39) = V) := Lib.hid ⟨HA.out hfa, HB.out hfb, by have := HV.out; rw [hfa, hfb] at this; exact this⟩
        clear HA HB HN HV hfa hfb
        go_upto_region 5 with (fail)
        have hW : Hid (RdK w ((w4.alloc (Obj.cells Tryz.zeroCells77 77)).setRow w4.heap.size (numA be (fun _ => 0) false)) w4.heap.size be (fun _ => 0)) := Lib.hid
          ⟨HR4.out.1.facts.2.2, HR4.out.1.alloc.otherRow (Nat.ne_of_gt HR4.out.1.facts.2.2), (Blk.new rfl).setRow, setRowB (allocB HR4.out.2) (Nat.le_of_lt HR4.out.1.facts.2.2)⟩
        go_wp2_with (simp only [HST.out])
        clear HST HR4
        generalize (w4.alloc (Obj.cells Tryz.zeroCells77 77)).setRow w4.heap.size (numA be (fun _ => 0) false) = w5 at *
        generalize w4.heap.size = bx at *
        go_loopw [42] (fun i w' => ∃ j : Nat, i = .int .i64 j ∧ j ≤ a.length ∧ Hid (RdK w w' bx be (wholeF a j))) (fun i _ => (a.length - intOf i).toNat)
        case atStart => exact ⟨0, rfl, by omega, hW⟩
        case round =>
          clear hW
          obtain ⟨j, rfl, hj, HK⟩ := hrel
          have la := HT.out.1.1
          by_cases hlt : j < a.length
          · have e1 : decide ((j : Int) < (a.length : Int)) = true := decide_eq_true (by omega)
            obtain ⟨hc, hg2, hz⟩ := HK.out.facts (48 + j) (by omega)
            have hi : 48 + j < 96 := by omega
            go_wp2
            go_round
            case rel =>
              refine ⟨j + 1, by go_num, by omega, Lib.hid ?_⟩
              rw [digit_val a _ _ HT.out.1.2]
              exact HK.out.set (48 + j) hi _
            case measure => simp [intOf]; omega
          · have e1 : decide ((j : Int) < (a.length : Int)) = false := decide_eq_false (by omega)
            have ej : j = a.length := by omega
            subst ej
            go_wp2
            go_loopw [61] (fun i w' => ∃ j : Nat, i = .int .i64 j ∧ j ≤ b.length ∧ Hid (RdK w w' bx be (partF b (wholeF a a.length) j))) (fun i _ => (b.length - intOf i).toNat)
            case atStart => exact ⟨0, rfl, by omega, HK⟩
            case round =>
              clear HK hlt hj
              obtain ⟨j, rfl, hj, HK⟩ := hrel
              have lb := HT.out.2.1.1
              by_cases hlt : j < b.length
              · have e2 : decide ((j : Int) < (b.length : Int)) = true := decide_eq_true (by omega)
                obtain ⟨hc, hg2, hz⟩ := HK.out.facts (47 - j) (by omega)
                have hi : 47 - j < 96 := by omega
                go_wp2
                go_round
                case rel =>
                  refine ⟨j + 1, by go_num, by omega, Lib.hid ?_⟩
                  rw [digit_val b _ _ HT.out.2.1.2]
                  exact HK.out.set (47 - j) hi _
                case measure => simp [intOf]; omega
              · have e2 : decide ((j : Int) < (b.length : Int)) = false := decide_eq_false (by omega)
                have ej : j = b.length := by omega
                subst ej
                have hV := HT.out.2.2
                have hok : DigOk (digF a b) := by
                  have := partF_ok b _ (wholeF_ok a HT.out.1.2 la a.length (Nat.le_refl _)) HT.out.2.1.2 lb b.length (Nat.le_refl _)
                  exact ⟨fun i hi => (this.1 i hi).1, fun i hi => (this.1 i hi).2, fun i h1 _ => this.2 i h1⟩
                have HK2 : Hid (RdK w wr bx be (digF a b)) := HK
                clear HK hlt hj HT cF2
                generalize digF a b = D at *
                have HV2 := Lib.hid hV
                clear hV
                obtain ⟨T, hT⟩ := HK2.out.kx
                have HTX := Lib.hid hT
                clear hT
                have hsz := numA_size be D false
                go_upto_region 16 with (fail)
                go_wp2_with fail
                refine wp_load_row 77 _ rfl bx rfl T (numA be D false) (0, 0) _ HTX.out Tryz.underlying77 rfl (by rw [hsz]; exact infoNum) ?_
                go_wp2_with fail
                refine (decNearest_any be D hok _).mono ?_
                rintro e w6 ⟨rfl, hb6⟩
                have HK6 := Lib.hid (HK2.out.below hb6)
                rcases hn : nearF D be 19 39 with _ | p
                · have hv : V = ((0, 0), 10) := by have := HV2.out; rw [hn] at this; exact this.symm
                  subst hv
                  clear HV2 HTX HK2 hb6 hok hn
                  unfold nearV decV
                  dsimp only
                  go_wp2_with fail
                  have hK7 : RdK w (w6.alloc (Obj.cells #[.int .i64 0, .int .i64 0] 40)) bx be D := HK6.out.below (allocB (Below.refl _ _))
                  have k7 : Blk (w6.alloc (Obj.cells #[.int .i64 0, .int .i64 0] 40)) w6.heap.size #[.int .i64 0, .int .i64 0] := Blk.new rfl
                  clear HK6
                  generalize w6.alloc (Obj.cells #[.int .i64 0, .int .i64 0] 40) = w7 at *
                  generalize w6.heap.size = b7 at *
                  refine (decLay_any (0, 0) (by decide) (by decide) (by decide) (by decide) _).mono ?_
                  rintro e w8 ⟨rfl, hb8⟩
                  have hK9 : RdK w ((w8.alloc (Obj.cells Tryz.zeroCells77 77)).setRow w8.heap.size (layA (0, 0))) bx be D := (hK7.below hb8).below (setRowB (allocB (Below.refl _ _)) (Nat.le_refl _))
                  have k9 : Blk ((w8.alloc (Obj.cells Tryz.zeroCells77 77)).setRow w8.heap.size (layA (0, 0))) b7 #[.int .i64 0, .int .i64 0] := (k7.below hb8).below (setRowB (allocB (Below.refl _ _)) (Nat.le_refl _))
                  have kL : Blk ((w8.alloc (Obj.cells Tryz.zeroCells77 77)).setRow w8.heap.size (layA (0, 0))) w8.heap.size (layA (0, 0)) := (Blk.new rfl).setRow
                  have HSL := Lib.hid (lay_store (0, 0) w8)
                  clear hK7 k7 hb8
                  go_upto_region 18 with (simp only [HSL.out])
                  clear HSL
                  generalize ((w8.alloc (Obj.cells Tryz.zeroCells77 77)).setRow w8.heap.size (layA (0, 0))) = w9 at *
                  generalize w8.heap.size = b8 at *
                  obtain ⟨fr, gr, zr⟩ := hK9.kr.facts
                  have c0 := fr 0
                  have c1 := fr 1
                  clear fr
                  simp only [List.getElem?_toArray, List.getElem?_cons_zero, List.getElem?_cons_succ] at c0 c1
                  have HK9 := Lib.hid hK9
                  have K9 := Lib.hid k9
                  have KL := Lib.hid kL
                  clear hK9 k9 kL
                  obtain ⟨q0, q1, hb9⟩ := HK9.out.give 0 0
                  have HB9 := Lib.hid hb9
                  clear hb9
                  go_wp2
                  exact bodyPost_ret (v := .tuple #[decV (0, 0), .int .i64 10]) (by simp [results, Tryz.results19, go_sem, decV, *]) rfl ⟨rfl, HB9.out⟩
                · have hr := nearF_rng D be (fun j hj => ⟨hok.lo j hj, hok.hi j hj⟩) 19 39 p (by omega) (by omega) hn
                  have hv : decEnd D (some p) = V := by have := HV2.out; rw [hn] at this; exact this
                  have HVP := Lib.hid hv
                  have HRP := Lib.hid hr
                  clear HV2 HTX HK2 hb6 hok hn hv hr
                  obtain ⟨M, E⟩ := p
                  unfold nearV decV
                  dsimp only
                  go_wp2_with fail
                  have hK7 : RdK w (w6.alloc (Obj.cells #[.int .i64 M, .int .i64 E] 40)) bx be D := HK6.out.below (allocB (Below.refl _ _))
                  have k7 : Blk (w6.alloc (Obj.cells #[.int .i64 M, .int .i64 E] 40)) w6.heap.size #[.int .i64 M, .int .i64 E] := Blk.new rfl
                  clear HK6
                  generalize w6.alloc (Obj.cells #[.int .i64 M, .int .i64 E] 40) = w7 at *
                  generalize w6.heap.size = b7 at *
                  refine (decLay_any (M, E) HRP.out.1 HRP.out.2.1 HRP.out.2.2.1 HRP.out.2.2.2 _).mono ?_
                  rintro e w8 ⟨rfl, hb8⟩
                  have hK9 : RdK w ((w8.alloc (Obj.cells Tryz.zeroCells77 77)).setRow w8.heap.size (layA (M, E))) bx be D := (hK7.below hb8).below (setRowB (allocB (Below.refl _ _)) (Nat.le_refl _))
                  have k9 : Blk ((w8.alloc (Obj.cells Tryz.zeroCells77 77)).setRow w8.heap.size (layA (M, E))) b7 #[.int .i64 M, .int .i64 E] := (k7.below hb8).below (setRowB (allocB (Below.refl _ _)) (Nat.le_refl _))
                  have kL : Blk ((w8.alloc (Obj.cells Tryz.zeroCells77 77)).setRow w8.heap.size (layA (M, E))) w8.heap.size (layA (M, E)) := (Blk.new rfl).setRow
                  have HSL := Lib.hid (lay_store (M, E) w8)
                  clear hK7 k7 hb8
                  go_upto_region 18 with (simp only [HSL.out])
                  clear HSL
                  generalize ((w8.alloc (Obj.cells Tryz.zeroCells77 77)).setRow w8.heap.size (layA (M, E))) = w9 at *
                  generalize w8.heap.size = b8 at *
                  obtain ⟨fr, gr, zr⟩ := hK9.kr.facts
                  have c0 := fr 0
                  have c1 := fr 1
                  clear fr
                  simp only [List.getElem?_toArray, List.getElem?_cons_zero, List.getElem?_cons_succ] at c0 c1
                  have HK9 := Lib.hid hK9
                  have K9 := Lib.hid k9
                  have KL := Lib.hid kL
                  clear hK9 k9 kL
                  have c12 := K9.out.facts.1 0
                  have c13 := K9.out.facts.1 1
                  simp only [List.getElem?_toArray, List.getElem?_cons_zero, List.getElem?_cons_succ] at c12 c13
                  have hl1 : (digL (layD (M, E))).length = 96 := by simp [digL]
                  have hl2 : (digL D).length = 96 := by simp [digL]
                  have kl2 : Blk w9 b8 (numA (decide (M < 0)) (layD (M, E)) false) := KL.out
                  have R1 := Lib.hid (numA_range kl2)
                  have R2 := Lib.hid (numA_range HK9.out.kx)
                  clear kl2 KL K9
                  obtain ⟨L, hL⟩ : ∃ L, layD (M, E) = L := ⟨_, rfl⟩
                  rw [hL] at hl1 R1
                  have HLD := Lib.hid hL
                  clear hL
                  cases hsm : sameF L D
                  · have hde : ∀ W, (Op.equalIn 10000 75 (.agg (digL L).toArray) (.agg (digL D).toArray)).run Tryz.prog W = .ok false W := fun W => by have := digs_equal L D W; rw [hsm] at this; exact this
                    have hv : V = ((0, 0), 10) := by have := HVP.out; unfold decEnd at this; dsimp only at this; rw [HLD.out, hsm] at this; exact this.symm
                    subst hv
                    obtain ⟨q0, q1, hb9⟩ := HK9.out.give 0 0
                    have HB9 := Lib.hid hb9
                    have HDE := Lib.hid hde
                    clear hb9 hde HVP hsm
                    go_wp2_with fail
                    refine wp_load_mid 75 _ rfl b8 1 rfl (digL L) _ R1.out Tryz.underlying75 rfl (by rw [hl1]; exact infoDigs) ?_
                    go_wp2_with fail
                    refine wp_load_mid 75 _ rfl bx 1 rfl (digL D) _ R2.out Tryz.underlying75 rfl (by rw [hl2]; exact infoDigs) ?_
                    go_wp2_with (simp only [HDE.out, Result.andThen_ok, Bool.not_false])
                    exact bodyPost_ret (v := .tuple #[decV (0, 0), .int .i64 10]) (by simp [results, Tryz.results19, go_sem, decV, *]) rfl ⟨rfl, HB9.out⟩
                  · have hde : ∀ W, (Op.equalIn 10000 75 (.agg (digL L).toArray) (.agg (digL D).toArray)).run Tryz.prog W = .ok true W := fun W => by have := digs_equal L D W; rw [hsm] at this; exact this
                    have hv : V = ((M, E), 0) := by have := HVP.out; unfold decEnd at this; dsimp only at this; rw [HLD.out, hsm] at this; exact this.symm
                    subst hv
                    obtain ⟨q0, q1, hb9⟩ := HK9.out.give M E
                    have HB9 := Lib.hid hb9
                    have HDE := Lib.hid hde
                    clear hb9 hde HVP hsm
                    go_wp2_with fail
                    refine wp_load_mid 75 _ rfl b8 1 rfl (digL L) _ R1.out Tryz.underlying75 rfl (by rw [hl1]; exact infoDigs) ?_
                    go_wp2_with fail
                    refine wp_load_mid 75 _ rfl bx 1 rfl (digL D) _ R2.out Tryz.underlying75 rfl (by rw [hl2]; exact infoDigs) ?_
                    go_wp2_with (simp only [HDE.out, Result.andThen_ok, Bool.not_true])
                    exact bodyPost_ret (v := .tuple #[decV (M, E), .int .i64 0]) (by simp [results, Tryz.results19, go_sem, decV, *]) rfl ⟨rfl, HB9.out⟩
end Go.Proofs.YtgnejohiagagmaaGreatDoor
