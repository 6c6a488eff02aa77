/- Numbers by their digits in memory; the walk of dec's top. The walks of dec's abs and rest. The walk of dec's cut. Plain: a decimal out of digits. No program in sight. The walk of dec's exact. The walks of dec's abs, of. -/
import Derived.Test.YtgnejohiagagmaaGreatDoorG5
import Derived.Lib.SliceRun
import Derived.BigFrame
import Init
import Derived.Deep.MidRow
namespace Tab
/-- the place of the first digit among the first so many. -/
def topF (D : Nat → Int) : Nat → Int
  | 0 => -1
  | n + 1 => if D n ≠ 0 then (n : Int) else topF D n
end Tab
namespace Go.Proofs.YtgnejohiagagmaaGreatDoor
open Go.RowKit Tab

/-- the cells of a number: its sign, its digits, whether more is left. -/
structure NumC (C : Array Value) (be : Bool) (D : Nat → Int) (mo : Bool) : Prop where
  size : C.size = 98
  below : C[0]? = some (.bool be)
  digit : ∀ k, k < 96 → C[1 + k]? = some (.int .i8 (D k))
  more : C[97]? = some (.bool mo)

set_option maxRecDepth 100000 in
set_option maxHeartbeats 2000000 in
theorem top_any (b : Nat) (C : Array Value) (be : Bool) (D : Nat → Int) (mo : Bool) (hC : NumC C be D mo) (w : World) (hb : Blk w b C) : Calls Tryz.prog 79 #[.pointer (some ⟨b, 0, none⟩)] w (Still (.int .i64 (topF D 96)) w) := by
  obtain ⟨V, hV⟩ : ∃ V, topF D 96 = V := ⟨_, rfl⟩
  rw [hV]
  obtain ⟨f, g, z⟩ := hb.facts
  have hd : ∀ k, k < 96 → w.cell? ⟨b, 1 + k, none⟩ = some (.int .i8 (D k)) := fun k hk => (f _).trans (hC.digit k hk)
  have HD := Lib.hid hd
  clear f hd hb hC
  go_enter Tryz.func79, Tryz.ntmps79
  go_wp2
  go_loop [3] (fun i => (∃ k : Nat, k < 96 ∧ i = .int .i64 k ∧ topF D (k + 1) = V) ∨ (i = .int .i64 (-1) ∧ V = -1)) (fun i => (intOf i + 1).toNat)
  case atStart => exact .inl ⟨95, by omega, rfl, hV⟩
  case round =>
    clear hV
    rcases hrel with ⟨k, hk, rfl, hI⟩ | ⟨rfl, rfl⟩
    · have hc := HD.out k hk
      have ek : decide (0 ≤ (k : Int)) = true := decide_eq_true (by omega)
      by_cases h0 : D k = 0
      · have e0 : (D k != 0) = false := by rw [bne_eq_false_iff_eq]; exact h0
        have hI2 : topF D k = V := by rw [← hI, topF, if_neg (by simpa using h0)]
        clear hI h0
        go_wp2
        go_round
        case rel =>
          cases k with
          | zero => exact .inr ⟨by go_num, hI2.symm⟩
          | succ k => exact .inl ⟨k, by omega, by go_num, hI2⟩
        case measure => simp [intOf]
      · have e0 : (D k != 0) = true := by rw [bne_iff_ne]; exact h0
        have hI2 : (k : Int) = V := by rw [← hI, topF, if_pos h0]
        subst hI2
        clear hI h0
        go_wp2
        go_ret; exact Still.mk' rfl
    · go_wp2
      go_ret; exact Still.mk' rfl
end Go.Proofs.YtgnejohiagagmaaGreatDoor

namespace Tab
/-- whether one of the first so many digits is not nothing. -/
def someF (D : Nat → Int) : Nat → Bool
  | 0 => false
  | n + 1 => someF D n || D n != 0
/-- what stands below a place, against a half of it. -/
def restF (D : Nat → Int) (mo : Bool) (m : Nat) : Int :=
  if D m = 0 ∧ (mo || someF D m) = false then -2 else if D m < 5 then -1 else if D m = 5 ∧ (mo || someF D m) = false then 0 else 1
end Tab
namespace Go.Proofs.YtgnejohiagagmaaGreatDoor
open Go.RowKit Tab

set_option maxRecDepth 100000 in
set_option maxHeartbeats 2000000 in
theorem decRest_any (b : Nat) (C : Array Value) (be : Bool) (D : Nat → Int) (mo : Bool) (hC : NumC C be D mo) (m : Nat) (hm : m < 95) (w : World) (hb : Blk w b C) : Calls Tryz.prog 77 #[.pointer (some ⟨b, 0, none⟩), .int .i64 ((m + 1 : Nat) : Int)] w (Still (.int .i64 (restF D mo m)) w) := by
  obtain ⟨V, hV⟩ : ∃ V, restF D mo m = V := ⟨_, rfl⟩
  rw [hV]
  obtain ⟨f, g, z⟩ := hb.facts
  have hd : ∀ k, k < 96 → w.cell? ⟨b, 1 + k, none⟩ = some (.int .i8 (D k)) := fun k hk => (f _).trans (hC.digit k hk)
  have hmo : w.cell? ⟨b, 97, none⟩ = some (.bool mo) := (f _).trans hC.more
  have hdm := hd m (by omega)
  have HD := Lib.hid hd
  clear f hd hb hC
  have e1 : IntKind.i64.wrap (((m + 1 : Nat) : Int) - 1) = (m : Int) := by rw [IntWalk.i64_in _ (by omega)]; omega
  have e2 : max (m : Int) 0 = (m : Int) := by omega
  go_enter Tryz.func77, Tryz.ntmps77
  go_wp2
  go_loop [15, 5] (fun i a => ∃ (k : Nat) (A : Bool), k ≤ m ∧ i = .int .i64 k ∧ a = .bool A ∧ A = (mo || someF D k)) (fun i _ => (m - intOf i).toNat)
  case atStart => exact ⟨0, mo, by omega, rfl, rfl, by simp [someF]⟩
  case round =>
    obtain ⟨k, A, hk, rfl, rfl, hA⟩ := hrel
    have HA := Lib.hid hA
    have HV := Lib.hid hV
    clear hA hV
    by_cases hlt : k < m
    · have hc := HD.out k (by omega)
      have e3 : decide ((k : Int) < (m : Int)) = true := decide_eq_true (by omega)
      have et : ((k : Int)).toNat = k := by omega
      have hi : (k : Int) < 96 := by omega
      clear hdm
      cases A
      · obtain ⟨B, hB⟩ : ∃ B, (D k != 0) = B := ⟨_, rfl⟩
        cases B
        all_goals (
          go_wp2
          go_round
          case rel => exact ⟨k + 1, _, by omega, by go_num, rfl, by rw [someF, hB, ← Bool.or_assoc, ← HA.out]; rfl⟩
          case measure => simp [intOf]; omega)
      · go_wp2
        go_round
        case rel => exact ⟨k + 1, true, by omega, by go_num, rfl, by rw [someF, ← Bool.or_assoc, ← HA.out]; rfl⟩
        case measure => simp [intOf]; omega
    · have ek : k = m := by omega
      subst ek
      have e3 : decide ((k : Int) < (k : Int)) = false := decide_eq_false (by omega)
      have hi : (k : Int) < 96 := by omega
      have hV := HV.out
      unfold restF at hV
      rw [← HA.out] at hV
      clear HV HA hlt
      obtain ⟨Z, hZ⟩ : ∃ Z, (D k == 0) = Z := ⟨_, rfl⟩
      obtain ⟨L, hL⟩ : ∃ L, decide (D k < 5) = L := ⟨_, rfl⟩
      obtain ⟨F, hF⟩ : ∃ F, (D k == 5) = F := ⟨_, rfl⟩
      have hv : V = if (Z && !A) then -2 else if L then -1 else if (F && !A) then 0 else 1 := by
        rw [← hV, ← hZ, ← hL, ← hF]
        cases A <;> simp
      clear hV
      cases Z <;> cases L <;> cases F <;> cases A
      all_goals (
        simp at hv
        go_wp2
        go_ret; first | exact Still.mk' rfl | (rw [hv]; exact Still.mk' rfl))
end Go.Proofs.YtgnejohiagagmaaGreatDoor

namespace Tab
def updI (D : Nat → Int) (i : Nat) (v : Int) : Nat → Int := fun j => if j = i then v else D j
/-- one more at a place, carried. -/
def upF : Nat → Nat → (Nat → Int) → (Nat → Int)
  | 0, _, D => D
  | n + 1, i, D => if D i + 1 < 10 then updI D i (D i + 1) else upF n (i + 1) (updI D i 0)
def lowF (D : Nat → Int) (k : Nat) : Nat → Int := fun i => if i < k then 0 else D i
def cutF (D : Nat → Int) (k : Nat) (up : Bool) : Nat → Int := if up then upF (96 - k) k (lowF D k) else lowF D k
end Tab
namespace Go.Proofs.YtgnejohiagagmaaGreatDoor
open Go.RowKit Tab

theorem NumC.set {C : Array Value} {be mo : Bool} {D : Nat → Int} (h : NumC C be D mo) (i : Nat) (hi : i < 96) (v : Int) : NumC (C.setIfInBounds (1 + i) (.int .i8 v)) be (updI D i v) mo := by
  refine ⟨by simp [h.size], ?_, fun k hk => ?_, ?_⟩
  · rw [Array.getElem?_setIfInBounds_ne (by omega)]; exact h.below
  · unfold updI
    by_cases e : k = i
    · subst e; rw [if_pos rfl, Array.getElem?_setIfInBounds_self, if_pos (by rw [h.size]; omega)]
    · rw [if_neg e, Array.getElem?_setIfInBounds_ne (by omega)]; exact h.digit k hk
  · rw [Array.getElem?_setIfInBounds_ne (by omega)]; exact h.more
theorem NumC.setMore {C : Array Value} {be mo : Bool} {D : Nat → Int} (h : NumC C be D mo) (v : Bool) : NumC (C.setIfInBounds 97 (.bool v)) be D v := by
  refine ⟨by simp [h.size], ?_, fun k hk => ?_, ?_⟩
  · rw [Array.getElem?_setIfInBounds_ne (by omega)]; exact h.below
  · rw [Array.getElem?_setIfInBounds_ne (by omega)]; exact h.digit k hk
  · rw [Array.getElem?_setIfInBounds_self, if_pos (by rw [h.size]; omega)]
theorem NumC.congr {C : Array Value} {be mo : Bool} {D D' : Nat → Int} (h : NumC C be D mo) (e : ∀ k, k < 96 → D k = D' k) : NumC C be D' mo :=
  ⟨h.size, h.below, fun k hk => (e k hk) ▸ h.digit k hk, h.more⟩
theorem zeros_num {be mo : Bool} (b : Nat) : ∀ (n o : Nat) (w : World) (C : Array Value) (D : Nat → Int), NumC C be D mo → Blk w b C → o + n ≤ 96 →
    ∃ C', Blk (w.setCells b (1 + o) (List.replicate n (.int .i8 0))) b C' ∧ NumC C' be (fun i => if o ≤ i ∧ i < o + n then 0 else D i) mo
  | 0, o, w, C, D, hC, hb, _ => ⟨C, hb, hC.congr fun k _ => by rw [if_neg (by omega)]⟩
  | n + 1, o, w, C, D, hC, hb, h => by
    obtain ⟨C', h1, h2⟩ := zeros_num b n (o + 1) _ _ _ (hC.set o (by omega) 0) (hb.set (i := 1 + o)) (by omega)
    refine ⟨C', h1, h2.congr fun k _ => ?_⟩
    unfold updI
    by_cases e : k = o
    · subst e; rw [if_neg (by omega), if_pos rfl, if_pos (by omega)]
    · by_cases e2 : o + 1 ≤ k ∧ k < o + 1 + n
      · rw [if_pos e2, if_pos (by omega)]
      · rw [if_neg e2, if_neg e, if_neg (by omega)]
theorem below_setCells (b : Nat) (w : World) : ∀ (vs : List Value) (o : Nat) (W : World), Below b w W → Below b w (W.setCells b o vs)
  | [], _, _, h => h
  | v :: r, o, _, h => below_setCells b w r (o + 1) _ (h.setCell (Nat.le_refl _) v)
/-- digits as they are laid: none above forty places. -/
structure DigOk (D : Nat → Int) : Prop where
  lo : ∀ i, i < 96 → 0 ≤ D i
  hi : ∀ i, i < 96 → D i ≤ 9
  top : ∀ i, 88 ≤ i → i < 96 → D i = 0
theorem zero74 (w : World) : (zeroValue 74).run Tryz.prog w = .ok (.int .i8 0) w := by kernel_rfl

def CutTo (b : Nat) (be : Bool) (D : Nat → Int) (w : World) (e : Ending) (w' : World) : Prop := e = .returned (.tuple #[]) ∧ Below b w w' ∧ ∃ C, Blk w' b C ∧ NumC C be D false
theorem CutTo.mk' {b : Nat} {be : Bool} {D : Nat → Int} {w w' : World} (hb : Below b w w') (h : ∃ C, Blk w' b C ∧ NumC C be D false) : CutTo b be D w (.returned (.tuple #[])) w' := ⟨rfl, hb, h⟩

set_option maxRecDepth 100000 in
set_option maxHeartbeats 4000000 in
theorem decCut_any (b : Nat) (C : Array Value) (be : Bool) (D : Nat → Int) (mo : Bool) (hC : NumC C be D mo) (hD : DigOk D) (k : Nat) (hk0 : 0 < k) (hk : k < 88) (up : Bool) (w : World) (hb : Blk w b C) :
    Calls Tryz.prog 78 #[.pointer (some ⟨b, 0, none⟩), .int .i64 k, .bool up] w (CutTo b be (cutF D k up) w) := by
  obtain ⟨V, hV⟩ : ∃ V, cutF D k up = V := ⟨_, rfl⟩
  rw [hV]
  obtain ⟨f, g, z⟩ := hb.facts
  have hcl : ∀ ty, (Builtin.clear_ #[127] ty #[.slice (some ⟨b, 1, none⟩) k 96]).run Tryz.prog w = .ok (.tuple #[]) (w.setCells b 1 (List.replicate k (.int .i8 0))) :=
    fun ty => Lib.run_clear_slice w 127 74 ty (.int .i8 0) Tryz.underlying127 zero74 rfl rfl b 1 k 96 hk0 (fun j hj => by rw [f, hC.digit j (by omega)]; rfl) (fun j hj => g _)
  obtain ⟨C1, k1, n1⟩ := zeros_num b k 0 w C D hC hb (by omega)
  have hb1 : Below b w (w.setCells b 1 (List.replicate k (.int .i8 0))) := below_setCells b w _ _ _ (Below.refl _ _)
  have hV1 : (if up then upF (96 - k) k (lowF D k) else lowF D k) = V := hV
  have n1 : NumC C1 be (lowF D k) mo := n1.congr fun i _ => by unfold lowF; by_cases e : i < k <;> simp [e]
  have ok1 : DigOk (lowF D k) := ⟨fun i hi => by unfold lowF; split; omega; exact hD.lo i hi, fun i hi => by unfold lowF; split; omega; exact hD.hi i hi, fun i h1 h2 => by unfold lowF; rw [if_neg (by omega)]; exact hD.top i h1 h2⟩
  generalize lowF D k = D1 at *
  generalize hw1 : w.setCells b 1 (List.replicate k (.int .i8 0)) = w1 at *
  have k1 : Blk w1 b C1 := k1
  clear hV f hC hb hD hw1
  have HV := Lib.hid hV1
  have HC := Lib.hid n1
  have OK := Lib.hid ok1
  have K1 := Lib.hid k1
  have B1 := Lib.hid hb1
  clear hV1 n1 ok1 k1 hb1
  have e1 : (k : Int) ≤ 96 := by omega
  have e2 : (0 : Int) ≤ (k : Int) := by omega
  have e3 : ((k : Int)).toNat = k := by omega
  obtain ⟨f1, g1, z1⟩ := K1.out.facts
  have hm : w1.cell? ⟨b, 97, none⟩ = some (.bool mo) := (f1 _).trans HC.out.more
  clear f1
  go_enter Tryz.func78, Tryz.ntmps78
  go_wp2_with (simp only [hcl])
  clear hcl
  have k2 : Blk (w1.setCell ⟨b, 97, none⟩ (.bool false)) b _ := K1.out.set
  have n2 := HC.out.setMore false
  have b2 : Below b w (w1.setCell ⟨b, 97, none⟩ (.bool false)) := B1.out.setCell (Nat.le_refl _) _
  generalize C1.setIfInBounds 97 (.bool false) = C2 at *
  generalize w1.setCell ⟨b, 97, none⟩ (.bool false) = w2 at *
  clear HC K1 B1 hm g1 z1 k1 g z
  have HV := HV.out
  cases up
  · have eV : D1 = V := by simpa using HV
    subst eV
    clear HV OK
    go_loopw [6] (fun _ w' => w' = w2) (fun _ _ => 0)
    case atStart => rfl
    case round =>
      subst hrel
      go_wp2
      go_end0
      exact CutTo.mk' b2 ⟨_, k2, n2⟩
  · have eV : upF (96 - k) k D1 = V := by simpa using HV
    clear HV
    have HR : Hid (∃ D', upF (96 - k) k D' = V ∧ DigOk D' ∧ NumC C2 be D' false) := Lib.hid ⟨D1, eV, OK.out, n2⟩
    clear eV n2 OK n1
    go_loopw [6] (fun i w' => ∃ (n : Nat) (C' : Array Value), i = .int .i64 n ∧ k ≤ n ∧ n ≤ 88 ∧ Blk w' b C' ∧ Below b w w' ∧ Hid (∃ D', upF (96 - n) n D' = V ∧ DigOk D' ∧ NumC C' be D' false)) (fun i _ => (96 - intOf i).toNat)
    case atStart => exact ⟨k, C2, rfl, by omega, by omega, k2, b2, HR⟩
    case round =>
      clear b2 k2 HR
      obtain ⟨n, C', rfl, hn1, hn2, k3, b3, HR⟩ := hrel
      obtain ⟨D', eV, hok, hN⟩ := HR.out
      clear HR
      obtain ⟨f, g, z⟩ := k3.facts
      have hd := (f (1 + n)).trans (hN.digit n (by omega))
      have i1 : (n : Int) < 96 := by omega
      have i2 : (0 : Int) ≤ (n : Int) := by omega
      have i3 : ((n : Int)).toNat = n := by omega
      have lo := hok.lo n (by omega)
      have hi := hok.hi n (by omega)
      have ew : IntKind.i8.wrap (D' n + 1) = D' n + 1 := IntWalk.i8_in _ (by omega)
      have HX := Lib.hid (And.intro eV (And.intro hok hN))
      have B3 := Lib.hid b3
      have K3 := Lib.hid k3
      clear eV hok hN b3 k3 f
      go_upto_region 5 with (fail)
      have kc := gcell wr
      refine region_below_tail 10 (by kernel_rfl) (by kernel_rfl) ?_
      simp only [List.take_succ_cons, List.take_zero, List.drop_succ_cons, List.drop_zero]
      repeat (quiet_step (fail))
      refine wpQuiet_nil ?_
      clear kc hd g z
      intro w3 hb3
      have k4 := K3.out.below hb3
      have b4 := B3.out.trans (hb3.mono (Nat.le_of_lt K3.out.facts.2.2))
      clear K3 B3 hb3
      obtain ⟨f, g, z⟩ := k4.facts
      have hd := (f (1 + n)).trans (HX.out.2.2.digit n (by omega))
      have hk5 : ∀ v, Blk (w3.setCell ⟨b, 1 + n, none⟩ (.int .i8 v)) b (C'.setIfInBounds (1 + n) (.int .i8 v)) := fun v => k4.set
      have hb5 : ∀ v, Below b w (w3.setCell ⟨b, 1 + n, none⟩ (.int .i8 v)) := fun v => b4.setCell (Nat.le_refl _) _
      have hk6 : ∀ v u, Blk ((w3.setCell ⟨b, 1 + n, none⟩ (.int .i8 v)).setCell ⟨b, 1 + n, none⟩ (.int .i8 u)) b ((C'.setIfInBounds (1 + n) (.int .i8 v)).setIfInBounds (1 + n) (.int .i8 u)) := fun v u => k4.set.set
      have hb6 : ∀ v u, Below b w ((w3.setCell ⟨b, 1 + n, none⟩ (.int .i8 v)).setCell ⟨b, 1 + n, none⟩ (.int .i8 u)) := fun v u => (b4.setCell (Nat.le_refl _) _).setCell (Nat.le_refl _) _
      have HK5 := Lib.hid hk5
      have HB5 := Lib.hid hb5
      have HK6 := Lib.hid hk6
      have HB6 := Lib.hid hb6
      clear f k4 b4 hk5 hb5 hk6 hb6
      by_cases h9 : D' n + 1 < 10
      · have e9 : decide (D' n + 1 < 10) = true := decide_eq_true h9
        clear h9
        go_wp2
        go_end0
        obtain ⟨eV, hok, hN⟩ := HX.out
        have h9 : D' n + 1 < 10 := of_decide_eq_true e9
        have hs : 96 - n = (96 - (n + 1)) + 1 := by omega
        rw [hs, upF, if_pos h9] at eV
        refine CutTo.mk' (HB5.out _) ⟨_, HK5.out _, ?_⟩
        rw [← eV]
        exact hN.set n (by omega) _
      · have e9 : decide (D' n + 1 < 10) = false := decide_eq_false h9
        clear h9
        have ew2 : IntKind.i64.wrap ((n : Int) + 1) = (n : Int) + 1 := IntWalk.i64_in _ (by omega)
        go_wp2
        go_round
        case rel =>
          obtain ⟨eV, hok, hN⟩ := HX.out
          have h9 : ¬ D' n + 1 < 10 := of_decide_eq_false e9
          have hs : 96 - n = (96 - (n + 1)) + 1 := by omega
          rw [hs, upF, if_neg h9] at eV
          have hn3 : n < 88 := by
            rcases Nat.lt_or_ge n 88 with h | h
            · exact h
            · have := hok.top n h (by omega); omega
          refine ⟨n + 1, _, by go_num, by omega, by omega, HK6.out _ _, HB6.out _ _, Lib.hid ⟨_, eV, ⟨fun i hi => ?_, fun i hi => ?_, fun i h1 h2 => ?_⟩, ?_⟩⟩
          · unfold updI; split; omega; exact hok.lo i hi
          · unfold updI; split; omega; exact hok.hi i hi
          · unfold updI; split; rfl; exact hok.top i h1 h2
          · exact ((hN.set n (by omega) _).set n (by omega) 0).congr fun j _ => by unfold updI; split <;> rfl
        case measure => simp [intOf]; omega
end Go.Proofs.YtgnejohiagagmaaGreatDoor

namespace Tab
/-- the number that the digits from a place on make, so many, behind one that there is. -/
def mantF (D : Nat → Int) (k : Nat) : Nat → Int → Int
  | 0, M => M
  | n + 1, M => mantF D k n (10 * M + D (k + n))
def stripF : Nat → Int → Int → Int × Int
  | 0, M, E => (M, E)
  | f + 1, M, E => if M % 10 = 0 ∧ E < 9 then stripF f (M / 10) (E + 1) else (M, E)
def signF (be : Bool) (p : Int × Int) : Int × Int := (if be then -p.1 else p.1, p.2)
def exactF (D : Nat → Int) (be : Bool) (t : Int) (k : Nat) : Int × Int :=
  if mantF D k (t + 1 - k).toNat 0 = 0 then (0, 0) else signF be (stripF (57 - k) (mantF D k (t + 1 - k).toNat 0) (k - 48))
def Sml (n : Nat) (M : Int) : Prop := 0 ≤ M ∧ M < 10 ^ (15 - n)
theorem Sml.step {n : Nat} {M d : Int} (h : Sml (n + 1) M) (hn : n < 15) (h0 : 0 ≤ d) (h9 : d ≤ 9) : Sml n (10 * M + d) := by
  obtain ⟨a, b⟩ := h
  refine ⟨by omega, ?_⟩
  rw [show 15 - n = (15 - (n + 1)) + 1 by omega, Int.pow_succ]
  omega
theorem Sml.le {n : Nat} {M : Int} (h : Sml n M) : 0 ≤ M ∧ M < 1000000000000000 := by
  refine ⟨h.1, Int.lt_of_lt_of_le h.2 ?_⟩
  have : ((10 ^ (15 - n) : Nat) : Int) ≤ ((10 ^ 15 : Nat) : Int) := Int.ofNat_le.2 (Nat.pow_le_pow_right (by omega) (by omega))
  simpa using this
theorem Sml.any {n : Nat} {M : Int} (h : Sml n M) (m : Int) (h0 : 0 ≤ m) (h1 : m ≤ M) : Sml n m := ⟨h0, Int.lt_of_le_of_lt h1 h.2⟩
end Tab

namespace Go.Proofs.YtgnejohiagagmaaGreatDoor
open Go.RowKit Tab

/-- exact's two cells. -/
structure ExK (w w' : World) (b : Nat) (C : Array Value) (M E : Int) : Prop where
  zb : b < w.heap.size
  kb : Blk w' b C
  kr : Blk w' w.heap.size #[.int .i64 0, .int .i64 0]
  ka : Blk w' (w.heap.size + 1) #[.int .i64 M, .int .i64 E]
  be : Below w.heap.size w w'
theorem ExK.setM {w w' : World} {b : Nat} {C : Array Value} {M E : Int} (h : ExK w w' b C M E) (v : Int) : ExK w (w'.setCell ⟨w.heap.size + 1, 0, none⟩ (.int .i64 v)) b C v E :=
  ⟨h.zb, h.kb.other (by have := h.zb; omega), h.kr.other (by omega), h.ka.set, h.be.setCell (Nat.le_succ _) _⟩
theorem ExK.setE {w w' : World} {b : Nat} {C : Array Value} {M E : Int} (h : ExK w w' b C M E) (v : Int) : ExK w (w'.setCell ⟨w.heap.size + 1, 1, none⟩ (.int .i64 v)) b C M v :=
  ⟨h.zb, h.kb.other (by have := h.zb; omega), h.kr.other (by omega), h.ka.set, h.be.setCell (Nat.le_succ _) _⟩
theorem ExK.below {w w' w2 : World} {b : Nat} {C : Array Value} {M E : Int} (h : ExK w w' b C M E) (h2 : Below w'.heap.size w' w2) : ExK w w2 b C M E :=
  ⟨h.zb, h.kb.below h2, h.kr.below h2, h.ka.below h2, after h.be h2⟩
theorem ExK.give {w w' : World} {b : Nat} {C : Array Value} {M E : Int} (h : ExK w w' b C M E) :
    ((w'.setCell ⟨w.heap.size, 0, none⟩ (.int .i64 M)).setCell ⟨w.heap.size, 1, none⟩ (.int .i64 E)).cell? ⟨w.heap.size, 0, none⟩ = some (.int .i64 M) ∧
    ((w'.setCell ⟨w.heap.size, 0, none⟩ (.int .i64 M)).setCell ⟨w.heap.size, 1, none⟩ (.int .i64 E)).cell? ⟨w.heap.size, 1, none⟩ = some (.int .i64 E) ∧
    Below w.heap.size w ((w'.setCell ⟨w.heap.size, 0, none⟩ (.int .i64 M)).setCell ⟨w.heap.size, 1, none⟩ (.int .i64 E)) := by
  have k9 : Blk ((w'.setCell ⟨w.heap.size, 0, none⟩ (.int .i64 M)).setCell ⟨w.heap.size, 1, none⟩ (.int .i64 E)) w.heap.size _ := h.kr.set.set
  have q0 := k9.facts.1 0
  have q1 := k9.facts.1 1
  simp only [List.setIfInBounds_toArray, List.set_cons_zero, List.set_cons_succ, List.getElem?_toArray, List.getElem?_cons_zero, List.getElem?_cons_succ] at q0 q1
  exact ⟨q0, q1, (h.be.setCell (Nat.le_refl _) _).setCell (Nat.le_refl _) _⟩


set_option maxRecDepth 100000 in
set_option maxHeartbeats 4000000 in
theorem decExact_any (b : Nat) (C : Array Value) (be : Bool) (D : Nat → Int) (mo : Bool) (hC : NumC C be D mo) (hlo : ∀ i, i < 96 → 0 ≤ D i) (hhi : ∀ i, i < 96 → D i ≤ 9) (t : Int) (k : Nat) (ht : -1 ≤ t) (htk : t < k + 15) (hk0 : 39 ≤ k) (hk : k ≤ 57) (w : World) (hb : Blk w b C) :
    Calls Tryz.prog 80 #[.pointer (some ⟨b, 0, none⟩), .int .i64 t, .int .i64 k] w (Ret (decV (exactF D be t k)) w) := by
  obtain ⟨V, hV⟩ : ∃ V, exactF D be t k = V := ⟨_, rfl⟩
  rw [hV]
  have HV := Lib.hid hV; clear hV
  have zb := hb.facts.2.2
  have HC := Lib.hid hC; clear hC
  have LO := Lib.hid hlo; clear hlo
  have HI := Lib.hid hhi; clear hhi
  have HB := Lib.hid hb; clear hb
  go_enter Tryz.func80, Tryz.ntmps80
  go_wp2
  have hE : ExK w ((w.alloc (Obj.cells #[.int .i64 0, .int .i64 0] 40)).alloc (Obj.cells #[.int .i64 0, .int .i64 0] 40)) b C 0 0 :=
    ⟨zb, HB.out.alloc.alloc, (Blk.new rfl).alloc, Blk.new (by simp), allocB (allocB (Below.refl _ _))⟩
  generalize (w.alloc (Obj.cells #[.int .i64 0, .int .i64 0] 40)).alloc (Obj.cells #[.int .i64 0, .int .i64 0] 40) = w0 at *
  have HE := Lib.hid hE; clear hE HB
  go_loopw [8] (fun i w' => ∃ (x M : Int), i = .int .i64 x ∧ -1 ≤ x ∧ x < k + 15 ∧ Hid (ExK w w' b C M 0) ∧ Hid (mantF D k (x + 1 - k).toNat M = mantF D k (t + 1 - k).toNat 0 ∧ Sml (x + 1 - k).toNat M)) (fun i _ => (intOf i + 2).toNat)
  case atStart => exact ⟨t, 0, rfl, ht, htk, HE, Lib.hid ⟨rfl, by omega, Int.pow_pos (by omega)⟩⟩
  case round =>
    clear HE
    obtain ⟨x, M, rfl, hx1, hx2, HE, HM⟩ := hrel
    obtain ⟨fb, gb, zb1⟩ := HE.out.kb.facts
    obtain ⟨fr, gr, zr⟩ := HE.out.kr.facts
    obtain ⟨fa, ga, za⟩ := HE.out.ka.facts
    have ca0 := fa 0
    have ca1 := fa 1
    have cr0 := fr 0
    have cr1 := fr 1
    clear fr fa
    simp only [List.getElem?_toArray, List.getElem?_cons_zero, List.getElem?_cons_succ] at ca0 ca1 cr0 cr1
    by_cases hlt : (k : Int) ≤ x
    · obtain ⟨n, rfl⟩ : ∃ n : Nat, x = ((k + n : Nat) : Int) := ⟨(x - k).toNat, by omega⟩
      have hn : n < 15 := by omega
      have e1 : decide ((k : Int) ≤ ((k + n : Nat) : Int)) = true := decide_eq_true hlt
      have hd := (fb (1 + (k + n))).trans (HC.out.digit (k + n) (by omega))
      have hs : (((k + n : Nat) : Int) + 1 - k).toNat = n + 1 := by omega
      have lo := LO.out (k + n) (by omega)
      have hi := HI.out (k + n) (by omega)
      obtain ⟨hm, hsm⟩ := HM.out
      rw [hs] at hm hsm
      have hs2 := hsm.step hn lo hi
      have m1 := hsm.le
      have m2 := hs2.le
      rw [mantF] at hm
      have HM2 := Lib.hid (And.intro hm hs2)
      clear hm hsm hs2 hs HM fb
      have ew1 : IntKind.i64.wrap (10 * M) = 10 * M := IntWalk.i64_in _ (by omega)
      have ew2 : IntKind.i64.wrap (10 * M + D (k + n)) = 10 * M + D (k + n) := IntWalk.i64_in _ (by omega)
      have ew3 : IntKind.i64.wrap (D (k + n)) = D (k + n) := IntWalk.i64_in _ (by omega)
      have ew4 : IntKind.i64.wrap (((k + n : Nat) : Int) - 1) = ((k + n : Nat) : Int) - 1 := IntWalk.i64_in _ (by omega)
      have i1 : ((k + n : Nat) : Int) < 96 := by omega
      have i2 : (0 : Int) ≤ ((k + n : Nat) : Int) := by omega
      have i3 : (((k + n : Nat) : Int)).toNat = k + n := by omega
      have M1 := Lib.hid m1
      have M2 := Lib.hid m2
      clear m1 m2
      generalize hq : k + n = q at *
      go_upto_region 5 with (fail)
      have kc := gcell wr
      refine region_below_tail 12 (by kernel_rfl) (by kernel_rfl) ?_
      simp only [List.take_succ_cons, List.take_zero, List.drop_succ_cons, List.drop_zero]
      repeat (quiet_step (fail))
      refine wpQuiet_nil ?_
      clear kc hd gb zb1 gr zr ga za ca0 ca1 cr0 cr1
      intro w3 hb3
      have HE3 := Lib.hid (HE.out.below hb3)
      clear HE hb3
      obtain ⟨fa, ga, za⟩ := HE3.out.ka.facts
      have ca0 := fa 0
      clear fa
      simp only [List.getElem?_toArray, List.getElem?_cons_zero] at ca0
      have HE4 := Lib.hid (HE3.out.setM (10 * M + D q))
      clear HE3
      go_wp2
      go_round
      case rel =>
        refine ⟨(q : Int) - 1, 10 * M + D q, rfl, by omega, by omega, HE4, ?_⟩
        have hs3 : ((q : Int) - 1 + 1 - k).toNat = n := by omega
        rw [hs3]; exact HM2
      case measure => simp [intOf]; omega
    · have e1 : decide ((k : Int) ≤ x) = false := decide_eq_false hlt
      have hs : (x + 1 - k).toNat = 0 := by omega
      obtain ⟨hm, hsm⟩ := HM.out
      rw [hs] at hm hsm
      rw [mantF] at hm
      have m1 := hsm.le
      have HX : Hid ((if M = 0 then (0, 0) else signF be (stripF (57 - k) M (k - 48))) = V ∧ Sml 0 M) := Lib.hid ⟨by rw [← HV.out]; unfold exactF; rw [← hm], hsm⟩
      clear hm hsm HM HV LO HI fb
      by_cases h0 : M = 0
      · have e2 : (M == 0) = true := by simpa using h0
        have hv := HX.out.1
        rw [if_pos h0] at hv
        subst hv
        clear HX
        have hb9 : Below w.heap.size w ((wr.setCell ⟨w.heap.size, 0, none⟩ (.int .i64 0)).setCell ⟨w.heap.size, 1, none⟩ (.int .i64 0)) := (HE.out.be.setCell (Nat.le_refl _) _).setCell (Nat.le_refl _) _
        have HB9 := Lib.hid hb9; clear hb9
        have k9 : Blk ((wr.setCell ⟨w.heap.size, 0, none⟩ (.int .i64 0)).setCell ⟨w.heap.size, 1, none⟩ (.int .i64 0)) w.heap.size _ := HE.out.kr.set.set
        have q0 := k9.facts.1 0
        have q1 := k9.facts.1 1
        simp only [List.setIfInBounds_toArray, List.set_cons_zero, List.set_cons_succ, List.getElem?_toArray, List.getElem?_cons_zero, List.getElem?_cons_succ] at q0 q1
        clear k9
        go_wp2
        exact bodyPost_ret (v := decV (0, 0)) (by simp [results, Tryz.results80, go_sem, decV, *]) rfl ⟨rfl, HB9.out⟩
      · have e2 : (M == 0) = false := by simpa using h0
        have hv := HX.out.1
        have hsm := HX.out.2
        rw [if_neg h0] at hv
        clear HX
        have HX := Lib.hid (And.intro hv hsm); clear hv hsm
        have ew1 : IntKind.i64.wrap ((k : Int) - 48) = (k : Int) - 48 := IntWalk.i64_in _ (by omega)
        have HE2 := Lib.hid (HE.out.setE ((k : Int) - 48))
        go_wp2
        clear HE ca0 ca1 cr0 cr1
        generalize wr.setCell ⟨w.heap.size + 1, 1, none⟩ (.int .i64 ((k : Int) - 48)) = w2 at *
        have hM1 : 1 ≤ M := by omega
        go_loopw [] (fun w' => ∃ (m E : Int), Hid (ExK w w' b C m E) ∧ 1 ≤ m ∧ m ≤ M ∧ -9 ≤ E ∧ E ≤ 9 ∧ Hid (signF be (stripF (9 - E).toNat m E) = V)) (fun w' => (9 - intOf ((w'.cell? ⟨w.heap.size + 1, 1, none⟩).getD (.int .i64 0))).toNat)
        case atStart =>
          refine ⟨M, (k : Int) - 48, HE2, hM1, by omega, by omega, by omega, Lib.hid ?_⟩
          rw [← HX.out.1, show (9 - ((k : Int) - 48)).toNat = 57 - k by omega]
        case round =>
          clear HE2 gb zb1 gr zr ga za
          obtain ⟨m, E, HE, hm1, hm2, hE1, hE2, HS⟩ := hrel
          have zb1 := HE.out.kb.facts.2.2
          obtain ⟨fr, gr, zr⟩ := HE.out.kr.facts
          obtain ⟨fa, ga, za⟩ := HE.out.ka.facts
          have ca0 := fa 0
          have ca1 := fa 1
          have cr0 := fr 0
          have cr1 := fr 1
          have cbe := (HE.out.kb.facts.1 0).trans HC.out.below
          clear fr fa
          simp only [List.getElem?_toArray, List.getElem?_cons_zero, List.getElem?_cons_succ] at ca0 ca1 cr0 cr1
          by_cases hz : m % 10 = 0 ∧ E < 9
          · have e5 : (m % 10 == 0) = true := by simpa using hz.1
            have e6 : decide (E < 9) = true := decide_eq_true hz.2
            have ew2 : IntKind.i64.wrap (m / 10) = m / 10 := IntWalk.i64_in _ (by omega)
            have ew3 : IntKind.i64.wrap (E + 1) = E + 1 := IntWalk.i64_in _ (by omega)
            have m0 : 0 ≤ m := by omega
            have HE5 := Lib.hid ((HE.out.setM (m / 10)).setE (E + 1))
            have HS2 : Hid (signF be (stripF (9 - (E + 1)).toNat (m / 10) (E + 1)) = V) := Lib.hid (by
              have := HS.out
              rw [show (9 - E).toNat = (9 - (E + 1)).toNat + 1 by omega, stripF, if_pos hz] at this
              exact this)
            have hm3 : 1 ≤ m / 10 ∧ m / 10 ≤ M ∧ -9 ≤ E + 1 ∧ E + 1 ≤ 9 := by omega
            have q1 : Hid (((wr.setCell ⟨w.heap.size + 1, 0, none⟩ (.int .i64 (m / 10))).setCell ⟨w.heap.size + 1, 1, none⟩ (.int .i64 (E + 1))).cell? ⟨w.heap.size + 1, 1, none⟩ = some (.int .i64 (E + 1))) := Lib.hid (by
              have := HE5.out.ka.facts.1 1
              simpa using this)
            have HM3 := Lib.hid hm3
            have HZ := Lib.hid hz
            clear hz hm3 HS
            go_wp2
            go_round
            case rel => exact ⟨m / 10, E + 1, HE5, HM3.out.1, HM3.out.2.1, HM3.out.2.2.1, HM3.out.2.2.2, HS2⟩
            case measure =>
              have := HZ.out.2
              rw [q1.out, ca1]; simp [intOf]; omega
          · have hv : signF be (m, E) = V := by
              rw [← HS.out]
              rcases hf : (9 - E).toNat with _ | n
              · rfl
              · rw [stripF, if_neg hz]
            clear HS
            have m0 : 0 ≤ m := by omega
            have hz2 : (∃ e5 : (m % 10 == 0) = false, True) ∨ ((m % 10 == 0) = true ∧ decide (E < 9) = false) := by
              by_cases h : m % 10 = 0
              · exact .inr ⟨by simpa using h, decide_eq_false fun h2 => hz ⟨h, h2⟩⟩
              · exact .inl ⟨by simpa using h, trivial⟩
            clear hz
            have ewn : IntKind.i64.wrap (-m) = -m := IntWalk.i64_in _ (by omega)
            cases be
            · obtain ⟨q0, q1, hb9⟩ := HE.out.give
              have HB9 := Lib.hid hb9; clear hb9
              have eV : V = (m, E) := hv.symm
              subst eV
              clear hv
              rcases hz2 with ⟨e5, -⟩ | ⟨e5, e6⟩
              all_goals (
                go_wp2
                exact bodyPost_ret (v := decV (m, E)) (by simp [results, Tryz.results80, go_sem, decV, *]) rfl ⟨rfl, HB9.out⟩)
            · have HE6 := HE.out.setM (-m)
              obtain ⟨q0, q1, hb9⟩ := HE6.give
              have HB9 := Lib.hid hb9; clear hb9 HE6
              have eV : V = (-m, E) := hv.symm
              subst eV
              clear hv
              rcases hz2 with ⟨e5, -⟩ | ⟨e5, e6⟩
              all_goals (
                go_wp2
                exact bodyPost_ret (v := decV (-m, E)) (by simp [results, Tryz.results80, go_sem, decV, *]) rfl ⟨rfl, HB9.out⟩)
end Go.Proofs.YtgnejohiagagmaaGreatDoor

namespace Tab
/-- a number's digits laid from a place on. -/
def ofF : Nat → Nat → Nat → (Nat → Int) → (Nat → Int)
  | 0, _, _, D => D
  | f + 1, n, k, D => if n = 0 then D else ofF f (n / 10) (k + 1) (updI D k ((n % 10 : Nat) : Int))
end Tab
namespace Go.Proofs.YtgnejohiagagmaaGreatDoor
open Go.RowKit Tab

/-- a number's cells. -/
def numL (be : Bool) (D : Nat → Int) (mo : Bool) : List Value := .bool be :: ((List.range 96).map (fun k => .int .i8 (D k)) ++ [.bool mo])
def numA (be : Bool) (D : Nat → Int) (mo : Bool) : Array Value := (numL be D mo).toArray
theorem numL_length (be : Bool) (D : Nat → Int) (mo : Bool) : (numL be D mo).length = 98 := by simp [numL]
theorem numA_num (be : Bool) (D : Nat → Int) (mo : Bool) : NumC (numA be D mo) be D mo := by
  refine ⟨by simp [numA, numL_length], rfl, fun k hk => ?_, ?_⟩
  · simp only [numA, numL, List.getElem?_toArray, Nat.add_comm 1 k, List.getElem?_cons_succ]
    rw [List.getElem?_append_left (by simpa using hk)]
    simp [hk]
  · simp only [numA, numL, List.getElem?_toArray]
    rw [show 97 = 96 + 1 by rfl, List.getElem?_cons_succ, List.getElem?_append_right (by simp)]
    simp
theorem NumC.eq {C : Array Value} {be mo : Bool} {D : Nat → Int} (h : NumC C be D mo) : C = numA be D mo := by
  have h2 := numA_num be D mo
  apply Array.ext_getElem?
  intro i
  rcases Nat.lt_or_ge i 98 with hi | hi
  · rcases i with _ | i
    · rw [h.below, h2.below]
    · by_cases e : i = 96
      · subst e; rw [h.more, h2.more]
      · rw [Nat.add_comm i 1, h.digit i (by omega), h2.digit i (by omega)]
  · rw [Array.getElem?_eq_none (by rw [h.size]; exact hi), Array.getElem?_eq_none (by rw [h2.size]; exact hi)]
theorem numL_one (be : Bool) (D : Nat → Int) (mo : Bool) : ∀ v ∈ numL be D mo, v.oneCell' = true := by
  intro v hv
  simp only [numL, List.mem_cons, List.mem_append, List.mem_map, List.not_mem_nil, or_false] at hv
  rcases hv with rfl | ⟨k, -, rfl⟩ | rfl <;> rfl
theorem store_blk {P : Program} (w : World) (b : Nat) (old : Array Value) (hb : Blk w b old) (vs : List Value) (hl : vs.length = old.size) (h1 : ∀ v ∈ vs, v.oneCell' = true) :
    (storeCells ⟨b, 0, none⟩ vs).run P w = .ok () (w.setRow b vs.toArray) := by
  obtain ⟨T, h⟩ := hb
  have := run_storeCells_from (P := P) b T vs 0 old w h (by omega) h1
  simpa using this
theorem Blk.setRow {w : World} {b : Nat} {C D : Array Value} (h : Blk w b C) : Blk (w.setRow b D) b D := by
  obtain ⟨T, h⟩ := h
  exact ⟨T, setRow_heap w b C D T (0, 0) h⟩
theorem Blk.otherRow {w : World} {b c : Nat} {C D : Array Value} (h : Blk w b C) (hc : c ≠ b) : Blk (w.setRow c D) b C := by
  obtain ⟨T, h⟩ := h
  exact ⟨T, (setRow_other w c b D (Ne.symm hc)).trans h⟩
theorem setRowB {N : Nat} {w W : World} {b : Nat} {D : Array Value} (h : Below N w W) (hb : N ≤ b) : Below N w (W.setRow b D) :=
  ⟨h.os, h.tape, h.output, by rw [setRow_size]; exact h.size, fun k hk => (setRow_other W b k D (by omega)).trans (h.block k hk)⟩
theorem load_blk {P : Program} (w : World) (b : Nat) (C : Array Value) (hb : Blk w b C) : (loadCells ⟨b, 0, none⟩ C.size).run P w = .ok C w := by
  have := run_loadCells_list (P := P) w ⟨b, 0, none⟩ C.toList (fun j v hv => by rw [Addr.add_mid, Nat.zero_add, hb.facts.1]; simpa using hv)
  simpa using this
theorem zeros_numC (be : Bool) : NumC (Tryz.zeroCells77.setIfInBounds 0 (.bool be)) be (fun _ => 0) false := by
  have e : Tryz.zeroCells77.setIfInBounds 0 (.bool be) = numA be (fun _ => 0) false := by kernel_rfl
  rw [e]; exact numA_num _ _ _

theorem infoNum : (Tryz.prog.info? 77).map (·.size) = some 98 := by kernel_rfl
theorem numA_size (be : Bool) (D : Nat → Int) (mo : Bool) : (numA be D mo).size = 98 := by simp [numA, numL_length]

set_option maxRecDepth 100000 in
set_option maxHeartbeats 2000000 in
theorem decAbs_any (n : Int) (hn : -9000000000000000000 ≤ n ∧ n ≤ 9000000000000000000) (w : World) : Calls Tryz.prog 82 #[.int .i64 n] w (Still (.int .u64 (n.natAbs : Int)) w) := by
  by_cases h : n < 0
  · have e1 : decide (n < 0) = true := decide_eq_true h
    have e2 : IntKind.u64.wrap (-(IntKind.u64.wrap n)) = (n.natAbs : Int) := by
      rw [IntKind.wrap_u64, IntKind.wrap_u64]; omega
    go_enter Tryz.func82, Tryz.ntmps82
    go_wp2
    go_ret; exact Still.mk' (by simp)
  · have e1 : decide (n < 0) = false := decide_eq_false h
    have e2 : IntKind.u64.wrap n = (n.natAbs : Int) := by
      rw [IntKind.wrap_u64]; omega
    go_enter Tryz.func82, Tryz.ntmps82
    go_wp2
    go_ret; exact Still.mk' (by simp)

set_option maxRecDepth 100000 in
set_option maxHeartbeats 2000000 in
theorem div64_any (n : Nat) (hn : n < 1000000000000000) (w : World) : Calls Tryz.prog 130 #[.int .u64 0, .int .u64 (n : Int), .int .u64 10] w (Ret (.tuple #[.int .u64 ((n / 10 : Nat) : Int), .int .u64 ((n % 10 : Nat) : Int)]) w) := by
  go_enter Tryz.func130, Tryz.ntmps130
  go_upto_region 6 with (fail)
  refine region_below (by kernel_rfl) (by kernel_rfl) ?_
  repeat (quiet_step (fail))
  refine wpQuiet_nil ?_
  intro w2 hb2
  go_wp2
  go_ret2; exact Ret.mk2 (by simp; rw [IntKind.wrap_u64]; omega) rfl hb2

/-- of's two blocks. -/
structure OfK (w w' : World) (be : Bool) (D : Nat → Int) : Prop where
  kr : ∃ C, Blk w' w.heap.size C ∧ C.size = 98
  ka : ∃ C, Blk w' (w.heap.size + 1) C ∧ NumC C be D false
  be : Below w.heap.size w w'
theorem OfK.set {w w' : World} {be : Bool} {D : Nat → Int} (h : OfK w w' be D) (i : Nat) (hi : i < 96) (v : Int) : OfK w (w'.setCell ⟨w.heap.size + 1, 1 + i, none⟩ (.int .i8 v)) be (updI D i v) := by
  obtain ⟨C, k1, k2⟩ := h.kr
  obtain ⟨C', k3, k4⟩ := h.ka
  exact ⟨⟨C, k1.other (by omega), k2⟩, ⟨_, k3.set, k4.set i hi v⟩, h.be.setCell (Nat.le_succ _) _⟩
theorem OfK.below {w w' w2 : World} {be : Bool} {D : Nat → Int} (h : OfK w w' be D) (h2 : Below w'.heap.size w' w2) : OfK w w2 be D := by
  obtain ⟨C, k1, k2⟩ := h.kr
  obtain ⟨C', k3, k4⟩ := h.ka
  exact ⟨⟨C, k1.below h2, k2⟩, ⟨_, k3.below h2, k4⟩, after h.be h2⟩

set_option maxRecDepth 100000 in
set_option maxHeartbeats 4000000 in
theorem decOf_any (be : Bool) (n : Nat) (k : Nat) (hn : n < 1000000000000000) (hk : k ≤ 60) (w : World) :
    Calls Tryz.prog 81 #[.bool be, .int .u64 0, .int .u64 n, .int .i64 ((k : Int) - 48)] w (Ret (.agg (numA be (ofF 15 n k fun _ => 0) false)) w) := by
  obtain ⟨V, hV⟩ : ∃ V, (ofF 15 n k fun _ => 0) = V := ⟨_, rfl⟩
  rw [hV]
  have hs0 : Tryz.zeroCells77.size = 98 := by kernel_rfl
  have hZ : numA be (fun _ => 0) false = Tryz.zeroCells77.setIfInBounds 0 (.bool be) := by kernel_rfl
  have hL : (Tryz.zeroCells77.toList.set 0 (.bool be)) = numL be (fun _ => 0) false := by kernel_rfl
  have hst : (storeCells ⟨w.heap.size + 1, 0, none⟩ (Tryz.zeroCells77.toList.set 0 (.bool be))).run Tryz.prog ((w.alloc (Obj.cells Tryz.zeroCells77 77)).alloc (Obj.cells Tryz.zeroCells77 77)) = .ok () (((w.alloc (Obj.cells Tryz.zeroCells77 77)).alloc (Obj.cells Tryz.zeroCells77 77)).setRow (w.heap.size + 1) (numA be (fun _ => 0) false)) := by
    rw [hL]
    exact store_blk _ _ _ (Blk.new (by simp)) _ (by rw [numL_length, hs0]) (numL_one _ _ _)
  have hk0 : OfK w (((w.alloc (Obj.cells Tryz.zeroCells77 77)).alloc (Obj.cells Tryz.zeroCells77 77)).setRow (w.heap.size + 1) (numA be (fun _ => 0) false)) be (fun _ => 0) :=
    ⟨⟨_, ((Blk.new rfl).alloc).otherRow (by omega), hs0⟩, ⟨_, (Blk.new (by simp)).setRow, numA_num _ _ _⟩, setRowB (allocB (allocB (Below.refl _ _))) (Nat.le_succ _)⟩
  generalize hW : ((w.alloc (Obj.cells Tryz.zeroCells77 77)).alloc (Obj.cells Tryz.zeroCells77 77)).setRow (w.heap.size + 1) (numA be (fun _ => 0) false) = W1 at *
  have HK := Lib.hid hk0
  have HV := Lib.hid hV
  have HN := Lib.hid hn
  clear hk0 hW hZ hL hs0 hV hn
  go_enter Tryz.func81, Tryz.ntmps81
  go_wp2_with (simp only [hst])
  clear hst
  go_loopw [10, 2, 1] (fun i l h w' => ∃ (f m j : Nat) (D : Nat → Int), i = .int .i64 j ∧ l = .int .u64 m ∧ h = .int .u64 0 ∧ j + f ≤ 75 ∧ Hid (ofF f m j D = V ∧ m < 10 ^ f ∧ m < 1000000000000000) ∧ Hid (OfK w w' be D)) (fun _ l _ _ => (intOf l).toNat)
  case atStart => exact ⟨15, n, k, _, by rw [show (48 : Int) + ((k : Int) - 48) = k by omega], rfl, rfl, by omega, Lib.hid ⟨HV.out, by have := HN.out; simpa using this, HN.out⟩, HK⟩
  case round =>
    clear HK HV HN
    obtain ⟨f, m, j, D, rfl, rfl, rfl, hj, HV, HK⟩ := hrel
    by_cases h0 : m = 0
    · subst h0
      have hv : D = V := by
        have := HV.out.1
        cases f with
        | zero => exact this
        | succ f => rw [ofF, if_pos rfl] at this; exact this
      subst hv
      obtain ⟨C, k1, s1⟩ := HK.out.kr
      obtain ⟨C2, k2, n2⟩ := HK.out.ka
      have hC2 := n2.eq
      subst hC2
      have hld := k2
      obtain ⟨T2, hT2⟩ := k2
      obtain ⟨T1, hT1⟩ := k1
      have K1 := Lib.hid hT1
      have K2 := Lib.hid hT2
      have S1 := Lib.hid s1
      clear hT1 hT2 s1 n2 hld
      have HR : Hid (Blk (wr.setRow w.heap.size (numA be D false)) w.heap.size (numA be D false) ∧ Below w.heap.size w (wr.setRow w.heap.size (numA be D false))) := Lib.hid ⟨Blk.setRow ⟨_, K1.out⟩, setRowB HK.out.be (Nat.le_refl _)⟩
      have HS : Hid ((storeCells ⟨w.heap.size, 0, none⟩ (numA be D false).toList).run Tryz.prog wr = .ok () (wr.setRow w.heap.size (numA be D false))) := Lib.hid (by
        have := store_blk (P := Tryz.prog) wr w.heap.size C ⟨T1, K1.out⟩ (numL be D false) (by rw [numL_length, S1.out]) (numL_one _ _ _)
        simpa [numA] using this)
      have hsz := numA_size be D false
      go_wp2_with fail
      refine wp_load_row 77 _ rfl (w.heap.size + 1) rfl T2 (numA be D false) (0, 0) _ K2.out Tryz.underlying77 rfl (by rw [hsz]; exact infoNum) ?_
      go_wp2_with (simp only [HS.out])
      obtain ⟨⟨T3, hT3⟩, hb3⟩ := HR.out
      exact bodyPost_ret (results_cell_row rfl _ _ w.heap.size T3 (numA be D false) (0, 0) _ rfl hT3 Tryz.underlying77 rfl (by rw [hsz]; exact infoNum)) rfl ⟨rfl, hb3⟩
    · have e2 : ((m : Int) != 0) = true := by rw [bne_iff_ne]; omega
      have cD := fun W => div64_any m HV.out.2.2 W
      obtain ⟨f, rfl⟩ : ∃ g, f = g + 1 := by
        cases f with
        | zero => have := HV.out.2.1; simp at this; omega
        | succ f => exact ⟨f, rfl⟩
      have hV2 : ofF f (m / 10) (j + 1) (updI D j ((m % 10 : Nat) : Int)) = V ∧ m / 10 < 10 ^ f ∧ m / 10 < 1000000000000000 := by
        obtain ⟨a, b, c⟩ := HV.out
        rw [ofF, if_neg h0] at a
        exact ⟨a, by rw [Nat.pow_succ] at b; omega, by omega⟩
      have HV2 := Lib.hid hV2
      clear hV2 HV
      have ew : IntKind.i8.wrap ((m % 10 : Nat) : Int) = ((m % 10 : Nat) : Int) := IntWalk.i8_in _ (by omega)
      have i1 : (j : Int) < 96 := by omega
      go_wp2_with (go_at_call 130; refine (cD _).mono ?_; rintro e w1 ⟨rfl, hb1⟩; have HK1 := Lib.hid (HK.out.below hb1); obtain ⟨C2, k2, n2⟩ := HK1.out.ka; have hd := (k2.facts.1 (1 + j)).trans (n2.digit j (by omega)); obtain ⟨-, g2, z2⟩ := k2.facts; clear k2 n2)
      go_round
      case rel => exact ⟨f, m / 10, j + 1, _, by go_num, by simp, rfl, by omega, HV2, Lib.hid (HK1.out.set j (by omega) _)⟩
      case measure => simp [intOf]; omega
end Go.Proofs.YtgnejohiagagmaaGreatDoor
