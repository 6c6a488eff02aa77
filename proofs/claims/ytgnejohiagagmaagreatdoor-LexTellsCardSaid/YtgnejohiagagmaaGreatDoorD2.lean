/- The walks of dec's lay, figures. The walk of dec's nearest. What dec.Read tells, as a function of the text. -/
import Derived.Test.YtgnejohiagagmaaGreatDoorD1
import Derived.Test.YtgnejohiagagmaaGreatDoorShelf
import Derived.DeepKeys
import Derived.ChangeKeysEq
import Derived.Lib.IndexMore
namespace Tab
def digB (b : UInt8) : Bool := decide (48 ≤ b.toNat ∧ b.toNat ≤ 57)
/-- whether a text is digits, some, not too many. -/
def figD (l : Bs) : Bool := decide (1 ≤ l.length) && (decide (l.length ≤ 40) && l.all digB)
abbrev tens : Bs := [48, 49, 50, 51, 52, 53, 54, 55, 56, 57]
theorem tens_has (b : UInt8) : tens.contains b = digB b := by
  rw [Bool.eq_iff_iff, List.contains_iff_mem, digB, decide_eq_true_iff]
  have h : ∀ c : UInt8, b = c ↔ b.toNat = c.toNat := fun c => ⟨fun e => e ▸ rfl, fun e => UInt8.toNat_inj.1 e⟩
  simp only [List.mem_cons, List.not_mem_nil, or_false, h]
  simp only [UInt8.reduceToNat]
  omega
theorem dropWhile_nil {α : Type} (p : α → Bool) : ∀ l : List α, l.dropWhile p = [] ↔ ∀ x ∈ l, p x = true
  | [] => by simp
  | a :: l => by
    have := dropWhile_nil p l
    by_cases h : p a = true
    · rw [List.dropWhile_cons, if_pos h]; simp [h, this]
    · rw [List.dropWhile_cons, if_neg h]; simp [h]
theorem dropWhile_head {α : Type} (p : α → Bool) (b : α) (r : List α) : ∀ l : List α, l.dropWhile p = b :: r → p b = false
  | [] => by simp
  | a :: l => by
    have := dropWhile_head p b r l
    by_cases h : p a = true
    · rw [List.dropWhile_cons, if_pos h]; exact this
    · rw [List.dropWhile_cons, if_neg h]; rintro ⟨rfl, rfl⟩; simpa using h
theorem trimS_nil (l : Bs) : (Go.Lib.trimS l tens == []) = l.all digB := by
  have e : (fun b => tens.contains b) = digB := funext tens_has
  unfold Go.Lib.trimS Go.Lib.trimLeftS Go.Lib.trimRightS
  rw [e, Bool.eq_iff_iff, beq_iff_eq, dropWhile_nil, List.all_eq_true]
  constructor
  · intro h
    rcases hr : l.reverse.dropWhile digB with _ | ⟨b, r⟩
    · rw [dropWhile_nil] at hr
      intro x hx; exact hr x (by simpa using hx)
    · exfalso
      have h1 := h b (by rw [hr]; simp)
      have h2 := dropWhile_head digB b r _ hr
      rw [h1] at h2; cases h2
  · intro h
    have : l.reverse.dropWhile digB = [] := by rw [dropWhile_nil]; intro x hx; exact h x (by simpa using hx)
    rw [this]; simp
end Tab
namespace Go.Proofs.YtgnejohiagagmaaGreatDoor
open Go.RowKit Tab

theorem Still.toRet {v : Value} {w : World} {e : Ending} {w' : World} (h : Still v w e w') : Ret v w e w' := h.ret

/-- a decimal's number. -/
def layA (p : Int × Int) : Array Value := numA (decide (p.1 < 0)) (ofF 15 p.1.natAbs (48 + p.2).toNat fun _ => 0) false

set_option maxRecDepth 100000 in
set_option maxHeartbeats 4000000 in
theorem decLay_any (p : Int × Int) (h1 : -1000000000000000 < p.1) (h2 : p.1 < 1000000000000000) (h3 : -9 ≤ p.2) (h4 : p.2 ≤ 9) (w : World) :
    Calls Tryz.prog 45 #[decV p] w (Ret (.agg (layA p)) w) := by
  obtain ⟨M, E⟩ := p
  dsimp only at h1 h2 h3 h4
  unfold decV layA
  dsimp only
  obtain ⟨k, hk⟩ : ∃ k, (48 + E).toNat = k := ⟨_, rfl⟩
  obtain ⟨n, hn⟩ : ∃ n, M.natAbs = n := ⟨_, rfl⟩
  rw [hk, hn]
  have hE : E = (k : Int) - 48 := by omega
  have cA := fun W => decAbs_any M (by omega) W
  have cO := fun W => decOf_any (decide (M < 0)) n k (by omega) (by omega) W
  rw [hn] at cA
  rw [← hE] at cO
  obtain ⟨be, hbe⟩ : ∃ be, decide (M < 0) = be := ⟨_, rfl⟩
  rw [hbe]
  rw [hbe] at cO
  clear hn hE hk h1 h2 h3 h4
  have cA2 : ∀ W, Calls Tryz.prog 82 #[.int .i64 M] W (Ret (.int .u64 (n : Int)) W) := fun W => (cA W).mono fun _ _ h => h.ret
  clear cA
  generalize hX : numA be (ofF 15 n k fun x => 0) false = X at *
  have hXs : X.size = 98 := by rw [← hX]; exact numA_size _ _ _
  have hs0 : Tryz.zeroCells77.size = 98 := by kernel_rfl
  have hst : ∀ W, Blk W (w.heap.size + 1) Tryz.zeroCells77 → (storeCells ⟨w.heap.size + 1, 0, none⟩ X.toList).run Tryz.prog W = .ok () (W.setRow (w.heap.size + 1) X) := fun W hb => by
    have := store_blk (P := Tryz.prog) W (w.heap.size + 1) _ hb X.toList (by rw [hs0]; simpa using hXs) (by rw [← hX]; exact numL_one _ _ _)
    simpa using this
  have HST := Lib.hid hst
  clear hst hs0 hX
  go_enter Tryz.func45, Tryz.ntmps45
  go_upto_region 1 with (fail)
  refine wp_abs2 (fun w1 => Below w.heap.size w w1 ∧ Blk w1 w.heap.size #[.int .i64 M, .int .i64 E] ∧ Blk w1 (w.heap.size + 1) Tryz.zeroCells77) ⟨(by repeat' (first | exact Below.refl _ _ | refine allocB ?_)), (Blk.new rfl).alloc, Blk.new (by simp)⟩ ?_
  rintro w1 ⟨hb1, k1, k2⟩
  obtain ⟨f1, g1, z1⟩ := k1.facts
  have z2 := k2.facts.2.2
  have c0 := f1 0
  have c1 := f1 1
  clear f1
  simp only [List.getElem?_toArray, List.getElem?_cons_zero, List.getElem?_cons_succ] at c0 c1
  have kc := gcell w1
  refine region_below_tail 9 (by kernel_rfl) (by kernel_rfl) ?_
  simp only [List.take_succ_cons, List.take_zero, List.drop_succ_cons, List.drop_zero]
  repeat (quiet_step (first | exact Ret.grown (fun W _ => cA2 W) | exact Ret.grown (fun W _ => cO W)))
  refine wpQuiet_nil ?_
  clear kc c0 c1 g1
  intro w2 hb2
  have k3 := k2.below hb2
  have HST2 := Lib.hid (HST.out w2 k3)
  have hb3 : Below w.heap.size w (w2.setRow (w.heap.size + 1) X) := setRowB (after hb1 hb2) (Nat.le_succ _)
  obtain ⟨T, hT⟩ := k3.setRow (D := X)
  have HT := Lib.hid hT
  have HB3 := Lib.hid hb3
  clear hT hb3 k3 hb2 k1 k2 hb1 z1 z2 HST
  go_wp2_with (simp only [HST2.out])
  exact bodyPost_ret (results_cell_row rfl _ _ (w.heap.size + 1) T X (0, 0) _ rfl HT.out Tryz.underlying77 rfl (by rw [hXs]; exact infoNum)) rfl ⟨rfl, HB3.out⟩

set_option maxRecDepth 100000 in
set_option maxHeartbeats 4000000 in
theorem figures_any (s : ByteArray) (hs : s.size ≤ 1000000) (w : World) : Calls Tryz.prog 43 #[.string s] w (Ret (.bool (figD s.data.toList)) w) := by
  have cT := Tryz.strings_Trim s ⟨#[48, 49, 50, 51, 52, 53, 54, 55, 56, 57]⟩ w (by omega) (by decide) (ascii_of_all (by decide))
  have hn := trimS_nil s.data.toList
  unfold figD
  rw [← hn, ba_size]
  clear hn
  have ht : (⟨#[48, 49, 50, 51, 52, 53, 54, 55, 56, 57]⟩ : ByteArray).data.toList = tens := rfl
  rw [ht] at cT
  clear ht
  generalize Lib.trimS s.data.toList tens = U at *
  have CT := Lib.hid cT
  clear cT
  by_cases h1 : 1 ≤ s.size
  · have e1 : decide (1 ≤ (s.size : Int)) = true := decide_eq_true (by omega)
    rw [decide_eq_true h1]
    by_cases h2 : s.size ≤ 40
    · have e2 : decide ((s.size : Int) ≤ 40) = true := decide_eq_true (by omega)
      rw [decide_eq_true h2]
      cases h3 : (U == [])
      all_goals (
        go_enter Tryz.func43, Tryz.ntmps43
        go_wp2_with (go_at_call 76; refine CT.out.mono ?_; rintro e' w1 ⟨rfl, hb⟩)
        go_ret; exact Ret.mk' rfl hb)
    · have e2 : decide ((s.size : Int) ≤ 40) = false := decide_eq_false (by omega)
      rw [decide_eq_false h2]
      clear h2
      go_enter Tryz.func43, Tryz.ntmps43
      go_wp2
      go_ret; exact Ret.mk' rfl (Below.refl _ _)
  · have e1 : decide (1 ≤ (s.size : Int)) = false := decide_eq_false (by omega)
    rw [decide_eq_false h1]
    clear h1
    go_enter Tryz.func43, Tryz.ntmps43
    go_wp2
    go_ret; exact Ret.mk' rfl (Below.refl _ _)
end Go.Proofs.YtgnejohiagagmaaGreatDoor

namespace Tab
def rndB (D : Nat → Int) (k : Nat) : Bool := (restF D false (k - 1) == 1) || ((restF D false (k - 1) == 0) && (D k % 2 == 1))
def nearAt (D : Nat → Int) (be : Bool) (k : Nat) : Option (Int × Int) :=
  if topF (cutF D k (rndB D k)) 96 < k + 15 then some (exactF (cutF D k (rndB D k)) be (topF (cutF D k (rndB D k)) 96) k) else none
def nearF (D : Nat → Int) (be : Bool) : Nat → Nat → Option (Int × Int)
  | 0, _ => none
  | f + 1, k => match nearAt D be k with
    | some p => some p
    | none => nearF D be f (k + 1)
theorem upF_rng : ∀ (n i : Nat) (D : Nat → Int), (∀ j, j < 96 → 0 ≤ D j ∧ D j ≤ 9) → ∀ j, j < 96 → 0 ≤ upF n i D j ∧ upF n i D j ≤ 9
  | 0, _, _, h => h
  | n + 1, i, D, h => by
    unfold upF
    by_cases h9 : D i + 1 < 10
    · rw [if_pos h9]
      intro j hj
      unfold updI
      by_cases e : j = i
      · subst e; rw [if_pos rfl]; have := h j hj; omega
      · rw [if_neg e]; exact h j hj
    · rw [if_neg h9]
      refine upF_rng n (i + 1) _ fun j hj => ?_
      unfold updI
      by_cases e : j = i
      · rw [if_pos e]; omega
      · rw [if_neg e]; exact h j hj
theorem cutF_rng (D : Nat → Int) (k : Nat) (up : Bool) (h : ∀ j, j < 96 → 0 ≤ D j ∧ D j ≤ 9) : ∀ j, j < 96 → 0 ≤ cutF D k up j ∧ cutF D k up j ≤ 9 := by
  have hl : ∀ j, j < 96 → 0 ≤ lowF D k j ∧ lowF D k j ≤ 9 := fun j hj => by
    unfold lowF
    by_cases e : j < k
    · rw [if_pos e]; omega
    · rw [if_neg e]; exact h j hj
  unfold cutF
  cases up
  · exact hl
  · exact upF_rng _ _ _ hl
theorem topF_rng (D : Nat → Int) : ∀ n : Nat, -1 ≤ topF D n ∧ topF D n < n
  | 0 => by simp [topF]
  | n + 1 => by
    have := topF_rng D n
    unfold topF
    by_cases e : D n ≠ 0
    · rw [if_pos e]; omega
    · rw [if_neg e]; omega
end Tab
namespace Go.Proofs.YtgnejohiagagmaaGreatDoor
open Go.RowKit Tab

theorem Blk.belowN {w w1 : World} {b n : Nat} {C : Array Value} (h : Blk w b C) (hb : Below n w w1) (hn : b < n) : Blk w1 b C := by
  obtain ⟨T, h⟩ := h
  exact ⟨T, (hb.block b hn).trans h⟩
/-- rest at a place that is a number. -/
theorem decRest_k (b : Nat) (C : Array Value) (be : Bool) (D : Nat → Int) (hC : NumC C be D false) (k : Nat) (hk0 : 0 < k) (hk : k < 95) (w : World) (hb : Blk w b C) : Calls Tryz.prog 77 #[.pointer (some ⟨b, 0, none⟩), .int .i64 (k : Int)] w (Still (.int .i64 (restF D false (k - 1))) w) := by
  have := decRest_any b C be D false hC (k - 1) (by omega) w hb
  rwa [show k - 1 + 1 = k by omega] at this
theorem nearF_step (D : Nat → Int) (be : Bool) (f k : Nat) (up : Bool) (h : rndB D k = up) (V : Option (Int × Int)) (hV : nearF D be (f + 1) k = V) :
    if topF (cutF D k up) 96 < k + 15 then V = some (exactF (cutF D k up) be (topF (cutF D k up) 96) k) else nearF D be f (k + 1) = V := by
  rw [nearF, nearAt, h] at hV
  by_cases e : topF (cutF D k up) 96 < k + 15
  · rw [if_pos e] at hV ⊢; exact hV.symm
  · rw [if_neg e] at hV ⊢; exact hV
theorem near_after {C : Array Value} {be up : Bool} {D : Nat → Int} {k f : Nat} {V : Option (Int × Int)} (hn : NumC C be (cutF D k up) false) (hu : rndB D k = up) (hD : DigOk D) (hV : nearF D be (f + 1) k = V) :
    ∃ D', NumC C be D' false ∧ (∀ j, j < 96 → 0 ≤ D' j ∧ D' j ≤ 9) ∧ (if topF D' 96 < k + 15 then V = some (exactF D' be (topF D' 96) k) else nearF D be f (k + 1) = V) :=
  ⟨_, hn, cutF_rng D k up fun j hj => ⟨hD.lo j hj, hD.hi j hj⟩, nearF_step D be f k up hu V hV⟩
/-- what nearest gives. -/
def nearV : Option (Int × Int) → Value
  | some p => .tuple #[decV p, .int .i64 0]
  | none => .tuple #[decV (0, 0), .int .i64 10]
/-- nearest's blocks. -/
structure NearK (w w' : World) (be : Bool) (D : Nat → Int) : Prop where
  kx : Blk w' w.heap.size (numA be D false)
  kr : Blk w' (w.heap.size + 1) #[.int .i64 0, .int .i64 0]
  be : Below w.heap.size w w'
theorem NearK.below {w w' w2 : World} {be : Bool} {D : Nat → Int} {n : Nat} (h : NearK w w' be D) (hb : Below n w' w2) (hn : w.heap.size + 2 ≤ n) : NearK w w2 be D :=
  ⟨h.kx.belowN hb (by omega), h.kr.belowN hb (by omega), h.be.trans (hb.mono (by omega))⟩
theorem NearK.give {w w' : World} {be : Bool} {D : Nat → Int} (h : NearK w w' be D) (M E : Int) :
    ((w'.setCell ⟨w.heap.size + 1, 0, none⟩ (.int .i64 M)).setCell ⟨w.heap.size + 1, 1, none⟩ (.int .i64 E)).cell? ⟨w.heap.size + 1, 0, none⟩ = some (.int .i64 M) ∧
    ((w'.setCell ⟨w.heap.size + 1, 0, none⟩ (.int .i64 M)).setCell ⟨w.heap.size + 1, 1, none⟩ (.int .i64 E)).cell? ⟨w.heap.size + 1, 1, none⟩ = some (.int .i64 E) ∧
    Below w.heap.size w ((w'.setCell ⟨w.heap.size + 1, 0, none⟩ (.int .i64 M)).setCell ⟨w.heap.size + 1, 1, none⟩ (.int .i64 E)) := by
  have k9 : Blk ((w'.setCell ⟨w.heap.size + 1, 0, none⟩ (.int .i64 M)).setCell ⟨w.heap.size + 1, 1, none⟩ (.int .i64 E)) (w.heap.size + 1) _ := h.kr.set.set
  have q0 := k9.facts.1 0
  have q1 := k9.facts.1 1
  simp only [List.setIfInBounds_toArray, List.set_cons_zero, List.set_cons_succ, List.getElem?_toArray, List.getElem?_cons_zero, List.getElem?_cons_succ] at q0 q1
  exact ⟨q0, q1, (h.be.setCell (Nat.le_succ _) _).setCell (Nat.le_succ _) _⟩
theorem NearK.cells {w w' : World} {be : Bool} {D : Nat → Int} (h : NearK w w' be D) :
    w'.cell? ⟨w.heap.size + 1, 0, none⟩ = some (.int .i64 0) ∧ w'.cell? ⟨w.heap.size + 1, 1, none⟩ = some (.int .i64 0) ∧ (∀ o, w'.frozen? ⟨w.heap.size + 1, o, none⟩ = false) ∧ w.heap.size + 1 < w'.heap.size := by
  obtain ⟨f, g, z⟩ := h.kr.facts
  exact ⟨f 0, f 1, g, z⟩

set_option maxRecDepth 100000 in
set_option maxHeartbeats 8000000 in
theorem decNearest_any (be : Bool) (D : Nat → Int) (hD : DigOk D) (w : World) :
    Calls Tryz.prog 44 #[.agg (numA be D false)] w (Ret (nearV (nearF D be 19 39)) w) := by
  obtain ⟨V, hV⟩ : ∃ V, nearF D be 19 39 = V := ⟨_, rfl⟩
  rw [hV]
  have HV := Lib.hid hV; clear hV
  have OK := Lib.hid hD; clear hD
  have hsz := numA_size be D false
  have hs0 : Tryz.zeroCells77.size = 98 := by kernel_rfl
  have hst : ∀ W : World, (storeCells ⟨W.heap.size, 0, none⟩ (numA be D false).toList).run Tryz.prog (W.alloc (Obj.cells Tryz.zeroCells77 77)) = .ok () ((W.alloc (Obj.cells Tryz.zeroCells77 77)).setRow W.heap.size (numA be D false)) := fun W => by
    have := store_blk (P := Tryz.prog) (W.alloc (Obj.cells Tryz.zeroCells77 77)) W.heap.size _ (Blk.new rfl) (numL be D false) (by rw [numL_length, hs0]) (numL_one _ _ _)
    simpa [numA] using this
  have HST := Lib.hid hst
  clear hst hs0
  have hk0 : NearK w ((w.alloc (Obj.cells (numA be D false) 77)).alloc (Obj.cells #[.int .i64 0, .int .i64 0] 40)) be D :=
    ⟨(Blk.new rfl).alloc, Blk.new (by simp), allocB (allocB (Below.refl _ _))⟩
  have HK0 := Lib.hid hk0
  clear hk0
  go_enter Tryz.func44, Tryz.ntmps44
  go_wp2
  generalize ((w.alloc (Obj.cells (numA be D false) 77)).alloc (Obj.cells #[.int .i64 0, .int .i64 0] 40)) = w0 at *
  go_loopw [4] (fun i w' => ∃ f k : Nat, i = .int .i64 ((k : Int) - 48) ∧ k + f = 58 ∧ 39 ≤ k ∧ Hid (nearF D be f k = V) ∧ Hid (NearK w w' be D)) (fun i _ => (20 - intOf i).toNat)
  case atStart => exact ⟨19, 39, rfl, rfl, by omega, HV, HK0⟩
  case round =>
    clear HV HK0
    obtain ⟨f, k, rfl, hf, hk, HV, HK⟩ := hrel
    have e48 : (48 : Int) + ((k : Int) - 48) = (k : Int) := by omega
    cases f with
    | zero =>
      have e1 : decide ((k : Int) - 48 ≤ 9) = false := decide_eq_false (by omega)
      have hv : V = none := HV.out.symm
      subst hv
      obtain ⟨c0, c1, g1, z1⟩ := HK.out.cells
      obtain ⟨q0, q1, hb9⟩ := HK.out.give 0 0
      have HB9 := Lib.hid hb9
      clear HV hb9
      go_wp2
      exact bodyPost_ret (v := .tuple #[decV (0, 0), .int .i64 10]) (by simp [results, Tryz.results44, go_sem, decV, *]) rfl ⟨rfl, HB9.out⟩
    | succ f =>
      have e1 : decide ((k : Int) - 48 ≤ 9) = true := decide_eq_true (by omega)
      obtain ⟨T, hT⟩ := HK.out.kx
      have HT := Lib.hid hT
      clear hT
      have zr := HK.out.cells.2.2.2
      have kW : Hid (Blk ((wr.alloc (Obj.cells Tryz.zeroCells77 77)).setRow wr.heap.size (numA be D false)) wr.heap.size (numA be D false)) := Lib.hid (Blk.setRow (Blk.new rfl))
      have nW : Hid (NearK w ((wr.alloc (Obj.cells Tryz.zeroCells77 77)).setRow wr.heap.size (numA be D false)) be D) := Lib.hid (HK.out.below (n := wr.heap.size) (setRowB (allocB (Below.refl _ _)) (Nat.le_refl _)) (by omega))
      go_upto_region 5 with (fail)
      go_wp2_with fail
      refine wp_load_row 77 _ rfl w.heap.size rfl T (numA be D false) (0, 0) _ HT.out Tryz.underlying77 rfl (by rw [hsz]; exact infoNum) ?_
      go_wp2_with (simp only [HST.out])
      clear HST HT HK
      generalize (wr.alloc (Obj.cells Tryz.zeroCells77 77)).setRow wr.heap.size (numA be D false) = W at *
      generalize wr.heap.size = b at *
      refine (decRest_k b _ be D (numA_num _ _ _) k (by omega) (by omega) _ kW.out).mono ?_
      rintro e w1 ⟨rfl, rfl⟩
      have hd := (kW.out.facts.1 (1 + k)).trans ((numA_num be D false).digit k (by omega))
      obtain ⟨-, gb, zb⟩ := kW.out.facts
      have lo := OK.out.lo k (by omega)
      have hi := OK.out.hi k (by omega)
      have i1 : (k : Int) < 96 := by omega
      have i2 : (0 : Int) ≤ (k : Int) := by omega
      have i3 : ((k : Int)).toNat = k := by omega
      have hup : rndB D k = ((restF D false (k - 1) == 1) || ((restF D false (k - 1) == 0) && (D k % 2 == 1))) := rfl
      obtain ⟨R, hR⟩ : ∃ R, restF D false (k - 1) = R := ⟨_, rfl⟩
      rw [hR] at hup ⊢
      obtain ⟨A, eA⟩ : ∃ A, (R == 1) = A := ⟨_, rfl⟩
      obtain ⟨B, eB⟩ : ∃ B, (R == 0) = B := ⟨_, rfl⟩
      obtain ⟨Z, eZ⟩ : ∃ Z, (D k % 2 == 1) = Z := ⟨_, rfl⟩
      rw [eA, eB, eZ] at hup
      have HUP := Lib.hid hup
      clear hup hR
      cases A <;> cases B <;> cases Z
      all_goals (
        go_wp2_with fail
        refine (decCut_any b _ be D false (numA_num _ _ _) OK.out k (by omega) (by omega) _ _ kW.out).mono ?_
        rintro e w2 ⟨rfl, hb2, C2, k2, n2⟩
        have nW2 := Lib.hid (nW.out.below hb2 (by omega))
        obtain ⟨D', n3, rng, hst⟩ := near_after n2 HUP.out OK.out HV.out
        clear n2
        have RNG := Lib.hid rng
        have HST := Lib.hid hst
        have K2 := Lib.hid k2
        have N3 := Lib.hid n3
        clear rng hst k2 n3 hb2 kW nW hd gb zb
        go_wp2_with fail
        refine (top_any b C2 be D' false N3.out _ K2.out).mono ?_
        rintro e w3 ⟨rfl, rfl⟩
        have ht1 := (topF_rng D' 96).1
        have ht2 := (topF_rng D' 96).2
        obtain ⟨t, ht⟩ : ∃ t, topF D' 96 = t := ⟨_, rfl⟩
        have hst := HST.out
        rw [ht] at ht1 ht2 hst ⊢
        clear HST
        by_cases hlt : t < (k : Int) + 15
        · have e2 : decide (t < (k : Int) + 15) = true := decide_eq_true hlt
          rw [if_pos hlt] at hst
          subst hst
          clear ht
          go_wp2_with fail
          refine (decExact_any b C2 be D' false N3.out (fun j hj => (RNG.out j hj).1) (fun j hj => (RNG.out j hj).2) t k ht1 hlt hk (by omega) _ K2.out).mono ?_
          rintro e w4 ⟨rfl, hb4⟩
          have nW4 := nW2.out.below hb4 (by have := K2.out.facts.2.2; omega)
          obtain ⟨p, hp⟩ : ∃ p, exactF D' be t k = p := ⟨_, rfl⟩
          rw [hp]
          have HP := Lib.hid hp
          clear hp
          obtain ⟨M, E⟩ := p
          unfold decV
          dsimp only
          obtain ⟨c0, c1, g1, z1⟩ := nW4.cells
          obtain ⟨q0, q1, hb9⟩ := nW4.give M E
          have HB9 := Lib.hid hb9
          clear hb9 nW4 hb4
          go_wp2
          exact bodyPost_ret (v := .tuple #[decV (M, E), .int .i64 0]) (by simp [results, Tryz.results44, go_sem, decV, *]) rfl ⟨by rw [HP.out]; rfl, HB9.out⟩
        · have e2 : decide (t < (k : Int) + 15) = false := decide_eq_false hlt
          rw [if_neg hlt] at hst
          have HST := Lib.hid hst
          clear ht hst
          go_wp2
          go_round
          case rel => exact ⟨f, k + 1, by go_num, by omega, by omega, HST, nW2⟩
          case measure => simp [intOf]; omega)
end Go.Proofs.YtgnejohiagagmaaGreatDoor

namespace Tab
open Go Go.Lib
def wholeF (a : Bs) : Nat → (Nat → Int)
  | 0 => fun _ => 0
  | j + 1 => updI (wholeF a j) (48 + j) (((a.getD (a.length - 1 - j) 0).toNat : Int) - 48)
def partF (b : Bs) (D : Nat → Int) : Nat → (Nat → Int)
  | 0 => D
  | j + 1 => updI (partF b D j) (47 - j) (((b.getD j 0).toNat : Int) - 48)
def digF (a b : Bs) : Nat → Int := partF b (wholeF a a.length) b.length
def layD (p : Int × Int) : Nat → Int := ofF 15 p.1.natAbs (48 + p.2).toNat fun _ => 0
def sameF (D E : Nat → Int) : Bool := (List.range 96).all fun k => D k == E k
def decEnd (D : Nat → Int) : Option (Int × Int) → (Int × Int) × Int
  | none => ((0, 0), 10)
  | some p => if sameF (layD p) D then (p, 0) else ((0, 0), 10)
def formD (l : Bs) : Bool := figD (cut (trimPrefix l [45]) [46]).1 && (!(cut (trimPrefix l [45]) [46]).2.2 || figD (cut (trimPrefix l [45]) [46]).2.1)
/-- what dec.Read tells: a decimal, and an error's number. -/
def decReadD (l : Bs) : (Int × Int) × Int :=
  if formD l then decEnd (digF (cut (trimPrefix l [45]) [46]).1 (cut (trimPrefix l [45]) [46]).2.1) (nearF (digF (cut (trimPrefix l [45]) [46]).1 (cut (trimPrefix l [45]) [46]).2.1) (hasPrefix l [45]) 19 39)
  else ((0, 0), 12)
def decED (l : Bs) : Int := (decReadD l).2
theorem digB_rng {b : UInt8} (h : digB b = true) : 48 ≤ b.toNat ∧ b.toNat ≤ 57 := by simpa [digB] using h
theorem all_getD {l : Bs} (h : l.all digB = true) {j : Nat} (hj : j < l.length) : 48 ≤ (l.getD j 0).toNat ∧ (l.getD j 0).toNat ≤ 57 := by
  have : l.getD j 0 = l[j] := by simp [List.getD_eq_getElem?_getD, hj]
  rw [this]; exact digB_rng (List.all_eq_true.1 h _ (List.getElem_mem _))
theorem updI_ok {D : Nat → Int} {i : Nat} {v : Int} (h : (∀ k, k < 96 → 0 ≤ D k ∧ D k ≤ 9) ∧ ∀ k, 88 ≤ k → D k = 0) (hi : i < 88) (h0 : 0 ≤ v) (h9 : v ≤ 9) : (∀ k, k < 96 → 0 ≤ updI D i v k ∧ updI D i v k ≤ 9) ∧ ∀ k, 88 ≤ k → updI D i v k = 0 := by
  refine ⟨fun k hk => ?_, fun k hk => ?_⟩
  · unfold updI
    by_cases e : k = i
    · rw [if_pos e]; omega
    · rw [if_neg e]; exact h.1 k hk
  · unfold updI; rw [if_neg (by omega)]; exact h.2 k hk
theorem wholeF_ok (a : Bs) (ha : a.all digB = true) (hl : a.length ≤ 40) : ∀ j, j ≤ a.length → (∀ k, k < 96 → 0 ≤ wholeF a j k ∧ wholeF a j k ≤ 9) ∧ ∀ k, 88 ≤ k → wholeF a j k = 0
  | 0, _ => ⟨fun _ _ => by simp [wholeF], fun _ _ => rfl⟩
  | j + 1, h => by
    have := all_getD ha (j := a.length - 1 - j) (by omega)
    exact updI_ok (wholeF_ok a ha hl j (by omega)) (by omega) (by omega) (by omega)
theorem partF_ok (b : Bs) (D : Nat → Int) (hD : (∀ k, k < 96 → 0 ≤ D k ∧ D k ≤ 9) ∧ ∀ k, 88 ≤ k → D k = 0) (hb : b.all digB = true) (hl : b.length ≤ 40) : ∀ j, j ≤ b.length → (∀ k, k < 96 → 0 ≤ partF b D j k ∧ partF b D j k ≤ 9) ∧ ∀ k, 88 ≤ k → partF b D j k = 0
  | 0, _ => hD
  | j + 1, h => by
    have := all_getD hb (j := j) (by omega)
    exact updI_ok (partF_ok b D hD hb hl j (by omega)) (by omega) (by omega) (by omega)
theorem mantF_sml (D : Nat → Int) (k : Nat) (hD : ∀ j, j < 96 → 0 ≤ D j ∧ D j ≤ 9) : ∀ (n : Nat) (M : Int), k + n ≤ 96 → n ≤ 15 → Sml n M → Sml 0 (mantF D k n M)
  | 0, _, _, _, h => h
  | n + 1, M, hk, hn, h => mantF_sml D k hD n _ (by omega) (by omega) (h.step (by omega) (hD _ (by omega)).1 (hD _ (by omega)).2)
theorem stripF_rng : ∀ (f : Nat) (M E : Int), 0 ≤ M → E ≤ 9 → 0 ≤ (stripF f M E).1 ∧ (stripF f M E).1 ≤ M ∧ E ≤ (stripF f M E).2 ∧ (stripF f M E).2 ≤ 9
  | 0, M, E, h0, h9 => ⟨h0, Int.le_refl _, Int.le_refl _, h9⟩
  | f + 1, M, E, h0, h9 => by
    unfold stripF
    by_cases h : M % 10 = 0 ∧ E < 9
    · rw [if_pos h]
      have := stripF_rng f (M / 10) (E + 1) (by omega) (by omega)
      omega
    · rw [if_neg h]; exact ⟨h0, Int.le_refl _, Int.le_refl _, h9⟩
theorem exactF_rng (D : Nat → Int) (be : Bool) (t : Int) (k : Nat) (hD : ∀ j, j < 96 → 0 ≤ D j ∧ D j ≤ 9) (htk : t < k + 15) (hk0 : 39 ≤ k) (hk : k ≤ 57) :
    -1000000000000000 < (exactF D be t k).1 ∧ (exactF D be t k).1 < 1000000000000000 ∧ -9 ≤ (exactF D be t k).2 ∧ (exactF D be t k).2 ≤ 9 := by
  unfold exactF
  have hs := (mantF_sml D k hD (t + 1 - k).toNat 0 (by omega) (by omega) ⟨by omega, Int.pow_pos (by omega)⟩).le
  generalize mantF D k (t + 1 - k).toNat 0 = M at *
  by_cases h0 : M = 0
  · rw [if_pos h0]; decide
  · rw [if_neg h0]
    have := stripF_rng (57 - k) M (k - 48) hs.1 (by omega)
    unfold signF
    cases be <;> dsimp only <;> simp <;> omega
theorem cut_none (s p : Bs) (h : (cut s p).2.2 = false) : (cut s p).2.1 = [] := by
  unfold cut at *
  by_cases e : 0 ≤ index s p
  · rw [if_pos e] at h; cases h
  · rw [if_neg e]
end Tab
namespace Go.Proofs.YtgnejohiagagmaaGreatDoor
open Go.RowKit Tab

theorem nearF_rng (D : Nat → Int) (be : Bool) (hD : ∀ j, j < 96 → 0 ≤ D j ∧ D j ≤ 9) : ∀ (f k : Nat) (p : Int × Int), 39 ≤ k → k + f ≤ 58 → nearF D be f k = some p → -1000000000000000 < p.1 ∧ p.1 < 1000000000000000 ∧ -9 ≤ p.2 ∧ p.2 ≤ 9
  | 0, _, _, _, _, h => by cases h
  | f + 1, k, p, hk, hf, h => by
    have := nearF_step D be f k _ rfl _ h
    by_cases e : topF (cutF D k (rndB D k)) 96 < k + 15
    · rw [if_pos e] at this
      cases this
      exact exactF_rng _ be _ k (cutF_rng D k _ hD) e hk (by omega)
    · rw [if_neg e] at this
      exact nearF_rng D be hD f (k + 1) p (by omega) (by omega) this
/-- the digits alone. -/
def digL (D : Nat → Int) : List Value := (List.range 96).map fun k => .int .i8 (D k)
theorem numA_range {w : World} {b : Nat} {be mo : Bool} {D : Nat → Int} (h : Blk w b (numA be D mo)) : w.rangeAt b 1 (digL D) := fun j v hv => by
  have hj : j < 96 := by have := (List.getElem?_eq_some_iff.1 hv).1; simpa [digL] using this
  rw [h.facts.1, (numA_num be D mo).digit j hj, ← hv]
  simp [digL, hj]
theorem digs_items (d : Nat) (D E : Nat → Int) (w : World) : ∀ is : List Nat, (∀ i ∈ is, i < 96) → (Op.eqItems (d + 1) 74 (Tryz.prog.cellsOf 74) (digL D).toArray (digL E).toArray is).run Tryz.prog w = .ok (is.all fun k => D k == E k) w
  | [], _ => by simp [Op.eqItems]
  | i :: is, h => by
    have hi := h i (by simp)
    have ih := digs_items d D E w is fun j hj => h j (by simp [hj])
    have hc : Tryz.prog.cellsOf 74 = 1 := by kernel_rfl
    have hp : Tryz.prog.plainKey 74 = true := by kernel_rfl
    have p1 := run_part_plain (P := Tryz.prog) w hp (xs := (digL D).toArray) (off := i * 1) (v := .int .i8 (D i)) (by simp [digL, hi])
    have p2 := run_part_plain (P := Tryz.prog) w hp (xs := (digL E).toArray) (off := i * 1) (v := .int .i8 (E i)) (by simp [digL, hi])
    have p3 := run_equalIn_int (P := Tryz.prog) w d 74 .i8 .i8 (D i) (E i) Tryz.underlying74
    rw [hc] at ih ⊢
    simp only [Op.eqItems, Sem.run_bind, p1, p2, p3, Result.andThen_ok, List.all_cons]
    cases hde : (D i == E i)
    · simp
    · simpa using ih
theorem digs_equal (D E : Nat → Int) (w : World) : (Op.equal 75 (.agg (digL D).toArray) (.agg (digL E).toArray)).run Tryz.prog w = .ok (sameF D E) w := by
  obtain ⟨i, hi⟩ : ∃ i, Tryz.prog.info? 74 = some i := Option.isSome_iff_exists.1 (by kernel_rfl)
  have := run_equalIn_array (P := Tryz.prog) w 9999 (digL D).toArray (digL E).toArray Tryz.underlying75 hi
  exact this.trans (digs_items 9998 D E w (List.range 96) fun i hi => by simpa using hi)
end Go.Proofs.YtgnejohiagagmaaGreatDoor
