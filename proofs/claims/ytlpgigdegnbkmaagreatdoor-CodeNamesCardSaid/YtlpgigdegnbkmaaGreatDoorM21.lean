import Derived.Test.YtlpgigdegnbkmaaGreatDoorM20
set_option maxRecDepth 100000
set_option maxHeartbeats 8000000
namespace Go.Proofs.YtlpgigdegnbkmaaGreatDoor
open Go.RowKit Tab Tryz
theorem isNameS (s : Bs) (w : World) (hg : Good w) (hs : s.length <= 900000) : Calls prog 90 #[.string ⟨s.toArray⟩] w (Ret (.bool (isNameD s)) w) := isName_any ⟨s.toArray⟩ w hg (Nat.le_trans (show s.length <= 900000 from hs) (by decide))
theorem contS (s : Bs) (c : UInt8) (w : World) (hg : Good w) (hs : s.length <= 900000) : Calls prog 138 #[.string ⟨s.toArray⟩, .string ⟨#[c]⟩] w (Still (.bool (Lib.contains s [c])) w) := (Tryz.strings_Contains_shaped ⟨s.toArray⟩ ⟨#[c]⟩ w hg.shaped (Nat.lt_of_le_of_lt (show s.length <= 900000 from hs) (by decide))).mono fun e w' h => ⟨h.1, h.2.symm⟩
theorem empty_is (l : Bs) : (l == []) = l.isEmpty := by cases l <;> rfl
theorem column_any' (s : Bs) (w : World) (hg : Good w) (hs : s.length <= 900000) : Calls prog 91 #[.string ⟨s.toArray⟩] w (Ret (.bool (columnD' s)) w) := by
 have c1 := cut_any s 91 w hg (by omega)
 have l1 := cut_lens s [91]
 unfold columnD'
 obtain ⟨T, R, h1, hT⟩ : ∃ T R h1, Lib.cut s [91] = (T, R, h1) := ⟨_, _, _, rfl⟩
 rw [hT] at c1 l1 ⊢
 dsimp only at c1 l1 ⊢
 have c2 := fun W (h : Below w.heap.size w W) => cut_any R 93 W (hg.below h) (by omega)
 have l2 := cut_lens R [93]
 obtain ⟨Nm, E, h2, hN⟩ : ∃ Nm E h2, Lib.cut R [93] = (Nm, E, h2) := ⟨_, _, _, rfl⟩
 rw [hN] at c2 l2 ⊢
 dsimp only at c2 l2 ⊢
 have c3 := fun W (h : Below w.heap.size w W) => isNameS T W (hg.below h) (by omega)
 have c4 := fun W (h : Below w.heap.size w W) => contS Nm 91 W (hg.below h) (by omega)
 have c5 := fun W (h : Below w.heap.size w W) => ttext_any Nm 30 W (hg.below h) (by omega)
 rw [empty_is E, empty_is Nm]
 obtain ⟨ee, hee⟩ : ∃ ee, E.isEmpty = ee := ⟨_, rfl⟩
 obtain ⟨ne, hne⟩ : ∃ ne, Nm.isEmpty = ne := ⟨_, rfl⟩
 rw [hee, hne]
 generalize isNameD T = A3 at *
 generalize Lib.contains Nm [91] = A4 at *
 generalize textOkD Nm 30 = A5 at *
 clear hT hN l1 l2 hs
 go_enter func91, ntmps91
 go_wp2_with fail
 refine c1.mono ?_; rintro e w1 ⟨rfl, hb1⟩
 go_wp2_with fail
 refine (c2 _ hb1).mono ?_; rintro e w2 ⟨rfl, hbx⟩
 have hb2 := after hb1 hbx
 clear hbx c1 c2
 cases h1
 ·go_wp2
  go_ret; exact Ret.mk' rfl hb2
 cases h2
 ·go_wp2
  go_ret; exact Ret.mk' rfl hb2
 cases ee
 ·go_wp2
  go_ret; exact Ret.mk' rfl hb2
 go_wp2_with fail
 refine (c3 _ hb2).mono ?_; rintro e w3 ⟨rfl, hbx⟩
 have hb3 := after hb2 hbx
 clear hbx c3
 cases A3
 ·go_wp2
  go_ret; exact Ret.mk' rfl hb3
 cases ne
 ·go_wp2_with fail
  refine (c4 _ hb3).mono ?_; rintro e w4 ⟨rfl, rfl⟩
  cases A4
  ·go_wp2_with fail
   refine (c5 _ hb3).mono ?_; rintro e w5 ⟨rfl, hbx⟩
   go_wp2
   go_ret; exact Ret.mk' rfl (after hb3 hbx)
  ·go_wp2
   go_ret; exact Ret.mk' rfl hb3
 ·go_wp2
  go_ret; exact Ret.mk' rfl hb3
theorem tfoldS (s : Bs) (w : World) (hg : Good w) (hs : s.length <= 900000) : Calls prog 142 #[.string ⟨s.toArray⟩] w (Ret (.string ⟨(lowerD s).toArray⟩) w) := tfold_any ⟨s.toArray⟩ w hg (Nat.le_trans (show s.length <= 900000 from hs) (by decide))
theorem some1_any (x y : Bs) (b : Nat) (w : World) (hg : Good w) (hx : x.length <= 900000) (hy : y.length <= 900000) (hb : w.cell? ⟨b, 0, none⟩ = some (.string ⟨y.toArray⟩)) (hl : b < w.heap.size) : Calls prog 141 #[.string ⟨x.toArray⟩, .pointer (some ⟨b, 0, none⟩)] w (Ret (.bool (lowerD x == lowerD y)) w) := by
 have c1 := fun W (h : Below w.heap.size w W) => tfoldS x W (hg.below h) hx
 have c2 := fun W (h : Below w.heap.size w W) => tfoldS y W (hg.below h) hy
 obtain ⟨V, hV⟩ : ∃ V, (lowerD x == lowerD y) = V := ⟨_, rfl⟩
 rw [hV]
 generalize lowerD x = X at *
 generalize lowerD y = Y at *
 clear hx hy
 go_enter func141, ntmps141
 go_upto_region 1 with (fail)
 have kcc := gcell w
 refine region_below (by kernel_rfl) (by kernel_rfl) ?_
 iterate 6 (quiet_step (first | exact Ret.grown c1 | exact Ret.grown c2))
 refine wpQuiet_nil ?_
 intro w2 hb2
 go_wp2
 go_ret; exact Ret.mk' rfl hb2
def isL (y : Bs) (x : Bs) : Bool := lowerD x == lowerD y
theorem idxSome_any (y : Bs) (b : Nat) (a : Option Addr) (c : Nat) (K : List Bs) (w : World) (hg : Good w) (hy : y.length <= 900000) (hK : K.length <= 1000000) (hF : ∀ x ∈ K, x.length <= 900000) (hI : NamesAt w a c K) (hb : w.cell? ⟨b, 0, none⟩ = some (.string ⟨y.toArray⟩)) (hl : b < w.heap.size) :
  Calls prog 101 #[.slice a K.length c, .func (.func 141) #[] #[.pointer (some ⟨b, 0, none⟩)]] w (Ret (.int .i64 (idxW (isL y) K 0)) w) := by
 obtain ⟨V, hV⟩ : ∃ V, idxW (isL y) K 0 = V := ⟨_, rfl⟩
 rw [hV]
 obtain ⟨n, hn⟩ : ∃ n, K.length = n := ⟨_, rfl⟩
 have HC := Lib.hid (And.intro hI (And.intro hF (And.intro hb hg)))
 rw [hn] at hK ⊢
 have HN := Lib.hid hn
 clear hI hn hF hb hg
 go_enter func101, ntmps101
 go_wp2
 go_loopw [8] (fun i w' => ∃ j : Nat, j <= n /\ i = .int .i64 j /\ idxW (isL y) (K.drop j) j = V /\ Below w.heap.size w w') (fun i _ => n - (intOf i).toNat)
 case atStart => exact ⟨0, by omega, rfl, hV, Below.refl _ _⟩
 case round =>
  clear hV
  obtain ⟨j, hj, rfl, hI, hB⟩ := hrel
  have HI := Lib.hid hI; clear hI
  by_cases hlt : j < n
  ·have hl : j < K.length := by rw [HN.out]; exact hlt
   obtain ⟨kb, o, rfl, hkb, hcell⟩ := HC.out.1.cell hl
   obtain ⟨x, hx⟩ : ∃ x, K[j]? = some x := ⟨_, List.getElem?_eq_getElem hl⟩
   have hx2 : K[j] = x := (List.getElem?_eq_some_iff.1 hx).2
   rw [hx2] at hcell
   have hcw := (hB.cell (p := ⟨kb, o + j, none⟩) hkb).trans hcell
   have cF : Calls prog 141 #[.string ⟨x.toArray⟩, .pointer (some ⟨b, 0, none⟩)] wr (Ret (.bool (isL y x)) wr) := some1_any x y b wr (HC.out.2.2.2.below hB) (HC.out.2.1 x (List.mem_of_getElem? hx)) hy ((hB.cell (p := ⟨b, 0, none⟩) (by assumption)).trans HC.out.2.2.1) (Nat.lt_of_lt_of_le (by assumption) hB.size)
   have hN := HI.out
   rw [idxW_step _ K j x hx] at hN
   cases hp : isL y x
   ·rw [if_neg (by rw [hp]; exact Bool.false_ne_true)] at hN
    rw [hp] at cF
    have HN2 := Lib.hid hN
    clear hN hx hx2 hp HI hcell
    go_wp2_with fail
    refine cF.mono ?_; rintro e w1 ⟨rfl, hb1⟩
    go_wp2
    go_roundw
    case rel => exact ⟨j + 1, by omega, by go_num, HN2.out, after hB hb1⟩
    case measure => simp [intOf]; omega
   ·rw [if_pos hp] at hN
    subst hN
    rw [hp] at cF
    clear hx hx2 hp HI hcell
    go_wp2_with fail
    refine cF.mono ?_; rintro e w1 ⟨rfl, hb1⟩
    go_wp2
    go_ret; exact Ret.mk' rfl (after hB hb1)
  ·have hN := HI.out
   rw [List.drop_eq_nil_of_le (by rw [HN.out]; omega)] at hN
   have hN2 : (-1 : Int) = V := hN
   subst hN2
   clear hN HI
   go_wp2
   go_ret; exact Ret.mk' rfl hB
theorem contSome_any (y : Bs) (b : Nat) (a : Option Addr) (c : Nat) (K : List Bs) (w : World) (hg : Good w) (hy : y.length <= 900000) (hK : K.length <= 1000000) (hF : ∀ x ∈ K, x.length <= 900000) (hI : NamesAt w a c K) (hb : w.cell? ⟨b, 0, none⟩ = some (.string ⟨y.toArray⟩)) (hl : b < w.heap.size) :
  Calls prog 53 #[.slice a K.length c, .func (.func 141) #[] #[.pointer (some ⟨b, 0, none⟩)]] w (Ret (.bool (K.any (isL y))) w) := by
 have cI := idxSome_any y b a c K w hg hy hK hF hI hb hl
 rw [<- idxW_any _ K 0]
 generalize idxW (isL y) K 0 = V at *
 clear hb
 go_enter func53, ntmps53
 go_wp2_with fail
 refine cI.mono ?_; rintro e w1 ⟨rfl, hb1⟩
 go_wp2
 go_ret; exact Ret.mk' rfl hb1
theorem NamesAt.take {w : World} {a : Option Addr} {c : Nat} {K : List Bs} (k : NamesAt w a c K) (j : Nat) : NamesAt w a c (K.take j) := by
 refine ⟨Nat.le_trans (by rw [List.length_take]; omega) k.cap, ?_⟩
 rcases k.lies with rfl | ⟨b, o, C, fr, e, h1, h2⟩
 ·exact .inl (by simp)
 ·refine .inr ⟨b, o, C, fr, e, h1, fun i x hx => h2 i x ?_⟩
  rw [List.getElem?_take] at hx
  split at hx
  ·exact hx
  ·cases hx
theorem some_any (s : Bs) (w : World) (hg : Good w) (hs : s.length <= 900000) : Calls prog 98 #[.string ⟨s.toArray⟩] w (Ret (.bool (someD s)) w) := by
 have cS : Calls prog 100 #[.string ⟨s.toArray⟩, .string ⟨#[44]⟩] w (RetNames (splitD s) w) := split_any ⟨s.toArray⟩ w hg (Nat.le_trans (show s.length <= 900000 from hs) (by decide))
 have hL := splitD_len s
 unfold someD
 generalize splitD s = L at *
 obtain ⟨n, hn⟩ : ∃ n, L.length = n := ⟨_, rfl⟩
 obtain ⟨V, hV⟩ : ∃ V, namesF [] L = V := ⟨_, rfl⟩
 rw [hV]
 rw [hn] at hL
 have hF : ∀ x ∈ L, x.length <= 900000 := fun x hx => Nat.le_trans (hL.2 x hx) hs
 have hn1 : n <= 900001 := by omega
 have HV := Lib.hid (And.intro hn (And.intro hV (And.intro hF hg)))
 clear hV hF hL hs hg
 go_enter func98, ntmps98
 go_wp2_with fail
 refine cS.mono ?_; rintro e w1 ⟨a, c, rfl, hI1, -, hb1⟩
 have HI1 := Lib.hid (And.intro hI1 hb1)
 have hcn := hI1.cap
 rw [hn] at hcn ⊢
 clear hI1 cS hn
 go_wp2_with fail
 go_loopw [10] (fun i w' => ∃ j : Nat, i = .int .i64 (j : Int) /\ j <= n /\ namesF (L.take j) (L.drop j) = V /\ Below w.heap.size w w' /\ NamesAt w' a c L) (fun i _ => n - (intOf i).toNat)
 case atStart => exact ⟨0, rfl, by omega, HV.out.2.1, hb1, HI1.out.1⟩
 case round =>
  clear hb1 HI1
  obtain ⟨j, rfl, hj, hI, hB, hN⟩ := hrel
  have HH := Lib.hid hI
  clear hI
  by_cases hlt : j < n
  ·have hl : j < L.length := by rw [HV.out.1]; exact hlt
   obtain ⟨kb, o, rfl, hkb, hcell⟩ := hN.cell hl
   obtain ⟨x, hx⟩ : ∃ x, L[j]? = some x := ⟨_, List.getElem?_eq_getElem hl⟩
   have hx2 : L[j] = x := (List.getElem?_eq_some_iff.1 hx).2
   rw [hx2] at hcell
   have hxl : x.length <= 900000 := HV.out.2.2.1 x (List.mem_of_getElem? hx)
   have hji : (j : Int) < (n : Int) := by omega
   have hjc : (j : Int) <= (c : Int) := by omega
   have ewJ : IntKind.i64.wrap ((j : Int) + 1) = ((j + 1 : Nat) : Int) := by rw [IntWalk.i64_in _ (by omega)]; omega
   have hstep : (if isNameD x && !((L.take j).any fun m => lowerD m == lowerD x) then namesF (L.take j ++ [x]) (L.drop (j + 1)) else false) = V := by
    have h := HH.out
    rw [List.drop_eq_getElem_cons hl, hx2] at h
    exact h
   have htk : L.take (j + 1) = L.take j ++ [x] := by rw [List.take_succ_eq_append_getElem hl, hx2]
   rw [<- htk] at hstep
   have hlt2 : (L.take j).length = j := by rw [List.length_take]; omega
   have HS := Lib.hid (And.intro hstep (And.intro hlt2 hN))
   clear hstep htk hlt2 hx hx2 HH hl hN
   go_upto_region 5 with (fail)
   refine wp_abs2 (On1 9 wr #[.string ⟨x.toArray⟩]) ⟨allocB (Below.refl _ _), heap_alloc_new _ _⟩ ?_
   rintro w3 ⟨hb3, x3⟩
   obtain ⟨E, hE⟩ : ∃ E, wr.heap.size = E := ⟨_, rfl⟩
   have hB3 := after hB hb3
   have hN3 := HS.out.2.2.below hb3
   rw [hE] at x3 ⊢
   clear hb3 hE
   obtain ⟨fx, -, zx⟩ := lie_cell x3
   have hg3 := HV.out.2.2.2.below hB3
   have c3 := isNameS x w3 hg3 hxl
   have HX := Lib.hid (And.intro x3 (And.intro hN3 hg3))
   clear x3 hN3 hg3
   cases hA : isNameD x
   ·have hR := HS.out.1
    rw [hA] at hR c3
    have hR : false = V := hR
    subst hR
    clear hA
    go_wp2_with fail
    refine c3.mono ?_; rintro e w4 ⟨rfl, hb4⟩
    go_wp2
    go_ret; exact Ret.mk' rfl (after hB3 hb4)
   ·rw [hA] at c3
    have cC := fun W (h : Below w3.heap.size w3 W) => contSome_any x E (some ⟨kb, o, none⟩) c (L.take j) W (HX.out.2.2.below h) hxl (by rw [HS.out.2.1]; omega) (fun y hy => HV.out.2.2.1 y (List.mem_of_mem_take hy)) ((HX.out.2.1.below h).take j) ((h.cell (p := ⟨E, 0, none⟩) zx).trans (fx 0)) (Nat.lt_of_lt_of_le zx h.size)
    obtain ⟨B, hB'⟩ : ∃ B, (L.take j).any (isL x) = B := ⟨_, rfl⟩
    rw [hB', HS.out.2.1] at cC
    have hR := HS.out.1
    rw [hA, show ((L.take j).any fun m => lowerD m == lowerD x) = B from hB'] at hR
    have HR := Lib.hid hR
    clear hA hB' hR
    go_wp2_with fail
    refine c3.mono ?_; rintro e w4 ⟨rfl, hb4⟩
    go_wp2_with fail
    refine (cC w4 hb4).mono ?_; rintro e w5 ⟨rfl, hb5⟩
    have hb35 := after hb4 hb5
    have hB5 := after hB3 hb35
    have hN5 := HX.out.2.1.below hb35
    clear c3 cC fx hb4 hb5
    cases B
    ·have HR2 := Lib.hid (show namesF (L.take (j + 1)) (L.drop (j + 1)) = V from HR.out)
     have HN5 := Lib.hid hN5
     clear hN5
     go_wp2
     go_roundw
     case rel => exact ⟨j + 1, rfl, by omega, HR2.out, hB5, HN5.out⟩
     case measure => simp [intOf]; omega
    ·have hR : false = V := HR.out
     subst hR
     clear hN5
     go_wp2
     go_ret; exact Ret.mk' rfl hB5
  ·have hjn : j = n := by omega
   have hV2 := HH.out
   rw [List.drop_eq_nil_of_le (by rw [HV.out.1]; omega), namesF] at hV2
   subst hV2
   clear HH HV
   go_wp2
   go_ret; exact Ret.mk' rfl hB
end Go.Proofs.YtlpgigdegnbkmaaGreatDoor
namespace Tab
theorem call_cons (f : Bool) (c : UInt8) (l : Bs) : callB f (c :: l) = if (decide (65 <= c.toNat /\ c.toNat <= 90)) || ((decide (97 <= c.toNat /\ c.toNat <= 122)) || c == 95) then callB false l else if ((decide (48 <= c.toNat /\ c.toNat <= 57)) || c == 46) && !f then callB false l else false := rfl
theorem call_letter (f : Bool) (b : UInt8) (l : Bs) (h : (65 <= b.toNat /\ b.toNat <= 90) \/ (97 <= b.toNat /\ b.toNat <= 122) \/ b.toNat = 95) : callB f (b :: l) = callB false l := by
 rw [call_cons]
 rw [if_pos]
 rcases h with h | h | h
 ·rw [decide_eq_true h]; rfl
 ·rw [decide_eq_true h]; simp
 ·have : b = 95 := UInt8.toNat_inj.1 h
  subst this; rfl
theorem call_digit (f : Bool) (b : UInt8) (l : Bs) (h : (48 <= b.toNat /\ b.toNat <= 57) \/ b.toNat = 46) : callB f (b :: l) = if f then false else callB false l := by
 rw [call_cons]
 have h1 : ((decide (65 <= b.toNat /\ b.toNat <= 90)) || ((decide (97 <= b.toNat /\ b.toNat <= 122)) || b == 95)) = false := by
  have : (b == 95) = false := beq_eq_false_iff_ne.2 fun e => by subst e; rcases h with h | h <;> revert h <;> decide
  rw [this, decide_eq_false (by omega), decide_eq_false (by omega)]; rfl
 have h2 : ((decide (48 <= b.toNat /\ b.toNat <= 57)) || b == 46) = true := by
  rcases h with h | h
  ·rw [decide_eq_true h]; rfl
  ·have : b = 46 := UInt8.toNat_inj.1 h
   subst this; rfl
 rw [h1, h2, if_neg Bool.false_ne_true]
 cases f <;> simp
theorem call_none (f : Bool) (b : UInt8) (l : Bs) (h : ¬ ((65 <= b.toNat /\ b.toNat <= 90) \/ (97 <= b.toNat /\ b.toNat <= 122) \/ b.toNat = 95 \/ (48 <= b.toNat /\ b.toNat <= 57) \/ b.toNat = 46)) : callB f (b :: l) = false := by
 rw [call_cons]
 have h1 : ((decide (65 <= b.toNat /\ b.toNat <= 90)) || ((decide (97 <= b.toNat /\ b.toNat <= 122)) || b == 95)) = false := by
  have : (b == 95) = false := beq_eq_false_iff_ne.2 fun e => h (by subst e; decide)
  rw [this, decide_eq_false (by omega), decide_eq_false (by omega)]; rfl
 have h2 : ((decide (48 <= b.toNat /\ b.toNat <= 57)) || b == 46) = false := by
  have : (b == 46) = false := beq_eq_false_iff_ne.2 fun e => h (by subst e; decide)
  rw [this, decide_eq_false (by omega)]; rfl
 rw [h1, h2, if_neg Bool.false_ne_true, Bool.false_and, if_neg Bool.false_ne_true]
end Tab
namespace Go.Proofs.YtlpgigdegnbkmaaGreatDoor
open Go.RowKit Tab Tryz
theorem callName_any (s : ByteArray) (w : World) (hs : s.size <= 1000000) : Calls prog 93 #[.string s] w (Still (.bool (callND s.data.toList)) w) := by
 obtain ⟨l, hl⟩ : ∃ l, s.data.toList = l := ⟨_, rfl⟩
 have hsz : s.size = l.length := by rw [<- hl]; rfl
 obtain ⟨N, hN⟩ : ∃ N, l.length = N := ⟨_, rfl⟩
 rw [hN] at hsz
 rw [hsz] at hs
 obtain ⟨V, hV⟩ : ∃ V, callB true l = V := ⟨_, rfl⟩
 obtain ⟨RV, hRV⟩ : ∃ RV, callND l = RV := ⟨_, rfl⟩
 rw [hl, hRV]
 have HH := Lib.hid (And.intro hl (And.intro hN (And.intro hV hRV)))
 clear hl hN hV hRV
 go_enter func93, ntmps93
 go_wp2_with fail
 go_loop [7] (fun i => ∃ j : Nat, j <= N /\ i = .int .i64 (j : Int) /\ callB (j == 0) (l.drop j) = V) (fun i => N - (intOf i).toNat)
 case atStart => exact ⟨0, by omega, rfl, HH.out.2.2.1⟩
 case round =>
  obtain ⟨j, hj, rfl, hI⟩ := hrel
  have HI := Lib.hid hI
  clear hI
  by_cases hlt : j < N
  ·obtain ⟨b, hb⟩ : ∃ b, l[j]? = some b := ⟨_, List.getElem?_eq_getElem (by rw [HH.out.2.1]; exact hlt)⟩
   have hji : (j : Int) < (N : Int) := by omega
   have hjs : j < s.size := by omega
   have hsj : s[j] = b := by
    have h1 : s.data.toList[j]? = some b := by rw [HH.out.1]; exact hb
    have h2 : s.data[j]? = some b := by simpa using h1
    exact (Array.getElem?_eq_some_iff.1 h2).2
   have hstep : callB (j == 0) (b :: l.drop (j + 1)) = V := by
    have h := HI.out
    obtain ⟨h1, h2⟩ := List.getElem?_eq_some_iff.1 hb
    rw [List.drop_eq_getElem_cons h1, h2] at h
    exact h
   have ewJ : IntKind.i64.wrap ((j : Int) + 1) = ((j + 1 : Nat) : Int) := by rw [IntWalk.i64_in _ (by omega)]; omega
   clear HI hb
   go_upto_region 6 with (fail)

   have hst := Lib.hid hstep
   clear hsj hstep hjs
   obtain ⟨m, hm⟩ : ∃ m, b.toNat = m := ⟨_, rfl⟩
   have hm256 : m < 256 := by rw [<- hm]; exact b.toNat_lt
   rw [hm]
   have HM := Lib.hid hm
   clear hm
   by_cases hI0 : m <= 45
   ·have k0 : decide ((65 : Int) <= (m : Int)) = false := decide_eq_false (by omega)
    have k1 : decide ((m : Int) <= 90) = true := decide_eq_true (by omega)
    have k2 : decide ((97 : Int) <= (m : Int)) = false := decide_eq_false (by omega)
    have k3 : decide ((m : Int) <= 122) = true := decide_eq_true (by omega)
    have k4 : decide ((48 : Int) <= (m : Int)) = false := decide_eq_false (by omega)
    have k5 : decide ((m : Int) <= 57) = true := decide_eq_true (by omega)
    have e0 : ((m : Int) == 95) = false := beq_eq_false_iff_ne.2 (by omega)
    have e1 : ((m : Int) == 46) = false := beq_eq_false_iff_ne.2 (by omega)
    have hN := hst.out
    rw [call_none _ _ _ (by rw [HM.out]; omega)] at hN
    subst hN
    have hR : false = RV := by
     have h := HH.out
     rw [<- h.2.2.2]; unfold callND; rw [h.2.2.1]; rfl
    subst hR
    clear hst HM
    go_wp2
    go_ret; exact Still.mk' rfl
   by_cases hI1 : m <= 46
   ·have k0 : decide ((65 : Int) <= (m : Int)) = false := decide_eq_false (by omega)
    have k1 : decide ((m : Int) <= 90) = true := decide_eq_true (by omega)
    have k2 : decide ((97 : Int) <= (m : Int)) = false := decide_eq_false (by omega)
    have k3 : decide ((m : Int) <= 122) = true := decide_eq_true (by omega)
    have k4 : decide ((48 : Int) <= (m : Int)) = false := decide_eq_false (by omega)
    have k5 : decide ((m : Int) <= 57) = true := decide_eq_true (by omega)
    have e0 : ((m : Int) == 95) = false := beq_eq_false_iff_ne.2 (by omega)
    have e1 : ((m : Int) == 46) = true := beq_iff_eq.2 (by omega)
    have hN := hst.out
    rw [call_digit _ _ _ (by rw [HM.out]; omega)] at hN
    clear hst HM
    by_cases hj0 : j = 0
    ·have ej : ((j : Int) == 0) = true := beq_iff_eq.2 (by omega)
     rw [show (j == 0) = true from beq_iff_eq.2 hj0, if_pos rfl] at hN
     subst hN
     have hR : false = RV := by
      have h := HH.out
      rw [<- h.2.2.2]; unfold callND; rw [h.2.2.1]; rfl
     subst hR
     clear hj0
     go_wp2
     go_ret; exact Still.mk' rfl
    ·have ej : ((j : Int) == 0) = false := beq_eq_false_iff_ne.2 (by omega)
     rw [show (j == 0) = false from beq_eq_false_iff_ne.2 hj0, if_neg Bool.false_ne_true] at hN
     have hN2 := Lib.hid (show callB (j + 1 == 0) (l.drop (j + 1)) = V from hN)
     clear hN hj0
     go_wp2
     go_round
     case rel => exact ⟨j + 1, by omega, rfl, hN2.out⟩
     case measure => simp [intOf]; omega
   by_cases hI2 : m <= 47
   ·have k0 : decide ((65 : Int) <= (m : Int)) = false := decide_eq_false (by omega)
    have k1 : decide ((m : Int) <= 90) = true := decide_eq_true (by omega)
    have k2 : decide ((97 : Int) <= (m : Int)) = false := decide_eq_false (by omega)
    have k3 : decide ((m : Int) <= 122) = true := decide_eq_true (by omega)
    have k4 : decide ((48 : Int) <= (m : Int)) = false := decide_eq_false (by omega)
    have k5 : decide ((m : Int) <= 57) = true := decide_eq_true (by omega)
    have e0 : ((m : Int) == 95) = false := beq_eq_false_iff_ne.2 (by omega)
    have e1 : ((m : Int) == 46) = false := beq_eq_false_iff_ne.2 (by omega)
    have hN := hst.out
    rw [call_none _ _ _ (by rw [HM.out]; omega)] at hN
    subst hN
    have hR : false = RV := by
     have h := HH.out
     rw [<- h.2.2.2]; unfold callND; rw [h.2.2.1]; rfl
    subst hR
    clear hst HM
    go_wp2
    go_ret; exact Still.mk' rfl
   by_cases hI3 : m <= 57
   ·have k0 : decide ((65 : Int) <= (m : Int)) = false := decide_eq_false (by omega)
    have k1 : decide ((m : Int) <= 90) = true := decide_eq_true (by omega)
    have k2 : decide ((97 : Int) <= (m : Int)) = false := decide_eq_false (by omega)
    have k3 : decide ((m : Int) <= 122) = true := decide_eq_true (by omega)
    have k4 : decide ((48 : Int) <= (m : Int)) = true := decide_eq_true (by omega)
    have k5 : decide ((m : Int) <= 57) = true := decide_eq_true (by omega)
    have e0 : ((m : Int) == 95) = false := beq_eq_false_iff_ne.2 (by omega)
    have e1 : ((m : Int) == 46) = false := beq_eq_false_iff_ne.2 (by omega)
    have hN := hst.out
    rw [call_digit _ _ _ (by rw [HM.out]; omega)] at hN
    clear hst HM
    by_cases hj0 : j = 0
    ·have ej : ((j : Int) == 0) = true := beq_iff_eq.2 (by omega)
     rw [show (j == 0) = true from beq_iff_eq.2 hj0, if_pos rfl] at hN
     subst hN
     have hR : false = RV := by
      have h := HH.out
      rw [<- h.2.2.2]; unfold callND; rw [h.2.2.1]; rfl
     subst hR
     clear hj0
     go_wp2
     go_ret; exact Still.mk' rfl
    ·have ej : ((j : Int) == 0) = false := beq_eq_false_iff_ne.2 (by omega)
     rw [show (j == 0) = false from beq_eq_false_iff_ne.2 hj0, if_neg Bool.false_ne_true] at hN
     have hN2 := Lib.hid (show callB (j + 1 == 0) (l.drop (j + 1)) = V from hN)
     clear hN hj0
     go_wp2
     go_round
     case rel => exact ⟨j + 1, by omega, rfl, hN2.out⟩
     case measure => simp [intOf]; omega
   by_cases hI4 : m <= 64
   ·have k0 : decide ((65 : Int) <= (m : Int)) = false := decide_eq_false (by omega)
    have k1 : decide ((m : Int) <= 90) = true := decide_eq_true (by omega)
    have k2 : decide ((97 : Int) <= (m : Int)) = false := decide_eq_false (by omega)
    have k3 : decide ((m : Int) <= 122) = true := decide_eq_true (by omega)
    have k4 : decide ((48 : Int) <= (m : Int)) = true := decide_eq_true (by omega)
    have k5 : decide ((m : Int) <= 57) = false := decide_eq_false (by omega)
    have e0 : ((m : Int) == 95) = false := beq_eq_false_iff_ne.2 (by omega)
    have e1 : ((m : Int) == 46) = false := beq_eq_false_iff_ne.2 (by omega)
    have hN := hst.out
    rw [call_none _ _ _ (by rw [HM.out]; omega)] at hN
    subst hN
    have hR : false = RV := by
     have h := HH.out
     rw [<- h.2.2.2]; unfold callND; rw [h.2.2.1]; rfl
    subst hR
    clear hst HM
    go_wp2
    go_ret; exact Still.mk' rfl
   by_cases hI5 : m <= 90
   ·have k0 : decide ((65 : Int) <= (m : Int)) = true := decide_eq_true (by omega)
    have k1 : decide ((m : Int) <= 90) = true := decide_eq_true (by omega)
    have k2 : decide ((97 : Int) <= (m : Int)) = false := decide_eq_false (by omega)
    have k3 : decide ((m : Int) <= 122) = true := decide_eq_true (by omega)
    have k4 : decide ((48 : Int) <= (m : Int)) = true := decide_eq_true (by omega)
    have k5 : decide ((m : Int) <= 57) = false := decide_eq_false (by omega)
    have e0 : ((m : Int) == 95) = false := beq_eq_false_iff_ne.2 (by omega)
    have e1 : ((m : Int) == 46) = false := beq_eq_false_iff_ne.2 (by omega)
    have hN := hst.out
    rw [call_letter _ _ _ (by rw [HM.out]; omega)] at hN
    have hN2 := Lib.hid (show callB (j + 1 == 0) (l.drop (j + 1)) = V from hN)
    clear hN hst HM
    go_wp2
    go_round
    case rel => exact ⟨j + 1, by omega, rfl, hN2.out⟩
    case measure => simp [intOf]; omega
   by_cases hI6 : m <= 94
   ·have k0 : decide ((65 : Int) <= (m : Int)) = true := decide_eq_true (by omega)
    have k1 : decide ((m : Int) <= 90) = false := decide_eq_false (by omega)
    have k2 : decide ((97 : Int) <= (m : Int)) = false := decide_eq_false (by omega)
    have k3 : decide ((m : Int) <= 122) = true := decide_eq_true (by omega)
    have k4 : decide ((48 : Int) <= (m : Int)) = true := decide_eq_true (by omega)
    have k5 : decide ((m : Int) <= 57) = false := decide_eq_false (by omega)
    have e0 : ((m : Int) == 95) = false := beq_eq_false_iff_ne.2 (by omega)
    have e1 : ((m : Int) == 46) = false := beq_eq_false_iff_ne.2 (by omega)
    have hN := hst.out
    rw [call_none _ _ _ (by rw [HM.out]; omega)] at hN
    subst hN
    have hR : false = RV := by
     have h := HH.out
     rw [<- h.2.2.2]; unfold callND; rw [h.2.2.1]; rfl
    subst hR
    clear hst HM
    go_wp2
    go_ret; exact Still.mk' rfl
   by_cases hI7 : m <= 95
   ·have k0 : decide ((65 : Int) <= (m : Int)) = true := decide_eq_true (by omega)
    have k1 : decide ((m : Int) <= 90) = false := decide_eq_false (by omega)
    have k2 : decide ((97 : Int) <= (m : Int)) = false := decide_eq_false (by omega)
    have k3 : decide ((m : Int) <= 122) = true := decide_eq_true (by omega)
    have k4 : decide ((48 : Int) <= (m : Int)) = true := decide_eq_true (by omega)
    have k5 : decide ((m : Int) <= 57) = false := decide_eq_false (by omega)
    have e0 : ((m : Int) == 95) = true := beq_iff_eq.2 (by omega)
    have e1 : ((m : Int) == 46) = false := beq_eq_false_iff_ne.2 (by omega)
    have hN := hst.out
    rw [call_letter _ _ _ (by rw [HM.out]; omega)] at hN
    have hN2 := Lib.hid (show callB (j + 1 == 0) (l.drop (j + 1)) = V from hN)
    clear hN hst HM
    go_wp2
    go_round
    case rel => exact ⟨j + 1, by omega, rfl, hN2.out⟩
    case measure => simp [intOf]; omega
   by_cases hI8 : m <= 96
   ·have k0 : decide ((65 : Int) <= (m : Int)) = true := decide_eq_true (by omega)
    have k1 : decide ((m : Int) <= 90) = false := decide_eq_false (by omega)
    have k2 : decide ((97 : Int) <= (m : Int)) = false := decide_eq_false (by omega)
    have k3 : decide ((m : Int) <= 122) = true := decide_eq_true (by omega)
    have k4 : decide ((48 : Int) <= (m : Int)) = true := decide_eq_true (by omega)
    have k5 : decide ((m : Int) <= 57) = false := decide_eq_false (by omega)
    have e0 : ((m : Int) == 95) = false := beq_eq_false_iff_ne.2 (by omega)
    have e1 : ((m : Int) == 46) = false := beq_eq_false_iff_ne.2 (by omega)
    have hN := hst.out
    rw [call_none _ _ _ (by rw [HM.out]; omega)] at hN
    subst hN
    have hR : false = RV := by
     have h := HH.out
     rw [<- h.2.2.2]; unfold callND; rw [h.2.2.1]; rfl
    subst hR
    clear hst HM
    go_wp2
    go_ret; exact Still.mk' rfl
   by_cases hI9 : m <= 122
   ·have k0 : decide ((65 : Int) <= (m : Int)) = true := decide_eq_true (by omega)
    have k1 : decide ((m : Int) <= 90) = false := decide_eq_false (by omega)
    have k2 : decide ((97 : Int) <= (m : Int)) = true := decide_eq_true (by omega)
    have k3 : decide ((m : Int) <= 122) = true := decide_eq_true (by omega)
    have k4 : decide ((48 : Int) <= (m : Int)) = true := decide_eq_true (by omega)
    have k5 : decide ((m : Int) <= 57) = false := decide_eq_false (by omega)
    have e0 : ((m : Int) == 95) = false := beq_eq_false_iff_ne.2 (by omega)
    have e1 : ((m : Int) == 46) = false := beq_eq_false_iff_ne.2 (by omega)
    have hN := hst.out
    rw [call_letter _ _ _ (by rw [HM.out]; omega)] at hN
    have hN2 := Lib.hid (show callB (j + 1 == 0) (l.drop (j + 1)) = V from hN)
    clear hN hst HM
    go_wp2
    go_round
    case rel => exact ⟨j + 1, by omega, rfl, hN2.out⟩
    case measure => simp [intOf]; omega
   ·have k0 : decide ((65 : Int) <= (m : Int)) = true := decide_eq_true (by omega)
    have k1 : decide ((m : Int) <= 90) = false := decide_eq_false (by omega)
    have k2 : decide ((97 : Int) <= (m : Int)) = true := decide_eq_true (by omega)
    have k3 : decide ((m : Int) <= 122) = false := decide_eq_false (by omega)
    have k4 : decide ((48 : Int) <= (m : Int)) = true := decide_eq_true (by omega)
    have k5 : decide ((m : Int) <= 57) = false := decide_eq_false (by omega)
    have e0 : ((m : Int) == 95) = false := beq_eq_false_iff_ne.2 (by omega)
    have e1 : ((m : Int) == 46) = false := beq_eq_false_iff_ne.2 (by omega)
    have hN := hst.out
    rw [call_none _ _ _ (by rw [HM.out]; omega)] at hN
    subst hN
    have hR : false = RV := by
     have h := HH.out
     rw [<- h.2.2.2]; unfold callND; rw [h.2.2.1]; rfl
    subst hR
    clear hst HM
    go_wp2
    go_ret; exact Still.mk' rfl
  ·have hjN : j = N := by omega
   have hN := HI.out
   rw [List.drop_eq_nil_of_le (by rw [HH.out.2.1]; omega)] at hN
   have hN : true = V := hN
   subst hN
   have hR : (!(l == []) && decide (l.length <= 30)) = RV := by
    have h := HH.out
    rw [<- h.2.2.2]; unfold callND; rw [h.2.2.1]; rfl
   have hie : (l == []) = l.isEmpty := by cases l <;> rfl
   rw [hie, HH.out.2.1] at hR
   have hsl : s.toList.isEmpty = l.isEmpty := by rw [ByteArray.toList_eq, HH.out.1]
   have e1 : decide ((N : Int) <= 30) = decide (N <= 30) := decide_eq_decide.2 (by omega)
   generalize l.isEmpty = E at *
   generalize decide (N <= 30) = D at *
   clear HI HH
   subst hR
   cases E <;> cases D
   all_goals (
    go_wp2
    go_ret; exact Still.mk' rfl)
end Go.Proofs.YtlpgigdegnbkmaaGreatDoor
