import Derived.Test.YtlpgigdegnbkmaaGreatDoorM05
import Derived.Lib.SliceRun
import Derived.BigFrame
import Init
import Derived.Deep.MidRow
set_option maxRecDepth 100000
set_option maxHeartbeats 4000000
namespace Tab
def topF (D : Nat -> Int) : Nat -> Int
 | 0 => -1
 | n + 1 => if D n ≠ 0 then (n : Int) else topF D n
end Tab
namespace Go.Proofs.YtlpgigdegnbkmaaGreatDoor
open Go.RowKit Tab Tryz
structure NumC (C : Array Value) (be : Bool) (D : Nat -> Int) (mo : Bool) : Prop where
 size : C.size = 98
 below : C[0]? = some (.bool be)
 digit : ∀ k, k < 96 -> C[1 + k]? = some (.int .i8 (D k))
 more : C[97]? = some (.bool mo)
theorem top_any (b : Nat) (C : Array Value) (be : Bool) (D : Nat -> Int) (mo : Bool) (hC : NumC C be D mo) (w : World) (hb : Blk w b C) : Calls prog 114 #[.pointer (some ⟨b, 0, none⟩)] w (Still (.int .i64 (topF D 96)) w) := by
 obtain ⟨V, hV⟩ : ∃ V, topF D 96 = V := ⟨_, rfl⟩
 rw [hV]
 obtain ⟨f, g, z⟩ := hb.facts
 have hd : ∀ k, k < 96 -> w.cell? ⟨b, 1 + k, none⟩ = some (.int .i8 (D k)) := fun k hk => (f _).trans (hC.digit k hk)
 have HD := Lib.hid hd
 clear f hd hb hC
 go_enter func114, ntmps114
 go_wp2
 go_loop [3] (fun i => (∃ k : Nat, k < 96 /\ i = .int .i64 k /\ topF D (k + 1) = V) \/ (i = .int .i64 (-1) /\ V = -1)) (fun i => (intOf i + 1).toNat)
 case atStart => exact .inl ⟨95, by omega, rfl, hV⟩
 case round =>
  clear hV
  rcases hrel with ⟨k, hk, rfl, hI⟩ | ⟨rfl, rfl⟩
  ·have hc := HD.out k hk
   have ek : decide (0 <= (k : Int)) = true := decide_eq_true (by omega)
   by_cases h0 : D k = 0
   ·have e0 : (D k != 0) = false := by rw [bne_eq_false_iff_eq]; exact h0
    have hI2 : topF D k = V := by rw [<- hI, topF, if_neg (by simpa using h0)]
    clear hI h0
    go_wp2
    go_round
    case rel =>
     cases k with
     | zero => exact .inr ⟨by go_num, hI2.symm⟩
     | succ k => exact .inl ⟨k, by omega, by go_num, hI2⟩
    case measure => simp [intOf]
   ·have e0 : (D k != 0) = true := by rw [bne_iff_ne]; exact h0
    have hI2 : (k : Int) = V := by rw [<- hI, topF, if_pos h0]
    subst hI2
    clear hI h0
    go_wp2
    go_ret; exact Still.mk' rfl
  ·go_wp2
   go_ret; exact Still.mk' rfl
end Go.Proofs.YtlpgigdegnbkmaaGreatDoor
namespace Tab
end Tab
namespace Go.Proofs.YtlpgigdegnbkmaaGreatDoor
open Go.RowKit Tab Tryz
end Go.Proofs.YtlpgigdegnbkmaaGreatDoor
namespace Tab
def updI (D : Nat -> Int) (i : Nat) (v : Int) : Nat -> Int := fun j => if j = i then v else D j
end Tab
namespace Go.Proofs.YtlpgigdegnbkmaaGreatDoor
open Go.RowKit Tab Tryz
theorem NumC.set {C : Array Value} {be mo : Bool} {D : Nat -> Int} (h : NumC C be D mo) (i : Nat) (hi : i < 96) (v : Int) : NumC (C.setIfInBounds (1 + i) (.int .i8 v)) be (updI D i v) mo := by
 refine ⟨by simp [h.size], ?_, fun k hk => ?_, ?_⟩
 ·rw [Array.getElem?_setIfInBounds_ne (by omega)]; exact h.below
 ·unfold updI
  by_cases e : k = i
  ·subst e; rw [if_pos rfl, Array.getElem?_setIfInBounds_self, if_pos (by rw [h.size]; omega)]
  ·rw [if_neg e, Array.getElem?_setIfInBounds_ne (by omega)]; exact h.digit k hk
 ·rw [Array.getElem?_setIfInBounds_ne (by omega)]; exact h.more
theorem NumC.congr {C : Array Value} {be mo : Bool} {D D' : Nat -> Int} (h : NumC C be D mo) (e : ∀ k, k < 96 -> D k = D' k) : NumC C be D' mo :=
 ⟨h.size, h.below, fun k hk => (e k hk) ▸ h.digit k hk, h.more⟩
def CutTo (b : Nat) (be : Bool) (D : Nat -> Int) (w : World) (e : Ending) (w' : World) : Prop := e = .returned (.tuple #[]) /\ Below b w w' /\ ∃ C, Blk w' b C /\ NumC C be D false
theorem CutTo.mk' {b : Nat} {be : Bool} {D : Nat -> Int} {w w' : World} (hb : Below b w w') (h : ∃ C, Blk w' b C /\ NumC C be D false) : CutTo b be D w (.returned (.tuple #[])) w' := ⟨rfl, hb, h⟩
end Go.Proofs.YtlpgigdegnbkmaaGreatDoor
namespace Tab
def stripF : Nat -> Int -> Int -> Int × Int
 | 0, M, E => (M, E)
 | f + 1, M, E => if M % 10 = 0 /\ E < 9 then stripF f (M / 10) (E + 1) else (M, E)
def Sml (n : Nat) (M : Int) : Prop := 0 <= M /\ M < 10 ^ (15 - n)
theorem Sml.step {n : Nat} {M d : Int} (h : Sml (n + 1) M) (hn : n < 15) (h0 : 0 <= d) (h9 : d <= 9) : Sml n (10 * M + d) := by
 obtain ⟨a, b⟩ := h
 refine ⟨by omega, ?_⟩
 rw [show 15 - n = (15 - (n + 1)) + 1 by omega, Int.pow_succ]
 omega
theorem Sml.le {n : Nat} {M : Int} (h : Sml n M) : 0 <= M /\ M < 1000000000000000 := by
 refine ⟨h.1, Int.lt_of_lt_of_le h.2 ?_⟩
 have : ((10 ^ (15 - n) : Nat) : Int) <= ((10 ^ 15 : Nat) : Int) := Int.ofNat_le.2 (Nat.pow_le_pow_right (by omega) (by omega))
 simpa using this
theorem Sml.any {n : Nat} {M : Int} (h : Sml n M) (m : Int) (h0 : 0 <= m) (h1 : m <= M) : Sml n m := ⟨h0, Int.lt_of_le_of_lt h1 h.2⟩
end Tab
namespace Go.Proofs.YtlpgigdegnbkmaaGreatDoor
open Go.RowKit Tab Tryz
structure ExK (w w' : World) (b : Nat) (C : Array Value) (M E : Int) : Prop where
 zb : b < w.heap.size
 kb : Blk w' b C
 kr : Blk w' w.heap.size #[.int .i64 0, .int .i64 0]
 ka : Blk w' (w.heap.size + 1) #[.int .i64 M, .int .i64 E]
 be : Below w.heap.size w w'
theorem ExK.below {w w' w2 : World} {b : Nat} {C : Array Value} {M E : Int} (h : ExK w w' b C M E) (h2 : Below w'.heap.size w' w2) : ExK w w2 b C M E :=
 ⟨h.zb, h.kb.below h2, h.kr.below h2, h.ka.below h2, after h.be h2⟩
end Go.Proofs.YtlpgigdegnbkmaaGreatDoor
namespace Tab
def ofF : Nat -> Nat -> Nat -> (Nat -> Int) -> (Nat -> Int)
 | 0, _, _, D => D
 | f + 1, n, k, D => if n = 0 then D else ofF f (n / 10) (k + 1) (updI D k ((n % 10 : Nat) : Int))
end Tab
namespace Go.Proofs.YtlpgigdegnbkmaaGreatDoor
open Go.RowKit Tab Tryz
def numL (be : Bool) (D : Nat -> Int) (mo : Bool) : List Value := .bool be :: ((List.range 96).map (fun k => .int .i8 (D k)) ++ [.bool mo])
def numA (be : Bool) (D : Nat -> Int) (mo : Bool) : Array Value := (numL be D mo).toArray
theorem numL_length (be : Bool) (D : Nat -> Int) (mo : Bool) : (numL be D mo).length = 98 := by simp [numL]
theorem numA_num (be : Bool) (D : Nat -> Int) (mo : Bool) : NumC (numA be D mo) be D mo := by
 refine ⟨by simp [numA, numL_length], rfl, fun k hk => ?_, ?_⟩
 ·simp only [numA, numL, List.getElem?_toArray, Nat.add_comm 1 k, List.getElem?_cons_succ]
  rw [List.getElem?_append_left (by simpa using hk)]
  simp [hk]
 ·simp only [numA, numL, List.getElem?_toArray]
  rw [show 97 = 96 + 1 by rfl, List.getElem?_cons_succ, List.getElem?_append_right (by simp)]
  simp
theorem NumC.eq {C : Array Value} {be mo : Bool} {D : Nat -> Int} (h : NumC C be D mo) : C = numA be D mo := by
 have h2 := numA_num be D mo
 apply Array.ext_getElem?
 intro i
 rcases Nat.lt_or_ge i 98 with hi | hi
 ·rcases i with _ | i
  ·rw [h.below, h2.below]
  ·by_cases e : i = 96
   ·subst e; rw [h.more, h2.more]
   ·rw [Nat.add_comm i 1, h.digit i (by omega), h2.digit i (by omega)]
 ·rw [Array.getElem?_eq_none (by rw [h.size]; exact hi), Array.getElem?_eq_none (by rw [h2.size]; exact hi)]
theorem numL_one (be : Bool) (D : Nat -> Int) (mo : Bool) : ∀ v ∈ numL be D mo, v.oneCell' = true := by
 intro v hv
 simp only [numL, List.mem_cons, List.mem_append, List.mem_map, List.not_mem_nil, or_false] at hv
 rcases hv with rfl | ⟨k, -, rfl⟩ | rfl <;> rfl
theorem store_blk {P : Program} (w : World) (b : Nat) (old : Array Value) (hb : Blk w b old) (vs : List Value) (hl : vs.length = old.size) (h1 : ∀ v ∈ vs, v.oneCell' = true) :
  (storeCells ⟨b, 0, none⟩ vs).run P w = .ok () (w.setRow b vs.toArray) := by
 obtain ⟨T, h⟩ := hb
 have := run_storeCells_from (P := P) b T vs 0 old w h (by omega) h1
 simpa using this
theorem Blk.setRow {w : World} {b : Nat} {C D : Array Value} (h : Blk w b C) : Blk (w.setRow b D) b D := by
 obtain ⟨T, h⟩ := h
 exact ⟨T, setRow_heap w b C D T (0, 0) h⟩
theorem Blk.otherRow {w : World} {b c : Nat} {C D : Array Value} (h : Blk w b C) (hc : c ≠ b) : Blk (w.setRow c D) b C := by
 obtain ⟨T, h⟩ := h
 exact ⟨T, (setRow_other w c b D (Ne.symm hc)).trans h⟩
theorem setRowB {N : Nat} {w W : World} {b : Nat} {D : Array Value} (h : Below N w W) (hb : N <= b) : Below N w (W.setRow b D) :=
 ⟨h.os, h.tape, h.output, by rw [setRow_size]; exact h.size, fun k hk => (setRow_other W b k D (by omega)).trans (h.block k hk)⟩
theorem infoNum : (prog.info? 159).map (·.size) = some 98 := by kernel_rfl
theorem numA_size (be : Bool) (D : Nat -> Int) (mo : Bool) : (numA be D mo).size = 98 := by simp [numA, numL_length]
theorem decAbs_any (n : Int) (hn : -9000000000000000000 <= n /\ n <= 9000000000000000000) (w : World) : Calls prog 104 #[.int .i64 n] w (Still (.int .u64 (n.natAbs : Int)) w) := by
 by_cases h : n < 0
 ·have e1 : decide (n < 0) = true := decide_eq_true h
  have e2 : IntKind.u64.wrap (-(IntKind.u64.wrap n)) = (n.natAbs : Int) := by
   rw [IntKind.wrap_u64, IntKind.wrap_u64]; omega
  go_enter func104, ntmps104
  go_wp2
  go_ret; exact Still.mk' (by simp)
 ·have e1 : decide (n < 0) = false := decide_eq_false h
  have e2 : IntKind.u64.wrap n = (n.natAbs : Int) := by
   rw [IntKind.wrap_u64]; omega
  go_enter func104, ntmps104
  go_wp2
  go_ret; exact Still.mk' (by simp)
theorem div64_any (n : Nat) (hn : n < 1000000000000000) (w : World) : Calls prog 187 #[.int .u64 0, .int .u64 (n : Int), .int .u64 10] w (Ret (.tuple #[.int .u64 ((n / 10 : Nat) : Int), .int .u64 ((n % 10 : Nat) : Int)]) w) := by
 go_enter func187, ntmps187
 go_upto_region 6 with (fail)
 refine region_below (by kernel_rfl) (by kernel_rfl) ?_
 repeat (quiet_step (fail))
 refine wpQuiet_nil ?_
 intro w2 hb2
 go_wp2
 go_ret2; exact Ret.mk2 (by simp; rw [IntKind.wrap_u64]; omega) rfl hb2
structure OfK (w w' : World) (be : Bool) (D : Nat -> Int) : Prop where
 kr : ∃ C, Blk w' w.heap.size C /\ C.size = 98
 ka : ∃ C, Blk w' (w.heap.size + 1) C /\ NumC C be D false
 be : Below w.heap.size w w'
theorem OfK.set {w w' : World} {be : Bool} {D : Nat -> Int} (h : OfK w w' be D) (i : Nat) (hi : i < 96) (v : Int) : OfK w (w'.setCell ⟨w.heap.size + 1, 1 + i, none⟩ (.int .i8 v)) be (updI D i v) := by
 obtain ⟨C, k1, k2⟩ := h.kr
 obtain ⟨C', k3, k4⟩ := h.ka
 exact ⟨⟨C, k1.other (by omega), k2⟩, ⟨_, k3.set, k4.set i hi v⟩, h.be.setCell (Nat.le_succ _) _⟩
theorem OfK.below {w w' w2 : World} {be : Bool} {D : Nat -> Int} (h : OfK w w' be D) (h2 : Below w'.heap.size w' w2) : OfK w w2 be D := by
 obtain ⟨C, k1, k2⟩ := h.kr
 obtain ⟨C', k3, k4⟩ := h.ka
 exact ⟨⟨C, k1.below h2, k2⟩, ⟨_, k3.below h2, k4⟩, after h.be h2⟩
theorem decOf_any (be : Bool) (n : Nat) (k : Nat) (hn : n < 1000000000000000) (hk : k <= 60) (w : World) :
  Calls prog 154 #[.bool be, .int .u64 0, .int .u64 n, .int .i64 ((k : Int) - 48)] w (Ret (.agg (numA be (ofF 15 n k fun _ => 0) false)) w) := by
 obtain ⟨V, hV⟩ : ∃ V, (ofF 15 n k fun _ => 0) = V := ⟨_, rfl⟩
 rw [hV]
 have hs0 : Tryz.zeroCells159.size = 98 := by kernel_rfl
 have hZ : numA be (fun _ => 0) false = Tryz.zeroCells159.setIfInBounds 0 (.bool be) := by kernel_rfl
 have hL : (Tryz.zeroCells159.toList.set 0 (.bool be)) = numL be (fun _ => 0) false := by kernel_rfl
 have hst : (storeCells ⟨w.heap.size + 1, 0, none⟩ (Tryz.zeroCells159.toList.set 0 (.bool be))).run prog ((w.alloc (Obj.cells Tryz.zeroCells159 159)).alloc (Obj.cells Tryz.zeroCells159 159)) = .ok () (((w.alloc (Obj.cells Tryz.zeroCells159 159)).alloc (Obj.cells Tryz.zeroCells159 159)).setRow (w.heap.size + 1) (numA be (fun _ => 0) false)) := by
  rw [hL]
  exact store_blk _ _ _ (Blk.new (by simp)) _ (by rw [numL_length, hs0]) (numL_one _ _ _)
 have hk0 : OfK w (((w.alloc (Obj.cells Tryz.zeroCells159 159)).alloc (Obj.cells Tryz.zeroCells159 159)).setRow (w.heap.size + 1) (numA be (fun _ => 0) false)) be (fun _ => 0) :=
  ⟨⟨_, ((Blk.new rfl).alloc).otherRow (by omega), hs0⟩, ⟨_, (Blk.new (by simp)).setRow, numA_num _ _ _⟩, setRowB (allocB (allocB (Below.refl _ _))) (Nat.le_succ _)⟩
 generalize hW : ((w.alloc (Obj.cells Tryz.zeroCells159 159)).alloc (Obj.cells Tryz.zeroCells159 159)).setRow (w.heap.size + 1) (numA be (fun _ => 0) false) = W1 at *
 have HK := Lib.hid hk0
 have HV := Lib.hid hV
 have HN := Lib.hid hn
 clear hk0 hW hZ hL hs0 hV hn
 go_enter func154, ntmps154
 go_wp2_with (simp only [hst])
 clear hst
 go_loopw [10, 2, 1] (fun i l h w' => ∃ (f m j : Nat) (D : Nat -> Int), i = .int .i64 j /\ l = .int .u64 m /\ h = .int .u64 0 /\ j + f <= 75 /\ Hid (ofF f m j D = V /\ m < 10 ^ f /\ m < 1000000000000000) /\ Hid (OfK w w' be D)) (fun _ l _ _ => (intOf l).toNat)
 case atStart => exact ⟨15, n, k, _, by rw [show (48 : Int) + ((k : Int) - 48) = k by omega], rfl, rfl, by omega, Lib.hid ⟨HV.out, by have := HN.out; simpa using this, HN.out⟩, HK⟩
 case round =>
  clear HK HV HN
  obtain ⟨f, m, j, D, rfl, rfl, rfl, hj, HV, HK⟩ := hrel
  by_cases h0 : m = 0
  ·subst h0
   have hv : D = V := by
    have := HV.out.1
    cases f with
    | zero => exact this
    | succ f => rw [ofF, if_pos rfl] at this; exact this
   subst hv
   obtain ⟨C, k1, s1⟩ := HK.out.kr
   obtain ⟨C2, k2, n2⟩ := HK.out.ka
   have hC2 := n2.eq
   subst hC2
   have hld := k2
   obtain ⟨T2, hT2⟩ := k2
   obtain ⟨T1, hT1⟩ := k1
   have K1 := Lib.hid hT1
   have K2 := Lib.hid hT2
   have S1 := Lib.hid s1
   clear hT1 hT2 s1 n2 hld
   have HR : Hid (Blk (wr.setRow w.heap.size (numA be D false)) w.heap.size (numA be D false) /\ Below w.heap.size w (wr.setRow w.heap.size (numA be D false))) := Lib.hid ⟨Blk.setRow ⟨_, K1.out⟩, setRowB HK.out.be (Nat.le_refl _)⟩
   have HS : Hid ((storeCells ⟨w.heap.size, 0, none⟩ (numA be D false).toList).run prog wr = .ok () (wr.setRow w.heap.size (numA be D false))) := Lib.hid (by
    have := store_blk (P := prog) wr w.heap.size C ⟨T1, K1.out⟩ (numL be D false) (by rw [numL_length, S1.out]) (numL_one _ _ _)
    simpa [numA] using this)
   have hsz := numA_size be D false
   go_wp2_with fail
   refine wp_load_row 159 _ rfl (w.heap.size + 1) rfl T2 (numA be D false) (0, 0) _ K2.out underlying159 rfl (by rw [hsz]; exact infoNum) ?_
   go_wp2_with (simp only [HS.out])
   obtain ⟨⟨T3, hT3⟩, hb3⟩ := HR.out
   exact bodyPost_ret (results_cell_row rfl _ _ w.heap.size T3 (numA be D false) (0, 0) _ rfl hT3 underlying159 rfl (by rw [hsz]; exact infoNum)) rfl ⟨rfl, hb3⟩
  ·have e2 : ((m : Int) != 0) = true := by rw [bne_iff_ne]; omega
   have cD := fun W => div64_any m HV.out.2.2 W
   obtain ⟨f, rfl⟩ : ∃ g, f = g + 1 := by
    cases f with
    | zero => have := HV.out.2.1; simp at this; omega
    | succ f => exact ⟨f, rfl⟩
   have hV2 : ofF f (m / 10) (j + 1) (updI D j ((m % 10 : Nat) : Int)) = V /\ m / 10 < 10 ^ f /\ m / 10 < 1000000000000000 := by
    obtain ⟨a, b, c⟩ := HV.out
    rw [ofF, if_neg h0] at a
    exact ⟨a, by rw [Nat.pow_succ] at b; omega, by omega⟩
   have HV2 := Lib.hid hV2
   clear hV2 HV
   have ew : IntKind.i8.wrap ((m % 10 : Nat) : Int) = ((m % 10 : Nat) : Int) := IntWalk.i8_in _ (by omega)
   have i1 : (j : Int) < 96 := by omega
   go_wp2_with (go_at_call 187; refine (cD _).mono ?_; rintro e w1 ⟨rfl, hb1⟩; have HK1 := Lib.hid (HK.out.below hb1); obtain ⟨C2, k2, n2⟩ := HK1.out.ka; have hd := (k2.facts.1 (1 + j)).trans (n2.digit j (by omega)); obtain ⟨-, g2, z2⟩ := k2.facts; clear k2 n2)
   go_round
   case rel => exact ⟨f, m / 10, j + 1, _, by go_num, by simp, rfl, by omega, HV2, Lib.hid (HK1.out.set j (by omega) _)⟩
   case measure => simp [intOf]; omega
end Go.Proofs.YtlpgigdegnbkmaaGreatDoor
